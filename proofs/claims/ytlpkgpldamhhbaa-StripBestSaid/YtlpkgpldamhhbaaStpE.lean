/-
  Layer 37: contracts of the functions that build a tree.
-/
import Derived.Test.YtlpkgpldamhhbaaStpD
namespace Go.Vm
set_option maxRecDepth 20000
set_option linter.unusedVariables false
set_option linter.unusedSimpArgs false
open Go Go.RowKit Go.Proofs
namespace St

structure Nd where
  v : Bool
  a : Int
  f : Int
  s : Int
  k : Int
  deriving DecidableEq
abbrev ndL (n : Nd) : List SV := [.v (.bool n.v), i64 n.a, i64 n.f, i64 n.s, i64 n.k]
abbrev nd0 : Nd := ⟨false, 0, 0, 0, 0⟩
abbrev ndS (l : List Nd) : SV := .sl l.length 5 (lG ndL nd0 l)
abbrev ndget (l : List Nd) (i : Nat) : Nd := l.getD i nd0
abbrev leafN (k : Int) : Nd := ⟨false, 0, -1, -1, k⟩
def cutT (v : Bool) (at' : Int) (A B : Nat → List Nd) (base : Nat) : List Nd :=
  ⟨v, at', (base + 1 : Nat), (base + 1 + (A (base + 1)).length : Nat), -1⟩ :: (A (base + 1) ++ B (base + 1 + (A (base + 1)).length))
abbrev ccL (c : List Int) : List SV := [iS c]
abbrev ccS (l : List (List Int)) : SV := .sl l.length 1 (lG ccL [] l)
abbrev mkM (ks : List Knd) (kerf : Int) (g : Nat) (L : List Nd) : List Mem := [.obj [.hdl (.n 2001) g, .s (kS ks), .s (i64 kerf)], .bld g L.length 5 98 (lG ndL nd0 L)]
theorem set_mid (L : List Nd) (n n' : Nd) (A : List Nd) : (L ++ n :: A).set L.length n' = L ++ n' :: A := by simp
theorem get_mid (L : List Nd) (n : Nd) (A : List Nd) : (L ++ n :: A).getD L.length nd0 = n := by rw [getD_app_r _ _ _ _ (Nat.le_refl _), Nat.sub_self]; rfl
theorem mfitN' {m : Id → Mem} {os : List Id} {d : Id} {g n n' k : Nat} {e : TypeId} {get get' : Nat → Nat → SV} (hn : n = n') (h : ∀ i, i < n → ∀ j, j < k → SLe (get i j) (get' i j)) : MFit m os d (.bld g n k e get) (.bld 1 n' k e get') := by
  subst hn; exact .bld h
variable (ks : List Knd) (kerf : Int)
theorem add_detM (L : List Nd) (n : Nd) (hL : L.length ≤ 100000000) : DetM Try.prog 104 [.ptr (.n 2000) 0, .d (.agg (ndL n))] (mkM ks kerf 1 L) (tint L.length) (mkM ks kerf 3 (L ++ [n])) .none := by
  refine detM_of_awp TTok mixed Try.func104 rfl rfl [] (Nat.le_of_ble_eq_true rfl) (Nat.le_of_ble_eq_true rfl) (sigM_of rfl) ?_
  refine Need.mk (needApp (n := L.length + 1) (by omega) (by decide)) ?_
  refine Need.mk (by kernel_rfl) ?_
  have e : IntKind.i64.wrap (((L.length + 1 : Nat) : Int) - 1) = L.length := by rw [hw _ (by omega) (by omega)]; omega
  refine EndM.mk ⟨.n 0, .one (.d (DLe.of_eq (by rw [e]))), .cons (.obj (.cons (.hdl rfl rfl rfl) (.cons (.s (SLe.refl _)) (.cons (.s (SLe.refl _)) .nil)))) (.cons (.bldN (by simp only [List.length_append, List.length_singleton]) (fun h => absurd h (by decide)) (fun i hi j hj => lG_snoc ndL nd0 L n 5 L.length i j _ rfl rfl hi hj)) (.nil _)), .inl rfl⟩
theorem leaf_detM (L : List Nd) (k : Int) (hL : L.length ≤ 100000000) : DetM Try.prog 100 [.ptr (.n 2000) 0, tint k] (mkM ks kerf 1 L) (tint L.length) (mkM ks kerf 3 (L ++ [leafN k])) .none := by
  refine detM_of_awp TTok mixed Try.func100 rfl rfl [104 + 2000000] (Nat.le_of_ble_eq_true rfl) (Nat.le_of_ble_eq_true rfl) (sigM_of rfl) ?_
  refine CallM.mk' [2000, 2001] (add_detM ks kerf L (leafN k) hL) ⟨.cons (.obj (.cons (.hdl rfl rfl) (.cons (.s (SLe.refl _)) (.cons (.s (SLe.refl _)) .nil)))) (.cons (.bld (fun _ _ _ _ => SLe.refl _)) .nil), .cons (.ptr rfl) (.cons (.d (DLe.refl _)) .nil), rfl, rfl, fun h => absurd rfl h⟩ ?_
  refine EndM.mk ⟨.n 0, .one (.d (DLe.refl _)), .cons (.obj (.cons (.hdl rfl rfl rfl) (.cons (.s (SLe.refl _)) (.cons (.s (SLe.refl _)) .nil)))) (.cons (.bldN rfl (fun h => absurd h (by decide)) (fun i hi j hj => SLe.refl _)) (.nil _)), .inl rfl⟩
theorem waste_detM (L : List Nd) (hL : L.length ≤ 100000000) : DetM Try.prog 79 [.ptr (.n 2000) 0] (mkM ks kerf 1 L) (.tup []) (mkM ks kerf 3 (L ++ [leafN (-1)])) .none := by
  refine detM_of_awp TTok mixed Try.func79 rfl rfl [100 + 2000000] (Nat.le_of_ble_eq_true rfl) (Nat.le_of_ble_eq_true rfl) (sigM_of rfl) ?_
  refine CallM.mk' [2000, 2001] (leaf_detM ks kerf L (-1) hL) ⟨.cons (.obj (.cons (.hdl rfl rfl) (.cons (.s (SLe.refl _)) (.cons (.s (SLe.refl _)) .nil)))) (.cons (.bld (fun _ _ _ _ => SLe.refl _)) .nil), .cons (.ptr rfl) (.cons (.d (DLe.refl _)) .nil), rfl, rfl, fun h => absurd rfl h⟩ ?_
  refine EndM.mk ⟨.n 0, .none, .cons (.obj (.cons (.hdl rfl rfl rfl) (.cons (.s (SLe.refl _)) (.cons (.s (SLe.refl _)) .nil)))) (.cons (.bldN rfl (fun h => absurd h (by decide)) (fun i hi j hj => SLe.refl _)) (.nil _)), .inl rfl⟩

/-- cut, as it is called by Col. -/
theorem cutCol_detM (kind : Int) (v : Bool) (at' : Int) (A B : Nat → List Nd)
    (H1 : ∀ L : List Nd, L.length + (A L.length).length ≤ 100000000 → DetM Try.prog 113 [.ptr (.n 2002) 0, .ptr (.n 2003) 0] (mkM ks kerf 1 L ++ [.obj [.ptr (.n 2000) 0], .box [i64 kind]]) (.tup []) (mkM ks kerf 3 (L ++ A L.length) ++ [.obj [.ptr (.n 2000) 0], .box [i64 kind]]) .none)
    (H2 : ∀ L : List Nd, L.length + (B L.length).length ≤ 100000000 → DetM Try.prog 79 [.ptr (.n 2000) 0] (mkM ks kerf 1 L) (.tup []) (mkM ks kerf 3 (L ++ B L.length)) .none)
    (L : List Nd) (hL : L.length + (cutT v at' A B L.length).length ≤ 100000000) :
    DetM Try.prog 81 [.ptr (.n 2000) 0, tbool v, tint at', .clo 113 [.ptr (.n 2002) 0, .ptr (.n 2003) 0], .clo (79 + 10000000) [.ptr (.n 2000) 0]] (mkM ks kerf 1 L ++ [.obj [.ptr (.n 2000) 0], .box [i64 kind]]) (.tup []) (mkM ks kerf 3 (L ++ cutT v at' A B L.length) ++ [.obj [.ptr (.n 2000) 0], .box [i64 kind]]) .none := by
  refine detM_of_awp TTok mixed Try.func81 rfl rfl [104 + 2000000, 113 + 2000000] (Nat.le_of_ble_eq_true rfl) (Nat.le_of_ble_eq_true rfl) (sigM_of rfl) ?_
  have hcl : (cutT v at' A B L.length).length = 1 + ((A (L.length + 1)).length + (B (L.length + 1 + (A (L.length + 1)).length)).length) := by rw [cutT, List.length_cons, List.length_append]; omega
  refine CallM.mk' [2000, 2001] (add_detM ks kerf L ⟨v, at', 0, 0, -1⟩ (by omega)) ⟨.cons (.obj (.cons (.hdl rfl rfl) (.cons (.s (SLe.refl _)) (.cons (.s (SLe.refl _)) .nil)))) (.cons (.bld (fun _ _ _ _ => SLe.refl _)) (.nil)), .cons (.ptr rfl) (.cons (.d (DLe.refl _)) .nil), rfl, rfl, fun h => absurd rfl h⟩ ?_
  refine Need.mk (by rw [List.length_append, List.length_singleton]; omega) ?_
  refine Need.mk (by kernel_rfl) ?_
  have e1 : (L ++ [⟨v, at', 0, 0, -1⟩] : List Nd).length = L.length + 1 := by simp
  have H1' := H1 (L ++ [⟨v, at', (L.length + 1 : Nat), 0, -1⟩]) (by simp only [List.length_append, List.length_singleton]; omega)
  simp only [List.length_append, List.length_singleton, List.append_assoc, List.singleton_append] at H1'
  refine CallM.mk' [2000, 2001, 2002, 2003] H1' ⟨.cons (.obj (.cons (.hdl rfl rfl) (.cons (.s (SLe.refl _)) (.cons (.s (SLe.refl _)) .nil)))) (.cons (mfitN' (by simp only [List.length_append, List.length_singleton]) (fun i hi j hj => ?_)) (.cons (.obj (.cons (.ptr rfl) .nil)) (.cons (.box (LLe.refl _)) (.nil)))), .cons (.ptr rfl) (.cons (.ptr rfl) (.nil)), rfl, rfl, fun h => absurd rfl h⟩ ?_
  · have hle := lG_cell ndL nd0 (L ++ [⟨v, at', 0, 0, -1⟩]) ⟨v, at', (L.length + 1 : Nat), 0, -1⟩ L.length i j 2 5 (i64 (L ++ [⟨v, at', 0, 0, -1⟩] : List Nd).length) (by rw [e1] at hi; rw [e1]; exact hi) hj (by rw [e1]; rfl) (fun j hj hne => by
      rw [get_mid]
      match j, hj, hne with
      | 0, _, _ => rfl
      | 1, _, _ => rfl
      | 3, _, _ => rfl
      | 4, _, _ => rfl)
    rw [set_mid] at hle
    exact hle
  generalize hA : A (L.length + 1) = a at *
  refine Need.mk (by simp only [List.length_append, List.length_cons]; omega) ?_
  refine Need.mk (by kernel_rfl) ?_
  have e2 : (L ++ ⟨v, at', (L.length + 1 : Nat), 0, -1⟩ :: a : List Nd).length = L.length + 1 + a.length := by simp only [List.length_append, List.length_cons]; omega
  have H2' := H2 (L ++ ⟨v, at', (L.length + 1 : Nat), (L.length + 1 + a.length : Nat), -1⟩ :: a) (by rw [show (L ++ ⟨v, at', (L.length + 1 : Nat), (L.length + 1 + a.length : Nat), -1⟩ :: a : List Nd).length = L.length + 1 + a.length by simp only [List.length_append, List.length_cons]; omega]; omega)
  rw [show (L ++ ⟨v, at', (L.length + 1 : Nat), (L.length + 1 + a.length : Nat), -1⟩ :: a : List Nd).length = L.length + 1 + a.length by simp only [List.length_append, List.length_cons]; omega] at H2'
  refine ⟨79, rfl, CallM.mk' [2000, 2001] H2' ⟨.cons (.obj (.cons (.hdl rfl rfl) (.cons (.s (SLe.refl _)) (.cons (.s (SLe.refl _)) .nil)))) (.cons (mfitN' (by simp only [List.length_append, List.length_cons]) (fun i hi j hj => ?_)) (.nil)), .cons (.ptr rfl) (.nil), rfl, rfl, fun h => absurd rfl h⟩ ?_⟩
  · have hle := lG_cell ndL nd0 (L ++ ⟨v, at', (L.length + 1 : Nat), 0, -1⟩ :: a) ⟨v, at', (L.length + 1 : Nat), (L.length + 1 + a.length : Nat), -1⟩ L.length i j 3 5 (i64 (L ++ ⟨v, at', (L.length + 1 : Nat), 0, -1⟩ :: a : List Nd).length) hi hj (by rw [e2]; rfl) (fun j hj hne => by
      rw [get_mid]
      match j, hj, hne with
      | 0, _, _ => rfl
      | 1, _, _ => rfl
      | 2, _, _ => rfl
      | 4, _, _ => rfl)
    rw [set_mid] at hle
    exact hle
  have eC : L ++ ⟨v, at', (L.length + 1 : Nat), (L.length + 1 + a.length : Nat), -1⟩ :: a ++ B (L.length + 1 + a.length) = L ++ cutT v at' A B L.length := by rw [cutT, hA, List.append_assoc]; rfl
  rw [eC]
  refine EndM.mk ⟨.n 0, .none, .cons (.obj (.cons (.hdl rfl rfl rfl) (.cons (.s (SLe.refl _)) (.cons (.s (SLe.refl _)) .nil)))) (.cons (.bldN rfl (fun h => absurd h (by decide)) (fun i hi j hj => SLe.refl _)) (.cons (.obj (.cons (.ptr rfl) .nil)) (.cons (.box (LLe.refl _)) (.nil _)))), .inl rfl⟩

/-- cut, as it is called by Strip. -/
theorem cutStrip_detM (cols : List Int) (w k h : Int) (v : Bool) (at' : Int) (A B : Nat → List Nd)
    (H1 : ∀ L : List Nd, L.length + (A L.length).length ≤ 100000000 → DetM Try.prog 102 [.ptr (.n 2002) 0, .ptr (.n 2005) 0, .ptr (.n 2006) 0] (mkM ks kerf 1 L ++ [.obj [.ptr (.n 2000) 0], .box [iS cols], .box [i64 w], .box [i64 k], .box [i64 h]]) (.tup []) (mkM ks kerf 3 (L ++ A L.length) ++ [.obj [.ptr (.n 2000) 0], .box [iS cols], .box [i64 w], .box [i64 k], .box [i64 h]]) .none)
    (H2 : ∀ L : List Nd, L.length + (B L.length).length ≤ 100000000 → DetM Try.prog 103 [.ptr (.n 2002) 0, .ptr (.n 2003) 0, .ptr (.n 2004) 0, .ptr (.n 2005) 0, .ptr (.n 2006) 0] (mkM ks kerf 1 L ++ [.obj [.ptr (.n 2000) 0], .box [iS cols], .box [i64 w], .box [i64 k], .box [i64 h]]) (.tup []) (mkM ks kerf 3 (L ++ B L.length) ++ [.obj [.ptr (.n 2000) 0], .box [iS cols], .box [i64 w], .box [i64 k], .box [i64 h]]) .none)
    (L : List Nd) (hL : L.length + (cutT v at' A B L.length).length ≤ 100000000) :
    DetM Try.prog 81 [.ptr (.n 2000) 0, tbool v, tint at', .clo 102 [.ptr (.n 2002) 0, .ptr (.n 2005) 0, .ptr (.n 2006) 0], .clo 103 [.ptr (.n 2002) 0, .ptr (.n 2003) 0, .ptr (.n 2004) 0, .ptr (.n 2005) 0, .ptr (.n 2006) 0]] (mkM ks kerf 1 L ++ [.obj [.ptr (.n 2000) 0], .box [iS cols], .box [i64 w], .box [i64 k], .box [i64 h]]) (.tup []) (mkM ks kerf 3 (L ++ cutT v at' A B L.length) ++ [.obj [.ptr (.n 2000) 0], .box [iS cols], .box [i64 w], .box [i64 k], .box [i64 h]]) .none := by
  refine detM_of_awp TTok mixed Try.func81 rfl rfl [104 + 2000000, 102 + 2000000, 103 + 2000000] (Nat.le_of_ble_eq_true rfl) (Nat.le_of_ble_eq_true rfl) (sigM_of rfl) ?_
  have hcl : (cutT v at' A B L.length).length = 1 + ((A (L.length + 1)).length + (B (L.length + 1 + (A (L.length + 1)).length)).length) := by rw [cutT, List.length_cons, List.length_append]; omega
  refine CallM.mk' [2000, 2001] (add_detM ks kerf L ⟨v, at', 0, 0, -1⟩ (by omega)) ⟨.cons (.obj (.cons (.hdl rfl rfl) (.cons (.s (SLe.refl _)) (.cons (.s (SLe.refl _)) .nil)))) (.cons (.bld (fun _ _ _ _ => SLe.refl _)) (.nil)), .cons (.ptr rfl) (.cons (.d (DLe.refl _)) .nil), rfl, rfl, fun h => absurd rfl h⟩ ?_
  refine Need.mk (by rw [List.length_append, List.length_singleton]; omega) ?_
  refine Need.mk (by kernel_rfl) ?_
  have e1 : (L ++ [⟨v, at', 0, 0, -1⟩] : List Nd).length = L.length + 1 := by simp
  have H1' := H1 (L ++ [⟨v, at', (L.length + 1 : Nat), 0, -1⟩]) (by simp only [List.length_append, List.length_singleton]; omega)
  simp only [List.length_append, List.length_singleton, List.append_assoc, List.singleton_append] at H1'
  refine CallM.mk' [2000, 2001, 2002, 2003, 2004, 2005, 2006] H1' ⟨.cons (.obj (.cons (.hdl rfl rfl) (.cons (.s (SLe.refl _)) (.cons (.s (SLe.refl _)) .nil)))) (.cons (mfitN' (by simp only [List.length_append, List.length_singleton]) (fun i hi j hj => ?_)) (.cons (.obj (.cons (.ptr rfl) .nil)) (.cons (.box (LLe.refl _)) (.cons (.box (LLe.refl _)) (.cons (.box (LLe.refl _)) (.cons (.box (LLe.refl _)) (.nil))))))), .cons (.ptr rfl) (.cons (.ptr rfl) (.cons (.ptr rfl) (.nil))), rfl, rfl, fun h => absurd rfl h⟩ ?_
  · have hle := lG_cell ndL nd0 (L ++ [⟨v, at', 0, 0, -1⟩]) ⟨v, at', (L.length + 1 : Nat), 0, -1⟩ L.length i j 2 5 (i64 (L ++ [⟨v, at', 0, 0, -1⟩] : List Nd).length) (by rw [e1] at hi; rw [e1]; exact hi) hj (by rw [e1]; rfl) (fun j hj hne => by
      rw [get_mid]
      match j, hj, hne with
      | 0, _, _ => rfl
      | 1, _, _ => rfl
      | 3, _, _ => rfl
      | 4, _, _ => rfl)
    rw [set_mid] at hle
    exact hle
  generalize hA : A (L.length + 1) = a at *
  refine Need.mk (by simp only [List.length_append, List.length_cons]; omega) ?_
  refine Need.mk (by kernel_rfl) ?_
  have e2 : (L ++ ⟨v, at', (L.length + 1 : Nat), 0, -1⟩ :: a : List Nd).length = L.length + 1 + a.length := by simp only [List.length_append, List.length_cons]; omega
  have H2' := H2 (L ++ ⟨v, at', (L.length + 1 : Nat), (L.length + 1 + a.length : Nat), -1⟩ :: a) (by rw [show (L ++ ⟨v, at', (L.length + 1 : Nat), (L.length + 1 + a.length : Nat), -1⟩ :: a : List Nd).length = L.length + 1 + a.length by simp only [List.length_append, List.length_cons]; omega]; omega)
  rw [show (L ++ ⟨v, at', (L.length + 1 : Nat), (L.length + 1 + a.length : Nat), -1⟩ :: a : List Nd).length = L.length + 1 + a.length by simp only [List.length_append, List.length_cons]; omega] at H2'
  refine CallM.mk' [2000, 2001, 2002, 2003, 2004, 2005, 2006] H2' ⟨.cons (.obj (.cons (.hdl rfl rfl) (.cons (.s (SLe.refl _)) (.cons (.s (SLe.refl _)) .nil)))) (.cons (mfitN' (by simp only [List.length_append, List.length_cons]) (fun i hi j hj => ?_)) (.cons (.obj (.cons (.ptr rfl) .nil)) (.cons (.box (LLe.refl _)) (.cons (.box (LLe.refl _)) (.cons (.box (LLe.refl _)) (.cons (.box (LLe.refl _)) (.nil))))))), .cons (.ptr rfl) (.cons (.ptr rfl) (.cons (.ptr rfl) (.cons (.ptr rfl) (.cons (.ptr rfl) (.nil))))), rfl, rfl, fun h => absurd rfl h⟩ ?_
  · have hle := lG_cell ndL nd0 (L ++ ⟨v, at', (L.length + 1 : Nat), 0, -1⟩ :: a) ⟨v, at', (L.length + 1 : Nat), (L.length + 1 + a.length : Nat), -1⟩ L.length i j 3 5 (i64 (L ++ ⟨v, at', (L.length + 1 : Nat), 0, -1⟩ :: a : List Nd).length) hi hj (by rw [e2]; rfl) (fun j hj hne => by
      rw [get_mid]
      match j, hj, hne with
      | 0, _, _ => rfl
      | 1, _, _ => rfl
      | 2, _, _ => rfl
      | 4, _, _ => rfl)
    rw [set_mid] at hle
    exact hle
  have eC : L ++ ⟨v, at', (L.length + 1 : Nat), (L.length + 1 + a.length : Nat), -1⟩ :: a ++ B (L.length + 1 + a.length) = L ++ cutT v at' A B L.length := by rw [cutT, hA, List.append_assoc]; rfl
  rw [eC]
  refine EndM.mk ⟨.n 0, .none, .cons (.obj (.cons (.hdl rfl rfl rfl) (.cons (.s (SLe.refl _)) (.cons (.s (SLe.refl _)) .nil)))) (.cons (.bldN rfl (fun h => absurd h (by decide)) (fun i hi j hj => SLe.refl _)) (.cons (.obj (.cons (.ptr rfl) .nil)) (.cons (.box (LLe.refl _)) (.cons (.box (LLe.refl _)) (.cons (.box (LLe.refl _)) (.cons (.box (LLe.refl _)) (.nil _))))))), .inl rfl⟩

/-- cut, as it is called by Sheet. -/
theorem cutSheet_detM (hs : List Int) (css : List (List Int)) (w h : Int) (v : Bool) (at' : Int) (A B : Nat → List Nd)
    (H1 : ∀ L : List Nd, L.length + (A L.length).length ≤ 100000000 → DetM Try.prog 82 [.ptr (.n 2002) 0, .ptr (.n 2004) 0, .ptr (.n 2005) 0, .ptr (.n 2003) 0] (mkM ks kerf 1 L ++ [.obj [.ptr (.n 2000) 0], .box [iS hs], .box [ccS css], .box [i64 w], .box [i64 h]]) (.tup []) (mkM ks kerf 3 (L ++ A L.length) ++ [.obj [.ptr (.n 2000) 0], .box [iS hs], .box [ccS css], .box [i64 w], .box [i64 h]]) .none)
    (H2 : ∀ L : List Nd, L.length + (B L.length).length ≤ 100000000 → DetM Try.prog 83 [.ptr (.n 2002) 0, .ptr (.n 2003) 0, .ptr (.n 2004) 0, .ptr (.n 2005) 0, .ptr (.n 2006) 0] (mkM ks kerf 1 L ++ [.obj [.ptr (.n 2000) 0], .box [iS hs], .box [ccS css], .box [i64 w], .box [i64 h]]) (.tup []) (mkM ks kerf 3 (L ++ B L.length) ++ [.obj [.ptr (.n 2000) 0], .box [iS hs], .box [ccS css], .box [i64 w], .box [i64 h]]) .none)
    (L : List Nd) (hL : L.length + (cutT v at' A B L.length).length ≤ 100000000) :
    DetM Try.prog 81 [.ptr (.n 2000) 0, tbool v, tint at', .clo 82 [.ptr (.n 2002) 0, .ptr (.n 2004) 0, .ptr (.n 2005) 0, .ptr (.n 2003) 0], .clo 83 [.ptr (.n 2002) 0, .ptr (.n 2003) 0, .ptr (.n 2004) 0, .ptr (.n 2005) 0, .ptr (.n 2006) 0]] (mkM ks kerf 1 L ++ [.obj [.ptr (.n 2000) 0], .box [iS hs], .box [ccS css], .box [i64 w], .box [i64 h]]) (.tup []) (mkM ks kerf 3 (L ++ cutT v at' A B L.length) ++ [.obj [.ptr (.n 2000) 0], .box [iS hs], .box [ccS css], .box [i64 w], .box [i64 h]]) .none := by
  refine detM_of_awp TTok mixed Try.func81 rfl rfl [104 + 2000000, 82 + 2000000, 83 + 2000000] (Nat.le_of_ble_eq_true rfl) (Nat.le_of_ble_eq_true rfl) (sigM_of rfl) ?_
  have hcl : (cutT v at' A B L.length).length = 1 + ((A (L.length + 1)).length + (B (L.length + 1 + (A (L.length + 1)).length)).length) := by rw [cutT, List.length_cons, List.length_append]; omega
  refine CallM.mk' [2000, 2001] (add_detM ks kerf L ⟨v, at', 0, 0, -1⟩ (by omega)) ⟨.cons (.obj (.cons (.hdl rfl rfl) (.cons (.s (SLe.refl _)) (.cons (.s (SLe.refl _)) .nil)))) (.cons (.bld (fun _ _ _ _ => SLe.refl _)) (.nil)), .cons (.ptr rfl) (.cons (.d (DLe.refl _)) .nil), rfl, rfl, fun h => absurd rfl h⟩ ?_
  refine Need.mk (by rw [List.length_append, List.length_singleton]; omega) ?_
  refine Need.mk (by kernel_rfl) ?_
  have e1 : (L ++ [⟨v, at', 0, 0, -1⟩] : List Nd).length = L.length + 1 := by simp
  have H1' := H1 (L ++ [⟨v, at', (L.length + 1 : Nat), 0, -1⟩]) (by simp only [List.length_append, List.length_singleton]; omega)
  simp only [List.length_append, List.length_singleton, List.append_assoc, List.singleton_append] at H1'
  refine CallM.mk' [2000, 2001, 2002, 2003, 2004, 2005, 2006] H1' ⟨.cons (.obj (.cons (.hdl rfl rfl) (.cons (.s (SLe.refl _)) (.cons (.s (SLe.refl _)) .nil)))) (.cons (mfitN' (by simp only [List.length_append, List.length_singleton]) (fun i hi j hj => ?_)) (.cons (.obj (.cons (.ptr rfl) .nil)) (.cons (.box (LLe.refl _)) (.cons (.box (LLe.refl _)) (.cons (.box (LLe.refl _)) (.cons (.box (LLe.refl _)) (.nil))))))), .cons (.ptr rfl) (.cons (.ptr rfl) (.cons (.ptr rfl) (.cons (.ptr rfl) (.nil)))), rfl, rfl, fun h => absurd rfl h⟩ ?_
  · have hle := lG_cell ndL nd0 (L ++ [⟨v, at', 0, 0, -1⟩]) ⟨v, at', (L.length + 1 : Nat), 0, -1⟩ L.length i j 2 5 (i64 (L ++ [⟨v, at', 0, 0, -1⟩] : List Nd).length) (by rw [e1] at hi; rw [e1]; exact hi) hj (by rw [e1]; rfl) (fun j hj hne => by
      rw [get_mid]
      match j, hj, hne with
      | 0, _, _ => rfl
      | 1, _, _ => rfl
      | 3, _, _ => rfl
      | 4, _, _ => rfl)
    rw [set_mid] at hle
    exact hle
  generalize hA : A (L.length + 1) = a at *
  refine Need.mk (by simp only [List.length_append, List.length_cons]; omega) ?_
  refine Need.mk (by kernel_rfl) ?_
  have e2 : (L ++ ⟨v, at', (L.length + 1 : Nat), 0, -1⟩ :: a : List Nd).length = L.length + 1 + a.length := by simp only [List.length_append, List.length_cons]; omega
  have H2' := H2 (L ++ ⟨v, at', (L.length + 1 : Nat), (L.length + 1 + a.length : Nat), -1⟩ :: a) (by rw [show (L ++ ⟨v, at', (L.length + 1 : Nat), (L.length + 1 + a.length : Nat), -1⟩ :: a : List Nd).length = L.length + 1 + a.length by simp only [List.length_append, List.length_cons]; omega]; omega)
  rw [show (L ++ ⟨v, at', (L.length + 1 : Nat), (L.length + 1 + a.length : Nat), -1⟩ :: a : List Nd).length = L.length + 1 + a.length by simp only [List.length_append, List.length_cons]; omega] at H2'
  refine CallM.mk' [2000, 2001, 2002, 2003, 2004, 2005, 2006] H2' ⟨.cons (.obj (.cons (.hdl rfl rfl) (.cons (.s (SLe.refl _)) (.cons (.s (SLe.refl _)) .nil)))) (.cons (mfitN' (by simp only [List.length_append, List.length_cons]) (fun i hi j hj => ?_)) (.cons (.obj (.cons (.ptr rfl) .nil)) (.cons (.box (LLe.refl _)) (.cons (.box (LLe.refl _)) (.cons (.box (LLe.refl _)) (.cons (.box (LLe.refl _)) (.nil))))))), .cons (.ptr rfl) (.cons (.ptr rfl) (.cons (.ptr rfl) (.cons (.ptr rfl) (.cons (.ptr rfl) (.nil))))), rfl, rfl, fun h => absurd rfl h⟩ ?_
  · have hle := lG_cell ndL nd0 (L ++ ⟨v, at', (L.length + 1 : Nat), 0, -1⟩ :: a) ⟨v, at', (L.length + 1 : Nat), (L.length + 1 + a.length : Nat), -1⟩ L.length i j 3 5 (i64 (L ++ ⟨v, at', (L.length + 1 : Nat), 0, -1⟩ :: a : List Nd).length) hi hj (by rw [e2]; rfl) (fun j hj hne => by
      rw [get_mid]
      match j, hj, hne with
      | 0, _, _ => rfl
      | 1, _, _ => rfl
      | 2, _, _ => rfl
      | 4, _, _ => rfl)
    rw [set_mid] at hle
    exact hle
  have eC : L ++ ⟨v, at', (L.length + 1 : Nat), (L.length + 1 + a.length : Nat), -1⟩ :: a ++ B (L.length + 1 + a.length) = L ++ cutT v at' A B L.length := by rw [cutT, hA, List.append_assoc]; rfl
  rw [eC]
  refine EndM.mk ⟨.n 0, .none, .cons (.obj (.cons (.hdl rfl rfl rfl) (.cons (.s (SLe.refl _)) (.cons (.s (SLe.refl _)) .nil)))) (.cons (.bldN rfl (fun h => absurd h (by decide)) (fun i hi j hj => SLe.refl _)) (.cons (.obj (.cons (.ptr rfl) .nil)) (.cons (.box (LLe.refl _)) (.cons (.box (LLe.refl _)) (.cons (.box (LLe.refl _)) (.cons (.box (LLe.refl _)) (.nil _))))))), .inl rfl⟩
end St
end Go.Vm
