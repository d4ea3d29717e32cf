/-
  Layer 26: the contracts of visit and Best.
-/
import Derived.Test.YtlckiecpelchlaaBarP
namespace Go.Vm
set_option maxRecDepth 20000
set_option linter.unusedVariables false
set_option linter.unusedSimpArgs false
open Go Go.RowKit Go.Proofs

def shI (R : Nat → BP) (kerf : Int) : Option (List Pk) → Int
  | none => -1
  | some b => lenL R kerf b
abbrev uG (L : List Pk) : Nat → Nat → SV := fun i _ => .v (.bool (hasL L i))
abbrev uQ (L : List Pk) (q : Nat) : Nat → Nat → SV := fun i _ => .v (.bool (hasL L i || Nat.beq q i))
abbrev visC : CV := .clo 39 [.ptr (.n 2000) 0, .ptr (.n 2001) 0, .ptr (.n 2002) 0, .ptr (.n 2003) 0, .ptr (.n 2004) 0, .ptr (.n 2005) 0, .ptr (.n 2006) 0]
section
variable (n : Nat) (R : Nat → BP) (kerf : Int)
abbrev visM (g : Nat) (L : List Pk) (st : Option (List Pk)) : List Mem :=
  [.obj [.hdl (.n 2007) g], .box [rowS n R], .box [i64 (shI R kerf st)], .obj [.s (pS (st.getD []))], .obj [.hdl (.n 2008) g], .box [i64 kerf], .obj [visC],
    .bld g L.length 2 72 (pG L), .bld g n 1 4 (uG L)]
abbrev visA (L : List Pk) : List TV := [.d (bpD (lastP R L)), tint (endI R kerf L), .ptr (.n 2000) 0, .ptr (.n 2001) 0, .ptr (.n 2002) 0, .ptr (.n 2003) 0, .ptr (.n 2004) 0, .ptr (.n 2005) 0, .ptr (.n 2006) 0]
abbrev visS (L : List Pk) (q : Nat) : List (Nat × TV) := [(1, tint (endI R kerf L)), (2, .ptr 2000 0), (3, .ptr 2001 0), (4, .ptr 2002 0), (5, .ptr 2003 0), (6, .ptr 2004 0), (7, .ptr 2005 0), (8, .ptr 2006 0), (9, .ptr 9 0), (38, .d (.one (rowS n R))), (39, tint n), (40, tint q)]
abbrev visN (L : List Pk) (st : Option (List Pk)) (U : Nat → Nat → SV) : List (Id × Mem) :=
  [(2000, .obj [.hdl (.n 2007) 3]), (2001, .box [rowS n R]), (2002, .box [i64 (shI R kerf st)]), (2003, .obj [.s (pS (st.getD []))]), (2004, .obj [.hdl (.n 2008) 3]), (2005, .box [i64 kerf]), (2006, .obj [visC]),
    (2007, .bld 3 L.length 2 72 (pG L)), (2008, .bld 3 n 1 4 U), (9, .box (bpL (lastP R L)))]
abbrev visT (L : List Pk) (q j : Nat) : List (Nat × TV) := [(1, tint (endI R kerf L)), (2, .ptr 2000 0), (3, .ptr 2001 0), (4, .ptr 2002 0), (5, .ptr 2003 0), (6, .ptr 2004 0), (7, .ptr 2005 0), (8, .ptr 2006 0), (9, .ptr 9 0), (38, .d (.one (rowS n R))), (39, tint n), (40, tint q),
    (12, tint q), (13, .ptr 13 0), (52, .d (.one (.sl 2 1 fun i _ => .v (.bool (Nat.beq i 1))))), (53, tint 2), (54, tint j)]
abbrev visO (L : List Pk) (st : Option (List Pk)) (q : Nat) : List (Id × Mem) :=
  [(2000, .obj [.hdl (.n 2007) 3]), (2001, .box [rowS n R]), (2002, .box [i64 (shI R kerf st)]), (2003, .obj [.s (pS (st.getD []))]), (2004, .obj [.hdl (.n 2008) 3]), (2005, .box [i64 kerf]), (2006, .obj [visC]),
    (2007, .bld 3 L.length 2 72 (pG L)), (2008, .bld 3 n 1 4 (uQ L q)), (9, .box (bpL (lastP R L))), (13, .box (bpL (R q)))]
end
theorem uQ_set (L : List Pk) (q i j : Nat) (hj : j < 1) : SLe (bif Nat.beq i q && Nat.ble 0 j && Nat.blt j (0 + 1) then [SV.v (.bool true)].getD (j - 0) (.v Go.undef) else uG L i j) (uQ L q i j) := by
  obtain rfl : j = 0 := by omega
  refine SLe.of_eq ?_
  by_cases e : i = q
  · subst e
    show (bif Nat.beq i i && Nat.ble 0 0 && Nat.blt 0 (0 + 1) then _ else _) = SV.v (.bool (hasL L i || Nat.beq i i))
    rw [Nat.beq_refl, Bool.or_true]
    rfl
  · show (bif Nat.beq i q && Nat.ble 0 0 && Nat.blt 0 (0 + 1) then _ else _) = SV.v (.bool (hasL L i || Nat.beq q i))
    rw [beq_f e, beq_f (fun h => e h.symm), Bool.or_false]
    rfl
theorem uG_set (L : List Pk) (q i j : Nat) (hj : j < 1) (hq : hasL L q = false) : SLe (bif Nat.beq i q && Nat.ble 0 j && Nat.blt j (0 + 1) then [SV.v (.bool false)].getD (j - 0) (.v Go.undef) else uQ L q i j) (uG L i j) := by
  obtain rfl : j = 0 := by omega
  refine SLe.of_eq ?_
  by_cases e : i = q
  · subst e
    show (bif Nat.beq i i && Nat.ble 0 0 && Nat.blt 0 (0 + 1) then _ else _) = SV.v (.bool (hasL L i))
    rw [Nat.beq_refl, hq]
    rfl
  · show (bif Nat.beq i q && Nat.ble 0 0 && Nat.blt 0 (0 + 1) then _ else SV.v (.bool (hasL L i || Nat.beq q i))) = SV.v (.bool (hasL L i))
    rw [beq_f e, beq_f (fun h => e h.symm), Bool.or_false]
    rfl
theorem hasL_snoc (L : List Pk) (p : Pk) (i : Nat) : hasL (L ++ [p]) i = (hasL L i || Nat.beq p.i i) := by
  by_cases e : p.i = i
  · subst e
    simp [hasL, Nat.beq_refl]
  · rw [beq_f e]
    simp [hasL, e]
theorem pG_snoc (L : List Pk) (p : Pk) (i j : Nat) (hi : i < L.length + 1) (hj : j < 2) : SLe (bif Nat.blt i L.length then pG L i j else [i64 (p.i : Int), .v (.bool p.t)].getD ((i - L.length) * 2 + j) (.v Go.undef)) (pG (L ++ [p]) i j) := by
  refine SLe.app hi (fun h => ?_) (fun h => ?_)
  · have e : (L ++ [p]).getD i pk0 = L.getD i pk0 := by simp [List.getD, List.getElem?_append_left h]
    match j, hj with
    | 0, _ => exact SLe.of_eq (show i64 ((L.getD i pk0).i : Int) = i64 (((L ++ [p]).getD i pk0).i : Int) by rw [e])
    | 1, _ => exact SLe.of_eq (show SV.v (.bool (L.getD i pk0).t) = .v (.bool ((L ++ [p]).getD i pk0).t) by rw [e])
  · subst h
    have e : (L ++ [p]).getD L.length pk0 = p := by simp [List.getD]
    rw [Nat.sub_self]
    match j, hj with
    | 0, _ => exact SLe.of_eq (show i64 (p.i : Int) = i64 (((L ++ [p]).getD L.length pk0).i : Int) by rw [e])
    | 1, _ => exact SLe.of_eq (show SV.v (.bool p.t) = .v (.bool ((L ++ [p]).getD L.length pk0).t) by rw [e])
theorem pG_cut (L : List Pk) (p : Pk) (i j : Nat) (hi : i < L.length) (hj : j < 2) : SLe (pG (L ++ [p]) i j) (pG L i j) := by
  have e : (L ++ [p]).getD i pk0 = L.getD i pk0 := by simp [List.getD, List.getElem?_append_left hi]
  match j, hj with
  | 0, _ => exact SLe.of_eq (show i64 (((L ++ [p]).getD i pk0).i : Int) = i64 ((L.getD i pk0).i : Int) by rw [e])
  | 1, _ => exact SLe.of_eq (show SV.v (.bool ((L ++ [p]).getD i pk0).t) = .v (.bool (L.getD i pk0).t) by rw [e])
theorem mfitN2 {m : Id → Mem} {os : List Id} {d : Id} {g n n' k : Nat} {e : TypeId} {get get' : Nat → Nat → SV} (hn : n = n') (h : ∀ i, i < n → ∀ j, j < k → SLe (get i j) (get' i j)) : MFit m os d (.bld g n k e get) (.bld 1 n' k e get') := by
  subst hn; exact .bld h

theorem cut1 (m : Nat) (h : m ≤ 1000) : IntKind.i64.wrap (((m + 1 : Nat) : Int) - 1) = (m : Int) := by
  rw [wid (by omega) (by omega)]; omega
/-- The state after j of the two turns. -/
def turnK (n : Nat) (R : Nat → BP) (kerf : Int) (k : Nat) (L : List Pk) (q : Nat) (st : Option (List Pk)) : Nat → Option (List Pk)
  | 0 => st
  | 1 => visF n R kerf k (L ++ [⟨q, false⟩]) st
  | _ => visF n R kerf k (L ++ [⟨q, true⟩]) (visF n R kerf k (L ++ [⟨q, false⟩]) st)

theorem visit_detM {n : Nat} {R : Nat → BP} {kerf : Int} (V : VR n R kerf) : ∀ (k : Nat) (L : List Pk) (st : Option (List Pk)), PkOk n L → L.length + k = n → StOk n st →
    DetM Try.prog 39 (visA R kerf L) (visM n R kerf 1 L st) (.tup []) (visM n R kerf 3 L (visF n R kerf k L st)) .none := by
  intro k
  induction k with
  | zero =>
    intro L st hL hk hst
    have n40 := V.n40
    have hfull : L.length = n := by omega
    have hb := lenL_b V hL (by omega)
    have hend : IntKind.i64.wrap (endI R kerf L + maxI 0 (lastP R L).right) = lenL R kerf L := (lenL_eq R kerf L).symm
    refine detM_of_awp TTok mixed Try.func39 rfl rfl [0, 40 + 2000000] (Nat.le_of_ble_eq_true rfl) (Nat.le_of_ble_eq_true rfl) (sigM_of rfl) ?_
    refine Cut.id ?_
    refine Split.isT (by rw [hfull]; exact beq_self_eq_true _) ?_
    cases st with
    | none =>
      have hv : visF n R kerf 0 L none = some L := rfl
      rw [hv]
      repeat' first | refine Split.t ?_ | refine Split.f ?_ | fail
      refine Cut.id ?_
      refine Split.t ?_
      refine CallM.mk' [2007] (clone_detM L.length (pG L) (by omega)) ⟨.cons (.bld (fun _ _ _ _ => SLe.refl _)) .nil, .cons (.hdl rfl rfl) .nil, rfl, rfl, fun _ => rfl⟩ ?_
      refine Cut.mk ?_
      refine Adj.freezeObj 2003 37 _ [.s (pS L)] 0 _ 2 72 _ rfl rfl (.shut .nil) (Adj.id ?_)
      exact EndM.mk ⟨.n 0, .none, .cons (.obj (.cons (.hdl rfl rfl rfl) .nil)) (.cons (.box (LLe.refl _)) (.cons (.box (LLe.of_eq (congrArg (fun x => [i64 x]) hend))) (.cons (.obj (.cons (.s (SLe.refl _)) .nil)) (.cons (.obj (.cons (.hdl rfl rfl rfl) .nil)) (.cons (.box (LLe.refl _)) (.cons (.obj (.cons (.clo (.cons (.ptr rfl) (.cons (.ptr rfl) (.cons (.ptr rfl) (.cons (.ptr rfl) (.cons (.ptr rfl) (.cons (.ptr rfl) (.cons (.ptr rfl) .nil)))))))) .nil)) (.cons (.bld (fun h => absurd h (by decide)) (fun _ _ _ _ => SLe.refl _)) (.cons (.bld (fun h => absurd h (by decide)) (fun _ _ _ _ => SLe.refl _)) (.nil _))))))))), .inl rfl⟩
    | some b =>
      obtain ⟨hb1, hb2⟩ := hst b rfl
      have hbb := lenL_b V hb2 (by omega)
      have hv : visF n R kerf 0 L (some b) = if lenL R kerf L < lenL R kerf b then some L else some b := rfl
      rw [hv]
      have hneg : decide (lenL R kerf b < 0) = false := decide_eq_false (by omega)
      repeat' first | refine Split.isF hneg ?_ | refine Split.t ?_ | refine Split.f ?_ | fail
      have hdec : decide (IntKind.i64.wrap (endI R kerf L + maxI 0 (lastP R L).right) < lenL R kerf b) = decide (lenL R kerf L < lenL R kerf b) := by rw [hend]
      refine Cut.id ?_
      refine Split.mk (fun h => ?_) (fun h => ?_)
      · replace h : decide (IntKind.i64.wrap (endI R kerf L + maxI 0 (lastP R L).right) < lenL R kerf b) = true := h
        rw [hdec] at h
        rw [if_pos (of_decide_eq_true h)]
        refine CallM.mk' [2007] (clone_detM L.length (pG L) (by omega)) ⟨.cons (.bld (fun _ _ _ _ => SLe.refl _)) .nil, .cons (.hdl rfl rfl) .nil, rfl, rfl, fun _ => rfl⟩ ?_
        refine Cut.mk ?_
        refine Adj.freezeObj 2003 37 _ [.s (pS L)] 0 _ 2 72 _ rfl rfl (.shut .nil) (Adj.id ?_)
        exact EndM.mk ⟨.n 0, .none, .cons (.obj (.cons (.hdl rfl rfl rfl) .nil)) (.cons (.box (LLe.refl _)) (.cons (.box (LLe.of_eq (congrArg (fun x => [i64 x]) hend))) (.cons (.obj (.cons (.s (SLe.refl _)) .nil)) (.cons (.obj (.cons (.hdl rfl rfl rfl) .nil)) (.cons (.box (LLe.refl _)) (.cons (.obj (.cons (.clo (.cons (.ptr rfl) (.cons (.ptr rfl) (.cons (.ptr rfl) (.cons (.ptr rfl) (.cons (.ptr rfl) (.cons (.ptr rfl) (.cons (.ptr rfl) .nil)))))))) .nil)) (.cons (.bld (fun h => absurd h (by decide)) (fun _ _ _ _ => SLe.refl _)) (.cons (.bld (fun h => absurd h (by decide)) (fun _ _ _ _ => SLe.refl _)) (.nil _))))))))), .inl rfl⟩
      · replace h : decide (IntKind.i64.wrap (endI R kerf L + maxI 0 (lastP R L).right) < lenL R kerf b) = false := h
        rw [hdec] at h
        rw [if_neg (of_decide_eq_false h)]
        refine Cut.id ?_
        exact EndM.mk ⟨.n 0, .none, .cons (.obj (.cons (.hdl rfl rfl rfl) .nil)) (.cons (.box (LLe.refl _)) (.cons (.box (LLe.refl _)) (.cons (.obj (.cons (.s (SLe.refl _)) .nil)) (.cons (.obj (.cons (.hdl rfl rfl rfl) .nil)) (.cons (.box (LLe.refl _)) (.cons (.obj (.cons (.clo (.cons (.ptr rfl) (.cons (.ptr rfl) (.cons (.ptr rfl) (.cons (.ptr rfl) (.cons (.ptr rfl) (.cons (.ptr rfl) (.cons (.ptr rfl) .nil)))))))) .nil)) (.cons (.bld (fun h => absurd h (by decide)) (fun _ _ _ _ => SLe.refl _)) (.cons (.bld (fun h => absurd h (by decide)) (fun _ _ _ _ => SLe.refl _)) (.nil _))))))))), .inl rfl⟩
  | succ k ih =>
    intro L st hL hk hst
    have n40 := V.n40
    refine detM_of_awp TTok mixed Try.func39 rfl rfl [23, 39 + 2000000] (Nat.le_of_ble_eq_true rfl) (Nat.le_of_ble_eq_true rfl) (sigM_of rfl) ?_
    refine Split.isF (by simp; omega) ?_
    rw [visF_succ]
    refine Loop.by (α := Nat) (fun q => visS n R kerf L q) (fun q => visN n R kerf L (visK n R kerf k L st q) (uG L)) (fun q => q ≤ n) (fun q => n - q)
      (Adj.at 0 (Nat.zero_le _) (.cons (.obj (.cons (.hdl (by intro q; cases q) rfl rfl) .nil)) (.cons (.box (LLe.refl _)) (.cons (.box (LLe.refl _)) (.cons (.obj (.cons (.s (SLe.refl _)) .nil)) (.cons (.obj (.cons (.hdl (by intro q; cases q) rfl rfl) .nil)) (.cons (.box (LLe.refl _)) (.cons (.obj (.cons (.clo (.cons (.ptr (by intro q; cases q)) (.cons (.ptr (by intro q; cases q)) (.cons (.ptr (by intro q; cases q)) (.cons (.ptr (by intro q; cases q)) (.cons (.ptr (by intro q; cases q)) (.cons (.ptr (by intro q; cases q)) (.cons (.ptr (by intro q; cases q)) .nil)))))))) .nil)) (.cons (.bld (fun _ _ _ _ => SLe.refl _)) (.cons (.bld (fun _ _ _ _ => SLe.refl _)) (.cons (.box (LLe.refl _)) .nil)))))))))) (.cons .same (.cons (.ptr (by intro q; cases q)) (.cons (.ptr (by intro q; cases q)) (.cons (.ptr (by intro q; cases q)) (.cons (.ptr (by intro q; cases q)) (.cons (.ptr (by intro q; cases q)) (.cons (.ptr (by intro q; cases q)) (.cons (.ptr (by intro q; cases q)) (.cons (.box rfl rfl) (.cons .same (.cons .same (.cons .same .nil))))))))))))) (fun q hq => ?_)
    have hok := visK_ok n R kerf hL (by omega) hst q hq
    refine Split.mk (fun c1 => ?_) (fun c1 => ?_)
    · have hlt : q < n := by have := of_decide_eq_true c1; omega
      have hw64 : IntKind.i64.wrap ((q : Int) + 1) = ((q + 1 : Nat) : Int) := (w64_id ⟨by omega, by omega⟩).trans (by omega)
      have hst1 := visK_succ n R kerf k L st q
      refine Need.mk (by omega) ?_
      refine Need.mk (by omega) ?_
      refine Split.mk (fun c2 => ?_) (fun c2 => ?_)
      · replace c2 : hasL L q = true := c2
        rw [if_pos c2] at hst1
        refine Adj.back (x := q) (q + 1) (by omega) (by omega) (.cons (.obj (.cons (.hdl (by intro q; cases q) rfl rfl) .nil)) (.cons (.box (LLe.refl _)) (.cons (.box (LLe.of_eq (by rw [hst1]))) (.cons (.obj (.cons (.s (SLe.of_eq (by rw [hst1]))) .nil)) (.cons (.obj (.cons (.hdl (by intro q; cases q) rfl rfl) .nil)) (.cons (.box (LLe.refl _)) (.cons (.obj (.cons (.clo (.cons (.ptr (by intro q; cases q)) (.cons (.ptr (by intro q; cases q)) (.cons (.ptr (by intro q; cases q)) (.cons (.ptr (by intro q; cases q)) (.cons (.ptr (by intro q; cases q)) (.cons (.ptr (by intro q; cases q)) (.cons (.ptr (by intro q; cases q)) .nil)))))))) .nil)) (.cons (.bld (fun _ _ _ _ => SLe.refl _)) (.cons (.bld (fun _ _ _ _ => SLe.refl _)) (.cons (.box (LLe.refl _)) .nil))))))))))
          (.cons .same (.cons (.ptr (by intro q; cases q)) (.cons (.ptr (by intro q; cases q)) (.cons (.ptr (by intro q; cases q)) (.cons (.ptr (by intro q; cases q)) (.cons (.ptr (by intro q; cases q)) (.cons (.ptr (by intro q; cases q)) (.cons (.ptr (by intro q; cases q)) (.cons (.box rfl rfl) (.cons .same (.cons .same (.cons (SlotLe.int hw64) .nil))))))))))))
      replace c2 : hasL L q = false := c2
      rw [if_neg (by rw [c2]; simp)] at hst1
      refine Need.mk (by omega) ?_
      refine Loop.by (α := Nat) (fun j => visT n R kerf L q j) (fun j => visO n R kerf L (turnK n R kerf k L q (visK n R kerf k L st q) j) q) (fun j => j ≤ 2) (fun j => 2 - j)
        (Adj.at 0 (Nat.zero_le _) (.cons (.obj (.cons (.hdl (by intro q; cases q) rfl rfl) .nil)) (.cons (.box (LLe.refl _)) (.cons (.box (LLe.refl _)) (.cons (.obj (.cons (.s (SLe.refl _)) .nil)) (.cons (.obj (.cons (.hdl (by intro q; cases q) rfl rfl) .nil)) (.cons (.box (LLe.refl _)) (.cons (.obj (.cons (.clo (.cons (.ptr (by intro q; cases q)) (.cons (.ptr (by intro q; cases q)) (.cons (.ptr (by intro q; cases q)) (.cons (.ptr (by intro q; cases q)) (.cons (.ptr (by intro q; cases q)) (.cons (.ptr (by intro q; cases q)) (.cons (.ptr (by intro q; cases q)) .nil)))))))) .nil)) (.cons (.bld (fun _ _ _ _ => SLe.refl _)) (.cons (.bld (fun i hi j hj => uQ_set L q i j hj)) (.cons (.box (LLe.refl _)) (.cons (.box (LLe.of_eq rfl)) .nil)))))))))))
          (.cons .same (.cons (.ptr (by intro q; cases q)) (.cons (.ptr (by intro q; cases q)) (.cons (.ptr (by intro q; cases q)) (.cons (.ptr (by intro q; cases q)) (.cons (.ptr (by intro q; cases q)) (.cons (.ptr (by intro q; cases q)) (.cons (.ptr (by intro q; cases q)) (.cons (.box rfl rfl) (.cons .same (.cons .same (.cons .same (.cons .same (.cons (.ptr (by intro q; cases q)) (.cons (.data (DLe.one (SLe.sl fun i hi j hj => ?_))) (.cons .same (.cons .same .nil)))))))))))))))))) (fun j hj => ?_)
      · match i, hi, j, hj with
        | 0, _, 0, _ => exact SLe.of_eq rfl
        | 1, _, 0, _ => exact SLe.of_eq rfl
      refine Split.mk (fun c3 => ?_) (fun c3 => ?_)
      · have hjl : j = 0 ∨ j = 1 := by have := of_decide_eq_true c3; omega
        have hn1 : L.length < n := by omega
        refine Need.mk (by omega) ?_
        have hqt : qP R ⟨q, true⟩ = turnedP (R q) := rfl
        have hqf : qP R ⟨q, false⟩ = R q := rfl
        rcases hjl with rfl | rfl
        · have hw1 : IntKind.i64.wrap (((0 : Nat) : Int) + 1) = ((1 : Nat) : Int) := by decide
          have ok2 : PkOk n (L ++ [⟨q, false⟩]) := hL.snoc hlt
          have hend := endI_snoc R kerf L ⟨q, false⟩
          have hlast := lastP_snoc R L ⟨q, false⟩
          rw [hqf] at hend hlast
          refine Split.f ?_
          refine Split.mk (fun c4 => ?_) (fun c4 => ?_)
          · replace c4 : decide ((L.length : Int) > 0) = true := c4
            have hne : L ≠ [] := fun e => by rw [e] at c4; simp at c4
            have hat : atI R kerf L (R q) = w64 (endI R kerf L + gapI (lastP R L) (R q) kerf) := by rw [atI, if_neg hne]
            refine CallW.mk' (gap_det (lastP R L) (R q) kerf) ?_
            refine Need.mk (needApp2 (by omega) (by decide)) ?_
            refine CallM.mk' [2000, 2001, 2002, 2003, 2004, 2005, 2006, 2007, 2008] (ih (L ++ [Pk.mk q false]) (visK n R kerf k L st q) ok2 (by simp; omega) hok) ⟨(.cons (.obj (.cons (.hdl rfl rfl) .nil)) (.cons (.box (LLe.refl _)) (.cons (.box (LLe.refl _)) (.cons (.obj (.cons (.s (SLe.refl _)) .nil)) (.cons (.obj (.cons (.hdl rfl rfl) .nil)) (.cons (.box (LLe.refl _)) (.cons (.obj (.cons (.clo (.cons (.ptr rfl) (.cons (.ptr rfl) (.cons (.ptr rfl) (.cons (.ptr rfl) (.cons (.ptr rfl) (.cons (.ptr rfl) (.cons (.ptr rfl) .nil)))))))) .nil)) (.cons (mfitN2 (by simp) (fun i hi j hj => pG_snoc L (Pk.mk q false) i j hi hj)) (.cons (.bld (fun i _ j _ => SLe.of_eq (by show SV.v (.bool (hasL L i || Nat.beq q i)) = SV.v (.bool (hasL (L ++ [Pk.mk q false]) i)); rw [hasL_snoc]))) .nil))))))))), (.cons (.d (DLe.of_eq (by rw [hlast]))) (.cons (.d (DLe.of_eq (by rw [hend, hat] <;> rfl))) (.cons (.ptr rfl) (.cons (.ptr rfl) (.cons (.ptr rfl) (.cons (.ptr rfl) (.cons (.ptr rfl) (.cons (.ptr rfl) (.cons (.ptr rfl) .nil))))))))), rfl, rfl, fun h => absurd rfl h⟩ ?_
            have hcut : (IntKind.i64.wrap (((L ++ [Pk.mk q false]).length : Int) - 1)).toNat = L.length := by
              rw [List.length_append, List.length_singleton, cut1 _ (by omega)] <;> omega
            refine Need.mk ⟨by omega, by rw [List.length_append, List.length_singleton, cut1 _ (by omega)] <;> omega, by rw [List.length_append, List.length_singleton, cut1 _ (by omega)] <;> omega⟩ ?_
            refine EitherW.r ⟨rfl, ?_⟩
            refine Cut.id ?_
            refine Adj.back (x := 0) 1 (by omega) (by omega) (.cons (.obj (.cons (.hdl (by intro q; cases q) rfl rfl) .nil)) (.cons (.box (LLe.refl _)) (.cons (.box (LLe.refl _)) (.cons (.obj (.cons (.s (SLe.refl _)) .nil)) (.cons (.obj (.cons (.hdl (by intro q; cases q) rfl rfl) .nil)) (.cons (.box (LLe.refl _)) (.cons (.obj (.cons (.clo (.cons (.ptr (by intro q; cases q)) (.cons (.ptr (by intro q; cases q)) (.cons (.ptr (by intro q; cases q)) (.cons (.ptr (by intro q; cases q)) (.cons (.ptr (by intro q; cases q)) (.cons (.ptr (by intro q; cases q)) (.cons (.ptr (by intro q; cases q)) .nil)))))))) .nil)) (.cons (MemLe.bldN (by rw [hcut]) (fun i hi j hj => pG_cut L (Pk.mk q false) i j (by rw [hcut] at hi; exact hi) hj)) (.cons (.bld (fun i _ j _ => SLe.of_eq (by show SV.v (.bool (hasL (L ++ [Pk.mk q false]) i)) = SV.v (.bool (hasL L i || Nat.beq q i)); rw [hasL_snoc]))) (.cons (.box (LLe.refl _)) (.cons (.box (LLe.refl _)) .nil)))))))))))
                (.cons .same (.cons (.ptr (by intro q; cases q)) (.cons (.ptr (by intro q; cases q)) (.cons (.ptr (by intro q; cases q)) (.cons (.ptr (by intro q; cases q)) (.cons (.ptr (by intro q; cases q)) (.cons (.ptr (by intro q; cases q)) (.cons (.ptr (by intro q; cases q)) (.cons (.box rfl rfl) (.cons .same (.cons .same (.cons .same (.cons .same (.cons (.ptr (by intro q; cases q)) (.cons .same (.cons .same (.cons (SlotLe.int hw1) .nil)))))))))))))))))
          · replace c4 : decide ((L.length : Int) > 0) = false := c4
            have hne : L = [] := by cases L with | nil => rfl | cons a l => simp at c4
            have hat : atI R kerf L (R q) = maxI 0 ((R q)).left := by rw [atI, if_pos hne]
            refine Need.mk (needApp2 (by omega) (by decide)) ?_
            refine CallM.mk' [2000, 2001, 2002, 2003, 2004, 2005, 2006, 2007, 2008] (ih (L ++ [Pk.mk q false]) (visK n R kerf k L st q) ok2 (by simp; omega) hok) ⟨(.cons (.obj (.cons (.hdl rfl rfl) .nil)) (.cons (.box (LLe.refl _)) (.cons (.box (LLe.refl _)) (.cons (.obj (.cons (.s (SLe.refl _)) .nil)) (.cons (.obj (.cons (.hdl rfl rfl) .nil)) (.cons (.box (LLe.refl _)) (.cons (.obj (.cons (.clo (.cons (.ptr rfl) (.cons (.ptr rfl) (.cons (.ptr rfl) (.cons (.ptr rfl) (.cons (.ptr rfl) (.cons (.ptr rfl) (.cons (.ptr rfl) .nil)))))))) .nil)) (.cons (mfitN2 (by simp) (fun i hi j hj => pG_snoc L (Pk.mk q false) i j hi hj)) (.cons (.bld (fun i _ j _ => SLe.of_eq (by show SV.v (.bool (hasL L i || Nat.beq q i)) = SV.v (.bool (hasL (L ++ [Pk.mk q false]) i)); rw [hasL_snoc]))) .nil))))))))), (.cons (.d (DLe.of_eq (by rw [hlast]))) (.cons (.d (DLe.of_eq (by rw [hend, hat] <;> rfl))) (.cons (.ptr rfl) (.cons (.ptr rfl) (.cons (.ptr rfl) (.cons (.ptr rfl) (.cons (.ptr rfl) (.cons (.ptr rfl) (.cons (.ptr rfl) .nil))))))))), rfl, rfl, fun h => absurd rfl h⟩ ?_
            have hcut : (IntKind.i64.wrap (((L ++ [Pk.mk q false]).length : Int) - 1)).toNat = L.length := by
              rw [List.length_append, List.length_singleton, cut1 _ (by omega)] <;> omega
            refine Need.mk ⟨by omega, by rw [List.length_append, List.length_singleton, cut1 _ (by omega)] <;> omega, by rw [List.length_append, List.length_singleton, cut1 _ (by omega)] <;> omega⟩ ?_
            refine EitherW.r ⟨rfl, ?_⟩
            refine Cut.id ?_
            refine Adj.back (x := 0) 1 (by omega) (by omega) (.cons (.obj (.cons (.hdl (by intro q; cases q) rfl rfl) .nil)) (.cons (.box (LLe.refl _)) (.cons (.box (LLe.refl _)) (.cons (.obj (.cons (.s (SLe.refl _)) .nil)) (.cons (.obj (.cons (.hdl (by intro q; cases q) rfl rfl) .nil)) (.cons (.box (LLe.refl _)) (.cons (.obj (.cons (.clo (.cons (.ptr (by intro q; cases q)) (.cons (.ptr (by intro q; cases q)) (.cons (.ptr (by intro q; cases q)) (.cons (.ptr (by intro q; cases q)) (.cons (.ptr (by intro q; cases q)) (.cons (.ptr (by intro q; cases q)) (.cons (.ptr (by intro q; cases q)) .nil)))))))) .nil)) (.cons (MemLe.bldN (by rw [hcut]) (fun i hi j hj => pG_cut L (Pk.mk q false) i j (by rw [hcut] at hi; exact hi) hj)) (.cons (.bld (fun i _ j _ => SLe.of_eq (by show SV.v (.bool (hasL (L ++ [Pk.mk q false]) i)) = SV.v (.bool (hasL L i || Nat.beq q i)); rw [hasL_snoc]))) (.cons (.box (LLe.refl _)) (.cons (.box (LLe.refl _)) .nil)))))))))))
                (.cons .same (.cons (.ptr (by intro q; cases q)) (.cons (.ptr (by intro q; cases q)) (.cons (.ptr (by intro q; cases q)) (.cons (.ptr (by intro q; cases q)) (.cons (.ptr (by intro q; cases q)) (.cons (.ptr (by intro q; cases q)) (.cons (.ptr (by intro q; cases q)) (.cons (.box rfl rfl) (.cons .same (.cons .same (.cons .same (.cons .same (.cons (.ptr (by intro q; cases q)) (.cons .same (.cons .same (.cons (SlotLe.int hw1) .nil)))))))))))))))))
        · have hw1 : IntKind.i64.wrap (((1 : Nat) : Int) + 1) = ((2 : Nat) : Int) := by decide
          have ok2 : PkOk n (L ++ [⟨q, true⟩]) := hL.snoc hlt
          have hend := endI_snoc R kerf L ⟨q, true⟩
          have hlast := lastP_snoc R L ⟨q, true⟩
          rw [hqt] at hend hlast
          refine Split.t ?_
          refine CallW.mk' (turned_det (R q)) ?_
          refine Split.mk (fun c4 => ?_) (fun c4 => ?_)
          · replace c4 : decide ((L.length : Int) > 0) = true := c4
            have hne : L ≠ [] := fun e => by rw [e] at c4; simp at c4
            have hat : atI R kerf L (turnedP (R q)) = w64 (endI R kerf L + gapI (lastP R L) (turnedP (R q)) kerf) := by rw [atI, if_neg hne]
            refine CallW.mk' (gap_det (lastP R L) (turnedP (R q)) kerf) ?_
            refine Need.mk (needApp2 (by omega) (by decide)) ?_
            refine CallM.mk' [2000, 2001, 2002, 2003, 2004, 2005, 2006, 2007, 2008] (ih (L ++ [Pk.mk q true]) (visF n R kerf k (L ++ [⟨q, false⟩]) (visK n R kerf k L st q)) ok2 (by simp; omega) (visF_ok n R kerf k _ _ (hL.snoc (show (⟨q, false⟩ : Pk).i < n from hlt)) (by simp; omega) hok)) ⟨(.cons (.obj (.cons (.hdl rfl rfl) .nil)) (.cons (.box (LLe.refl _)) (.cons (.box (LLe.refl _)) (.cons (.obj (.cons (.s (SLe.refl _)) .nil)) (.cons (.obj (.cons (.hdl rfl rfl) .nil)) (.cons (.box (LLe.refl _)) (.cons (.obj (.cons (.clo (.cons (.ptr rfl) (.cons (.ptr rfl) (.cons (.ptr rfl) (.cons (.ptr rfl) (.cons (.ptr rfl) (.cons (.ptr rfl) (.cons (.ptr rfl) .nil)))))))) .nil)) (.cons (mfitN2 (by simp) (fun i hi j hj => pG_snoc L (Pk.mk q true) i j hi hj)) (.cons (.bld (fun i _ j _ => SLe.of_eq (by show SV.v (.bool (hasL L i || Nat.beq q i)) = SV.v (.bool (hasL (L ++ [Pk.mk q true]) i)); rw [hasL_snoc]))) .nil))))))))), (.cons (.d (DLe.of_eq (by rw [hlast]))) (.cons (.d (DLe.of_eq (by rw [hend, hat] <;> rfl))) (.cons (.ptr rfl) (.cons (.ptr rfl) (.cons (.ptr rfl) (.cons (.ptr rfl) (.cons (.ptr rfl) (.cons (.ptr rfl) (.cons (.ptr rfl) .nil))))))))), rfl, rfl, fun h => absurd rfl h⟩ ?_
            have hcut : (IntKind.i64.wrap (((L ++ [Pk.mk q true]).length : Int) - 1)).toNat = L.length := by
              rw [List.length_append, List.length_singleton, cut1 _ (by omega)] <;> omega
            refine Need.mk ⟨by omega, by rw [List.length_append, List.length_singleton, cut1 _ (by omega)] <;> omega, by rw [List.length_append, List.length_singleton, cut1 _ (by omega)] <;> omega⟩ ?_
            refine EitherW.r ⟨rfl, ?_⟩
            refine Cut.id ?_
            refine Adj.back (x := 1) 2 (by omega) (by omega) (.cons (.obj (.cons (.hdl (by intro q; cases q) rfl rfl) .nil)) (.cons (.box (LLe.refl _)) (.cons (.box (LLe.refl _)) (.cons (.obj (.cons (.s (SLe.refl _)) .nil)) (.cons (.obj (.cons (.hdl (by intro q; cases q) rfl rfl) .nil)) (.cons (.box (LLe.refl _)) (.cons (.obj (.cons (.clo (.cons (.ptr (by intro q; cases q)) (.cons (.ptr (by intro q; cases q)) (.cons (.ptr (by intro q; cases q)) (.cons (.ptr (by intro q; cases q)) (.cons (.ptr (by intro q; cases q)) (.cons (.ptr (by intro q; cases q)) (.cons (.ptr (by intro q; cases q)) .nil)))))))) .nil)) (.cons (MemLe.bldN (by rw [hcut]) (fun i hi j hj => pG_cut L (Pk.mk q true) i j (by rw [hcut] at hi; exact hi) hj)) (.cons (.bld (fun i _ j _ => SLe.of_eq (by show SV.v (.bool (hasL (L ++ [Pk.mk q true]) i)) = SV.v (.bool (hasL L i || Nat.beq q i)); rw [hasL_snoc]))) (.cons (.box (LLe.refl _)) (.cons (.box (LLe.refl _)) .nil)))))))))))
                (.cons .same (.cons (.ptr (by intro q; cases q)) (.cons (.ptr (by intro q; cases q)) (.cons (.ptr (by intro q; cases q)) (.cons (.ptr (by intro q; cases q)) (.cons (.ptr (by intro q; cases q)) (.cons (.ptr (by intro q; cases q)) (.cons (.ptr (by intro q; cases q)) (.cons (.box rfl rfl) (.cons .same (.cons .same (.cons .same (.cons .same (.cons (.ptr (by intro q; cases q)) (.cons .same (.cons .same (.cons (SlotLe.int hw1) .nil)))))))))))))))))
          · replace c4 : decide ((L.length : Int) > 0) = false := c4
            have hne : L = [] := by cases L with | nil => rfl | cons a l => simp at c4
            have hat : atI R kerf L (turnedP (R q)) = maxI 0 ((turnedP (R q))).left := by rw [atI, if_pos hne]
            refine Need.mk (needApp2 (by omega) (by decide)) ?_
            refine CallM.mk' [2000, 2001, 2002, 2003, 2004, 2005, 2006, 2007, 2008] (ih (L ++ [Pk.mk q true]) (visF n R kerf k (L ++ [⟨q, false⟩]) (visK n R kerf k L st q)) ok2 (by simp; omega) (visF_ok n R kerf k _ _ (hL.snoc (show (⟨q, false⟩ : Pk).i < n from hlt)) (by simp; omega) hok)) ⟨(.cons (.obj (.cons (.hdl rfl rfl) .nil)) (.cons (.box (LLe.refl _)) (.cons (.box (LLe.refl _)) (.cons (.obj (.cons (.s (SLe.refl _)) .nil)) (.cons (.obj (.cons (.hdl rfl rfl) .nil)) (.cons (.box (LLe.refl _)) (.cons (.obj (.cons (.clo (.cons (.ptr rfl) (.cons (.ptr rfl) (.cons (.ptr rfl) (.cons (.ptr rfl) (.cons (.ptr rfl) (.cons (.ptr rfl) (.cons (.ptr rfl) .nil)))))))) .nil)) (.cons (mfitN2 (by simp) (fun i hi j hj => pG_snoc L (Pk.mk q true) i j hi hj)) (.cons (.bld (fun i _ j _ => SLe.of_eq (by show SV.v (.bool (hasL L i || Nat.beq q i)) = SV.v (.bool (hasL (L ++ [Pk.mk q true]) i)); rw [hasL_snoc]))) .nil))))))))), (.cons (.d (DLe.of_eq (by rw [hlast]))) (.cons (.d (DLe.of_eq (by rw [hend, hat] <;> rfl))) (.cons (.ptr rfl) (.cons (.ptr rfl) (.cons (.ptr rfl) (.cons (.ptr rfl) (.cons (.ptr rfl) (.cons (.ptr rfl) (.cons (.ptr rfl) .nil))))))))), rfl, rfl, fun h => absurd rfl h⟩ ?_
            have hcut : (IntKind.i64.wrap (((L ++ [Pk.mk q true]).length : Int) - 1)).toNat = L.length := by
              rw [List.length_append, List.length_singleton, cut1 _ (by omega)] <;> omega
            refine Need.mk ⟨by omega, by rw [List.length_append, List.length_singleton, cut1 _ (by omega)] <;> omega, by rw [List.length_append, List.length_singleton, cut1 _ (by omega)] <;> omega⟩ ?_
            refine EitherW.r ⟨rfl, ?_⟩
            refine Cut.id ?_
            refine Adj.back (x := 1) 2 (by omega) (by omega) (.cons (.obj (.cons (.hdl (by intro q; cases q) rfl rfl) .nil)) (.cons (.box (LLe.refl _)) (.cons (.box (LLe.refl _)) (.cons (.obj (.cons (.s (SLe.refl _)) .nil)) (.cons (.obj (.cons (.hdl (by intro q; cases q) rfl rfl) .nil)) (.cons (.box (LLe.refl _)) (.cons (.obj (.cons (.clo (.cons (.ptr (by intro q; cases q)) (.cons (.ptr (by intro q; cases q)) (.cons (.ptr (by intro q; cases q)) (.cons (.ptr (by intro q; cases q)) (.cons (.ptr (by intro q; cases q)) (.cons (.ptr (by intro q; cases q)) (.cons (.ptr (by intro q; cases q)) .nil)))))))) .nil)) (.cons (MemLe.bldN (by rw [hcut]) (fun i hi j hj => pG_cut L (Pk.mk q true) i j (by rw [hcut] at hi; exact hi) hj)) (.cons (.bld (fun i _ j _ => SLe.of_eq (by show SV.v (.bool (hasL (L ++ [Pk.mk q true]) i)) = SV.v (.bool (hasL L i || Nat.beq q i)); rw [hasL_snoc]))) (.cons (.box (LLe.refl _)) (.cons (.box (LLe.refl _)) .nil)))))))))))
                (.cons .same (.cons (.ptr (by intro q; cases q)) (.cons (.ptr (by intro q; cases q)) (.cons (.ptr (by intro q; cases q)) (.cons (.ptr (by intro q; cases q)) (.cons (.ptr (by intro q; cases q)) (.cons (.ptr (by intro q; cases q)) (.cons (.ptr (by intro q; cases q)) (.cons (.box rfl rfl) (.cons .same (.cons .same (.cons .same (.cons .same (.cons (.ptr (by intro q; cases q)) (.cons .same (.cons .same (.cons (SlotLe.int hw1) .nil)))))))))))))))))
      · obtain rfl : j = 2 := by have := of_decide_eq_false c3; omega
        refine Need.mk (by omega) ?_
        refine Adj.back (x := q) (q + 1) (by omega) (by omega) (.cons (.obj (.cons (.hdl (by intro q; cases q) rfl rfl) .nil)) (.cons (.box (LLe.refl _)) (.cons (.box (LLe.of_eq (by rw [hst1]; rfl))) (.cons (.obj (.cons (.s (SLe.of_eq (by rw [hst1]; rfl))) .nil)) (.cons (.obj (.cons (.hdl (by intro q; cases q) rfl rfl) .nil)) (.cons (.box (LLe.refl _)) (.cons (.obj (.cons (.clo (.cons (.ptr (by intro q; cases q)) (.cons (.ptr (by intro q; cases q)) (.cons (.ptr (by intro q; cases q)) (.cons (.ptr (by intro q; cases q)) (.cons (.ptr (by intro q; cases q)) (.cons (.ptr (by intro q; cases q)) (.cons (.ptr (by intro q; cases q)) .nil)))))))) .nil)) (.cons (.bld (fun _ _ _ _ => SLe.refl _)) (.cons (.bld (fun i hi j hj => uG_set L q i j hj c2)) (.cons (.box (LLe.refl _)) .nil))))))))))
          (.cons .same (.cons (.ptr (by intro q; cases q)) (.cons (.ptr (by intro q; cases q)) (.cons (.ptr (by intro q; cases q)) (.cons (.ptr (by intro q; cases q)) (.cons (.ptr (by intro q; cases q)) (.cons (.ptr (by intro q; cases q)) (.cons (.ptr (by intro q; cases q)) (.cons (.box rfl rfl) (.cons .same (.cons .same (.cons (SlotLe.int hw64) .nil))))))))))))
    · obtain rfl : q = n := by have := of_decide_eq_false c1; omega
      exact EndM.mk ⟨.n 0, .none, (.cons (.obj (.cons (.hdl rfl rfl rfl) .nil)) (.cons (.box (LLe.refl _)) (.cons (.box (LLe.refl _)) (.cons (.obj (.cons (.s (SLe.refl _)) .nil)) (.cons (.obj (.cons (.hdl rfl rfl rfl) .nil)) (.cons (.box (LLe.refl _)) (.cons (.obj (.cons (.clo (.cons (.ptr rfl) (.cons (.ptr rfl) (.cons (.ptr rfl) (.cons (.ptr rfl) (.cons (.ptr rfl) (.cons (.ptr rfl) (.cons (.ptr rfl) .nil)))))))) .nil)) (.cons (.bld (fun h => absurd h (by decide)) (fun _ _ _ _ => SLe.refl _)) (.cons (.bld (fun h => absurd h (by decide)) (fun _ _ _ _ => SLe.refl _)) (.nil _)))))))))), .inl rfl⟩
end Go.Vm
