/-
  Layer 26: the contracts of the reference's search and Best. (Printed by gen_bars.py.)
-/
import Derived.Test.YtlckiecpelchlaaBarR
namespace Go.Vm
set_option maxRecDepth 20000
set_option linter.unusedVariables false
set_option linter.unusedSimpArgs false
open Go Go.RowKit Go.Proofs

theorem hasL_t {L : List Pk} {i k : Nat} (hk : k < L.length) (h : (L.getD k pk0).i = i) : hasL L i = true := by
  have e : L.getD k pk0 = L[k] := by simp [List.getD, hk]
  rw [e] at h
  exact List.any_eq_true.2 ⟨L[k], List.getElem_mem _, by simp [h]⟩
theorem hasL_f {L : List Pk} {i : Nat} (h : ∀ k, k < L.length → (L.getD k pk0).i ≠ i) : hasL L i = false := by
  cases hh : hasL L i with
  | false => rfl
  | true =>
    obtain ⟨p, hp, e⟩ := List.any_eq_true.1 hh
    obtain ⟨k, hk, rfl⟩ := List.getElem_of_mem hp
    have := h k hk
    simp [List.getD, hk] at this
    simp at e
    exact absurd e this
theorem rused_det (L : List Pk) (i : Nat) (hl : L.length ≤ 40) : Det Try.prog 67 [.one (pS L), .one (i64 (i : Int))] (tbool (hasL L i)) := by
  refine det_of_awp TTok mixed Try.func67 rfl rfl [] (Nat.le_of_ble_eq_true rfl) ?_
  refine Loop.by (α := Nat) (fun q => [(0, .d (.one (pS L))), (1, tint i), (5, tint q)]) (fun _ => []) (fun q => q ≤ L.length ∧ ∀ k, k < q → (L.getD k pk0).i ≠ i) (fun q => L.length - q)
    (Adj.at 0 ⟨Nat.zero_le _, fun k hk => absurd hk (Nat.not_lt_zero _)⟩ .nil (.cons .same (.cons .same (.cons .same .nil)))) (fun q hq => ?_)
  obtain ⟨hq, hk⟩ := hq
  refine Split.mk (fun c1 => ?_) (fun c1 => ?_)
  · have hlt : q < L.length := by have := of_decide_eq_true c1; omega
    have hw64 : IntKind.i64.wrap ((q : Int) + 1) = ((q + 1 : Nat) : Int) := (w64_id ⟨by omega, by omega⟩).trans (by omega)
    refine Need.mk (by omega) ?_
    refine Split.mk (fun c2 => ?_) (fun c2 => ?_)
    · have c2' : pkI L q = (i : Int) := eq_of_beq c2
      refine Fin.bool ?_
      have c3 : ((L.getD q pk0).i : Int) = i := c2'
      rw [hasL_t hlt (show (L.getD q pk0).i = i by omega)]
    · have c2' : ¬ pkI L q = (i : Int) := ne_of_beq_false c2
      refine Adj.back (x := q) (q + 1) ⟨hlt, fun k hkq => ?_⟩ (by omega) .nil (.cons .same (.cons .same (.cons (SlotLe.int hw64) .nil)))
      by_cases e : k = q
      · subst e
        have c3 : ¬ ((L.getD k pk0).i : Int) = i := c2'
        omega
      · exact hk k (by omega)
  · refine Fin.bool ?_
    rw [hasL_f fun k hkl => hk k (by have := of_decide_eq_false c1; omega)]
theorem SLe.slN2 {n n' k : Nat} {g g' : Nat → Nat → SV} (hn : n = n') (h : ∀ i, i < n → ∀ j, j < k → SLe (g i j) (g' i j)) : SLe (.sl n k g) (.sl n' k g') := by
  subst hn; exact SLe.sl h
theorem pG_snoc0 (L : List Pk) (q i j : Nat) (hi : i < L.length + 1) (hj : j < 2) (x : Nat → Nat → SV) : SLe (bif Nat.blt i (0 + L.length) then (bif Nat.blt i 0 then x i j else pG L (i - 0) j) else [i64 (q : Int), .v (.bool false)].getD ((i - (0 + L.length)) * 2 + j) (.v Go.undef)) (pG (L ++ [Pk.mk q false]) i j) := by
  have := pG_snoc L (Pk.mk q false) i j hi hj
  rw [Nat.zero_add, blt_f (Nat.not_lt_zero i)]
  exact this
theorem pG_turn (L : List Pk) (q i j : Nat) (hi : i < L.length + 1) (hj : j < 2) : SLe (bif Nat.beq i L.length && Nat.ble 1 j && Nat.blt j (1 + 1) then [SV.v (.bool true)].getD (j - 1) (.v Go.undef) else pG (L ++ [Pk.mk q false]) i j) (pG (L ++ [Pk.mk q true]) i j) := by
  by_cases e : i = L.length
  · subst e
    have e1 : (L ++ [Pk.mk q false]).getD L.length pk0 = Pk.mk q false := by simp [List.getD]
    have e2 : (L ++ [Pk.mk q true]).getD L.length pk0 = Pk.mk q true := by simp [List.getD]
    rw [Nat.beq_refl]
    match j, hj with
    | 0, _ => exact SLe.of_eq (show i64 (((L ++ [Pk.mk q false]).getD L.length pk0).i : Int) = i64 (((L ++ [Pk.mk q true]).getD L.length pk0).i : Int) by rw [e1, e2])
    | 1, _ => exact SLe.of_eq (show SV.v (.bool true) = .v (.bool ((L ++ [Pk.mk q true]).getD L.length pk0).t) by rw [e2])
  · have hlt : i < L.length := by omega
    have e1 : (L ++ [Pk.mk q false]).getD i pk0 = L.getD i pk0 := by simp [List.getD, List.getElem?_append_left hlt]
    have e2 : (L ++ [Pk.mk q true]).getD i pk0 = L.getD i pk0 := by simp [List.getD, List.getElem?_append_left hlt]
    rw [beq_f e]
    match j, hj with
    | 0, _ => exact SLe.of_eq (show i64 (((L ++ [Pk.mk q false]).getD i pk0).i : Int) = i64 (((L ++ [Pk.mk q true]).getD i pk0).i : Int) by rw [e1, e2])
    | 1, _ => exact SLe.of_eq (show SV.v (.bool ((L ++ [Pk.mk q false]).getD i pk0).t) = .v (.bool ((L ++ [Pk.mk q true]).getD i pk0).t) by rw [e1, e2])
theorem rrowH_detM {n : Nat} {R : Nat → BP} {kerf : Int} (V : VR n R kerf) {L : List Pk} (hL : PkOk n L) (hl : L.length ≤ 40) : DetM Try.prog 46 [.d (.one (rowS n R)), .hdl (.n 2000) 1] [.bld 1 L.length 2 38 (pG L)] (.tup [.one (rowS L.length (pR R L)), .one (i64 0)]) [.bld 1 L.length 2 38 (pG L)] .none := by
  have n40 := V.n40
  refine detM_of_awp TTok mixed Try.func46 rfl rfl [19] (Nat.le_of_ble_eq_true rfl) (Nat.le_of_ble_eq_true rfl) (sigM_of rfl) ?_
  refine Loop.by (α := Nat) (fun k => [(0, .d (.one (rowS n R))), (1, .hdl 2000 1), (6, tint k)]) (fun _ => [(2000, .bld 1 L.length 2 38 (pG L))]) (fun k => k ≤ n) (fun k => n - k)
    (Adj.at 0 (Nat.zero_le _) (.cons (.bld (fun _ _ _ _ => SLe.refl _)) .nil) (.cons .same (.cons (.hdl rfl rfl) (.cons .same .nil)))) (fun k hk => ?_)
  refine Split.mk (fun h3 => ?_) (fun h3 => ?_)
  · have hlt : k < n := by have := of_decide_eq_true h3; omega
    have hw64 : IntKind.i64.wrap ((k : Int) + 1) = ((k + 1 : Nat) : Int) := (w64_id ⟨by omega, by omega⟩).trans (by omega)
    refine Need.mk (by omega) ?_
    refine CallW.bool (rvalidp_det (R k)) (fun c hc => ?_)
    have hv : c = true := by rw [hc]; exact (V.vp k hlt).valid
    refine Split.isF (by rw [hv]; rfl) ?_
    exact Adj.back (x := k) (k + 1) hlt (by omega) (.cons (.bld (fun _ _ _ _ => SLe.refl _)) .nil) (.cons .same (.cons (.hdl rfl rfl) (.cons (SlotLe.int hw64) .nil)))
  refine Loop.by (α := Nat) (fun q => [(0, .d (.one (rowS n R))), (1, .hdl 2000 1), (8, tint q), (7, .hdl 62 0)])
    (fun q => [(2000, .bld 1 L.length 2 38 (pG L)), (62, .bld 0 q 5 65 fun i j => match j with | 0 => .v (.string (pR R L i).nm) | 1 => .v (.string (pR R L i).gr) | 2 => i64 (pR R L i).len | 3 => i64 (pR R L i).left | _ => i64 (pR R L i).right)]) (fun q => q ≤ L.length) (fun q => L.length - q)
    (Adj.nil 7 62 5 65 (fun _ _ => .v Go.undef) rfl rfl (Adj.at 0 (Nat.zero_le _) (.cons (.bld (fun _ _ _ _ => SLe.refl _)) (.cons (.bld (fun _ h => absurd h (Nat.not_lt_zero _))) .nil)) (.cons .same (.cons (.hdl rfl rfl) (.cons .same (.cons (.hdl rfl rfl) .nil)))))) (fun q hq => ?_)
  refine Split.mk (fun h3 => ?_) (fun h3 => ?_)
  · have hlt : q < L.length := by have := of_decide_eq_true h3; omega
    have hw64 : IntKind.i64.wrap ((q : Int) + 1) = ((q + 1 : Nat) : Int) := (w64_id ⟨by omega, by omega⟩).trans (by omega)
    have hat : 0 ≤ pkI L q ∧ pkI L q < (n : Int) := ⟨Int.natCast_nonneg _, Int.ofNat_lt.2 (hL.at hlt)⟩
    have h4 : decide (pkI L q < 0) = false := decide_eq_false (by omega)
    have h5 : decide (pkI L q ≥ (n : Int)) = false := decide_eq_false (by omega)
    refine Need.mk (by omega) ?_
    refine Split.isF h4 ?_
    repeat' first | refine Split.isF h4 ?_ | refine Split.f ?_ | refine Need.mk (by omega) ?_ | fail
    refine Split.isF h5 ?_
    repeat' refine Need.mk (by first | omega | (rw [Int.toNat_natCast]; omega)) ?_
    refine Split.mk (fun h6 => ?_) (fun h6 => ?_)
    · have hp : pR R L q = turnedP (R (pkI L q).toNat) := by
        replace h6 : pkT L q = true := h6
        simp only [pR, pickR, h6, cond_true]
      refine CallW.mk' (rturned_det (R (pkI L q).toNat)) ?_
      refine Need.mk ⟨show (q + 1) * 56 ≤ 140737488355328 by omega, by simp only [maxLen]; omega⟩ ?_
      refine Adj.back (x := q) (q + 1) hlt (by omega) (.cons (.bld (fun _ _ _ _ => SLe.refl _)) (.cons (.bld (fun i hi j hj => SLe.app hi (fun _ => SLe.refl _) (fun h => ?_))) .nil)) (.cons .same (.cons (.hdl rfl rfl) (.cons (SlotLe.int hw64) (.cons (.hdl rfl rfl) .nil))))
      subst h
      rw [Nat.sub_self, hp]
      rcases j with _ | _ | _ | _ | _ | j <;> first | exact SLe.refl _ | omega
    · have hp : pR R L q = R (pkI L q).toNat := by
        replace h6 : pkT L q = false := h6
        simp only [pR, pickR, h6, cond_false]
      refine Need.mk ⟨show (q + 1) * 56 ≤ 140737488355328 by omega, by simp only [maxLen]; omega⟩ ?_
      refine Adj.back (x := q) (q + 1) hlt (by omega) (.cons (.bld (fun _ _ _ _ => SLe.refl _)) (.cons (.bld (fun i hi j hj => SLe.app hi (fun _ => SLe.refl _) (fun h => ?_))) .nil)) (.cons .same (.cons (.hdl rfl rfl) (.cons (SlotLe.int hw64) (.cons (.hdl rfl rfl) .nil))))
      subst h
      rw [Nat.sub_self, hp]
      rcases j with _ | _ | _ | _ | _ | j <;> first | exact SLe.refl _ | omega
  · obtain rfl : q = L.length := by have := of_decide_eq_false h3; omega
    refine Split.isF (decide_eq_false (by omega)) ?_
    refine Cut.mk (Adj.freeze 7 62 0 _ 5 65 _ rfl rfl (Adj.id ?_))
    exact EndM.mk ⟨.n 0, .two (.cons (DLe.refl _) (.cons (DLe.refl _) .nil)), (.cons (.bld (fun _ => rfl) (fun _ _ _ _ => SLe.refl _)) (.nil _)), .inl rfl⟩
theorem rrowD_detM {n : Nat} {R : Nat → BP} {kerf : Int} (V : VR n R kerf) {L : List Pk} (hL : PkOk n L) (hl : L.length ≤ 40) : DetM Try.prog 46 [.d (.one (rowS n R)), .d (.one (pS L))] [] (.tup [.one (rowS L.length (pR R L)), .one (i64 0)]) [] .none := by
  have n40 := V.n40
  refine detM_of_awp TTok mixed Try.func46 rfl rfl [19] (Nat.le_of_ble_eq_true rfl) (Nat.le_of_ble_eq_true rfl) (sigM_of rfl) ?_
  refine Loop.by (α := Nat) (fun k => [(0, .d (.one (rowS n R))), (1, .d (.one (pS L))), (6, tint k)]) (fun _ => []) (fun k => k ≤ n) (fun k => n - k)
    (Adj.at 0 (Nat.zero_le _) .nil (.cons .same (.cons .same (.cons .same .nil)))) (fun k hk => ?_)
  refine Split.mk (fun h3 => ?_) (fun h3 => ?_)
  · have hlt : k < n := by have := of_decide_eq_true h3; omega
    have hw64 : IntKind.i64.wrap ((k : Int) + 1) = ((k + 1 : Nat) : Int) := (w64_id ⟨by omega, by omega⟩).trans (by omega)
    refine Need.mk (by omega) ?_
    refine CallW.bool (rvalidp_det (R k)) (fun c hc => ?_)
    have hv : c = true := by rw [hc]; exact (V.vp k hlt).valid
    refine Split.isF (by rw [hv]; rfl) ?_
    exact Adj.back (x := k) (k + 1) hlt (by omega) .nil (.cons .same (.cons .same (.cons (SlotLe.int hw64) .nil)))
  refine Loop.by (α := Nat) (fun q => [(0, .d (.one (rowS n R))), (1, .d (.one (pS L))), (8, tint q), (7, .hdl 62 0)])
    (fun q => [(62, .bld 0 q 5 65 fun i j => match j with | 0 => .v (.string (pR R L i).nm) | 1 => .v (.string (pR R L i).gr) | 2 => i64 (pR R L i).len | 3 => i64 (pR R L i).left | _ => i64 (pR R L i).right)]) (fun q => q ≤ L.length) (fun q => L.length - q)
    (Adj.nil 7 62 5 65 (fun _ _ => .v Go.undef) rfl rfl (Adj.at 0 (Nat.zero_le _) ((.cons (.bld (fun _ h => absurd h (Nat.not_lt_zero _))) .nil)) (.cons .same (.cons .same (.cons .same (.cons (.hdl rfl rfl) .nil)))))) (fun q hq => ?_)
  refine Split.mk (fun h3 => ?_) (fun h3 => ?_)
  · have hlt : q < L.length := by have := of_decide_eq_true h3; omega
    have hw64 : IntKind.i64.wrap ((q : Int) + 1) = ((q + 1 : Nat) : Int) := (w64_id ⟨by omega, by omega⟩).trans (by omega)
    have hat : 0 ≤ pkI L q ∧ pkI L q < (n : Int) := ⟨Int.natCast_nonneg _, Int.ofNat_lt.2 (hL.at hlt)⟩
    have h4 : decide (pkI L q < 0) = false := decide_eq_false (by omega)
    have h5 : decide (pkI L q ≥ (n : Int)) = false := decide_eq_false (by omega)
    refine Need.mk (by omega) ?_
    refine Split.isF h4 ?_
    repeat' first | refine Split.isF h4 ?_ | refine Split.f ?_ | refine Need.mk (by omega) ?_ | fail
    refine Split.isF h5 ?_
    repeat' refine Need.mk (by first | omega | (rw [Int.toNat_natCast]; omega)) ?_
    refine Split.mk (fun h6 => ?_) (fun h6 => ?_)
    · have hp : pR R L q = turnedP (R (pkI L q).toNat) := by
        replace h6 : pkT L q = true := h6
        simp only [pR, pickR, h6, cond_true]
      refine CallW.mk' (rturned_det (R (pkI L q).toNat)) ?_
      refine Need.mk ⟨show (q + 1) * 56 ≤ 140737488355328 by omega, by simp only [maxLen]; omega⟩ ?_
      refine Adj.back (x := q) (q + 1) hlt (by omega) ((.cons (.bld (fun i hi j hj => SLe.app hi (fun _ => SLe.refl _) (fun h => ?_))) .nil)) (.cons .same (.cons .same (.cons (SlotLe.int hw64) (.cons (.hdl rfl rfl) .nil))))
      subst h
      rw [Nat.sub_self, hp]
      rcases j with _ | _ | _ | _ | _ | j <;> first | exact SLe.refl _ | omega
    · have hp : pR R L q = R (pkI L q).toNat := by
        replace h6 : pkT L q = false := h6
        simp only [pR, pickR, h6, cond_false]
      refine Need.mk ⟨show (q + 1) * 56 ≤ 140737488355328 by omega, by simp only [maxLen]; omega⟩ ?_
      refine Adj.back (x := q) (q + 1) hlt (by omega) ((.cons (.bld (fun i hi j hj => SLe.app hi (fun _ => SLe.refl _) (fun h => ?_))) .nil)) (.cons .same (.cons .same (.cons (SlotLe.int hw64) (.cons (.hdl rfl rfl) .nil))))
      subst h
      rw [Nat.sub_self, hp]
      rcases j with _ | _ | _ | _ | _ | j <;> first | exact SLe.refl _ | omega
  · obtain rfl : q = L.length := by have := of_decide_eq_false h3; omega
    refine Split.isF (decide_eq_false (by omega)) ?_
    refine Cut.mk (Adj.freeze 7 62 0 _ 5 65 _ rfl rfl (Adj.id ?_))
    exact EndM.mk ⟨.n 0, .two (.cons (DLe.refl _) (.cons (DLe.refl _) .nil)), (.nil _), .inl rfl⟩
theorem search_detM {n : Nat} {R : Nat → BP} {kerf : Int} (V : VR n R kerf) : ∀ (k : Nat) (L : List Pk) (st : Option (List Pk)), PkOk n L → L.length + k = n → StOk n st → (st ≠ none → 0 < n) →
    DetM Try.prog 45 [.d (.one (rowS n R)), tint kerf, .hdl (.n 2000) 1, .d (.one (pS (st.getD [])))] [.bld 1 L.length 2 38 (pG L)] (.d (.one (pS ((visF n R kerf k L st).getD [])))) [.bld 1 L.length 2 38 (pG L)] .none := by
  intro k
  induction k with
  | zero =>
    intro L st hL hk hst hn0
    have n40 := V.n40
    have hfull : L.length = n := by omega
    refine detM_of_awp TTok mixed Try.func45 rfl rfl [0, 45 + 2000000, 46 + 2000000] (Nat.le_of_ble_eq_true rfl) (Nat.le_of_ble_eq_true rfl) (sigM_of rfl) ?_
    refine Cut.id ?_
    refine Split.isT (by rw [hfull]; exact beq_self_eq_true _) ?_
    cases st with
    | none =>
      have hv : visF n R kerf 0 L none = some L := rfl
      rw [hv]
      refine Cut.id ?_
      refine Split.t ?_
      refine Need.mk (needApp2 (by first | omega | simp) (by decide)) ?_
      refine Cut.mk (Adj.freeze 8 27 2 _ 2 38 _ rfl rfl (Adj.id ?_))
      exact EndM.mk ⟨.n 0, .one (.d (DLe.one (SLe.slN2 (Nat.zero_add _) (fun i hi j hj => SLe.of_eq (by rw [blt_f (Nat.not_lt_zero i)]; rfl))))), (.cons (.bld (fun _ => rfl) (fun _ _ _ _ => SLe.refl _)) (.nil _)), .inl rfl⟩
    | some b =>
      obtain ⟨hb1, hb2⟩ := hst b rfl
      have hn0' := hn0 (by simp)
      have hv : visF n R kerf 0 L (some b) = if lenL R kerf L < lenL R kerf b then some L else some b := rfl
      rw [hv]
      refine Cut.id ?_
      refine Split.isF (show ((b.length : Int) == 0) = false by rw [hb1]; simp; omega) ?_
      refine CallM.mk' [2000] (rrowH_detM V hL (by omega)) ⟨.cons (.bld (fun _ _ _ _ => SLe.refl _)) .nil, .cons (.d (DLe.refl _)) (.cons (.hdl rfl rfl) .nil), rfl, rfl, fun h => absurd rfl h⟩ ?_
      refine CallM.mk' [] (rrowD_detM V hb2 (by omega)) ⟨.nil, .cons (.d (DLe.refl _)) (.cons (.d (DLe.refl _)) .nil), rfl, rfl, fun h => absurd rfl h⟩ ?_
      refine CallW.tup0 (rlength_det L.length (pR R L) kerf (by simp only [maxLen]; omega)) (pick_VR V hL (by omega)).err (fun x hx => ?_)
      refine CallW.tup0 (rlength_det b.length (pR R b) kerf (by simp only [maxLen]; omega)) (pick_VR V hb2 (by omega)).err (fun y hy => ?_)
      replace hx : x = lenL R kerf L := hx
      replace hy : y = lenL R kerf b := hy
      rw [← hx, ← hy]
      refine Cut.id ?_
      refine Split.mk (fun h => ?_) (fun h => ?_)
      · rw [if_pos (of_decide_eq_true h)]
        refine Need.mk (needApp2 (by first | omega | simp) (by decide)) ?_
        refine Cut.mk (Adj.freeze 8 57 2 _ 2 38 _ rfl rfl (Adj.id ?_))
        exact EndM.mk ⟨.n 0, .one (.d (DLe.one (SLe.slN2 (Nat.zero_add _) (fun i hi j hj => SLe.of_eq (by rw [blt_f (Nat.not_lt_zero i)]; rfl))))), (.cons (.bld (fun _ => rfl) (fun _ _ _ _ => SLe.refl _)) (.nil _)), .inl rfl⟩
      · rw [if_neg (of_decide_eq_false h)]
        refine Cut.id ?_
        exact EndM.mk ⟨.n 0, .one (.d (DLe.refl _)), (.cons (.bld (fun _ => rfl) (fun _ _ _ _ => SLe.refl _)) (.nil _)), .inl rfl⟩
  | succ k ih =>
    intro L st hL hk hst hn0
    have n40 := V.n40
    refine detM_of_awp TTok mixed Try.func45 rfl rfl [0, 45 + 2000000, 46 + 2000000] (Nat.le_of_ble_eq_true rfl) (Nat.le_of_ble_eq_true rfl) (sigM_of rfl) ?_
    refine Cut.id ?_
    refine Split.isF (by simp; omega) ?_
    rw [visF_succ]
    refine Loop.by (α := Nat) (fun q => [(0, .d (.one (rowS n R))), (1, tint kerf), (2, .hdl 2000 1), (3, .d (.one (pS ((visK n R kerf k L st q).getD [])))), (17, tint q)]) (fun _ => [(2000, .bld 1 L.length 2 38 (pG L))]) (fun q => q ≤ n) (fun q => n - q)
      (Adj.at 0 (Nat.zero_le _) (.cons (.bld (fun _ _ _ _ => SLe.refl _)) .nil) (.cons .same (.cons .same (.cons (.hdl rfl rfl) (.cons .same (.cons .same .nil)))))) (fun q hq => ?_)
    have hok := visK_ok n R kerf hL (by omega) hst q hq
    refine Cut.id ?_
    refine Split.mk (fun c1 => ?_) (fun c1 => ?_)
    · have hlt : q < n := by have := of_decide_eq_true c1; omega
      have hw64 : IntKind.i64.wrap ((q : Int) + 1) = ((q + 1 : Nat) : Int) := (w64_id ⟨by omega, by omega⟩).trans (by omega)
      have hst1 := visK_succ n R kerf k L st q
      refine CallW.bool (rused_det L q (by omega)) (fun c hc => ?_)
      refine Cut.id ?_
      refine Split.mk (fun c2 => ?_) (fun c2 => ?_)
      · have c2' : hasL L q = false := by rw [← hc]; simpa using c2
        rw [if_neg (by rw [c2']; simp)] at hst1
        refine Need.mk (needApp2 (by omega) (by decide)) ?_
        refine Need.mk (needApp2 (by omega) (by decide)) ?_
        refine CallM.mk' [71] (ih (L ++ [Pk.mk q false]) (visK n R kerf k L st q) (hL.snoc (p := Pk.mk q false) hlt) (by simp; omega) hok (fun _ => by omega)) ⟨.cons (mfitN2 (by simp) (fun i hi j hj => pG_snoc0 L q i j (by omega) hj (fun i j => ([] : List SV).getD (i * 2 + j) (.v Go.undef)))) .nil, .cons (.d (DLe.refl _)) (.cons (.d (DLe.refl _)) (.cons (.hdl rfl rfl) (.cons (.d (DLe.refl _)) .nil))), rfl, rfl, fun h => absurd rfl h⟩ ?_
        refine Need.mk (by simp; omega) ?_
        have ok2 := visF_ok n R kerf k _ _ (hL.snoc (p := Pk.mk q false) hlt) (by simp; omega) hok
        refine CallM.mk' [71] (ih (L ++ [Pk.mk q true]) (visF n R kerf k (L ++ [Pk.mk q false]) (visK n R kerf k L st q)) (hL.snoc (p := Pk.mk q true) hlt) (by simp; omega) ok2 (fun _ => by omega)) ⟨.cons (mfitN2 (by simp) (fun i hi j hj => pG_turn L q i j (by simp at hi; omega) hj)) .nil, .cons (.d (DLe.refl _)) (.cons (.d (DLe.refl _)) (.cons (.hdl rfl rfl) (.cons (.d (DLe.refl _)) .nil))), rfl, rfl, fun h => absurd rfl h⟩ ?_
        exact Adj.back (x := q) (q + 1) (by omega) (by omega) (.cons (.bld (fun _ _ _ _ => SLe.refl _)) .nil) (.cons .same (.cons .same (.cons (.hdl rfl rfl) (.cons (.data (DLe.of_eq (by rw [hst1]))) (.cons (SlotLe.int hw64) .nil)))))
      · have c2' : hasL L q = true := by rw [← hc]; simpa using c2
        rw [if_pos c2'] at hst1
        exact Adj.back (x := q) (q + 1) (by omega) (by omega) (.cons (.bld (fun _ _ _ _ => SLe.refl _)) .nil) (.cons .same (.cons .same (.cons (.hdl rfl rfl) (.cons (.data (DLe.of_eq (by rw [hst1]))) (.cons (SlotLe.int hw64) .nil)))))
    · obtain rfl : q = n := by have := of_decide_eq_false c1; omega
      refine Cut.id ?_
      exact EndM.mk ⟨.n 0, .one (.d (DLe.refl _)), (.cons (.bld (fun _ => rfl) (fun _ _ _ _ => SLe.refl _)) (.nil _)), .inl rfl⟩
theorem searchD_detM {n : Nat} {R : Nat → BP} {kerf : Int} (V : VR n R kerf) :
    DetM Try.prog 45 [.d (.one (rowS n R)), tint kerf, .d (.one (pS [])), .d (.one (pS []))] [] (.d (.one (pS (bestP n R kerf)))) [] .none := by
  have n40 := V.n40
  have hb := bestP_is n R kerf
  cases n with
  | zero =>
    refine detM_of_awp TTok mixed Try.func45 rfl rfl [0, 45 + 2000000, 46 + 2000000] (Nat.le_of_ble_eq_true rfl) (Nat.le_of_ble_eq_true rfl) (sigM_of rfl) ?_
    refine Cut.id ?_
    refine Split.t ?_
    refine Cut.id ?_
    refine Split.t ?_
    have hv : bestP 0 R kerf = [] := rfl
    rw [hv]
    refine Need.mk (needApp2 (by first | omega | simp) (by decide)) ?_
    refine Cut.mk (Adj.freeze 8 27 2 _ 2 38 _ rfl rfl (Adj.id ?_))
    exact EndM.mk ⟨.n 0, .one (.d (DLe.one (SLe.slN2 (Nat.zero_add _) (fun i hi j hj => SLe.of_eq (by rw [blt_f (Nat.not_lt_zero i)]; rfl))))), (.nil _), .inl rfl⟩
  | succ k =>
    have hbb : bestP (k + 1) R kerf = (visK (k + 1) R kerf k [] none (k + 1)).getD [] := by rw [← visF_succ, hb]; rfl
    refine detM_of_awp TTok mixed Try.func45 rfl rfl [0, 45 + 2000000, 46 + 2000000] (Nat.le_of_ble_eq_true rfl) (Nat.le_of_ble_eq_true rfl) (sigM_of rfl) ?_
    refine Cut.id ?_
    refine Split.isF (by simp; omega) ?_
    rw [hbb]
    obtain ⟨n, hn⟩ : ∃ n, n = k + 1 := ⟨_, rfl⟩
    obtain ⟨L, eL⟩ : ∃ L : List Pk, L = [] := ⟨_, rfl⟩
    obtain ⟨st, eS⟩ : ∃ st : Option (List Pk), st = none := ⟨_, rfl⟩
    have hL : PkOk n L := by rw [eL]; exact fun p hp => by simp at hp
    have hst : StOk n st := by rw [eS]; exact fun b hb => by cases hb
    have eSD : st.getD [] = [] := by rw [eS]; rfl
    have hk : L.length + (k + 1) = n := by rw [eL, hn]; simp
    have eP : pS ([] : List Pk) = pS (st.getD []) := by rw [eSD]
    rw [← hn] at V n40 ⊢
    rw [← eL, ← eS]
    refine Loop.by (α := Nat) (fun q => [(0, .d (.one (rowS n R))), (1, tint kerf), (2, .d (.one (pS L))), (3, .d (.one (pS ((visK n R kerf k L st q).getD [])))), (17, tint q)]) (fun _ => []) (fun q => q ≤ n) (fun q => n - q)
      (Adj.at 0 (Nat.zero_le _) .nil (.cons .same (.cons .same (.cons .same (.cons (.data (DLe.of_eq (by show DV.one (pS L) = DV.one (pS (st.getD [])); rw [eSD, eL]))) (.cons .same .nil)))))) (fun q hq => ?_)
    have hok := visK_ok n R kerf hL (by omega) hst q hq
    refine Cut.id ?_
    refine Split.mk (fun c1 => ?_) (fun c1 => ?_)
    · have hlt : q < n := by have := of_decide_eq_true c1; omega
      have hw64 : IntKind.i64.wrap ((q : Int) + 1) = ((q + 1 : Nat) : Int) := (w64_id ⟨by omega, by omega⟩).trans (by omega)
      have hst1 := visK_succ n R kerf k L st q
      refine CallW.bool (rused_det L q (by omega)) (fun c hc => ?_)
      refine Cut.id ?_
      refine Split.mk (fun c2 => ?_) (fun c2 => ?_)
      · have c2' : hasL L q = false := by rw [← hc]; simpa using c2
        rw [if_neg (by rw [c2']; simp)] at hst1
        refine Need.mk (needApp2 (by omega) (by decide)) ?_
        refine Need.mk (needApp2 (by omega) (by decide)) ?_
        refine CallM.mk' [71] (search_detM V k (L ++ [Pk.mk q false]) (visK n R kerf k L st q) (hL.snoc (p := Pk.mk q false) hlt) (by simp; omega) hok (fun _ => by omega)) ⟨.cons (mfitN2 (by simp) (fun i hi j hj => pG_snoc0 L q i j (by omega) hj (fun i j => ([] : List SV).getD (i * 2 + j) (.v Go.undef)))) .nil, .cons (.d (DLe.refl _)) (.cons (.d (DLe.refl _)) (.cons (.hdl rfl rfl) (.cons (.d (DLe.refl _)) .nil))), rfl, rfl, fun h => absurd rfl h⟩ ?_
        refine Need.mk (by simp; omega) ?_
        have ok2 := visF_ok n R kerf k _ _ (hL.snoc (p := Pk.mk q false) hlt) (by simp; omega) hok
        refine CallM.mk' [71] (search_detM V k (L ++ [Pk.mk q true]) (visF n R kerf k (L ++ [Pk.mk q false]) (visK n R kerf k L st q)) (hL.snoc (p := Pk.mk q true) hlt) (by simp; omega) ok2 (fun _ => by omega)) ⟨.cons (mfitN2 (by simp) (fun i hi j hj => pG_turn L q i j (by simp at hi; omega) hj)) .nil, .cons (.d (DLe.refl _)) (.cons (.d (DLe.refl _)) (.cons (.hdl rfl rfl) (.cons (.d (DLe.refl _)) .nil))), rfl, rfl, fun h => absurd rfl h⟩ ?_
        exact Adj.back (x := q) (q + 1) (by omega) (by omega) .nil (.cons .same (.cons .same (.cons .same (.cons (.data (DLe.of_eq (by rw [hst1]))) (.cons (SlotLe.int hw64) .nil)))))
      · have c2' : hasL L q = true := by rw [← hc]; simpa using c2
        rw [if_pos c2'] at hst1
        exact Adj.back (x := q) (q + 1) (by omega) (by omega) .nil (.cons .same (.cons .same (.cons .same (.cons (.data (DLe.of_eq (by rw [hst1]))) (.cons (SlotLe.int hw64) .nil)))))
    · obtain rfl : q = n := by have := of_decide_eq_false c1; omega
      refine Cut.id ?_
      exact EndM.mk ⟨.n 0, .one (.d (DLe.of_eq (by show DV.one (pS ((visK q R kerf k L st q).getD [])) = DV.one (pS ((visK q R kerf k L st q).getD L)); rw [eL]))), (.nil _), .inl rfl⟩
end Go.Vm
