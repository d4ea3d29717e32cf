/-
  Layer 9's rings: the contracts of symmetry.Ring, its specification, SymmetryRing and SymmetryPlaces.
  Layer 9's rings: the contract of SymmetryPlaces.
-/
import Derived.Test.YtgmlblmkcbcgaaaRingU
import Derived.Test.YtgmlblmkcbcgaaaSymC
namespace Go.Vm
set_option maxRecDepth 20000
set_option linter.unusedVariables false
set_option linter.unusedSimpArgs false
open Go Go.RowKit Go.Proofs
namespace Sg

def fP (t : Int) (v : V2) : V2 := match t with
  | 1 => ⟨-v.y, v.x⟩ | 2 => ⟨-v.x, -v.y⟩ | 3 => ⟨v.y, -v.x⟩ | 4 => ⟨-v.x, v.y⟩ | 5 => ⟨-v.y, -v.x⟩ | 6 => ⟨v.x, -v.y⟩ | 7 => ⟨v.y, v.x⟩ | _ => v
theorem Iso.to {f g : V2 → V2} {m n : Bool} (h : Iso f m) (e : ∀ v, g v = f v) (k : n = m) : Iso g n := by
  obtain rfl : g = f := funext e
  exact k ▸ h
theorem iso_t {t : Int} (h : validB t = true) : Iso (fP t) (mirB t) := by
  rcases valid_cases h with rfl | rfl | rfl | rfl | rfl | rfl | rfl | rfl
  · exact Iso.id.to (fun _ => rfl) rfl
  · exact (isoX.comp isoT).to (fun _ => rfl) rfl
  · exact ((isoX.comp isoT).comp (isoX.comp isoT)).to (fun _ => rfl) rfl
  · exact (isoT.comp isoX).to (fun _ => rfl) rfl
  · exact isoX.to (fun _ => rfl) rfl
  · exact (isoX.comp (isoT.comp isoX)).to (fun _ => rfl) rfl
  · exact (isoT.comp (isoX.comp isoT)).to (fun _ => rfl) rfl
  · exact isoT.to (fun _ => rfl) rfl
def sV (t : Int) (v : V2) : V2 := ⟨vx t v.x v.y, vy t v.x v.y⟩
theorem ng_in {x : Int} (h : -4000 ≤ x ∧ x ≤ 4000) : ng x = -x := by
  show w64 (0 - x) = -x
  rw [wid' (by omega) (by omega)]; omega
theorem sV_eq {t : Int} (h : validB t = true) {v : V2} (hv : In 4000 v) : sV t v = fP t v := by
  obtain ⟨h1, h2, h3, h4⟩ := hv
  have ex := ng_in ⟨h1, h2⟩
  have ey := ng_in ⟨h3, h4⟩
  rcases valid_cases h with rfl | rfl | rfl | rfl | rfl | rfl | rfl | rfl
  · rfl
  · show (⟨ng v.y, v.x⟩ : V2) = ⟨-v.y, v.x⟩; rw [ey]
  · show (⟨ng v.x, ng v.y⟩ : V2) = ⟨-v.x, -v.y⟩; rw [ex, ey]
  · show (⟨v.y, ng v.x⟩ : V2) = ⟨v.y, -v.x⟩; rw [ex]
  · show (⟨ng v.x, v.y⟩ : V2) = ⟨-v.x, v.y⟩; rw [ex]
  · show (⟨ng v.y, ng v.x⟩ : V2) = ⟨-v.y, -v.x⟩; rw [ex, ey]
  · show (⟨v.x, ng v.y⟩ : V2) = ⟨v.x, -v.y⟩; rw [ey]
  · rfl
def symL (t : Int) (l : List V2) : List V2 := l.map (sV t)
theorem symL_len (t : Int) (l : List V2) : (symL t l).length = l.length := by simp [symL]
theorem symL_at (t : Int) (l : List V2) (i : Nat) (hi : i < l.length) : (symL t l).getD i ⟨0, 0⟩ = sV t (gt l i) := map_at (sV t) hi
theorem symL_eq {t : Int} (h : validB t = true) {l : List V2} (hn : nearR l = true) : symL t l = l.map (fP t) := by
  refine list_ext (by rw [symL_len, List.length_map]) (fun i hi => ?_)
  rw [symL_len] at hi
  rw [map_at (fP t) hi]
  exact (symL_at t l i hi).trans (sV_eq h ((near_in hn i).up (by decide)))
theorem near_R {l : List V2} (hn : nearR l = true) (i : Nat) : R64 (gt l i).x ∧ R64 (gt l i).y := by
  obtain ⟨h1, h2, h3, h4⟩ := near_in hn i
  exact ⟨⟨by omega, by omega⟩, ⟨by omega, by omega⟩⟩
def symR (t : Int) (l : List V2) : List V2 × Int := if validB t = false then ([], 17) else if validR l = false then ([], 11) else (beginL (isoR (fP t) (mirB t) l), 0)
theorem sring_det (t : Int) (l : List V2) (hl : l.length ≤ 10000) : Det Try.prog 14 [.one (i64 t), .one (vlS l)] (ringE (symR t l).1 (symR t l).2) := by
  refine det_of_awp TTok mixed Try.func14 rfl rfl [50 + 2000000] (Nat.le_of_ble_eq_true rfl) ?_
  refine CallW.bool (Vm.valid_det t) (fun b hb => ?_)
  refine Split.mk (fun h => ?_) (fun h => ?_)
  · have hv : validB t = false := by rw [← hb]; simpa using h
    refine Fin.ringN ?_ ?_ <;> simp [symR, hv]
  have hv : validB t = true := by rw [← hb]; simpa using h
  refine CallW.bool (valid_det' l hl) (fun c hc => ?_)
  refine Split.mk (fun h => ?_) (fun h => ?_)
  · have hw : validR l = false := by rw [← hc]; simpa using h
    refine Fin.ringN ?_ ?_ <;> simp [symR, hv, hw]
  have hw : validR l = true := by rw [← hc]; simpa using h
  have hr := ring_ok.1 hw
  have hok := iso_ok (iso_t hv) hr
  have e : symR t l = (beginL (isoR (fP t) (mirB t) l), 0) := by simp [symR, hv, hw]
  rw [e]
  have hu := symL_eq hv hr.near
  refine Loop.by (α := Nat) (fun k => [(0, tint t), (17, .d (.one (vlS l))), (18, tint l.length), (19, tint k), (6, .hdl 28 0)]) (fun k => [(28, .bld 0 k 2 32 (vG (symL t l)))]) (fun k => k ≤ l.length) (fun k => l.length - k)
    (Adj.nil 6 28 2 32 (vG (symL t l)) rfl rfl (Adj.at 0 (Nat.zero_le _) (.cons (.bld (fun _ h => absurd h (Nat.not_lt_zero _))) .nil) (.cons .same (.cons .same (.cons .same (.cons .same (.cons (.hdl rfl rfl) .nil))))))) (fun k hk => ?_)
  refine Split.mk (fun h => ?_) (fun h => ?_)
  · have hlt : k < l.length := by have := of_decide_eq_true h; omega
    refine Need.mk (by omega) ?_
    refine CallW.v (show Det Try.prog 24 [.one (i64 t), vD (gt l k)] (.d (vD (sV t (gt l k)))) from vec_det t _ _ (near_R hr.near k).1 (near_R hr.near k).2) (fun u hu => ?_)
    refine Need.mk (needApp (by omega) (by decide)) ?_
    refine Adj.back (x := k) (k + 1) (by omega) (by omega) (.cons (.bld (fun i hi j hj => vG_at (symL t l) u k i j hi hj (by rw [symL_at t l k hlt, hu]))) .nil) (.cons .same (.cons .same (.cons .same (.cons (SlotLe.int ?_) (.cons (.hdl rfl rfl) .nil)))))
    rw [Sg.hw _ (by omega) (by omega)]; omega
  · have he : k = (symL t l).length := by have := of_decide_eq_false h; rw [symL_len]; omega
    subst he
    have hL : (symL t l).length ≤ 10000 := by rw [symL_len]; exact hl
    refine CallW.bool (mir_det t) (fun m hm => ?_)
    refine Split.mk (fun h => ?_) (fun h => ?_)
    · have hmt : mirB t = true := by rw [← hm]; exact h
      have hi : isoR (fP t) (mirB t) l = (symL t l).reverse := by rw [hmt, hu]; rfl
      rw [hi] at hok ⊢
      refine CallM.mk' [28] (reverse_detM (symL t l) (by omega)) ⟨.cons (.bld (fun _ _ _ _ => SLe.refl _)) .nil, .cons (.hdl rfl rfl) .nil, rfl, rfl, fun h => absurd rfl h⟩ ?_
      refine CallW.le ((canon_det (symL t l).reverse (by rw [List.length_reverse]; exact hL)).eq (by rw [canonR, if_pos (ring_ok.2 hok)])) (.cons (DLe.one (SLe.slN (by rw [List.length_reverse]) (fun _ _ _ _ => SLe.refl _))) .nil) ?_
      exact Fin.ringE rfl rfl
    · have hmf : mirB t = false := by rw [← hm]; exact h
      have hi : isoR (fP t) (mirB t) l = symL t l := by rw [hmf, hu]; rfl
      rw [hi] at hok ⊢
      refine CallW.mk' ((canon_det (symL t l) hL).eq (by rw [canonR, if_pos (ring_ok.2 hok)])) ?_
      exact Fin.ringE rfl rfl
theorem rsring_det (t : Int) (l : List V2) (hl : l.length ≤ 10000) : Det Try.prog 15 [.one (i64 t), .one (vlS l)] (ringE (symR t l).1 (symR t l).2) := by
  refine det_of_awp TTok mixed Try.func15 rfl rfl [] (Nat.le_of_ble_eq_true rfl) ?_
  refine CallW.bool (Vm.rvalid_det t) (fun b hb => ?_)
  refine Split.mk (fun h => ?_) (fun h => ?_)
  · have hv : validB t = false := by rw [← hb]; simpa using h
    refine Fin.ringN ?_ ?_ <;> simp [symR, hv]
  have hv : validB t = true := by rw [← hb]; simpa using h
  refine CallW.bool (rvalid_det8 l hl) (fun c hc => ?_)
  refine Split.mk (fun h => ?_) (fun h => ?_)
  · have hw : validR l = false := by rw [← hc]; simpa using h
    refine Fin.ringN ?_ ?_ <;> simp [symR, hv, hw]
  have hw : validR l = true := by rw [← hc]; simpa using h
  have hr := ring_ok.1 hw
  have e : symR t l = (beginL (isoR (fP t) (mirB t) l), 0) := by simp [symR, hv, hw]
  rw [e]
  have hu := symL_eq hv hr.near
  refine Loop.by (α := Nat) (fun k => [(0, tint t), (1, .d (.one (vlS l))), (7, tint k), (6, .hdl 28 0)]) (fun k => [(28, .bld 0 k 2 32 (vG (symL t l)))]) (fun k => k ≤ l.length) (fun k => l.length - k)
    (Adj.nil 6 28 2 32 (vG (symL t l)) rfl rfl (Adj.at 0 (Nat.zero_le _) (.cons (.bld (fun _ h => absurd h (Nat.not_lt_zero _))) .nil) (.cons .same (.cons .same (.cons .same (.cons (.hdl rfl rfl) .nil)))))) (fun k hk => ?_)
  refine Split.mk (fun h => ?_) (fun h => ?_)
  · have hlt : k < l.length := by have := of_decide_eq_true h; omega
    refine Need.mk (by omega) ?_
    refine CallW.v (show Det Try.prog 52 [.one (i64 t), vD (gt l k)] (.d (vD (sV t (gt l k)))) from rvec_det t _ _ (near_R hr.near k).1 (near_R hr.near k).2) (fun u hu => ?_)
    refine Need.mk (needApp (by omega) (by decide)) ?_
    refine Adj.back (x := k) (k + 1) (by omega) (by omega) (.cons (.bld (fun i hi j hj => vG_at (symL t l) u k i j hi hj (by rw [symL_at t l k hlt, hu]))) .nil) (.cons .same (.cons .same (.cons (SlotLe.int ?_) (.cons (.hdl rfl rfl) .nil))))
    rw [Sg.hw _ (by omega) (by omega)]; omega
  · have he : k = (symL t l).length := by have := of_decide_eq_false h; rw [symL_len]; omega
    subst he
    have hL : (symL t l).length ≤ 10000 := by rw [symL_len]; exact hl
    refine Split.mk (fun h => ?_) (fun h => ?_)
    · have hmt : mirB t = true := by
        have := of_decide_eq_true h
        rw [mirB, hv, Bool.true_and]; exact decide_eq_true (by omega)
      have hi : isoR (fP t) (mirB t) l = (symL t l).reverse := by rw [hmt, hu]; rfl
      rw [hi]
      refine CallW.mk' (rreverse_det (symL t l) hL) ?_
      refine CallW.mk' (begin_det (symL t l).reverse (by rw [List.length_reverse]; exact hL)) ?_
      exact Fin.ringE rfl rfl
    · have hmf : mirB t = false := by
        have := of_decide_eq_false h
        rw [mirB, hv, Bool.true_and]; exact decide_eq_false (by omega)
      have hi : isoR (fP t) (mirB t) l = symL t l := by rw [hmf, hu]; rfl
      rw [hi]
      refine CallW.mk' (begin_det (symL t l) hL) ?_
      exact Fin.ringE rfl rfl
set_option maxRecDepth 100000 in
theorem awake9_det : Det Try.prog 12 [] (tbool true) := by
  refine det_of_awp TTok mixed Try.func12 rfl rfl [] (Nat.le_of_ble_eq_true rfl) ?_
  repeat' first | refine CallW.mk' (vec_det _ _ _ (by decide) (by decide)) ?_ | refine CallW.mk' (then_det _ _) ?_ | refine CallW.mk' (Vm.valid_det _) ?_ | refine EqW.mk' (eq32 _ _ _ _) ?_ | refine Split.isT (by decide) ?_ | refine Need.mk (by kernel_rfl) ?_ | refine Fin.bool ?_
  all_goals rfl
theorem symR_len (t : Int) (l : List V2) : (symR t l).1.length ≤ l.length := by
  unfold symR
  split
  · exact Nat.zero_le _
  split
  · exact Nat.zero_le _
  · show (beginL _).length ≤ _
    rw [beginL, rotL_len, iso_len]
    exact Nat.le_refl _
theorem lsring_det (t : Int) (l : List V2) (hl : l.length ≤ maxLen) : Det Try.prog 3 [.one (i64 t), .one (vlS l)] (tbool true) := by
  refine det_of_awp TTok mixed Try.func3 rfl rfl [] (Nat.le_of_ble_eq_true rfl) ?_
  refine CallW.mk' awake9_det ?_
  repeat' first | refine Split.t ?_ | refine Split.f ?_ | fail
  refine CallW.bool (few_det l hl) (fun b hb => ?_)
  refine Split.mk (fun h => ?_) (fun h => ?_)
  · exact Fin.rfl'
  have h6 : l.length ≤ 60 := by
    have : b = true := by simpa using h
    exact of_decide_eq_true (by rw [← hb, this])
  have hlen : (symR t l).1.length ≤ 10000 := Nat.le_trans (symR_len t l) (by omega)
  refine CallW.ring (sring_det t l (by omega)) (fun e he => ?_)
  refine CallW.ring (rsring_det t l (by omega)) (fun f hf => ?_)
  refine CallW.mk' ((rsame_det _ _ hlen).eq (by rw [decide_eq_true rfl])) ?_
  obtain rfl : e = f := he.trans hf.symm
  repeat' first | refine Split.t ?_ | refine Split.f ?_ | fail
  refine Fin.bool ?_
  simp
theorem lsring_all : ∀ dvs, TypL Try.prog Try.f3.params.toList dvs → Det Try.prog 3 dvs (tbool true) := by
  intro dvs h
  obtain ⟨v0, r0, rfl, h0, q0⟩ := TypL.inv_cons (t := 3) (ts := [23]) h
  obtain ⟨v1, r1, rfl, h1, q1⟩ := TypL.inv_cons (t := 23) (ts := []) q0
  obtain rfl := TypL.inv_nil q1
  obtain ⟨t, rfl, _⟩ := TypD.i64 (by kernel_rfl) rfl h0
  obtain ⟨l, hl, hle⟩ := ring_of h1
  exact Det.le (.cons (DLe.refl _) (.cons hle .nil)) (lsring_det t l hl)
end Sg
end Go.Vm
namespace Go.Vm
set_option maxRecDepth 20000
set_option linter.unusedVariables false
set_option linter.unusedSimpArgs false
open Go Go.RowKit Go.Proofs
namespace Sg

theorem inv_facts {t : Int} (h : validB t = true) : validB (invT t) = true ∧ mirB (invT t) = mirB t ∧ ∀ v, fP (invT t) (fP t v) = v := by
  have neg : ∀ v : V2, (⟨- -v.x, - -v.y⟩ : V2) = v ∧ (⟨- -v.x, v.y⟩ : V2) = v ∧ (⟨v.x, - -v.y⟩ : V2) = v := fun v => by
    obtain ⟨x, y⟩ := v
    refine ⟨?_, ?_, ?_⟩ <;> simp
  rcases valid_cases h with rfl | rfl | rfl | rfl | rfl | rfl | rfl | rfl
  · rw [show invT 0 = 0 by decide +kernel]; exact ⟨rfl, rfl, fun v => rfl⟩
  · rw [show invT 1 = 3 by decide +kernel]; exact ⟨rfl, rfl, fun v => (neg v).2.2⟩
  · rw [show invT 2 = 2 by decide +kernel]; exact ⟨rfl, rfl, fun v => (neg v).1⟩
  · rw [show invT 3 = 1 by decide +kernel]; exact ⟨rfl, rfl, fun v => (neg v).2.1⟩
  · rw [show invT 4 = 4 by decide +kernel]; exact ⟨rfl, rfl, fun v => (neg v).2.1⟩
  · rw [show invT 5 = 5 by decide +kernel]; exact ⟨rfl, rfl, fun v => (neg v).1⟩
  · rw [show invT 6 = 6 by decide +kernel]; exact ⟨rfl, rfl, fun v => (neg v).2.2⟩
  · rw [show invT 7 = 7 by decide +kernel]; exact ⟨rfl, rfl, fun v => rfl⟩
theorem rotL_map (f : V2 → V2) (l : List V2) (k : Nat) : (rotL l k).map f = rotL (l.map f) k := by simp [rotL, List.map_drop, List.map_take]
theorem rotL_rev (l : List V2) (k : Nat) : (rotL l.reverse k).reverse = rotL l (l.length - k) := by
  unfold rotL
  rw [List.reverse_append, List.take_reverse, List.drop_reverse, List.reverse_reverse, List.reverse_reverse]
/-- Mapped back, a ring is itself, begun elsewhere. -/
theorem back_rot {t : Int} (h : validB t = true) (l : List V2) : ∃ k, Rot l (isoR (fP (invT t)) (mirB (invT t)) (beginL (isoR (fP t) (mirB t) l))) k := by
  obtain ⟨_, e2, e3⟩ := inv_facts h
  have em : ∀ l : List V2, (l.map (fP t)).map (fP (invT t)) = l := fun l => by
    rw [List.map_map]
    refine (List.map_congr_left (g := id) (fun v _ => e3 v)).trans (List.map_id _)
  rw [e2, beginL]
  have hk : minIx (isoR (fP t) (mirB t) l) ≤ l.length := by
    have := lk_le (isoR (fP t) (mirB t) l) (isoR (fP t) (mirB t) l).length
    rw [iso_len] at this
    unfold minIx
    rw [iso_len]; exact this
  generalize minIx (isoR (fP t) (mirB t) l) = k at hk
  unfold isoR
  cases mirB t with
  | false =>
    refine ⟨k, ?_⟩
    show Rot l ((rotL (l.map (fP t)) k).map (fP (invT t))) k
    rw [rotL_map, em]
    exact rot_rotL l k hk
  | true =>
    refine ⟨l.length - k, ?_⟩
    show Rot l ((rotL (l.map (fP t)).reverse k).map (fP (invT t))).reverse (l.length - k)
    rw [rotL_map, List.map_reverse, em, rotL_rev]
    exact rot_rotL l _ (Nat.sub_le _ _)
theorem lplaces_det (t : Int) (l : List V2) (p : V2) (ht : InK .u8 t) (hp : R64 p.x ∧ R64 p.y) (hl : l.length ≤ maxLen) : Det Try.prog 4 [.one (.v (.int .u8 t)), .one (vlS l), vD p] (tbool true) := by
  have h8 : In8 (IntKind.i64.wrap (t.tmod 8)) := in8_u8 ht
  refine det_of_awp TTok mixed Try.func4 rfl rfl [] (Nat.le_of_ble_eq_true rfl) ?_
  refine CallW.mk' awake9_det ?_
  repeat' first | refine Split.t ?_ | refine Split.f ?_ | fail
  refine CallW.bool (few_det l hl) (fun b hb => ?_)
  refine Split.mk (fun h => ?_) (fun h => ?_)
  · repeat' first | refine Split.t ?_ | refine Split.f ?_ | refine Split.isT h ?_ | fail
    exact Fin.rfl'
  have h6 : l.length ≤ 60 := by
    have : b = true := by simpa using h
    exact of_decide_eq_true (by rw [← hb, this])
  repeat' first | refine Split.t ?_ | refine Split.f ?_ | refine Split.isF h ?_ | fail
  refine CallW.bool (rvalid_det8 l (by omega)) (fun c hc => ?_)
  repeat' first | refine Split.t ?_ | refine Split.f ?_ | refine Split.isF h ?_ | fail
  refine Split.mk (fun h1 => ?_) (fun h1 => ?_)
  · repeat' first | refine Split.t ?_ | refine Split.f ?_ | refine Split.isF h ?_ | refine Split.isT h1 ?_ | fail
    exact Fin.rfl'
  have hr : RingOk l := ring_ok.1 (by rw [← hc]; simpa using h1)
  repeat' first | refine Split.t ?_ | refine Split.f ?_ | refine Split.isF h ?_ | refine Split.isF h1 ?_ | fail
  refine CallW.bool (within_det p 2000) (fun d hd => ?_)
  repeat' first | refine Split.t ?_ | refine Split.f ?_ | refine Split.isF h ?_ | refine Split.isF h1 ?_ | fail
  refine Split.mk (fun h2 => ?_) (fun h2 => ?_)
  · exact Fin.rfl'
  have hip : In 2000 p := In.of (by decide) (by decide) (by rw [← hd]; simpa using h2)
  repeat' first | refine Need.mk ⟨_, rfl⟩ ?_ | refine Need.mk (by decide) ?_ | fail
  generalize IntKind.i64.wrap (t.tmod 8) = n at h8
  have hv := h8.valid
  have hI := iso_t hv
  obtain ⟨i1, i2, i3⟩ := inv_facts hv
  have hU := iso_ok hI hr
  have hR := begin_rot (isoR (fP n) (mirB n) l)
  have hA := hR.ok hU
  have hlA : (beginL (isoR (fP n) (mirB n) l)).length ≤ 10000 := by rw [beginL, rotL_len, iso_len]; omega
  have e1 : symR n l = (beginL (isoR (fP n) (mirB n) l), 0) := by simp [symR, hv, ring_ok.2 hr]
  obtain ⟨k, hk⟩ := back_rot hv l
  have e2 : symR (invT n) (beginL (isoR (fP n) (mirB n) l)) = (beginL l, 0) := by
    simp only [symR, i1, ring_ok.2 hA]
    rw [if_neg (by simp), if_neg (by simp), begin_of_rot hk hr]
  have ecA : canonR (beginL (isoR (fP n) (mirB n) l)) = beginL (isoR (fP n) (mirB n) l) := by rw [canonR, if_pos (ring_ok.2 hA), begin_begin]
  have ecl : canonR l = beginL l := by rw [canonR, if_pos (ring_ok.2 hr)]
  have ea : area2R (beginL (isoR (fP n) (mirB n) l)) = area2R l := by
    unfold area2R
    rw [if_pos (ring_ok.2 hr), if_pos (ring_ok.2 hA), area_eq hA.near hlA, area_eq hr.near (by omega), hR.area, iso_area hI]
  have ev : convexR (beginL (isoR (fP n) (mirB n) l)) = convexR l := by rw [hR.convex, iso_convex hI hr]
  have ew : whereV (beginL (isoR (fP n) (mirB n) l)) (sV n p) = whereV l p := by
    rw [whereV_eq hA, whereV_eq hr, hR.where, sV_eq hv (hip.up (by decide)), iso_where hI (by have := hr.three; omega)]
  have hvA := ring_ok.2 hA
  have hbl : (beginL l).length ≤ 10000 := by rw [beginL, rotL_len]; omega
  refine CallW.mk' ((sring_det n l (by omega)).eq (by rw [e1])) ?_
  generalize beginL (isoR (fP n) (mirB n) l) = A at *
  repeat' first | refine Split.t ?_ | refine Split.f ?_ | fail
  refine CallW.mk' ((rvalid_det8 A hlA).eq (by rw [hvA])) ?_
  repeat' first | refine Split.t ?_ | refine Split.f ?_ | fail
  refine CallW.mk' ((rcanon_det A hlA).eq (by rw [ecA])) ?_
  repeat' first | refine Split.t ?_ | refine Split.f ?_ | fail
  refine CallW.mk' ((rsame_det A A hlA).eq (by rw [decide_eq_true rfl])) ?_
  repeat' first | refine Split.t ?_ | refine Split.f ?_ | fail
  refine CallW.int ((rarea2_det A hlA).eq (by rw [ea])) (fun x hx => ?_)
  repeat' first | refine Split.t ?_ | refine Split.f ?_ | fail
  refine CallW.int (rarea2_det l (by omega)) (fun x' hx' => ?_)
  obtain rfl : x = x' := hx.trans hx'.symm
  have ex : (x != x) = false := by simp
  repeat' first | refine Split.t ?_ | refine Split.f ?_ | refine Split.isF ex ?_ | fail
  refine CallW.bool ((rconvex_det A hlA).eq (by rw [ev])) (fun y hy => ?_)
  repeat' first | refine Split.t ?_ | refine Split.f ?_ | refine Split.isF ex ?_ | fail
  refine CallW.bool (rconvex_det l (by omega)) (fun y' hy' => ?_)
  obtain rfl : y = y' := hy.trans hy'.symm
  have ey : (y != y) = false := by simp
  repeat' first | refine Need.mk rfl ?_ | refine Split.t ?_ | refine Split.f ?_ | refine Split.isF ex ?_ | refine Split.isF ey ?_ | fail
  refine CallW.mk' (inv_det n) ?_
  refine CallW.mk' ((sring_det (invT n) A hlA).eq (by rw [e2])) ?_
  repeat' first | refine Split.t ?_ | refine Split.f ?_ | fail
  refine CallW.mk' ((rcanon_det l (by omega)).eq (by rw [ecl])) ?_
  repeat' first | refine Split.t ?_ | refine Split.f ?_ | fail
  refine CallW.mk' ((rsame_det (beginL l) (beginL l) hbl).eq (by rw [decide_eq_true rfl])) ?_
  repeat' first | refine Split.t ?_ | refine Split.f ?_ | fail
  refine CallW.mk' (show Det Try.prog 24 [.one (i64 n), vD p] (.d (vD (sV n p))) from vec_det n _ _ hp.1 hp.2) ?_
  repeat' first | refine Split.t ?_ | refine Split.f ?_ | fail
  refine CallW.int ((rwhereV_det A (sV n p) hlA).eq (by rw [ew])) (fun z hz => ?_)
  repeat' first | refine Split.t ?_ | refine Split.f ?_ | fail
  refine CallW.int (rwhereV_det l p (by omega)) (fun z' hz' => ?_)
  obtain rfl : z = z' := hz.trans hz'.symm
  repeat' first | refine Split.t ?_ | refine Split.f ?_ | fail
  refine Need.mk (by kernel_rfl) ?_
  refine Fin.bool ?_
  simp
theorem lplaces_all : ∀ dvs, TypL Try.prog Try.f4.params.toList dvs → Det Try.prog 4 dvs (tbool true) := by
  intro dvs h
  obtain ⟨v0, r0, rfl, h0, q0⟩ := TypL.inv_cons (t := 5) (ts := [23, 32]) h
  obtain ⟨v1, r1, rfl, h1, q1⟩ := TypL.inv_cons (t := 23) (ts := [32]) q0
  obtain ⟨v2, r2, rfl, h2, q2⟩ := TypL.inv_cons (t := 32) (ts := []) q1
  obtain rfl := TypL.inv_nil q2
  obtain ⟨t, rfl, ht⟩ := TypD.int (k := .u8) (by kernel_rfl) rfl h0
  obtain ⟨l, hl, hle⟩ := ring_of h1
  obtain ⟨p, rfl, hp⟩ := vecIn h2
  exact Det.le (.cons (DLe.refl _) (.cons hle (.cons (DLe.refl _) .nil))) (lplaces_det t l p ht hp hl)
end Sg
end Go.Vm
