/-
  Layer 37, plain: the reference's best value is the program's; what a knapsack's taken items add up to.
-/
import Derived.Test.YtlpkgpldamhhbaaStpM
namespace Go.Vm
set_option maxRecDepth 20000
set_option linter.unusedVariables false
set_option linter.unusedSimpArgs false
open Go Go.RowKit Go.Proofs
namespace St

theorem gV_mono {its : List Itm} {M : Int} (H : Its its M) {c d : Nat} (h : c ≤ d) : gV its c ≤ gV its d := by
  obtain ⟨L, h1, h2, h3⟩ := gV_ach H (c + 1) c (Nat.lt_succ_self _)
  rw [← h3]
  exact gV_ub H L d h1 (by omega)
theorem fB_eq {its : List Itm} {M : Int} (H : Its its M) {T V : List Int} {c : Nat} (hT : ∀ j, j < c → T.getD j 0 = V.getD j 0) : ∀ n, n ≤ its.length → fB (its.map Itm.s) (its.map Itm.v) T c n = (kBest its V c n).1
  | 0, _ => rfl
  | n + 1, hn => by
    have ih := fB_eq H hT n (by omega)
    have gs : iget (its.map Itm.s) n = (itget its n).s := getD_map Itm.s its it0 0 n (by omega)
    have gv : iget (its.map Itm.v) n = (itget its n).v := getD_map Itm.v its it0 0 n (by omega)
    obtain ⟨s1, s2⟩ := H.s n (by omega)
    rw [fB, kBest, gs, gv]
    by_cases hs : (itget its n).s ≤ c
    · rw [if_pos hs, hT _ (by omega), ih]
      by_cases hv : V.getD (c - (itget its n).s.toNat) 0 + (itget its n).v > (kBest its V c n).1
      · rw [if_pos hv, if_pos ⟨hs, hv⟩]
      · rw [if_neg hv, if_neg (fun q => hv q.2)]
    · rw [if_neg hs, if_neg (fun q => hs q.1)]
      exact ih
theorem fE_eq {its : List Itm} {M : Int} (H : Its its M) : ∀ n c, c < n → fE (its.map Itm.s) (its.map Itm.v) (fT (its.map Itm.s) (its.map Itm.v) c) c = gV its c
  | 0, c, h => absurd h (Nat.not_lt_zero _)
  | n + 1, c, h => by
    have hT : ∀ j, j < c → (fT (its.map Itm.s) (its.map Itm.v) c).getD j 0 = gV its j := fun j hj => by rw [fT_at _ _ _ _ hj, fE_eq H n j (by omega)]
    have e := fB_eq H (T := fT (its.map Itm.s) (its.map Itm.v) c) (V := kV its c) (c := c) (fun j hj => by rw [hT j hj, kV_get its hj]) its.length (Nat.le_refl _)
    unfold fE
    rw [List.length_map, e]
    show (if 0 < c then (if (fT (its.map Itm.s) (its.map Itm.v) c).getD (c - 1) 0 > gV its c then _ else gV its c) else gV its c) = gV its c
    split
    · rw [hT _ (by omega), if_neg]
      have := gV_mono H (show c - 1 ≤ c by omega)
      omega
    · rfl
theorem fill_eq {its : List Itm} {M : Int} (H : Its its M) (cap : Nat) : (fT (its.map Itm.s) (its.map Itm.v) (cap + 1)).getD cap 0 = gV its cap := by
  rw [fT_at _ _ _ _ (Nat.lt_succ_self _), fE_eq H (cap + 1) cap (Nat.lt_succ_self _)]
theorem its_sz {its : List Itm} {M : Int} (H : Its its M) : Sz (its.map Itm.s) (its.map Itm.v) M := by
  refine ⟨by simp, fun i hi => ?_, fun i hi => ?_, H.m⟩
  · rw [List.length_map] at hi
    rw [show iget (its.map Itm.s) i = (itget its i).s from getD_map Itm.s its it0 0 i hi]
    exact H.s i hi
  · rw [List.length_map] at hi
    rw [show iget (its.map Itm.v) i = (itget its i).v from getD_map Itm.v its it0 0 i hi]
    exact H.v i hi
/-! ### the reference's strips -/
def rsF (ks : List Knd) (kerf w : Int) : Nat → List Itm
  | 0 => []
  | n + 1 => rsF ks kerf w n ++ [⟨(kget ks n).h + kerf, valOf ks kerf w (kget ks n).h⟩]
theorem rsF_len (ks : List Knd) (kerf w : Int) : ∀ n, (rsF ks kerf w n).length = n
  | 0 => rfl
  | n + 1 => by rw [rsF, List.length_append, rsF_len ks kerf w n]; rfl
theorem rsF_mem (ks : List Knd) (kerf w : Int) : ∀ n x, x ∈ rsF ks kerf w n ↔ ∃ j, j < n ∧ x = ⟨(kget ks j).h + kerf, valOf ks kerf w (kget ks j).h⟩
  | 0, x => ⟨fun h => (by cases h), fun ⟨_, h, _⟩ => absurd h (Nat.not_lt_zero _)⟩
  | n + 1, x => by
    rw [rsF, List.mem_append, rsF_mem ks kerf w n x, List.mem_singleton]
    constructor
    · rintro (⟨j, a, b⟩ | h)
      · exact ⟨j, by omega, b⟩
      · exact ⟨n, by omega, h⟩
    · rintro ⟨j, a, b⟩
      rcases Nat.lt_succ_iff_lt_or_eq.1 a with a | rfl
      · exact .inl ⟨j, a, b⟩
      · exact .inr b
section
variable {ks : List Knd} {w h kerf : Int} (p : Pb ks w h kerf)
include p
theorem rs_its (n : Nat) (hn : n ≤ ks.length) : Its (rsF ks kerf w n) 2050000000 := by
  have k0 := p.k0
  have k1 := p.k1
  refine ⟨fun i hi => ?_, fun i hi => ?_, by decide⟩
  · obtain ⟨j, hj, e⟩ := (rsF_mem ks kerf w n _).1 (itget_mem hi)
    have q := p.at' (i := j) (by omega)
    have := q.h0; have := q.h1
    rw [e]
    constructor
    · show 1 ≤ _ + kerf; omega
    · show _ + kerf ≤ 100000; omega
  · obtain ⟨j, hj, e⟩ := (rsF_mem ks kerf w n _).1 (itget_mem hi)
    rw [e]
    exact val_bd p _
omit p in
theorem mem_le {its L : List Itm} {M : Int} (H : Its its M) (hL : ∀ x ∈ L, x ∈ its) : ∀ x ∈ L, x.s ≤ sumBy Itm.s L := by
  have pos : ∀ x ∈ its, 0 ≤ x.s := fun x hx => by
    obtain ⟨i, hi, e⟩ := List.getElem_of_mem hx
    have ex : itget its i = x := by simp [itget, List.getD, hi, e]
    have := (H.s i hi).1
    rw [ex] at this
    omega
  induction L with
  | nil => intro x hx; cases hx
  | cons a L ih =>
    intro x hx
    have h0 : 0 ≤ sumBy Itm.s L := sumBy_nonneg (fun y hy => pos y (hL y (by simp [hy])))
    have ha := pos a (hL a (by simp))
    simp only [sumBy]
    rcases List.mem_cons.1 hx with rfl | hx
    · omega
    · have := ih (fun y hy => hL y (by simp [hy])) x hx
      omega
theorem rV_eq : gV (rsF ks kerf w ks.length) (capI (h + kerf)) = bestV ks w h kerf := by
  rw [bestV_eq]
  have H1 := rs_its p ks.length (Nat.le_refl _)
  have H2 := sts_its p ks.length (Nat.le_refl _)
  have hc := p.caph.1
  refine Int.le_antisymm ?_ ?_
  · obtain ⟨L, h1, h2, h3⟩ := gV_ach H1 _ (capI (h + kerf)) (Nat.lt_succ_self _)
    rw [← h3]
    refine gV_ub H2 L _ (fun x hx => ?_) h2
    obtain ⟨j, hj, rfl⟩ := (rsF_mem ks kerf w _ _).1 (h1 x hx)
    have hle : (kget ks j).h + kerf ≤ sumBy Itm.s L := mem_le H1 h1 _ hx
    obtain ⟨s, s1, s2⟩ := stp_has ks kerf w h ks.length j hj (by omega)
    obtain ⟨i, i1, i2, i3⟩ := stp_mem ks kerf w h ks.length s s1
    refine List.mem_map.2 ⟨s, s1, ?_⟩
    have e : (kget ks i).h = (kget ks j).h := by rw [← s2, i3]
    rw [i3, itmS, e]
  · obtain ⟨L, h1, h2, h3⟩ := gV_ach H2 _ (capI (h + kerf)) (Nat.lt_succ_self _)
    have h3' : sumBy Itm.v L = gV ((stsF ks kerf w h).map (itmS kerf)) (capI (h + kerf)) := h3
    rw [← h3']
    refine gV_ub H1 L _ (fun x hx => ?_) h2
    obtain ⟨s, s1, rfl⟩ := List.mem_map.1 (h1 x hx)
    obtain ⟨i, i1, i2, rfl⟩ := stp_mem ks kerf w h ks.length s s1
    exact (rsF_mem ks kerf w _ _).2 ⟨i, i1, rfl⟩
end
/-! ### taken items -/
theorem kBest_none (its : List Itm) (V : List Int) (c : Nat) : ∀ n, (kBest its V c n).2 = -1 → (kBest its V c n).1 = 0
  | 0, _ => rfl
  | n + 1, h => by
    rw [kBest] at h ⊢
    split
    · rename_i hc
      rw [if_pos hc] at h
      replace h : (n : Int) = -1 := h
      omega
    · rename_i hc
      rw [if_neg hc] at h
      exact kBest_none its V c n h
theorem tkF_sum {its : List Itm} {M : Int} (H : Its its M) {cap : Nat} : ∀ f c, c ≤ cap → c < f → sumBy (fun i : Int => (itget its i.toNat).v) (tkF its (kT its (cap + 1)) f c) = gV its c ∧ sumBy (fun i : Int => (itget its i.toNat).s) (tkF its (kT its (cap + 1)) f c) ≤ c
  | 0, c, _, h => absurd h (Nat.not_lt_zero _)
  | f + 1, c, hc, hf => by
    have eT : (kT its (cap + 1)).getD c 0 = (kBest its (kV its c) c its.length).2 := kT_at its _ _ (by omega)
    rw [tkF]
    split
    · rename_i h
      rcases take_ok H hc with t | ⟨t1, t2, t3, t4⟩
      · rw [t] at h; omega
      · obtain ⟨i1, i2⟩ := tkF_sum (cap := cap) H f (c - (itget its ((kT its (cap + 1)).getD c 0).toNat).s.toNat) (by omega) (by omega)
        rcases kBest_snd (its := its) (V := kV its c) (c := c) its.length with q | ⟨_, _, _, q⟩
        · rw [← eT] at q; omega
        · rw [← eT, kV_get its (by omega)] at q
          have hg : gV its c = (kBest its (kV its c) c its.length).1 := rfl
          simp only [sumBy]
          omega
    · rename_i h
      rcases take_ok H hc with t | ⟨t1, _⟩
      · rw [eT] at t
        have := kBest_none its (kV its c) c its.length t
        exact ⟨this.symm, by simp [sumBy]⟩
      · omega
theorem tk_sum {its : List Itm} {M : Int} (H : Its its M) (cap : Nat) : sumBy (fun i : Int => (itget its i.toNat).v) (tkL its cap) = gV its cap ∧ sumBy (fun i : Int => (itget its i.toNat).s) (tkL its cap) ≤ cap := tkF_sum H _ _ (Nat.le_refl _) (Nat.lt_succ_self _)
theorem sel_map (ks : List Knd) (kerf hh : Int) : ∀ n, selF ks kerf hh n = (numF ks hh n).map fun x : Int => ⟨(kget ks x.toNat).w + kerf, (kget ks x.toNat).v⟩
  | 0 => rfl
  | n + 1 => by
    rw [selF, numF]
    split
    · rw [List.map_append, sel_map ks kerf hh n]; rfl
    · exact sel_map ks kerf hh n
theorem sel_get (ks : List Knd) (kerf hh : Int) {n i : Nat} (hi : i < (numF ks hh n).length) : itget (selF ks kerf hh n) i = ⟨(kget ks (iget (numF ks hh n) i).toNat).w + kerf, (kget ks (iget (numF ks hh n) i).toNat).v⟩ := by
  rw [sel_map]
  exact getD_map _ _ 0 it0 i hi
section
variable {ks : List Knd} {w h kerf : Int} (p : Pb ks w h kerf)
include p
theorem cols_sum (hh : Int) : sumBy (fun c : Int => (kget ks c.toNat).v) (colsOf ks kerf w hh) = valOf ks kerf w hh ∧ sumBy (fun c : Int => (kget ks c.toNat).w + kerf) (colsOf ks kerf w hh) ≤ w + kerf := by
  have H := sel_its (hh := hh) p.kok (Nat.le_refl _)
  obtain ⟨a, b⟩ := tk_sum H (capI (w + kerf))
  have hm := (tk_len H (capI (w + kerf))).2
  have hl := sel_num ks kerf hh ks.length
  have e : ∀ i ∈ tkL (selF ks kerf hh ks.length) (capI (w + kerf)), itget (selF ks kerf hh ks.length) i.toNat = ⟨(kget ks (iget (numF ks hh ks.length) i.toNat).toNat).w + kerf, (kget ks (iget (numF ks hh ks.length) i.toNat).toNat).v⟩ := fun i hi => by
    have := hm i hi
    exact sel_get ks kerf hh (by omega)
  unfold colsOf
  rw [sumBy_map, sumBy_map, val_eq, ← a]
  refine ⟨sumBy_congr (fun i hi => by rw [e i hi]), ?_⟩
  rw [← p.capw.1]
  refine Int.le_trans (Int.le_of_eq (sumBy_congr (fun i hi => ?_))) b
  rw [e i hi]
theorem ps_sum : sumBy (fun x : Int × List Int => sumBy (fun c : Int => (kget ks c.toNat).v) x.2) (psF ks kerf w h) = bestV ks w h kerf ∧ sumBy (fun x : Int × List Int => x.1 + kerf) (psF ks kerf w h) ≤ h + kerf := by
  have H := sts_its p ks.length (Nat.le_refl _)
  obtain ⟨a, b⟩ := tk_sum H (capI (h + kerf))
  have hm := (tk_len H (capI (h + kerf))).2
  rw [List.length_map] at hm
  have e : ∀ i ∈ tkL ((stpF ks kerf w h ks.length).map (itmS kerf)) (capI (h + kerf)), itget ((stpF ks kerf w h ks.length).map (itmS kerf)) i.toNat = itmS kerf ((stpF ks kerf w h ks.length).getD i.toNat st0) ∧ (stpF ks kerf w h ks.length).getD i.toNat st0 ∈ stpF ks kerf w h ks.length := fun i hi => by
    have := hm i hi
    refine ⟨getD_map _ _ st0 it0 _ (by omega), ?_⟩
    rw [List.getD, List.getElem?_eq_getElem (by omega)]
    exact List.getElem_mem _
  unfold psF stsF
  rw [sumBy_map, sumBy_map, bestV_eq]
  constructor
  · refine Eq.trans (sumBy_congr (fun i hi => ?_)) a
    obtain ⟨e1, e2⟩ := e i hi
    obtain ⟨j, _, _, q⟩ := stp_mem ks kerf w h _ _ e2
    rw [e1, q]
    exact (cols_sum p (kget ks j).h).1
  · rw [← p.caph.1]
    refine Int.le_trans (Int.le_of_eq (sumBy_congr (fun i hi => ?_))) b
    rw [(e i hi).1]; rfl
end
end St
end Go.Vm
