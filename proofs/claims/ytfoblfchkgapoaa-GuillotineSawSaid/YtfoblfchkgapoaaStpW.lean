/-
  Layer 37, plain: the reference's best value is the program's; what a knapsack's taken items add up to.
  Layer 37, plain: a tree that is laid flat is joined; what holds of its nodes; the tree of Best.
-/
import Derived.Test.YtfoblfchkgapoaaStpM
import Derived.Test.YtfoblfchkgapoaaStpS
namespace Go.Vm
set_option maxRecDepth 20000
set_option linter.unusedVariables false
set_option linter.unusedSimpArgs false
open Go Go.RowKit Go.Proofs
namespace St

theorem gV_mono {its : List Itm} {M : Int} (H : Its its M) {c d : Nat} (h : c ≤ d) : gV its c ≤ gV its d := by
  obtain ⟨L, h1, h2, h3⟩ := gV_ach H (c + 1) c (Nat.lt_succ_self _)
  rw [← h3]
  exact gV_ub H L d h1 (by omega)
theorem fB_eq {its : List Itm} {M : Int} (H : Its its M) {T V : List Int} {c : Nat} (hT : ∀ j, j < c → T.getD j 0 = V.getD j 0) : ∀ n, n ≤ its.length → fB (its.map Itm.s) (its.map Itm.v) T c n = (kBest its V c n).1
  | 0, _ => rfl
  | n + 1, hn => by
    have ih := fB_eq H hT n (by omega)
    have gs : iget (its.map Itm.s) n = (itget its n).s := getD_map Itm.s its it0 0 n (by omega)
    have gv : iget (its.map Itm.v) n = (itget its n).v := getD_map Itm.v its it0 0 n (by omega)
    obtain ⟨s1, s2⟩ := H.s n (by omega)
    rw [fB, kBest, gs, gv]
    by_cases hs : (itget its n).s ≤ c
    · rw [if_pos hs, hT _ (by omega), ih]
      by_cases hv : V.getD (c - (itget its n).s.toNat) 0 + (itget its n).v > (kBest its V c n).1
      · rw [if_pos hv, if_pos ⟨hs, hv⟩]
      · rw [if_neg hv, if_neg (fun q => hv q.2)]
    · rw [if_neg hs, if_neg (fun q => hs q.1)]
      exact ih
theorem fE_eq {its : List Itm} {M : Int} (H : Its its M) : ∀ n c, c < n → fE (its.map Itm.s) (its.map Itm.v) (fT (its.map Itm.s) (its.map Itm.v) c) c = gV its c
  | 0, c, h => absurd h (Nat.not_lt_zero _)
  | n + 1, c, h => by
    have hT : ∀ j, j < c → (fT (its.map Itm.s) (its.map Itm.v) c).getD j 0 = gV its j := fun j hj => by rw [fT_at _ _ _ _ hj, fE_eq H n j (by omega)]
    have e := fB_eq H (T := fT (its.map Itm.s) (its.map Itm.v) c) (V := kV its c) (c := c) (fun j hj => by rw [hT j hj, kV_get its hj]) its.length (Nat.le_refl _)
    unfold fE
    rw [List.length_map, e]
    show (if 0 < c then (if (fT (its.map Itm.s) (its.map Itm.v) c).getD (c - 1) 0 > gV its c then _ else gV its c) else gV its c) = gV its c
    split
    · rw [hT _ (by omega), if_neg]
      have := gV_mono H (show c - 1 ≤ c by omega)
      omega
    · rfl
theorem fill_eq {its : List Itm} {M : Int} (H : Its its M) (cap : Nat) : (fT (its.map Itm.s) (its.map Itm.v) (cap + 1)).getD cap 0 = gV its cap := by
  rw [fT_at _ _ _ _ (Nat.lt_succ_self _), fE_eq H (cap + 1) cap (Nat.lt_succ_self _)]
theorem its_sz {its : List Itm} {M : Int} (H : Its its M) : Sz (its.map Itm.s) (its.map Itm.v) M := by
  refine ⟨by simp, fun i hi => ?_, fun i hi => ?_, H.m⟩
  · rw [List.length_map] at hi
    rw [show iget (its.map Itm.s) i = (itget its i).s from getD_map Itm.s its it0 0 i hi]
    exact H.s i hi
  · rw [List.length_map] at hi
    rw [show iget (its.map Itm.v) i = (itget its i).v from getD_map Itm.v its it0 0 i hi]
    exact H.v i hi
/-! ### the reference's strips -/
def rsF (ks : List Knd) (kerf w : Int) : Nat → List Itm
  | 0 => []
  | n + 1 => rsF ks kerf w n ++ [⟨(kget ks n).h + kerf, valOf ks kerf w (kget ks n).h⟩]
theorem rsF_len (ks : List Knd) (kerf w : Int) : ∀ n, (rsF ks kerf w n).length = n
  | 0 => rfl
  | n + 1 => by rw [rsF, List.length_append, rsF_len ks kerf w n]; rfl
theorem rsF_mem (ks : List Knd) (kerf w : Int) : ∀ n x, x ∈ rsF ks kerf w n ↔ ∃ j, j < n ∧ x = ⟨(kget ks j).h + kerf, valOf ks kerf w (kget ks j).h⟩
  | 0, x => ⟨fun h => (by cases h), fun ⟨_, h, _⟩ => absurd h (Nat.not_lt_zero _)⟩
  | n + 1, x => by
    rw [rsF, List.mem_append, rsF_mem ks kerf w n x, List.mem_singleton]
    constructor
    · rintro (⟨j, a, b⟩ | h)
      · exact ⟨j, by omega, b⟩
      · exact ⟨n, by omega, h⟩
    · rintro ⟨j, a, b⟩
      rcases Nat.lt_succ_iff_lt_or_eq.1 a with a | rfl
      · exact .inl ⟨j, a, b⟩
      · exact .inr b
section
variable {ks : List Knd} {w h kerf : Int} (p : Pb ks w h kerf)
include p
theorem rs_its (n : Nat) (hn : n ≤ ks.length) : Its (rsF ks kerf w n) 2050000000 := by
  have k0 := p.k0
  have k1 := p.k1
  refine ⟨fun i hi => ?_, fun i hi => ?_, by decide⟩
  · obtain ⟨j, hj, e⟩ := (rsF_mem ks kerf w n _).1 (itget_mem hi)
    have q := p.at' (i := j) (by omega)
    have := q.h0; have := q.h1
    rw [e]
    constructor
    · show 1 ≤ _ + kerf; omega
    · show _ + kerf ≤ 100000; omega
  · obtain ⟨j, hj, e⟩ := (rsF_mem ks kerf w n _).1 (itget_mem hi)
    rw [e]
    exact val_bd p _
omit p in
theorem mem_le {its L : List Itm} {M : Int} (H : Its its M) (hL : ∀ x ∈ L, x ∈ its) : ∀ x ∈ L, x.s ≤ sumBy Itm.s L := by
  have pos : ∀ x ∈ its, 0 ≤ x.s := fun x hx => by
    obtain ⟨i, hi, e⟩ := List.getElem_of_mem hx
    have ex : itget its i = x := by simp [itget, List.getD, hi, e]
    have := (H.s i hi).1
    rw [ex] at this
    omega
  induction L with
  | nil => intro x hx; cases hx
  | cons a L ih =>
    intro x hx
    have h0 : 0 ≤ sumBy Itm.s L := sumBy_nonneg (fun y hy => pos y (hL y (by simp [hy])))
    have ha := pos a (hL a (by simp))
    simp only [sumBy]
    rcases List.mem_cons.1 hx with rfl | hx
    · omega
    · have := ih (fun y hy => hL y (by simp [hy])) x hx
      omega
theorem rV_eq : gV (rsF ks kerf w ks.length) (capI (h + kerf)) = bestV ks w h kerf := by
  rw [bestV_eq]
  have H1 := rs_its p ks.length (Nat.le_refl _)
  have H2 := sts_its p ks.length (Nat.le_refl _)
  have hc := p.caph.1
  refine Int.le_antisymm ?_ ?_
  · obtain ⟨L, h1, h2, h3⟩ := gV_ach H1 _ (capI (h + kerf)) (Nat.lt_succ_self _)
    rw [← h3]
    refine gV_ub H2 L _ (fun x hx => ?_) h2
    obtain ⟨j, hj, rfl⟩ := (rsF_mem ks kerf w _ _).1 (h1 x hx)
    have hle : (kget ks j).h + kerf ≤ sumBy Itm.s L := mem_le H1 h1 _ hx
    obtain ⟨s, s1, s2⟩ := stp_has ks kerf w h ks.length j hj (by omega)
    obtain ⟨i, i1, i2, i3⟩ := stp_mem ks kerf w h ks.length s s1
    refine List.mem_map.2 ⟨s, s1, ?_⟩
    have e : (kget ks i).h = (kget ks j).h := by rw [← s2, i3]
    rw [i3, itmS, e]
  · obtain ⟨L, h1, h2, h3⟩ := gV_ach H2 _ (capI (h + kerf)) (Nat.lt_succ_self _)
    have h3' : sumBy Itm.v L = gV ((stsF ks kerf w h).map (itmS kerf)) (capI (h + kerf)) := h3
    rw [← h3']
    refine gV_ub H1 L _ (fun x hx => ?_) h2
    obtain ⟨s, s1, rfl⟩ := List.mem_map.1 (h1 x hx)
    obtain ⟨i, i1, i2, rfl⟩ := stp_mem ks kerf w h ks.length s s1
    exact (rsF_mem ks kerf w _ _).2 ⟨i, i1, rfl⟩
end
/-! ### taken items -/
theorem kBest_none (its : List Itm) (V : List Int) (c : Nat) : ∀ n, (kBest its V c n).2 = -1 → (kBest its V c n).1 = 0
  | 0, _ => rfl
  | n + 1, h => by
    rw [kBest] at h ⊢
    split
    · rename_i hc
      rw [if_pos hc] at h
      replace h : (n : Int) = -1 := h
      omega
    · rename_i hc
      rw [if_neg hc] at h
      exact kBest_none its V c n h
theorem tkF_sum {its : List Itm} {M : Int} (H : Its its M) {cap : Nat} : ∀ f c, c ≤ cap → c < f → sumBy (fun i : Int => (itget its i.toNat).v) (tkF its (kT its (cap + 1)) f c) = gV its c ∧ sumBy (fun i : Int => (itget its i.toNat).s) (tkF its (kT its (cap + 1)) f c) ≤ c
  | 0, c, _, h => absurd h (Nat.not_lt_zero _)
  | f + 1, c, hc, hf => by
    have eT : (kT its (cap + 1)).getD c 0 = (kBest its (kV its c) c its.length).2 := kT_at its _ _ (by omega)
    rw [tkF]
    split
    · rename_i h
      rcases take_ok H hc with t | ⟨t1, t2, t3, t4⟩
      · rw [t] at h; omega
      · obtain ⟨i1, i2⟩ := tkF_sum (cap := cap) H f (c - (itget its ((kT its (cap + 1)).getD c 0).toNat).s.toNat) (by omega) (by omega)
        rcases kBest_snd (its := its) (V := kV its c) (c := c) its.length with q | ⟨_, _, _, q⟩
        · rw [← eT] at q; omega
        · rw [← eT, kV_get its (by omega)] at q
          have hg : gV its c = (kBest its (kV its c) c its.length).1 := rfl
          simp only [sumBy]
          omega
    · rename_i h
      rcases take_ok H hc with t | ⟨t1, _⟩
      · rw [eT] at t
        have := kBest_none its (kV its c) c its.length t
        exact ⟨this.symm, by simp [sumBy]⟩
      · omega
theorem tk_sum {its : List Itm} {M : Int} (H : Its its M) (cap : Nat) : sumBy (fun i : Int => (itget its i.toNat).v) (tkL its cap) = gV its cap ∧ sumBy (fun i : Int => (itget its i.toNat).s) (tkL its cap) ≤ cap := tkF_sum H _ _ (Nat.le_refl _) (Nat.lt_succ_self _)
theorem sel_map (ks : List Knd) (kerf hh : Int) : ∀ n, selF ks kerf hh n = (numF ks hh n).map fun x : Int => ⟨(kget ks x.toNat).w + kerf, (kget ks x.toNat).v⟩
  | 0 => rfl
  | n + 1 => by
    rw [selF, numF]
    split
    · rw [List.map_append, sel_map ks kerf hh n]; rfl
    · exact sel_map ks kerf hh n
theorem sel_get (ks : List Knd) (kerf hh : Int) {n i : Nat} (hi : i < (numF ks hh n).length) : itget (selF ks kerf hh n) i = ⟨(kget ks (iget (numF ks hh n) i).toNat).w + kerf, (kget ks (iget (numF ks hh n) i).toNat).v⟩ := by
  rw [sel_map]
  exact getD_map _ _ 0 it0 i hi
section
variable {ks : List Knd} {w h kerf : Int} (p : Pb ks w h kerf)
include p
theorem cols_sum (hh : Int) : sumBy (fun c : Int => (kget ks c.toNat).v) (colsOf ks kerf w hh) = valOf ks kerf w hh ∧ sumBy (fun c : Int => (kget ks c.toNat).w + kerf) (colsOf ks kerf w hh) ≤ w + kerf := by
  have H := sel_its (hh := hh) p.kok (Nat.le_refl _)
  obtain ⟨a, b⟩ := tk_sum H (capI (w + kerf))
  have hm := (tk_len H (capI (w + kerf))).2
  have hl := sel_num ks kerf hh ks.length
  have e : ∀ i ∈ tkL (selF ks kerf hh ks.length) (capI (w + kerf)), itget (selF ks kerf hh ks.length) i.toNat = ⟨(kget ks (iget (numF ks hh ks.length) i.toNat).toNat).w + kerf, (kget ks (iget (numF ks hh ks.length) i.toNat).toNat).v⟩ := fun i hi => by
    have := hm i hi
    exact sel_get ks kerf hh (by omega)
  unfold colsOf
  rw [sumBy_map, sumBy_map, val_eq, ← a]
  refine ⟨sumBy_congr (fun i hi => by rw [e i hi]), ?_⟩
  rw [← p.capw.1]
  refine Int.le_trans (Int.le_of_eq (sumBy_congr (fun i hi => ?_))) b
  rw [e i hi]
theorem ps_sum : sumBy (fun x : Int × List Int => sumBy (fun c : Int => (kget ks c.toNat).v) x.2) (psF ks kerf w h) = bestV ks w h kerf ∧ sumBy (fun x : Int × List Int => x.1 + kerf) (psF ks kerf w h) ≤ h + kerf := by
  have H := sts_its p ks.length (Nat.le_refl _)
  obtain ⟨a, b⟩ := tk_sum H (capI (h + kerf))
  have hm := (tk_len H (capI (h + kerf))).2
  rw [List.length_map] at hm
  have e : ∀ i ∈ tkL ((stpF ks kerf w h ks.length).map (itmS kerf)) (capI (h + kerf)), itget ((stpF ks kerf w h ks.length).map (itmS kerf)) i.toNat = itmS kerf ((stpF ks kerf w h ks.length).getD i.toNat st0) ∧ (stpF ks kerf w h ks.length).getD i.toNat st0 ∈ stpF ks kerf w h ks.length := fun i hi => by
    have := hm i hi
    refine ⟨getD_map _ _ st0 it0 _ (by omega), ?_⟩
    rw [List.getD, List.getElem?_eq_getElem (by omega)]
    exact List.getElem_mem _
  unfold psF stsF
  rw [sumBy_map, sumBy_map, bestV_eq]
  constructor
  · refine Eq.trans (sumBy_congr (fun i hi => ?_)) a
    obtain ⟨e1, e2⟩ := e i hi
    obtain ⟨j, _, _, q⟩ := stp_mem ks kerf w h _ _ e2
    rw [e1, q]
    exact (cols_sum p (kget ks j).h).1
  · rw [← p.caph.1]
    refine Int.le_trans (Int.le_of_eq (sumBy_congr (fun i hi => ?_))) b
    rw [(e i hi).1]; rfl
end
end St
end Go.Vm
namespace Go.Vm
set_option maxRecDepth 20000
set_option linter.unusedVariables false
set_option linter.unusedSimpArgs false
open Go Go.RowKit Go.Proofs
namespace St

inductive CT where
  | leaf (k : Int)
  | cut (v : Bool) (a : Int) (l r : CT)
def CT.flat : CT → Nat → List Nd
  | .leaf k, _ => [leafN k]
  | .cut v a l r, b => cutT v a l.flat r.flat b
def CT.size : CT → Nat
  | .leaf _ => 1
  | .cut _ _ l r => 1 + l.size + r.size
def CT.vert : CT → Bool
  | .leaf _ => false
  | .cut v _ _ _ => v
theorem CT.size_pos : ∀ c : CT, 1 ≤ c.size
  | .leaf _ => Nat.le_refl _
  | .cut _ _ l r => by rw [CT.size]; omega
theorem flat_len : ∀ (c : CT) (b : Nat), (c.flat b).length = c.size
  | .leaf _, _ => rfl
  | .cut v a l r, b => by
    rw [CT.flat, cutT, List.length_cons, List.length_append, flat_len l, flat_len r, CT.size]; omega
/-- The tree t has the subtree c at its node b. -/
def At (t : List Nd) : CT → Nat → Prop
  | .leaf k, b => ndget t b = leafN k
  | .cut v a l r, b => ndget t b = ⟨v, a, (b + 1 : Nat), (b + 1 + l.size : Nat), -1⟩ ∧ At t l (b + 1) ∧ At t r (b + 1 + l.size)
theorem at_of {t : List Nd} : ∀ (c : CT) (b : Nat), (∀ i, i < c.size → ndget t (b + i) = (c.flat b).getD i nd0) → At t c b
  | .leaf k, b, h => by
    have := h 0 (Nat.succ_pos _)
    exact this
  | .cut v a l r, b, h => by
    have hs : (CT.cut v a l r).size = 1 + l.size + r.size := rfl
    have e : (CT.cut v a l r).flat b = ⟨v, a, (b + 1 : Nat), (b + 1 + l.size : Nat), -1⟩ :: (l.flat (b + 1) ++ r.flat (b + 1 + l.size)) := by
      rw [CT.flat, cutT, flat_len]
    rw [e, hs] at h
    refine ⟨h 0 (by omega), at_of l (b + 1) (fun i hi => ?_), at_of r (b + 1 + l.size) (fun i hi => ?_)⟩
    · have := h (i + 1) (by omega)
      rw [show b + (i + 1) = b + 1 + i by omega] at this
      rw [this]
      show (l.flat (b + 1) ++ r.flat (b + 1 + l.size)).getD i nd0 = _
      exact getD_app_l _ _ _ _ (by rw [flat_len]; exact hi)
    · have := h (l.size + i + 1) (by omega)
      rw [show b + (l.size + i + 1) = b + 1 + l.size + i by omega] at this
      rw [this]
      show (l.flat (b + 1) ++ r.flat (b + 1 + l.size)).getD (l.size + i) nd0 = _
      rw [getD_app_r _ _ _ _ (by rw [flat_len]; omega), flat_len, Nat.add_sub_cancel_left]
theorem at_flat (c : CT) : At (c.flat 0) c 0 := at_of c 0 (fun i _ => by rw [Nat.zero_add])
theorem at_v {t : List Nd} {c : CT} {b : Nat} (h : At t c b) : (ndget t b).v = c.vert := by
  cases c with
  | leaf k => rw [show ndget t b = leafN k from h]; rfl
  | cut v a l r => rw [h.1]; rfl
theorem leaf_leafN (k : Int) : leafI (leafN k) = true := rfl
theorem cut_nl (v : Bool) (a k : Int) (f s : Nat) : leafI ⟨v, a, (f : Int), (s : Int), k⟩ = false := by
  rw [leafI, decide_eq_false (show ¬ (f : Int) = -1 by omega), Bool.false_and]
theorem at_refs {t : List Nd} : ∀ (c : CT) (b : Nat), At t c b → ∀ i, refs t i (b + c.size) = refs t i b + (if b < i ∧ i < b + c.size then 1 else 0)
  | .leaf k, b, h, i => by
    show refs t i (b + 1) = _
    rw [refs, show ndget t b = leafN k from h, refN, if_pos (leaf_leafN k), if_neg (by show ¬ (b < i ∧ i < b + 1); omega)]
  | .cut v a l r, b, h, i => by
    obtain ⟨h1, h2, h3⟩ := h
    have e1 := at_refs l (b + 1) h2 i
    have e2 := at_refs r (b + 1 + l.size) h3 i
    have hs : (CT.cut v a l r).size = 1 + l.size + r.size := rfl
    have p1 := l.size_pos
    have p2 := r.size_pos
    rw [show b + (CT.cut v a l r).size = b + 1 + l.size + r.size by omega, e2, e1, refs, h1, refN, if_neg (by rw [cut_nl]; simp)]
    simp only [Int.toNat_natCast]
    split <;> split <;> split <;> split <;> split <;> omega
theorem at_ok {t : List Nd} : ∀ (c : CT) (b : Nat), At t c b → b + c.size ≤ t.length → ∀ i, b ≤ i → i < b + c.size → ndOkB t.length i (ndget t i) = true
  | .leaf k, b, h, _, i, i1, i2 => by
    have hs : (CT.leaf k).size = 1 := rfl
    obtain rfl : i = b := by omega
    rw [show ndget t i = leafN k from h]; rfl
  | .cut v a l r, b, h, hl, i, i1, i2 => by
    obtain ⟨h1, h2, h3⟩ := h
    have hs : (CT.cut v a l r).size = 1 + l.size + r.size := rfl
    have p1 := l.size_pos
    have p2 := r.size_pos
    rcases Nat.lt_or_ge i (b + 1) with q | q
    · obtain rfl : i = b := by omega
      rw [h1, ndOkB, inB_iff.2 ⟨by show (i : Int) + 1 ≤ ((i + 1 : Nat) : Int); omega, by show ((i + 1 : Nat) : Int) ≤ (t.length : Int) - 1; omega⟩, inB_iff.2 ⟨by show (i : Int) + 1 ≤ ((i + 1 + l.size : Nat) : Int); omega, by show ((i + 1 + l.size : Nat) : Int) ≤ (t.length : Int) - 1; omega⟩]
      simp
    · rcases Nat.lt_or_ge i (b + 1 + l.size) with q2 | q2
      · exact at_ok l (b + 1) h2 (by omega) i q q2
      · exact at_ok r (b + 1 + l.size) h3 (by omega) i q2 (by omega)
theorem at_joined {c : CT} (hs : c.size ≤ 4000) : joinB (c.flat 0) = true := by
  have hA := at_flat c
  have hl := flat_len c 0
  have hp := c.size_pos
  have a1 : allN (c.flat 0).length (fun i => ndOkB (c.flat 0).length i (ndget (c.flat 0) i)) = true := allN_iff.2 (fun i hi => at_ok c 0 hA (by omega) i (Nat.zero_le _) (by omega))
  have a2 : allN (c.flat 0).length (fun i => decide (i = 0) || decide (iget (pT (c.flat 0) (c.flat 0).length) i = 1)) = true := allN_iff.2 (fun i hi => by
    by_cases h0 : i = 0
    · rw [decide_eq_true h0]; rfl
    · have := at_refs c 0 hA i
      rw [Nat.zero_add, if_pos ⟨by omega, by omega⟩] at this
      rw [pT_refs _ hi, hl, this, show refs (c.flat 0) i 0 = 0 from rfl]
      simp)
  rw [joinB, a1, a2, inB_iff.2 ⟨by omega, by omega⟩]
  rfl
/-! ### rectangles -/
def rT0 (t : List Nd) (w h : Int) : List Rc := (List.replicate t.length rc0).set 0 ⟨0, 0, w, h⟩
theorem rT_tab (t : List Nd) (w h kerf : Int) : ∀ k, rT t w h kerf k = tab rc0 t (fun i r => cutA r (ndget t i)) (fun i r => cutB r (ndget t i) kerf) (rT0 t w h) k
  | 0 => rfl
  | k + 1 => by rw [rT, tab, rT_tab t w h kerf k]
def okC (ks : List Knd) (kerf : Int) : CT → Rc → Prop
  | .leaf k, r => k = -1 ∨ (0 ≤ k ∧ k < ks.length ∧ r.w = (kget ks k.toNat).w ∧ r.h = (kget ks k.toNat).h)
  | .cut v a l r, q => (1 ≤ a ∧ a ≤ (if v = true then q.w else q.h) - 1) ∧ okC ks kerf l (cutA q ⟨v, a, 0, 0, -1⟩) ∧ okC ks kerf r (cutB q ⟨v, a, 0, 0, -1⟩ kerf)
section
variable {t : List Nd} (J : Jn t) {ks : List Knd} {w h kerf : Int}
include J
theorem at_rect : ∀ (c : CT) (b : Nat), At t c b → b + c.size ≤ t.length → okC ks kerf c (rcget (rT t w h kerf t.length) b) → ∀ i, b ≤ i → i < b + c.size →
    posB (rcget (rT t w h kerf t.length) i) (ndget t i) = true ∧ kindOkB ks (rcget (rT t w h kerf t.length) i) (ndget t i) = true
  | .leaf k, b, hA, _, hc, i, i1, i2 => by
    have hs : (CT.leaf k).size = 1 := rfl
    obtain rfl : i = b := by omega
    rw [show ndget t i = leafN k from hA]
    refine ⟨rfl, ?_⟩
    rw [kindOkB, if_pos (leaf_leafN k)]
    rcases hc with q | ⟨q1, q2, q3, q4⟩
    · rw [decide_eq_true q]; rfl
    · rw [inB_iff.2 ⟨q1, by show k ≤ _; omega⟩, decide_eq_true q3, decide_eq_true q4]; simp
  | .cut v a l r, b, hA, hl, hc, i, i1, i2 => by
    obtain ⟨h1, h2, h3⟩ := hA
    obtain ⟨⟨c0, c1⟩, c2, c3⟩ := hc
    have hs : (CT.cut v a l r).size = 1 + l.size + r.size := rfl
    have p1 := l.size_pos
    have p2 := r.size_pos
    have nl : leafI (ndget t b) = false := by rw [h1]; exact cut_nl _ _ _ _ _
    have kid := tab_kid (d := rc0) (gA := fun i r => cutA r (ndget t i)) (gB := fun i r => cutB r (ndget t i) kerf) (T0 := rT0 t w h) J (by simp [rT0]) (p := b) (by omega) nl
    rw [← rT_tab, h1] at kid
    simp only [Int.toNat_natCast] at kid
    obtain ⟨kl, kr⟩ := kid
    rcases Nat.lt_or_ge i (b + 1) with q | q
    · obtain rfl : i = b := by omega
      rw [h1]
      constructor
      · rw [posB, if_neg (by rw [cut_nl]; simp), inB_iff]
        exact ⟨c0, c1⟩
      · rw [kindOkB, if_neg (by rw [cut_nl]; simp)]; rfl
    · rcases Nat.lt_or_ge i (b + 1 + l.size) with q2 | q2
      · exact at_rect l (b + 1) h2 (by omega) (by rw [rcget, kl]; exact c2) i q q2
      · exact at_rect r (b + 1 + l.size) h3 (by omega) (by rw [rcget, kr]; exact c3) i q2 (by omega)
end
theorem at_valid {c : CT} {ks : List Knd} {w h kerf : Int} (p : Pb ks w h kerf) (hs : c.size ≤ 4000) (hc : okC ks kerf c ⟨0, 0, w, h⟩) : validB (c.flat 0) ks w h kerf = true := by
  have hj := at_joined hs
  have J := joined_of hj
  have hl := flat_len c 0
  have root : rcget (rT (c.flat 0) w h kerf (c.flat 0).length) 0 = ⟨0, 0, w, h⟩ := by
    rw [rT_tab]
    have := tab_root (d := rc0) (gA := fun i r => cutA r (ndget (c.flat 0) i)) (gB := fun i r => cutB r (ndget (c.flat 0) i) kerf) (T0 := rT0 (c.flat 0) w h) J
    rw [rcget, this]
    exact getD_set_eq (by rw [List.length_replicate]; exact J.l0)
  have key := at_rect J (ks := ks) (w := w) (h := h) (kerf := kerf) c 0 (at_flat c) (by omega) (by rw [root]; exact hc)
  rw [validB, prob_iff.2 p, hj, rectB, kindB, allN_iff.2 (fun i hi => ?_), allN_iff.2 (fun i hi => (key i (Nat.zero_le _) (by omega)).2)]
  · rfl
  · have := (key i (Nat.zero_le _) (by omega)).1
    rw [rT_tab, rcget, tab_stay J i (Nat.le_refl _) (by omega), ← rT_tab] at this
    exact this
/-! ### stages -/
def okS : CT → Int → Prop
  | .leaf _, _ => True
  | .cut v _ l r, s => s ≤ 3 ∧ okS l (s + (if l.vert = v then 0 else 1)) ∧ okS r (s + (if r.vert = v then 0 else 1))
theorem at_stg {t : List Nd} (J : Jn t) : ∀ (c : CT) (b : Nat), At t c b → b + c.size ≤ t.length → okS c (stg t b) → ∀ i, b ≤ i → i < b + c.size → leafI (ndget t i) = false → stg t i ≤ 3
  | .leaf k, b, hA, _, _, i, i1, i2, hl => by
    have hs : (CT.leaf k).size = 1 := rfl
    obtain rfl : i = b := by omega
    rw [show ndget t i = leafN k from hA, leaf_leafN] at hl
    cases hl
  | .cut v a l r, b, hA, hl, hc, i, i1, i2, hn => by
    obtain ⟨h1, h2, h3⟩ := hA
    obtain ⟨c0, c1, c2⟩ := hc
    have hs : (CT.cut v a l r).size = 1 + l.size + r.size := rfl
    have p1 := l.size_pos
    have p2 := r.size_pos
    have nl : leafI (ndget t b) = false := by rw [h1]; exact cut_nl _ _ _ _ _
    obtain ⟨kl, kr⟩ := stg_kid J (p := b) (by omega) nl
    rw [dV, h1] at kl kr
    simp only [Int.toNat_natCast] at kl kr
    simp only [at_v h2] at kl
    simp only [at_v h3] at kr
    rcases Nat.lt_or_ge i (b + 1) with q | q
    · obtain rfl : i = b := by omega
      exact c0
    · rcases Nat.lt_or_ge i (b + 1 + l.size) with q2 | q2
      · exact at_stg J l (b + 1) h2 (by omega) (by rw [kl]; exact c1) i q q2 hn
      · exact at_stg J r (b + 1 + l.size) h3 (by omega) (by rw [kr]; exact c2) i q2 (by omega) hn
theorem at_stages {c : CT} (hs : c.size ≤ 4000) (hc : okS c 1) : stagesR (c.flat 0) ≤ 3 := by
  have hj := at_joined hs
  have J := joined_of hj
  have hl := flat_len c 0
  rw [stagesR, if_pos hj]
  refine stM_le J (by decide) (fun j hj' hn => ?_) _ (Nat.le_refl _)
  cases hr : leafI (ndget (c.flat 0) 0) with
  | false => exact at_stg J c 0 (at_flat c) (by omega) (by rw [stg_root J hr]; exact hc) j (Nat.zero_le _) (by omega) hn
  | true =>
    have hA := at_flat c
    cases c with
    | leaf k =>
      have : (CT.leaf k).size = 1 := rfl
      obtain rfl : j = 0 := by omega
      rw [hr] at hn; cases hn
    | cut v a l r =>
      rw [hA.1, cut_nl] at hr; cases hr
/-! ### values -/
def valC (ks : List Knd) : CT → Int
  | .leaf k => if inB k 0 (ks.length - 1) = true then (kget ks k.toNat).v else 0
  | .cut _ _ l r => valC ks l + valC ks r
theorem at_val {t : List Nd} {ks : List Knd} : ∀ (c : CT) (b : Nat), At t c b → sumI (b + c.size) (vvI t ks) = sumI b (vvI t ks) + valC ks c
  | .leaf k, b, h => by
    show sumI b (vvI t ks) + vvI t ks b = _
    rw [vvI, show ndget t b = leafN k from h, valC]
    simp [leafP]
  | .cut v a l r, b, h => by
    obtain ⟨h1, h2, h3⟩ := h
    have hs : (CT.cut v a l r).size = 1 + l.size + r.size := rfl
    have e1 := at_val (ks := ks) l (b + 1) h2
    have e2 := at_val (ks := ks) r (b + 1 + l.size) h3
    have z : vvI t ks b = 0 := by
      rw [vvI, h1, if_neg]
      intro q
      have := q.1
      rw [leafP, decide_eq_false (show ¬ ((b + 1 : Nat) : Int) = -1 by omega), Bool.false_and] at this
      cases this
    have e3 : sumI (b + 1) (vvI t ks) = sumI b (vvI t ks) + vvI t ks b := rfl
    rw [show b + (CT.cut v a l r).size = b + 1 + l.size + r.size by omega, e2, e1, e3, z, valC]
    omega
theorem at_value {c : CT} {ks : List Knd} (hs : c.size ≤ 4000) (hks : ∀ k ∈ ks, 0 ≤ k.v ∧ k.v ≤ 1000000) : valS (c.flat 0) ks (c.flat 0).length = valC ks c := by
  have hl := flat_len c 0
  rw [(valS_eq hks _ (by omega)).1, hl]
  have := at_val (ks := ks) c 0 (at_flat c)
  rw [Nat.zero_add] at this
  rw [this]
  show 0 + _ = _
  omega
end St
end Go.Vm
