/-
  Layer 37, plain: what knapsack returns is the greatest value; plans of strips.
-/
import Derived.Test.YtfoblfchkgapoaaStpK
namespace Go.Vm
set_option maxRecDepth 20000
set_option linter.unusedVariables false
set_option linter.unusedSimpArgs false
open Go Go.RowKit Go.Proofs
namespace St

def sumBy {α : Type} (f : α → Int) : List α → Int
  | [] => 0
  | a :: l => f a + sumBy f l
theorem sumBy_app {α : Type} (f : α → Int) : ∀ (l m : List α), sumBy f (l ++ m) = sumBy f l + sumBy f m
  | [], m => by simp [sumBy]
  | a :: l, m => by simp only [List.cons_append, sumBy, sumBy_app f l m]; omega
theorem sumBy_map {α β : Type} (f : β → Int) (g : α → β) : ∀ (l : List α), sumBy f (l.map g) = sumBy (fun a => f (g a)) l
  | [] => rfl
  | a :: l => by simp only [List.map_cons, sumBy, sumBy_map f g l]
theorem sumBy_le {α : Type} {f g : α → Int} : ∀ {l : List α}, (∀ a ∈ l, f a ≤ g a) → sumBy f l ≤ sumBy g l
  | [], _ => Int.le_refl _
  | a :: l, h => by
    have h1 := h a (by simp)
    have h2 := sumBy_le (l := l) (fun x hx => h x (by simp [hx]))
    simp only [sumBy]; omega
theorem sumBy_nonneg {α : Type} {f : α → Int} {l : List α} (h : ∀ a ∈ l, 0 ≤ f a) : 0 ≤ sumBy f l := by
  induction l with
  | nil => exact Int.le_refl _
  | cons a l ih =>
    have h1 := h a (by simp)
    have h2 := ih (fun x hx => h x (by simp [hx]))
    simp only [sumBy]; omega
theorem sumBy_congr {α : Type} {f g : α → Int} {l : List α} (h : ∀ a ∈ l, f a = g a) : sumBy f l = sumBy g l :=
  Int.le_antisymm (sumBy_le fun a ha => Int.le_of_eq (h a ha)) (sumBy_le fun a ha => Int.le_of_eq (h a ha).symm)
/-! ### the knapsack's value -/
def gV (its : List Itm) (c : Nat) : Int := (kBest its (kV its c) c its.length).1
theorem kV_get (its : List Itm) {n j : Nat} (h : j < n) : (kV its n).getD j 0 = gV its j := kV_at its n j h
theorem kBest_ge (its : List Itm) (V : List Int) (c : Nat) : ∀ n i, i < n → (itget its i).s ≤ c → V.getD (c - (itget its i).s.toNat) 0 + (itget its i).v ≤ (kBest its V c n).1
  | 0, i, h, _ => absurd h (Nat.not_lt_zero _)
  | n + 1, i, h, hs => by
    rw [kBest]
    rcases Nat.lt_succ_iff_lt_or_eq.1 h with h | rfl
    · have ih := kBest_ge its V c n i h hs
      split
      · rename_i hc
        show _ ≤ V.getD (c - (itget its n).s.toNat) 0 + (itget its n).v
        omega
      · exact ih
    · split
      · exact Int.le_refl _
      · rename_i hc
        have : ¬ V.getD (c - (itget its i).s.toNat) 0 + (itget its i).v > (kBest its V c i).1 := fun q => hc ⟨hs, q⟩
        omega
theorem kBest_some (its : List Itm) (V : List Int) (c : Nat) : ∀ n, (kBest its V c n).1 = 0 ∨ ∃ i, i < n ∧ (itget its i).s ≤ c ∧ (kBest its V c n).1 = V.getD (c - (itget its i).s.toNat) 0 + (itget its i).v
  | 0 => .inl rfl
  | n + 1 => by
    rw [kBest]
    split
    · rename_i hc
      exact .inr ⟨n, Nat.lt_succ_self n, hc.1, rfl⟩
    · rcases kBest_some its V c n with h | ⟨i, h1, h2, h3⟩
      · exact .inl h
      · exact .inr ⟨i, by omega, h2, h3⟩
theorem gV_nonneg {its : List Itm} {M : Int} (H : Its its M) (c : Nat) : 0 ≤ gV its c := by
  have := (kV_bd H (c + 1) c (Nat.lt_succ_self _)).1
  rwa [kV_get its (Nat.lt_succ_self c)] at this
theorem gV_ub {its : List Itm} {M : Int} (H : Its its M) : ∀ (L : List Itm) (c : Nat), (∀ x ∈ L, x ∈ its) → sumBy Itm.s L ≤ c → sumBy Itm.v L ≤ gV its c
  | [], c, _, _ => gV_nonneg H c
  | x :: L, c, hm, hs => by
    obtain ⟨i, hi, e⟩ := List.getElem_of_mem (hm x (by simp))
    have ex : itget its i = x := by simp [itget, List.getD, hi, e]
    obtain ⟨s1, s2⟩ := H.s i hi
    rw [ex] at s1 s2
    have hL : 0 ≤ sumBy Itm.s L := sumBy_nonneg (fun a ha => by
      obtain ⟨j, hj, e'⟩ := List.getElem_of_mem (hm a (by simp [ha]))
      have : itget its j = a := by simp [itget, List.getD, hj, e']
      have := (H.s j hj).1
      rw [‹itget its j = a›] at this
      omega)
    simp only [sumBy] at hs ⊢
    have ih := gV_ub H L (c - x.s.toNat) (fun y hy => hm y (by simp [hy])) (by omega)
    have ge := kBest_ge its (kV its c) c its.length i hi (by rw [ex]; omega)
    rw [ex, kV_get its (show c - x.s.toNat < c by omega)] at ge
    show x.v + sumBy Itm.v L ≤ (kBest its (kV its c) c its.length).1
    omega
theorem gV_ach {its : List Itm} {M : Int} (H : Its its M) : ∀ (n c : Nat), c < n → ∃ L : List Itm, (∀ x ∈ L, x ∈ its) ∧ sumBy Itm.s L ≤ c ∧ sumBy Itm.v L = gV its c
  | 0, c, h => absurd h (Nat.not_lt_zero _)
  | n + 1, c, h => by
    rcases kBest_some its (kV its c) c its.length with e | ⟨i, hi, hs, e⟩
    · exact ⟨[], by simp, by simp [sumBy], e.symm⟩
    · obtain ⟨s1, s2⟩ := H.s i hi
      rw [kV_get its (show c - (itget its i).s.toNat < c by omega)] at e
      obtain ⟨L, h1, h2, h3⟩ := gV_ach H n (c - (itget its i).s.toNat) (by omega)
      refine ⟨itget its i :: L, fun x hx => ?_, ?_, ?_⟩
      · rcases List.mem_cons.1 hx with rfl | hx
        · exact itget_mem hi
        · exact h1 x hx
      · simp only [sumBy]; omega
      · simp only [sumBy, h3]
        show _ = (kBest its (kV its c) c its.length).1
        omega
/-! ### plans -/
structure StripOk (ks : List Knd) (w kerf : Int) (p : Knd × List Knd) : Prop where
  k : p.1 ∈ ks
  l : ∀ x ∈ p.2, x ∈ ks ∧ x.h ≤ p.1.h
  s : sumBy (fun x => x.w + kerf) p.2 ≤ w + kerf
structure PlanOk (ks : List Knd) (w h kerf : Int) (P : List (Knd × List Knd)) : Prop where
  p : ∀ p ∈ P, StripOk ks w kerf p
  s : sumBy (fun p => p.1.h + kerf) P ≤ h + kerf
def planV (P : List (Knd × List Knd)) : Int := sumBy (fun p => sumBy Knd.v p.2) P
theorem sel_has (ks : List Knd) (kerf hh : Int) : ∀ n j, j < n → (kget ks j).h ≤ hh → (⟨(kget ks j).w + kerf, (kget ks j).v⟩ : Itm) ∈ selF ks kerf hh n
  | 0, j, h, _ => absurd h (Nat.not_lt_zero _)
  | n + 1, j, h, hh' => by
    rw [selF]
    rcases Nat.lt_succ_iff_lt_or_eq.1 h with h | rfl
    · have ih := sel_has ks kerf hh n j h hh'
      split
      · exact List.mem_append_left _ ih
      · exact ih
    · rw [if_pos hh']
      exact List.mem_append_right _ (by simp)
theorem kget_of {ks : List Knd} {k : Knd} (h : k ∈ ks) : ∃ j, j < ks.length ∧ kget ks j = k := by
  obtain ⟨j, hj, e⟩ := List.getElem_of_mem h
  exact ⟨j, hj, by simp [kget, List.getD, hj, e]⟩
theorem stp_has (ks : List Knd) (kerf w h : Int) : ∀ n j, j < n → (kget ks j).h ≤ h → ∃ s ∈ stpF ks kerf w h n, s.h = (kget ks j).h
  | 0, j, hj, _ => absurd hj (Nat.not_lt_zero _)
  | n + 1, j, hj, hh => by
    rw [stpF]
    rcases Nat.lt_succ_iff_lt_or_eq.1 hj with hj | rfl
    · obtain ⟨s, h1, h2⟩ := stp_has ks kerf w h n j hj hh
      split
      · exact ⟨s, h1, h2⟩
      · exact ⟨s, List.mem_append_left _ h1, h2⟩
    · split
      · rename_i hc
        rcases hc with hc | hc
        · omega
        · obtain ⟨s, h1, h2⟩ := List.mem_map.1 hc
          exact ⟨s, h1, h2⟩
      · exact ⟨_, List.mem_append_right _ (List.mem_singleton.2 rfl), rfl⟩
section
variable {ks : List Knd} {w h kerf : Int} (p : Pb ks w h kerf)
include p
omit p in
theorem val_eq (hh : Int) : valOf ks kerf w hh = gV (selF ks kerf hh ks.length) (capI (w + kerf)) := kV_get _ (Nat.lt_succ_self _)
omit p in
theorem bestV_eq : bestV ks w h kerf = gV ((stsF ks kerf w h).map (itmS kerf)) (capI (h + kerf)) := kV_get _ (Nat.lt_succ_self _)
theorem strip_ub {q : Knd × List Knd} (hq : StripOk ks w kerf q) : sumBy Knd.v q.2 ≤ valOf ks kerf w q.1.h := by
  rw [val_eq]
  have := gV_ub (sel_its (hh := q.1.h) p.kok (Nat.le_refl _)) (q.2.map fun x => ⟨x.w + kerf, x.v⟩) (capI (w + kerf)) (fun y hy => by
    obtain ⟨x, hx, rfl⟩ := List.mem_map.1 hy
    obtain ⟨a, b⟩ := hq.l x hx
    obtain ⟨j, hj, rfl⟩ := kget_of a
    exact sel_has ks kerf q.1.h ks.length j hj b) (by
    rw [sumBy_map, p.capw.1]; exact hq.s)
  rw [sumBy_map] at this
  exact this
theorem strip_ach {k : Knd} (hk : k ∈ ks) : ∃ L, StripOk ks w kerf (k, L) ∧ sumBy Knd.v L = valOf ks kerf w k.h := by
  obtain ⟨L, h1, h2, h3⟩ := gV_ach (sel_its (hh := k.h) p.kok (Nat.le_refl _)) (capI (w + kerf) + 1) (capI (w + kerf)) (Nat.lt_succ_self _)
  rw [← val_eq, p.capw.1] at *
  have key : ∀ L : List Itm, (∀ x ∈ L, x ∈ selF ks kerf k.h ks.length) → ∃ K : List Knd, (∀ x ∈ K, x ∈ ks ∧ x.h ≤ k.h) ∧ sumBy (fun x => x.w + kerf) K = sumBy Itm.s L ∧ sumBy Knd.v K = sumBy Itm.v L := by
    intro L
    induction L with
    | nil => exact fun _ => ⟨[], by simp, rfl, rfl⟩
    | cons x L ih =>
      intro hm
      obtain ⟨K, a, b, c⟩ := ih (fun y hy => hm y (by simp [hy]))
      obtain ⟨j, hj, e, he⟩ := sel_mem ks kerf k.h ks.length x (hm x (by simp))
      refine ⟨kget ks j :: K, fun y hy => ?_, ?_, ?_⟩
      · rcases List.mem_cons.1 hy with rfl | hy
        · exact ⟨kget_mem hj, he⟩
        · exact a y hy
      · simp only [sumBy, b, e]
      · simp only [sumBy, c, e]
  obtain ⟨K, a, b, c⟩ := key L h1
  exact ⟨K, ⟨hk, a, by rw [b]; exact h2⟩, by rw [c, h3]⟩
theorem best_ub {P : List (Knd × List Knd)} (hP : PlanOk ks w h kerf P) : planV P ≤ bestV ks w h kerf := by
  have hk0 := p.k0
  have pos : ∀ q ∈ P, 0 ≤ q.1.h + kerf := fun q hq => by have := (p.ok _ (hP.p q hq).k).h0; omega
  have each : ∀ (P : List (Knd × List Knd)), (∀ q ∈ P, 0 ≤ q.1.h + kerf) → ∀ q ∈ P, q.1.h + kerf ≤ sumBy (fun p => p.1.h + kerf) P := by
    intro P
    induction P with
    | nil => intro _ q hq; cases hq
    | cons a P ih =>
      intro h0 q hq
      have hn := sumBy_nonneg (f := fun p : Knd × List Knd => p.1.h + kerf) (l := P) (fun x hx => h0 x (by simp [hx]))
      have ha := h0 a (by simp)
      simp only [sumBy]
      rcases List.mem_cons.1 hq with rfl | hq
      · omega
      · have := ih (fun x hx => h0 x (by simp [hx])) q hq
        omega
  rw [bestV_eq]
  have := gV_ub (sts_its p ks.length (Nat.le_refl _)) (P.map fun q => ⟨q.1.h + kerf, valOf ks kerf w q.1.h⟩) (capI (h + kerf)) (fun y hy => by
    obtain ⟨q, hq, rfl⟩ := List.mem_map.1 hy
    have hs := each P pos q hq
    have hle := hP.s
    obtain ⟨j, hj, e⟩ := kget_of (hP.p q hq).k
    obtain ⟨s, hs1, hs2⟩ := stp_has ks kerf w h ks.length j hj (by rw [e]; omega)
    obtain ⟨i, _, _, es⟩ := stp_mem ks kerf w h ks.length s hs1
    refine List.mem_map.2 ⟨s, hs1, ?_⟩
    rw [es] at hs2 ⊢
    replace hs2 : (kget ks i).h = (kget ks j).h := hs2
    show (⟨(kget ks i).h + kerf, valOf ks kerf w (kget ks i).h⟩ : Itm) = _
    rw [hs2, e]) (by
    rw [sumBy_map, p.caph.1]; exact hP.s)
  rw [sumBy_map] at this
  refine Int.le_trans (sumBy_le fun q hq => ?_) this
  exact strip_ub p (hP.p q hq)
theorem best_ach : ∃ P, PlanOk ks w h kerf P ∧ planV P = bestV ks w h kerf := by
  obtain ⟨L, h1, h2, h3⟩ := gV_ach (sts_its p ks.length (Nat.le_refl _)) (capI (h + kerf) + 1) (capI (h + kerf)) (Nat.lt_succ_self _)
  have hb := bestV_eq (ks := ks) (w := w) (h := h) (kerf := kerf)
  rw [stsF] at hb
  rw [← hb] at h3
  rw [p.caph.1] at h2
  have key : ∀ L : List Itm, (∀ x ∈ L, x ∈ (stpF ks kerf w h ks.length).map (itmS kerf)) → ∃ P : List (Knd × List Knd), (∀ q ∈ P, StripOk ks w kerf q) ∧ sumBy (fun q => q.1.h + kerf) P = sumBy Itm.s L ∧ planV P = sumBy Itm.v L := by
    intro L
    induction L with
    | nil => exact fun _ => ⟨[], by simp, rfl, rfl⟩
    | cons x L ih =>
      intro hm
      obtain ⟨P, a, b, c⟩ := ih (fun y hy => hm y (by simp [hy]))
      obtain ⟨s, hs, e⟩ := List.mem_map.1 (hm x (by simp))
      obtain ⟨j, hj, _, es⟩ := stp_mem ks kerf w h ks.length s hs
      obtain ⟨K, hK, hv⟩ := strip_ach p (kget_mem hj)
      refine ⟨(kget ks j, K) :: P, fun y hy => ?_, ?_, ?_⟩
      · rcases List.mem_cons.1 hy with rfl | hy
        · exact hK
        · exact a y hy
      · simp only [sumBy, b, ← e, es]; rfl
      · rw [planV] at c ⊢
        simp only [sumBy, c, hv, ← e, es]; rfl
  obtain ⟨P, a, b, c⟩ := key L h1
  exact ⟨P, ⟨a, by rw [b]; exact h2⟩, by rw [c, h3]⟩
end
/-! ### greater sheets, more kinds, smaller kerfs -/
theorem kerf_less {α : Type} {f : α → Int} {l : List α} {w kerf kerf' : Int} (hw : 0 ≤ w) (h0 : 0 ≤ kerf') (h1 : kerf' ≤ kerf) (h : sumBy (fun x => f x + kerf) l ≤ w + kerf) : sumBy (fun x => f x + kerf') l ≤ w + kerf' := by
  cases l with
  | nil => simp only [sumBy]; omega
  | cons a l =>
    have e : ∀ (l : List α), sumBy (fun x => f x + kerf') l ≤ sumBy (fun x => f x + kerf) l := fun l => sumBy_le (fun x _ => by omega)
    have := e l
    simp only [sumBy] at h ⊢
    omega
theorem plan_mono {ks ks' : List Knd} {w h kerf w' h' kerf' : Int} {P : List (Knd × List Knd)} (hP : PlanOk ks w h kerf P) (hks : ∀ k ∈ ks, k ∈ ks') (hw0 : 0 ≤ w) (hh0 : 0 ≤ h) (hw : w ≤ w') (hh : h ≤ h') (h0 : 0 ≤ kerf') (h1 : kerf' ≤ kerf) : PlanOk ks' w' h' kerf' P := by
  refine ⟨fun p hp => ?_, ?_⟩
  · obtain ⟨a, b, c⟩ := hP.p p hp
    have := kerf_less hw0 h0 h1 c
    exact ⟨hks _ a, fun x hx => ⟨hks _ (b x hx).1, (b x hx).2⟩, by omega⟩
  · have := kerf_less hh0 h0 h1 hP.s
    omega
theorem best_mono {ks ks' : List Knd} {w h kerf w' h' kerf' : Int} (p : Pb ks w h kerf) (p' : Pb ks' w' h' kerf') (hks : ∀ k ∈ ks, k ∈ ks') (hw : w ≤ w') (hh : h ≤ h') (h1 : kerf' ≤ kerf) : bestV ks w h kerf ≤ bestV ks' w' h' kerf' := by
  obtain ⟨P, a, b⟩ := best_ach p
  rw [← b]
  exact best_ub p' (plan_mono a hks (by have := p.w0; omega) (by have := p.h0; omega) hw hh p'.k0 h1)
theorem best_parts {ks : List Knd} {w h kerf lo hi : Int} (p : Pb ks w h kerf) (p1 : Pb ks w lo kerf) (p2 : Pb ks w hi kerf) (hs : lo + hi + kerf = h) : bestV ks w lo kerf + bestV ks w hi kerf ≤ bestV ks w h kerf := by
  obtain ⟨P, a, b⟩ := best_ach p1
  obtain ⟨Q, c, d⟩ := best_ach p2
  have := best_ub p (P := P ++ Q) ⟨fun q hq => (List.mem_append.1 hq).elim (a.p q) (c.p q), by
    have := a.s; have := c.s
    rw [sumBy_app]; omega⟩
  rw [planV, sumBy_app] at this
  rw [← b, ← d]
  exact this
theorem div_mono {a b c : Int} (hab : a ≤ b) (hc : 0 < c) : a / c ≤ b / c := Int.ediv_le_ediv hc hab
theorem many_mono {ks : List Knd} {w h kerf w' h' : Int} (p : Pb ks w h kerf) (hw0 : 1 ≤ w') (hh0 : 1 ≤ h') (hw : w' ≤ w) (hh : h' ≤ h) (hm : manyB ks w h kerf = false) : manyB ks w' h' kerf = false := by
  unfold manyB at hm ⊢
  by_cases hne : ks = []
  · rw [if_pos hne]
  rw [if_neg hne, decide_eq_false_iff_not] at hm ⊢
  have a0 : 1 ≤ lowL Knd.w ks 2000 := lowL_ge _ 1 _ _ (fun k hk => (p.ok k hk).w0) (by decide)
  have b0 : 1 ≤ lowL Knd.h ks 2000 := lowL_ge _ 1 _ _ (fun k hk => (p.ok k hk).h0) (by decide)
  have k0 := p.k0
  generalize lowL Knd.w ks 2000 = a at *
  generalize lowL Knd.h ks 2000 = b at *
  have c1 := div_mono (show w' + kerf ≤ w + kerf by omega) (show 0 < a + kerf by omega)
  have c2 := div_mono (show h' + kerf ≤ h + kerf by omega) (show 0 < b + kerf by omega)
  have d1 := Int.ediv_nonneg (show 0 ≤ h' + kerf by omega) (show 0 ≤ b + kerf by omega)
  have d2 := Int.ediv_nonneg (show 0 ≤ w + kerf by omega) (show 0 ≤ a + kerf by omega)
  have := Int.mul_le_mul c1 c2 d1 d2
  omega
/-! ### areas -/
theorem strip_area {ks : List Knd} {w h kerf : Int} (p : Pb ks w h kerf) {q : Knd × List Knd} (hq : StripOk ks w kerf q) : sumBy (fun x => x.w * x.h) q.2 ≤ w * q.1.h := by
  have h1 := (p.ok _ hq.k).h0
  have hs := kerf_less (f := Knd.w) (show 0 ≤ w by have := p.w0; omega) (Int.le_refl 0) p.k0 hq.s
  have h2 : sumBy (fun x => x.w * x.h) q.2 ≤ sumBy (fun x => x.w * q.1.h) q.2 := sumBy_le (fun x hx => by
    obtain ⟨a, b⟩ := hq.l x hx
    have := (p.ok x a).w0
    exact Int.mul_le_mul_of_nonneg_left b (by omega))
  have h3 : ∀ l : List Knd, sumBy (fun x => x.w * q.1.h) l = sumBy Knd.w l * q.1.h := by
    intro l
    induction l with
    | nil => simp [sumBy]
    | cons a l ih => simp only [sumBy, ih, Int.add_mul]
  have h4 : sumBy Knd.w q.2 ≤ w := by
    have : sumBy (fun x : Knd => x.w + 0) q.2 = sumBy Knd.w q.2 := sumBy_congr (fun _ _ => by omega)
    omega
  rw [h3] at h2
  exact Int.le_trans h2 (Int.mul_le_mul_of_nonneg_right h4 (by omega))
theorem best_area {ks : List Knd} {w h kerf : Int} (p : Pb ks w h kerf) (hv : ∀ k ∈ ks, k.v = k.w * k.h) : bestV ks w h kerf ≤ w * h := by
  obtain ⟨P, a, b⟩ := best_ach p
  rw [← b]
  have h1 : planV P ≤ sumBy (fun q => w * q.1.h) P := sumBy_le (fun q hq => by
    have := strip_area p (a.p q hq)
    have e : sumBy Knd.v q.2 = sumBy (fun x => x.w * x.h) q.2 := sumBy_congr (fun x hx => hv x ((a.p q hq).l x hx).1)
    omega)
  have h2 : ∀ l : List (Knd × List Knd), sumBy (fun q => w * q.1.h) l = w * sumBy (fun q => q.1.h) l := by
    intro l
    induction l with
    | nil => simp [sumBy]
    | cons a l ih => simp only [sumBy, ih, Int.mul_add]
  have hs := kerf_less (f := fun q : Knd × List Knd => q.1.h) (show 0 ≤ h by have := p.h0; omega) (Int.le_refl 0) p.k0 a.s
  have h4 : sumBy (fun q : Knd × List Knd => q.1.h) P ≤ h := by
    have : sumBy (fun q : Knd × List Knd => q.1.h + 0) P = sumBy (fun q => q.1.h) P := sumBy_congr (fun _ _ => by omega)
    omega
  rw [h2] at h1
  exact Int.le_trans h1 (Int.mul_le_mul_of_nonneg_left h4 (by have := p.w0; omega))
end St
end Go.Vm
