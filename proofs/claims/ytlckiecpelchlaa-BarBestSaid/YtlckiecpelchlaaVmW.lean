/-
  A row whose handle lies in a cell of another object is shut.
-/
import Derived.Test.YtlckiecpelchlaaVmV
namespace Go.Vm
set_option linter.unusedVariables false
set_option linter.unusedSimpArgs false
open Go Go.RowKit
/-- Rows whose handles lie in the cells of an object: one of them is read from now on. -/
theorem Adj.freezeCell {t : Nat → TV} {m : Id → Mem} {J : (Nat → TV) → (Id → Mem) → Prop} (o r : Id) (g n : Nat) (e : TypeId) (get : Nat → Nat → CV) (gr nr kr : Nat) (er : TypeId) (getr : Nat → Nat → SV) (get' : Nat → Nat → SV)
    (hm : m o = .bldc g n 1 e get) (hr : m r = .bld gr nr kr er getr) (hc : ∀ i, i < n → get i 0 = .s (get' i 0) ∨ (get i 0 = .hdl r gr ∧ get' i 0 = .sl nr kr getr))
    (h : Adj t (upd (upd m r .dead) o (.bld g n 1 e get')) J) : Adj t m J := by
  obtain ⟨t', m', hwk, hJ⟩ := h
  have hne : o ≠ r := fun he => by rw [he, hr] at hm; cases hm
  refine ⟨t', m', fun E ρ a w hR => ?_, hJ⟩
  have hLr : ∀ b, L E m ρ w b → L E (upd m r .dead) ρ w b := fun b hb => ⟨hb.1, fun o' c' l q => by
    by_cases e2 : o' = r
    · subst e2; rw [upd_same] at l; exact l.elim
    · rw [upd_ne _ _ _ e2] at l; exact hb.2 o' c' l q⟩
  have key : ∀ x, HdlOk m ρ x r gr → Rd (L E (upd m r .dead) ρ w) w x (.sl nr kr getr) := by
    intro x hv
    have hl := (Lend.bld (m := m) (ks := [r.key]) (o := r) (by simp) hr).rd (E := E) (ρ := ρ) (fun _ _ => rfl) hR.toOwn _ hv
    have hby : (m r).bldy = some (gr, nr, kr) := by rw [hr]; rfl
    have h3 := ((hdlOk_bldy hby).1 hv).2.2 rfl
    have hmo := hR.mem r
    rw [hr] at hmo
    rcases hmo with ⟨hρ, hn0⟩ | ⟨bl, cap, arr, hρ, hblk, hsz, hnc, hcm, hel⟩
    · simp only [HdlAt, hρ] at h3
      rw [h3, hn0]
      exact Rd.nil kr getr
    · simp only [HdlAt, hρ] at h3
      rw [h3]
      obtain ⟨q1, q2⟩ := hR.lo r bl cap (mem_live_bld hr) hρ
      refine Rd.sl (fun i j => (arr[i * kr + j]?).getD Go.undef) ⟨.inr (q1.imp (fun q => q) (fun q1 => ⟨q1, q2⟩)), fun o'' c'' l'' r'' => ?_⟩ hnc hcm (fun i hi j hj => ?_) (fun i hi j hj => ?_)
      · by_cases e2 : o'' = r
        · subst e2; rw [upd_same] at l''; exact l''.elim
        · rw [upd_ne _ _ _ e2] at l''; exact e2 (hR.inj o'' r bl c'' cap l'' (mem_live_bld hr) r'' hρ)
      · obtain ⟨y, hy, _⟩ := hel i hi j hj
        simp [World.cell?, hblk, hy]
      · obtain ⟨y, hy, hr'⟩ := hel i hi j hj
        simp only [hy, Option.getD_some]
        exact hr'.mono (fun b hb => ⟨hLr b hb, rfl⟩)
  have k1 := hR.freeze1 r (by rw [hr]; simp)
  have ho1 : upd m r .dead o = .bldc g n 1 e get := by rw [upd_ne _ _ _ hne, hm]
  have hs : Shape (upd m r .dead o) (.bld g n 1 e get') := .bldy (q := (g, n, 1)) (by rw [ho1]; rfl) rfl
  have hs' : Shape (upd m r .dead o) (upd (upd m r .dead) o (.bld g n 1 e get') o) := by rw [upd_same]; exact hs
  have hρ : upd ρ o (ρ o) = ρ := upd_self ρ o
  have hρ' : upd ρ o (ρ o) o = ρ o := upd_same _ _ _
  have hmo := hR.mem o
  rw [hm] at hmo
  have hL2 : ∀ b, L E (upd m r .dead) ρ w b → L E (upd (upd m r .dead) o (.bld g n 1 e get')) (upd ρ o (ρ o)) w b := fun b hb => ⟨hb.1, fun o' c' l q => by
    rw [hρ] at q
    by_cases e2 : o' = o
    · subst e2; exact hb.2 o' c' (by rw [ho1]; trivial) q
    · rw [upd_ne _ _ _ e2] at l; exact hb.2 o' c' l q⟩
  have k2 := k1.one o (.bld g n 1 e get') (ρ o) (Bx.refl _ _ _) (fun b hb => ⟨hL2 b hb, rfl⟩) (fun _ _ _ _ _ _ => rfl)
    (fun _ b c hq => ⟨k1.lo o b c (by rw [ho1]; trivial) hq, fun o' c' ho' l q => ho' (k1.inj o' o b c' c l (by rw [ho1]; trivial) q hq)⟩)
    hs.ne (fun o' hq => hq.elim) (fun he => by rw [ho1] at he; cases he) (fun hg => by rw [← hs.gen]; exact hg) ?_ (fun _ => hs'.carry hρ') (fun x g i off _ => hs'.ep hρ' x g i off) (fun x g lo n _ => hs'.sub hρ' x g lo n)
  · rw [hρ] at k2
    exact hwk E ρ a w k2
  · rw [hρ] at hL2 ⊢
    rcases hmo with hq | ⟨b, cap, arr, h1, h2, h3, h4, h5, h6⟩
    · exact .inl hq
    · refine .inr ⟨b, cap, arr, h1, h2, h3, h4, h5, fun i hi j hj => ?_⟩
      obtain rfl : j = 0 := by omega
      obtain ⟨x, hx, hv⟩ := h6 i hi 0 hj
      refine ⟨x, hx, ?_⟩
      rcases hc i hi with q | ⟨q1, q2⟩
      · rw [q] at hv
        exact Rd.mono (fun b hb => ⟨hL2 b (hLr b hb), rfl⟩) hv
      · rw [q1] at hv
        rw [q2]
        exact Rd.mono (fun b hb => ⟨hL2 b hb, rfl⟩) (key x hv)
/-- An object all of whose cells are data again. -/
theorem Adj.uncell {t : Nat → TV} {m : Id → Mem} {J : (Nat → TV) → (Id → Mem) → Prop} (o : Id) (g n : Nat) (e : TypeId) (get : Nat → Nat → CV) (get' : Nat → Nat → SV)
    (hm : m o = .bldc g n 1 e get) (hc : ∀ i, i < n → get i 0 = .s (get' i 0)) (h : Adj t (upd m o (.bld g n 1 e get')) J) : Adj t m J := by
  obtain ⟨t', m', hwk, hJ⟩ := h
  refine ⟨t', m', fun E ρ a w hR => ?_, hJ⟩
  have hs : Shape (m o) (.bld g n 1 e get') := .bldy (q := (g, n, 1)) (by rw [hm]; rfl) rfl
  have hs' : Shape (m o) (upd m o (.bld g n 1 e get') o) := by rw [upd_same]; exact hs
  have hρ : upd ρ o (ρ o) = ρ := upd_self ρ o
  have hρ' : upd ρ o (ρ o) o = ρ o := upd_same _ _ _
  have hmo := hR.mem o
  rw [hm] at hmo
  have hL2 : ∀ b, L E m ρ w b → L E (upd m o (.bld g n 1 e get')) (upd ρ o (ρ o)) w b := fun b hb => ⟨hb.1, fun o' c' l q => by
    rw [hρ] at q
    by_cases e2 : o' = o
    · subst e2; exact hb.2 o' c' (by rw [hm]; trivial) q
    · rw [upd_ne _ _ _ e2] at l; exact hb.2 o' c' l q⟩
  have k2 := hR.one o (.bld g n 1 e get') (ρ o) (Bx.refl _ _ _) (fun b hb => ⟨hL2 b hb, rfl⟩) (fun _ _ _ _ _ _ => rfl)
    (fun _ b c hq => ⟨hR.lo o b c (by rw [hm]; trivial) hq, fun o' c' ho' l q => ho' (hR.inj o' o b c' c l (by rw [hm]; trivial) q hq)⟩)
    hs.ne (fun o' hq => hq.elim) (fun he => by rw [hm] at he; cases he) (fun hg => by rw [← hs.gen]; exact hg) ?_ (fun _ => hs'.carry hρ') (fun x g i off _ => hs'.ep hρ' x g i off) (fun x g lo n _ => hs'.sub hρ' x g lo n)
  · rw [hρ] at k2
    exact hwk E ρ a w k2
  · rw [hρ] at hL2 ⊢
    rcases hmo with hq | ⟨b, cap, arr, h1, h2, h3, h4, h5, h6⟩
    · exact .inl hq
    · refine .inr ⟨b, cap, arr, h1, h2, h3, h4, h5, fun i hi j hj => ?_⟩
      obtain rfl : j = 0 := by omega
      obtain ⟨x, hx, hv⟩ := h6 i hi 0 hj
      refine ⟨x, hx, ?_⟩
      rw [hc i hi] at hv
      exact Rd.mono (fun b hb => ⟨hL2 b hb, rfl⟩) hv
end Go.Vm
