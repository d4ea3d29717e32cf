/-
  Cells of an object said anew: a nil slice becomes a slice of the call's own; a row whose handle lies in an object's cell is shut.
-/
import Derived.Test.YtlckiecpelchlaaVmW
namespace Go.Vm
set_option linter.unusedVariables false
set_option linter.unusedSimpArgs false
open Go Go.RowKit
theorem Rel.recell {E : Env} {ρ : Id → Option (Nat × Nat)} {t : Nat → TV} {m : Id → Mem} {a : Act} {w : World} (h : Rel E ρ t m a w) (o : Id) (cs' : List CV) (hbx : (m o).boxy = true) (hl : (m o).live)
    (href : ∀ o', (∃ c ∈ cs', c.refs o') → m o' ≠ .none) (hmem : MemOk E m ρ w o (.obj cs')) : Rel E ρ t (upd m o (.obj cs')) a w := by
  have hs : Shape (m o) (.obj cs') := .boxy hbx rfl
  have hs' : Shape (m o) (upd m o (.obj cs') o) := by rw [upd_same]; exact hs
  have hρ : upd ρ o (ρ o) = ρ := upd_self ρ o
  have hρ' : upd ρ o (ρ o) o = ρ o := upd_same _ _ _
  have hL : ∀ b, L E m ρ w b → L E (upd m o (.obj cs')) (upd ρ o (ρ o)) w b ∧ w.heap[b]? = w.heap[b]? := fun b hb => ⟨⟨hb.1, fun o' c' l q => by
    rw [hρ] at q
    by_cases e2 : o' = o
    · subst e2; exact hb.2 o' c' hl q
    · rw [upd_ne _ _ _ e2] at l; exact hb.2 o' c' l q⟩, rfl⟩
  have hne : m o ≠ .none := fun e => by rw [e] at hl; exact hl
  have := h.one o (.obj cs') (ρ o) (Bx.refl _ _ _) hL (fun _ _ _ _ _ _ => rfl)
    (fun _ b c hq => ⟨h.lo o b c hl hq, fun o' c' ho' l q => ho' (h.inj o' o b c' c l hl q hq)⟩)
    hs.ne (fun o' hq => .inr (href o' hq)) (fun he => absurd he hne) (fun hg => by rw [← hs.gen]; exact hg) (by
      obtain ⟨b, c, xs, e, h1, h2, h3⟩ := hmem
      refine ⟨b, c, xs, e, by rw [hρ]; exact h1, h2, h3.mono hL (fun o' _ => ?_)⟩
      by_cases e2 : o' = o
      · subst e2; exact hs'.carry hρ'
      · exact Carry.same (upd_ne _ _ _ e2) (by rw [hρ])) (fun _ => hs'.carry hρ') (fun x g i off _ => hs'.ep hρ' x g i off) (fun x g lo n _ => hs'.sub hρ' x g lo n)
  rwa [hρ] at this
/-- A cell that holds no slice: an own slice without elements. -/
theorem Adj.nilCell {t : Nat → TV} {m : Id → Mem} {J : (Nat → TV) → (Id → Mem) → Prop} (o : Id) (i q k : Nat) (e : TypeId) (get : Nat → Nat → SV) (cs : List SV) (cs' : List CV) (hm : m o = .box cs) (hi : cs[i]? = some (.v (.slice none 0 0))) (hcs : cs' = (cs.map CV.s).set i (.hdl (.n q) 0)) (hq : m (.n q) = .none)
    (h : Adj t (upd (upd m (.n q) (.bld 0 0 k e get)) o (.obj cs')) J) (ho : q < 2000 := by decide) : Adj t m J := by
  obtain ⟨t', m', hwk, hJ⟩ := h
  have hne : o ≠ .n q := fun he => by rw [he, hq] at hm; cases hm
  refine ⟨t', m', fun E ρ a w hR => ?_, hJ⟩
  obtain ⟨k1, k2⟩ := hR.nilBld (.n q) 0 k e get ⟨by omega, .inl ⟨hq, E.hm1 q ho⟩⟩
  have hm1 : upd m (.n q) (.bld 0 0 k e get) o = .box cs := by rw [upd_ne _ _ _ hne, hm]
  refine hwk E _ a w (k1.recell o cs' (by rw [hm1]; rfl) (by rw [hm1]; trivial) ?_ ?_)
  · rintro o' ⟨c, hc, hr⟩
    subst hcs
    rcases List.mem_or_eq_of_mem_set hc with hc | rfl
    · obtain ⟨x, _, rfl⟩ := List.mem_map.1 hc; exact hr.elim
    · cases hr; rw [upd_same]; simp
  · have hmo := k1.mem o
    rw [hm1] at hmo
    obtain ⟨b, c, xs, e', h1, h2, h3⟩ := hmo
    refine ⟨b, c, xs, e', h1, h2, ?_⟩
    subst hcs
    generalize upd m (.n q) (.bld 0 0 k e get) = m1 at *
    generalize upd ρ (.n q) none = ρ1 at *
    clear h1 h2
    have key : ∀ (cs : List SV) (xs : List Value) (i : Nat), RdL (L E m1 ρ1 w) w xs cs → cs[i]? = some (.v (.slice none 0 0)) → CVL (L E m1 ρ1 w) m1 ρ1 w xs ((cs.map CV.s).set i (.hdl (.n q) 0)) := by
      intro cs
      induction cs with
      | nil => intro xs i _ hi; simp at hi
      | cons c cs ih =>
        intro xs i hx hi
        cases hx with
        | @cons x _ xs _ a b =>
          cases i with
          | zero =>
            simp only [List.getElem?_cons_zero, Option.some.injEq] at hi
            subst hi
            have hx0 := (Rd.inv_v a).1
            subst hx0
            have rest : ∀ (cs : List SV) (xs : List Value), RdL (L E m1 ρ1 w) w xs cs → CVL (L E m1 ρ1 w) m1 ρ1 w xs (cs.map CV.s) := by
              intro cs
              induction cs with
              | nil => intro xs h; cases h; exact .nil
              | cons c cs ih => intro xs h; cases h with | cons a b => exact .cons a (ih _ b)
            exact .cons k2 (rest _ _ b)
          | succ i => exact .cons a (ih xs i b (by simpa using hi))
    exact key cs xs i h3 hi
/-- Cells beside what they are when the row r is shut. -/
inductive Frz (r : Id) (g : Nat) (c0 : SV) : List CV → List CV → Prop where
  | nil : Frz r g c0 [] []
  | same {c : CV} {l l' : List CV} (h : Frz r g c0 l l') : Frz r g c0 (c :: l) (c :: l')
  | shut {l l' : List CV} (h : Frz r g c0 l l') : Frz r g c0 (.hdl r g :: l) (.s c0 :: l')
theorem Frz.mem {r : Id} {g : Nat} {c0 : SV} {l l' : List CV} (h : Frz r g c0 l l') : ∀ c ∈ l', c ∈ l ∨ c = .s c0 := by
  induction h with
  | nil => simp
  | same _ ih =>
    intro c hc
    rcases List.mem_cons.1 hc with rfl | hc
    · exact .inl (by simp)
    · exact (ih c hc).imp (fun h => by simp [h]) id
  | shut _ ih =>
    intro c hc
    rcases List.mem_cons.1 hc with rfl | hc
    · exact .inr rfl
    · exact (ih c hc).imp (fun h => by simp [h]) id
theorem Frz.rd {r : Id} {g : Nat} {c0 : SV} {S S' : Nat → Prop} {m m' : Id → Mem} {ρ : Id → Option (Nat × Nat)} {w : World} (key : ∀ x, HdlOk m ρ x r g → Rd S' w x c0) {l l' : List CV} (h : Frz r g c0 l l') : ∀ {xs : List Value}, CVL S m ρ w xs l → CVL S' m' ρ w xs l → CVL S' m' ρ w xs l' := by
  induction h with
  | nil => intro xs _ h; exact h
  | same _ ih => intro xs h1 h2; cases h1 with | cons a b => cases h2 with | cons c d => exact .cons c (ih b d)
  | shut _ ih => intro xs h1 h2; cases h1 with | cons a b => cases h2 with | cons c d => exact .cons (key _ a) (ih b d)
/-- A row whose handle lies in an object's cell is read from now on. -/
theorem Adj.freezeObj {t : Nat → TV} {m : Id → Mem} {J : (Nat → TV) → (Id → Mem) → Prop} (o r : Id) (cs cs' : List CV) (gr nr kr : Nat) (er : TypeId) (getr : Nat → Nat → SV)
    (hm : m o = .obj cs) (hr : m r = .bld gr nr kr er getr) (hc : Frz r gr (.sl nr kr getr) cs cs')
    (h : Adj t (upd (upd m r .dead) o (.obj cs')) J) : Adj t m J := by
  obtain ⟨t', m', hwk, hJ⟩ := h
  have hne : o ≠ r := fun he => by rw [he, hr] at hm; cases hm
  refine ⟨t', m', fun E ρ a w hR => ?_, hJ⟩
  have hLr : ∀ b, L E m ρ w b → L E (upd m r .dead) ρ w b := fun b hb => ⟨hb.1, fun o' c' l q => by
    by_cases e2 : o' = r
    · subst e2; rw [upd_same] at l; exact l.elim
    · rw [upd_ne _ _ _ e2] at l; exact hb.2 o' c' l q⟩
  have key : ∀ x, HdlOk m ρ x r gr → Rd (L E (upd m r .dead) ρ w) w x (.sl nr kr getr) := by
    intro x hv
    have hby : (m r).bldy = some (gr, nr, kr) := by rw [hr]; rfl
    have h3 := ((hdlOk_bldy hby).1 hv).2.2 rfl
    have hmo := hR.mem r
    rw [hr] at hmo
    rcases hmo with ⟨hρ, hn0⟩ | ⟨bl, cap, arr, hρ, hblk, hsz, hnc, hcm, hel⟩
    · simp only [HdlAt, hρ] at h3
      rw [h3, hn0]
      exact Rd.nil kr getr
    · simp only [HdlAt, hρ] at h3
      rw [h3]
      obtain ⟨q1, q2⟩ := hR.lo r bl cap (mem_live_bld hr) hρ
      refine Rd.sl (fun i j => (arr[i * kr + j]?).getD Go.undef) ⟨.inr (q1.imp (fun q => q) (fun q1 => ⟨q1, q2⟩)), fun o'' c'' l'' r'' => ?_⟩ hnc hcm (fun i hi j hj => ?_) (fun i hi j hj => ?_)
      · by_cases e2 : o'' = r
        · subst e2; rw [upd_same] at l''; exact l''.elim
        · rw [upd_ne _ _ _ e2] at l''; exact e2 (hR.inj o'' r bl c'' cap l'' (mem_live_bld hr) r'' hρ)
      · obtain ⟨y, hy, _⟩ := hel i hi j hj
        simp [World.cell?, hblk, hy]
      · obtain ⟨y, hy, hr'⟩ := hel i hi j hj
        simp only [hy, Option.getD_some]
        exact hr'.mono (fun b hb => ⟨hLr b hb, rfl⟩)
  have k1 := hR.freeze1 r (by rw [hr]; simp)
  have ho1 : upd m r .dead o = .obj cs := by rw [upd_ne _ _ _ hne, hm]
  refine hwk E ρ a w (k1.recell o cs' (by rw [ho1]; rfl) (by rw [ho1]; trivial) ?_ ?_)
  · rintro o' ⟨c, hc', hr'⟩
    rcases hc.mem c hc' with hc' | rfl
    · exact k1.cleanM o o' (by rw [ho1]; exact ⟨c, hc', hr'⟩)
    · exact hr'.elim
  · have h1 := hR.mem o
    have h2 := k1.mem o
    rw [hm] at h1
    rw [ho1] at h2
    obtain ⟨b, c, xs, e, a1, a2, a3⟩ := h1
    obtain ⟨b', c', xs', e', b1, b2, b3⟩ := h2
    rw [a1] at b1
    cases b1
    rw [a2] at b2
    have hxs : xs = xs' := by
      injection b2 with b2
      injection b2 with b2 _ _
      simpa using b2
    subst hxs
    exact ⟨b, c, xs, e, a1, a2, hc.rd key a3 b3⟩
end Go.Vm
