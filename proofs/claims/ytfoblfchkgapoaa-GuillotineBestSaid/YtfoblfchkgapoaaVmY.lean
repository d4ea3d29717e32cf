/-
  Families of objects: an object becomes the i-th of a family; what is kept of a family at a loop's head.
-/
import Derived.Test.YtfoblfchkgapoaaVmX
namespace Go.Vm
set_option linter.unusedVariables false
set_option linter.unusedSimpArgs false
open Go Go.RowKit

/-! ### a family in a list of objects -/
def famL (k n : Nat) (f : Nat → Mem) : List (Id × Mem) := (List.range n).map fun i => (.s k i, f i)
theorem memsOf_out : ∀ (l r : List (Id × Mem)) (o : Id), (∀ p ∈ l, p.1 ≠ o) → memsOf (l ++ r) o = memsOf r o
  | [], _, _, _ => rfl
  | p :: l, r, o, h => by
    simp only [List.cons_append, memsOf]
    rw [upd_ne _ _ _ (fun e => h p (by simp) e.symm)]
    exact memsOf_out l r o (fun q hq => h q (by simp [hq]))
theorem memsOf_fam (k : Nat) (f : Nat → Mem) (r : List (Id × Mem)) (i : Nat) : ∀ n, i < n → memsOf (famL k n f ++ r) (.s k i) = f i := by
  intro n hi
  have key : ∀ l : List Nat, l.Nodup → i ∈ l → memsOf ((l.map fun i => ((.s k i, f i) : Id × Mem)) ++ r) (.s k i) = f i := fun l => by
    induction l with
    | nil => intro _ h; cases h
    | cons a l ih =>
      intro hnd h
      simp only [List.map_cons, List.cons_append, memsOf]
      by_cases e : i = a
      · subst e; rw [upd_same]
      · rw [upd_ne _ _ _ (by intro q; cases q; exact e rfl)]
        exact ih (List.nodup_cons.1 hnd).2 ((List.mem_cons.1 h).resolve_left e)
  exact key (List.range n) List.nodup_range (List.mem_range.2 hi)
theorem memsOf_fam_ne (k : Nat) (f : Nat → Mem) (r : List (Id × Mem)) (n : Nat) (o : Id) (h : ∀ i, i < n → o ≠ .s k i) : memsOf (famL k n f ++ r) o = memsOf r o := by
  refine memsOf_out _ _ _ (fun p hp => ?_)
  obtain ⟨i, hi, rfl⟩ := List.mem_map.1 hp
  exact fun e => h i (List.mem_range.1 hi) e.symm
theorem KeepM.fam {m m' : Id → Mem} {k n : Nat} {f : Nat → Mem} {r : List (Id × Mem)} (h : ∀ i, i < n → MemLe m m' (m (.s k i)) (f i)) (hr : KeepM m m' r) : KeepM m m' (famL k n f ++ r) := by
  have key : ∀ l : List Nat, (∀ i ∈ l, i < n) → KeepM m m' ((l.map fun i => ((.s k i, f i) : Id × Mem)) ++ r) := fun l => by
    induction l with
    | nil => intro _; exact hr
    | cons a l ih => intro hl; exact .cons (h a (hl a (by simp))) (ih (fun i hi => hl i (by simp [hi])))
  exact key (List.range n) (fun i hi => List.mem_range.1 hi)
/-! ### an object gets another name -/
/-- The object r, which only cells of o lead to, is called q from now on. -/
theorem Adj.move {t : Nat → TV} {m : Id → Mem} {J : (Nat → TV) → (Id → Mem) → Prop} (o r : Id) (k i0 : Nat) (g n : Nat) (e : TypeId) (get get' : Nat → Nat → CV) (gr nr kr : Nat) (er : TypeId) (getr : Nat → Nat → SV)
    (hm : m o = .bldc g n 1 e get) (hr : m r = .bld gr nr kr er getr) (hq : m (.s k i0) = .none) (ho : o ≠ r)
    (hc : ∀ i, i < n → (get i 0 = .hdl r gr ∧ get' i 0 = .hdl (.s k i0) gr) ∨ get' i 0 = get i 0)
    (h : Adj t (upd (upd (upd m r .dead) (.s k i0) (.bld gr nr kr er getr)) o (.bldc g n 1 e get')) J) : Adj t m J := by
  obtain ⟨t', m', hwk, hJ⟩ := h
  refine ⟨t', m', fun E ρ a w hR => ?_, hJ⟩
  have hqo : (Id.s k i0) ≠ o := fun he => by rw [← he, hq] at hm; cases hm
  have hqr : (Id.s k i0) ≠ r := fun he => by rw [← he, hq] at hr; cases hr
  generalize hQ : Id.s k i0 = q at *
  have hE0 : E.m0 q = .none := by rw [← hQ]; exact E.hm2 k i0
  generalize hM : upd (upd (upd m r .dead) q (.bld gr nr kr er getr)) o (.bldc g n 1 e get') = M at *
  have Mo : M o = .bldc g n 1 e get' := by rw [← hM, upd_same]
  have Mq : M q = .bld gr nr kr er getr := by rw [← hM, upd_ne _ _ _ hqo, upd_same]
  have Mr : M r = .dead := by rw [← hM, upd_ne _ _ _ (Ne.symm ho), upd_ne _ _ _ (Ne.symm hqr), upd_same]
  have Mz : ∀ z, z ≠ o → z ≠ q → z ≠ r → M z = m z := fun z a b c => by rw [← hM, upd_ne _ _ _ a, upd_ne _ _ _ b, upd_ne _ _ _ c]
  have ρq : upd ρ q (ρ r) q = ρ r := upd_same _ _ _
  have ρz : ∀ z, z ≠ q → upd ρ q (ρ r) z = ρ z := fun z a => upd_ne _ _ _ a
  generalize upd ρ q (ρ r) = ρ' at *
  -- where an object was
  have was : ∀ z, (M z).live → ∃ y, (m y).live ∧ ρ' z = ρ y ∧ ((z = q ∧ y = r) ∨ (z ≠ q ∧ z ≠ r ∧ y = z)) := fun z l => by
    by_cases e1 : z = q
    · subst e1; exact ⟨r, by rw [hr]; trivial, ρq, .inl ⟨rfl, rfl⟩⟩
    · by_cases e2 : z = r
      · subst e2; rw [Mr] at l; exact l.elim
      · refine ⟨z, ?_, ρz z e1, .inr ⟨e1, e2, rfl⟩⟩
        by_cases e3 : z = o
        · subst e3; rw [hm]; trivial
        · rwa [Mz z e3 e1 e2] at l
  have hL : ∀ b, L E m ρ w b → L E M ρ' w b ∧ w.heap[b]? = w.heap[b]? := fun b hb => ⟨⟨hb.1, fun z c l hz => by
    obtain ⟨y, ly, ey, _⟩ := was z l
    exact hb.2 y c ly (by rw [← ey]; exact hz)⟩, rfl⟩
  have Mne : ∀ z, m z ≠ .none → M z ≠ .none := fun z hz => by
    by_cases e1 : z = o
    · subst e1; rw [Mo]; simp
    · by_cases e2 : z = q
      · subst e2; rw [Mq]; simp
      · by_cases e3 : z = r
        · subst e3; rw [Mr]; simp
        · rw [Mz z e1 e2 e3]; exact hz
  have hcar : ∀ z, m z ≠ .none → Carry m M ρ ρ' z := fun z hz => by
    have zq : z ≠ q := fun e1 => hz (by rw [e1]; exact hq)
    by_cases e1 : z = r
    · subst e1
      refine ⟨fun x p hp => ?_, fun x g' hh => ?_⟩
      · have := hp.oneCell
        simp only [PtrOk, Mr]; exact this
      · simp only [HdlOk, Mr]; exact ⟨hh.1, trivial⟩
    · by_cases e2 : z = o
      · subst e2
        refine ⟨fun x p hp => ?_, fun x g' hh => ?_⟩
        · simp only [PtrOk, hm] at hp
        · simp only [HdlOk, HdlAt, hm, Mo, ρz z zq] at hh ⊢; exact hh
      · exact Carry.same (Mz z e2 zq e1) (ρz z zq)
  refine hwk E ρ' a w { below := hR.below, defers := hR.defers, size := hR.size, inj := ?inj, lo := ?lo, clean := fun i z hz => Mne z (hR.clean i z hz), cleanM := ?cleanM, mem := ?mem, slots := ?slots, carry := ?carry }
  case inj =>
    intro z1 z2 b c c' l1 l2 r1 r2
    obtain ⟨y1, ly1, e1, d1⟩ := was z1 l1
    obtain ⟨y2, ly2, e2, d2⟩ := was z2 l2
    have := hR.inj y1 y2 b c c' ly1 ly2 (by rw [← e1]; exact r1) (by rw [← e2]; exact r2)
    rcases d1 with ⟨a1, a2⟩ | ⟨a1, a2, a3⟩
    · rcases d2 with ⟨b1, b2⟩ | ⟨b1, b2, b3⟩
      · rw [a1, b1]
      · exact absurd (b3.symm.trans (this.symm.trans a2)) b2
    · rcases d2 with ⟨b1, b2⟩ | ⟨b1, b2, b3⟩
      · exact absurd (a3.symm.trans (this.trans b2)) a2
      · rw [← a3, ← b3]; exact this
  case lo =>
    intro z b c l hz
    obtain ⟨y, ly, ey, _⟩ := was z l
    exact hR.lo y b c ly (by rw [← ey]; exact hz)
  case cleanM =>
    intro z1 z2 hz
    by_cases e1 : z1 = o
    · subst e1
      rw [Mo] at hz
      obtain ⟨i, j, hi, hj, hh⟩ := hz
      obtain rfl : j = 0 := by omega
      rcases hc i hi with ⟨q1, q2⟩ | q1
      · rw [q2] at hh
        cases hh
        rw [Mq]; simp
      · rw [q1] at hh
        exact Mne z2 (hR.cleanM z1 z2 (by rw [hm]; exact ⟨i, 0, hi, hj, hh⟩))
    · by_cases e2 : z1 = q
      · subst e2; rw [Mq] at hz; exact hz.elim
      · by_cases e3 : z1 = r
        · subst e3; rw [Mr] at hz; exact hz.elim
        · rw [Mz z1 e1 e2 e3] at hz
          exact Mne z2 (hR.cleanM z1 z2 hz)
  case mem =>
    intro z
    by_cases e1 : z = o
    · subst e1
      rw [Mo]
      have hmo := hR.mem z
      rw [hm] at hmo
      have ez := ρz z (Ne.symm hqo)
      rcases hmo with ⟨h1, h2⟩ | ⟨b, cap, arr, h1, h2, h3, h4, h5, h7⟩
      · exact .inl ⟨by rw [ez, h1], h2⟩
      · refine .inr ⟨b, cap, arr, by rw [ez, h1], h2, h3, h4, h5, fun i hi j hj => ?_⟩
        obtain rfl : j = 0 := by omega
        obtain ⟨x, hx, hv⟩ := h7 i hi 0 hj
        refine ⟨x, hx, ?_⟩
        rcases hc i hi with ⟨q1, q2⟩ | q1
        · rw [q1] at hv
          rw [q2]
          show HdlOk M ρ' x q gr
          have hv' : HdlOk m ρ x r gr := hv
          simp only [HdlOk, HdlAt, hr] at hv'
          simp only [HdlOk, HdlAt, Mq, ρq]
          exact hv'
        · rw [q1]
          exact hv.mono hL (fun z' hz' => hcar z' (hR.cleanM z z' (by rw [hm]; exact ⟨i, 0, hi, hj, hz'⟩)))
    · by_cases e2 : z = q
      · subst e2
        rw [Mq]
        have hmo := hR.mem r
        rw [hr] at hmo
        rcases hmo with ⟨h1, h2⟩ | ⟨b, cap, arr, h1, h2, h3, h4, h5, h7⟩
        · exact .inl ⟨by rw [ρq, h1], h2⟩
        · refine .inr ⟨b, cap, arr, by rw [ρq, h1], h2, h3, h4, h5, fun i hi j hj => ?_⟩
          obtain ⟨x, hx, hv⟩ := h7 i hi j hj
          exact ⟨x, hx, hv.mono hL⟩
      · by_cases e3 : z = r
        · subst e3; rw [Mr]; trivial
        · rw [Mz z e1 e2 e3]
          exact (hR.mem z).mono hL (ρz z e2) (fun _ _ _ _ => rfl) (fun z' hz' => hcar z' (hR.cleanM z z' hz'))
  case slots =>
    intro i
    have hs := hR.slots i
    have hcl := hR.clean i
    generalize t i = v at hs hcl
    have zq : ∀ z, m z ≠ .none → z ≠ q := fun z hz e1 => hz (by rw [e1]; exact hq)
    cases v with
    | any => trivial
    | undef => exact hs
    | d v => exact DRd.mono hL hs
    | tup vs => obtain ⟨xs, h1, h2⟩ := hs; exact ⟨xs, h1, h2.mono hL⟩
    | ptr o1 p => exact (hcar o1 (hcl o1 rfl)).ptr _ p hs
    | hdl o1 g => exact (hcar o1 (hcl o1 rfl)).hdl _ g hs
    | ep o1 g' i' off =>
      have z1 := zq o1 (hcl o1 rfl)
      by_cases e1 : o1 = r
      · subst e1; simp only [TOk, Mr]
      · by_cases e2 : o1 = o
        · subst e2; simp only [TOk, hm, Mo, ρz o1 z1] at hs ⊢; exact hs
        · exact TOk.mono hL (fun o2 h2 => by cases h2; exact ⟨Mz _ e2 z1 e1, ρz _ z1⟩) hs
    | sub o1 g' lo n' =>
      have z1 := zq o1 (hcl o1 rfl)
      by_cases e1 : o1 = r
      · subst e1
        have h1 : SubOk m ρ _ o1 g' lo n' := hs
        simp only [TOk, SubOk, Mr]; exact ⟨h1.1, trivial⟩
      · by_cases e2 : o1 = o
        · subst e2; simp only [TOk, SubOk, SubAt, hm, Mo, ρz o1 z1] at hs ⊢; exact hs
        · exact TOk.mono hL (fun o2 h2 => by cases h2; exact ⟨Mz _ e2 z1 e1, ρz _ z1⟩) hs
    | nb n neg => exact hs
    | clo f caps => exact CloOk.mono hL (fun o1 hr => hcar o1 (hcl o1 hr)) hs
  case carry =>
    intro z hn
    have hc0 := hR.carry z hn
    have zq : z ≠ q := fun e1 => hn (by rw [e1]; exact hE0)
    have hcz : Carry m M ρ ρ' z := by
      by_cases e1 : m z = .none
      · have zo : z ≠ o := fun e2 => by rw [e2, hm] at e1; cases e1
        have zr : z ≠ r := fun e2 => by rw [e2, hr] at e1; cases e1
        exact Carry.same (Mz z zo zq zr) (ρz z zq)
      · exact hcar z e1
    refine ⟨fun x p hp => hcz.ptr x p (hc0.ptr x p hp), fun x hg hh => ?_⟩
    by_cases e1 : z = r
    · subst e1; rw [Mr] at hg; simp [Mem.gen] at hg
    · refine hcz.hdl x 1 (hc0.hdl x ?_ hh)
      by_cases e2 : z = o
      · subst e2; rw [Mo] at hg; rw [hm]; exact hg
      · rwa [Mz z e2 zq e1] at hg
end Go.Vm
