/-
  What a memory contract must hold of itself, by a check.
-/
import Derived.Test.YtgmlblmkcbcgaaaVmU
namespace Go.Vm
set_option linter.unusedVariables false
set_option linter.unusedSimpArgs false
open Go Go.RowKit

def okId (n : Nat) (f : Bool) : Id → Bool
  | .n k => (Nat.ble 2000 k && Nat.blt k (2000 + n)) || (f && Nat.beq k 3000)
  | .s _ _ => false
def CR.okB (ok : Id → Bool) : CR → Bool
  | .s _ => true
  | .ptr o _ => ok o
def crsB (ok : Id → Bool) : List CR → Bool
  | [] => true
  | c :: r => c.okB ok && crsB ok r
def CV.okB (ok : Id → Bool) (gen : Id → Nat) : CV → Bool
  | .s _ => true
  | .ptr o _ => ok o
  | .hdl o g => ok o && Nat.beq g (gen o)
  | .clo _ caps => crsB ok caps
def cvsB (ok : Id → Bool) (gen : Id → Nat) : List CV → Bool
  | [] => true
  | c :: r => c.okB ok gen && cvsB ok gen r
def Mem.okB (ok : Id → Bool) (gen : Id → Nat) : Mem → Bool
  | .obj cs => cvsB ok gen cs
  | .bldc .. => false
  | _ => true
def memsB (ok : Id → Bool) (gen : Id → Nat) : List Mem → Bool
  | [] => true
  | c :: r => c.okB ok gen && memsB ok gen r
def TV.okB (ok : Id → Bool) (gen : Id → Nat) : TV → Bool
  | .ptr o _ => ok o
  | .hdl o g => ok o && Nat.beq g (gen o)
  | .clo _ caps => crsB ok caps
  | .d _ => true
  | .tup _ => true
  | _ => false
def tvsB (ok : Id → Bool) (gen : Id → Nat) : List TV → Bool
  | [] => true
  | c :: r => c.okB ok gen && tvsB ok gen r
def Mem.isNone : Mem → Bool
  | .none => true
  | _ => false
def nzB : List Mem → Bool
  | [] => true
  | x :: r => Nat.blt 0 x.kind && nzB r
def sigB (args : List TV) (ms : List Mem) (r : TV) (ms' : List Mem) (fr : Mem) : Bool :=
  Nat.ble ms.length 1000 && kinB ms ms' && nzB ms && tvsB (okId ms.length false) (fun o => (memL 2000 ms o).gen) args && memsB (okId ms.length false) (fun o => (memL 2000 ms o).gen) ms &&
    r.okB (okId ms.length (!fr.isNone)) (fun o => (memR ms' fr o).gen) && memsB (okId ms.length (!fr.isNone)) (fun o => (memR ms' fr o).gen) (fr :: ms')

theorem crsB_ok {ok : Id → Bool} : ∀ {l : List CR}, crsB ok l = true → ∀ o, (∃ c ∈ l, c.refs o) → ok o = true
  | [], _, o, ⟨c, hc, _⟩ => by simp at hc
  | c0 :: r, h, o, ⟨c, hc, hr⟩ => by
    simp only [crsB, Bool.and_eq_true] at h
    rcases List.mem_cons.1 hc with rfl | hc
    · cases c with
      | s c => exact hr.elim
      | ptr o' p => cases hr; exact h.1
    · exact crsB_ok h.2 o ⟨c, hc, hr⟩
theorem CV.okB_ok {ok : Id → Bool} {gen : Id → Nat} {c : CV} (h : c.okB ok gen = true) : (∀ o, c.refs o → ok o = true) ∧ ∀ m : Id → Mem, (∀ o, (m o).gen = gen o) → c.cur m := by
  cases c with
  | s c => exact ⟨fun o hr => hr.elim, fun _ _ => trivial⟩
  | ptr o p => exact ⟨fun o hr => by cases hr; exact h, fun _ _ => trivial⟩
  | hdl o g =>
    simp only [CV.okB, Bool.and_eq_true] at h
    exact ⟨fun o hr => by cases hr; exact h.1, fun m hm => by show g = _; rw [hm]; exact Nat.eq_of_beq_eq_true h.2⟩
  | clo f caps => exact ⟨fun o hr => crsB_ok h o hr, fun _ _ => trivial⟩
theorem cvsB_ok {ok : Id → Bool} {gen : Id → Nat} : ∀ {l : List CV}, cvsB ok gen l = true → ∀ c ∈ l, c.okB ok gen = true
  | [], _, c, hc => by simp at hc
  | c0 :: r, h, c, hc => by
    simp only [cvsB, Bool.and_eq_true] at h
    rcases List.mem_cons.1 hc with rfl | hc
    · exact h.1
    · exact cvsB_ok h.2 c hc
theorem Mem.okB_ok {ok : Id → Bool} {gen : Id → Nat} {x : Mem} (h : x.okB ok gen = true) : (∀ o, x.refs o → ok o = true) ∧ ∀ m : Id → Mem, (∀ o, (m o).gen = gen o) → x.cur m := by
  cases x with
  | obj cs => exact ⟨fun o ⟨c, hc, hr⟩ => (CV.okB_ok (cvsB_ok h c hc)).1 o hr, fun m hm c hc => (CV.okB_ok (cvsB_ok h c hc)).2 m hm⟩
  | bldc => simp [Mem.okB] at h
  | _ => exact ⟨fun o hr => hr.elim, fun _ _ => trivial⟩
theorem memsB_ok {ok : Id → Bool} {gen : Id → Nat} : ∀ {l : List Mem}, memsB ok gen l = true → ∀ c ∈ l, c.okB ok gen = true
  | [], _, c, hc => by simp at hc
  | c0 :: r, h, c, hc => by
    simp only [memsB, Bool.and_eq_true] at h
    rcases List.mem_cons.1 hc with rfl | hc
    · exact h.1
    · exact memsB_ok h.2 c hc
theorem TV.okB_ok {ok : Id → Bool} {gen : Id → Nat} {c : TV} (h : c.okB ok gen = true) : (∀ o, c.refs o → ok o = true) ∧ ∀ m : Id → Mem, (∀ o, (m o).gen = gen o) → c.cur m := by
  cases c with
  | ptr o p => exact ⟨fun o hr => by cases hr; exact h, fun _ _ => trivial⟩
  | hdl o g =>
    simp only [TV.okB, Bool.and_eq_true] at h
    exact ⟨fun o hr => by cases hr; exact h.1, fun m hm => by show g = _; rw [hm]; exact Nat.eq_of_beq_eq_true h.2⟩
  | clo f caps => exact ⟨fun o hr => crsB_ok h o hr, fun _ _ => trivial⟩
  | d v => exact ⟨fun o hr => hr.elim, fun _ _ => trivial⟩
  | tup v => exact ⟨fun o hr => hr.elim, fun _ _ => trivial⟩
  | _ => simp [TV.okB] at h
theorem tvsB_ok {ok : Id → Bool} {gen : Id → Nat} : ∀ {l : List TV}, tvsB ok gen l = true → ∀ c ∈ l, c.okB ok gen = true
  | [], _, c, hc => by simp at hc
  | c0 :: r, h, c, hc => by
    simp only [tvsB, Bool.and_eq_true] at h
    rcases List.mem_cons.1 hc with rfl | hc
    · exact h.1
    · exact tvsB_ok h.2 c hc
theorem nzB_ok : ∀ {l : List Mem}, nzB l = true → ∀ x ∈ l, x ≠ .none
  | [], _, c, hc => by simp at hc
  | c0 :: r, h, c, hc => by
    simp only [nzB, Bool.and_eq_true] at h
    rcases List.mem_cons.1 hc with rfl | hc
    · intro e
      rw [e] at h
      simp [Mem.kind, Nat.blt] at h
    · exact nzB_ok h.2 c hc

theorem sigM_of {args : List TV} {ms : List Mem} {r : TV} {ms' : List Mem} {fr : Mem} (h : sigB args ms r ms' fr = true) : SigM args ms r ms' fr := by
  simp only [sigB, Bool.and_eq_true] at h
  obtain ⟨⟨⟨⟨⟨⟨h1, h2⟩, h3⟩, h4⟩, h5⟩, h6⟩, h7⟩ := h
  have hfew := Nat.le_of_ble_eq_true h1
  obtain ⟨hlen', hkin⟩ := kinB_at _ _ h2
  have hin : ∀ o, okId ms.length false o = true → memL 2000 ms o ≠ .none := by
    intro o ho
    cases o with
    | s k i => simp [okId] at ho
    | n k =>
      simp only [okId, Bool.false_and, Bool.or_false, Bool.and_eq_true] at ho
      have k1 := Nat.le_of_ble_eq_true ho.1
      have k2 := lt_of_blt ho.2
      have hx : ms[k - 2000]? = some (ms[k - 2000]'(by omega)) := List.getElem?_eq_getElem (by omega)
      have := memL_at ms 2000 (k - 2000) _ hx
      rw [show 2000 + (k - 2000) = k by omega] at this
      rw [this]
      exact nzB_ok h3 _ (List.mem_of_getElem? hx)
  have hout : ∀ o, okId ms.length (!fr.isNone) o = true → memR ms' fr o ≠ .none := by
    intro o ho
    cases o with
    | s k i => simp [okId] at ho
    | n k =>
      simp only [okId, Bool.or_eq_true, Bool.and_eq_true] at ho
      by_cases hk : k = 3000
      · subst hk
        rw [memR_fr]
        rcases ho with ho | ho
        · have k2 := lt_of_blt ho.2
          omega
        · intro e
          rw [e] at ho
          simp [Mem.isNone] at ho
      · rcases ho with ho | ho
        · have k1 := Nat.le_of_ble_eq_true ho.1
          have k2 := lt_of_blt ho.2
          have hx : ms[k - 2000]? = some (ms[k - 2000]'(by omega)) := List.getElem?_eq_getElem (by omega)
          have hy : ms'[k - 2000]? = some (ms'[k - 2000]'(by omega)) := List.getElem?_eq_getElem (by omega)
          have := memR_at (fr := fr) (by omega) hy
          rw [show 2000 + (k - 2000) = k by omega] at this
          rw [this]
          rcases hkin _ _ _ hx hy with h | ⟨h, h'⟩
          · rw [h]; simp
          · intro e; rw [e] at h; rw [← h] at h'; simp [Mem.kind] at h'
        · exact absurd (Nat.eq_of_beq_eq_true ho.2) hk
  have hms2 : ∀ o, (memR ms' fr o).okB (okId ms.length (!fr.isNone)) (fun o => (memR ms' fr o).gen) = true := by
    intro o
    by_cases hn : memR ms' fr o = .none
    · rw [hn]; rfl
    · rcases memR_inv hn with ⟨rfl, _⟩ | ⟨j, x, hx, rfl⟩
      · rw [memR_fr]; exact memsB_ok h7 fr (by simp)
      · have hj := (List.getElem?_eq_some_iff.1 hx).1
        rw [memR_at (by omega) hx]
        exact memsB_ok h7 x (by simp [List.mem_of_getElem? hx])
  refine ⟨h1, h2, (TV.okB_ok h6).2 _ (fun _ => rfl), fun o => (Mem.okB_ok (hms2 o)).2 _ (fun _ => rfl), ?_, fun x hx o hr => hin o ((TV.okB_ok (tvsB_ok h4 x hx)).1 o hr), fun o hr => hout o ((TV.okB_ok h6).1 o hr), fun o o' hr => hout o' ((Mem.okB_ok (hms2 o)).1 o' hr)⟩
  intro o o' hr
  by_cases hn : memL 2000 ms o = .none
  · rw [hn] at hr; exact hr.elim
  · obtain ⟨j, x, hx, rfl⟩ := memL_inv ms 2000 o hn
    rw [memL_at ms 2000 j x hx] at hr
    exact hin o' ((Mem.okB_ok (memsB_ok h5 x (List.mem_of_getElem? hx))).1 o' hr)

/-! ### calls by memory contract: how a walk types them -/
theorem CallM.mk' {P : Program} {f : FuncId} {xs : List TV} {d : Id} {m : Id → Mem} {K : Kont} {args : List TV} {ms : List Mem} {r : TV} {ms' : List Mem} {fr : Mem} (os : List Id) (h : DetM P f args ms r ms' fr) (hf : Fits m os d xs args ms fr)
    (k : K (renT os d (renG m os d ms') r) (renL os d (renG m os d ms') 2000 os ms' ++ renF os d (renG m os d ms') fr) (d.key :: os.map Id.key)) : CallM P f xs d m K := ⟨os, args, ms, r, ms', fr, h, hf, k⟩
theorem NilW.pos {n : Nat} {neg : Bool} {K : Bool → Prop} (h : 0 < n) (f : K neg) : NilW n neg K := ⟨f, fun h0 => absurd h0 (Nat.ne_of_gt h)⟩

/-- A view from the first element on is the slice from now on. -/
theorem Adj.trunc {t : Nat → TV} {m : Id → Mem} {J : (Nat → TV) → (Id → Mem) → Prop} (s : Nat) (o : Id) (g n N k : Nat) (e : TypeId) (get : Nat → Nat → SV) (hs : t s = .sub o g 0 n) (hm : m o = .bld g N k e get)
    (h : Adj (upd t s (.hdl o (g + 2))) (upd m o (.bld (g + 2) n k e get)) J) : Adj t m J := by
  obtain ⟨t', m', hwk, hJ⟩ := h
  refine ⟨t', m', fun E ρ a w hR => ?_, hJ⟩
  have hby : (m o).bldy = some (g, N, k) := by rw [hm]; rfl
  have hv := hR.slots s
  rw [hs] at hv
  obtain ⟨a1, _, a2⟩ := (subOk_bldy hby).1 hv
  obtain ⟨a3, a4⟩ := a2 rfl
  have hmo := hR.mem o
  rw [hm] at hmo
  have hR' := hR.regen hby (nm := .bld (g + 2) n k e get) (g' := g + 2) (n' := n) (k' := k) rfl (by omega) (by omega) (fun _ h => h.elim) (fun _ hL => by
    rcases hmo with ⟨h1, h2⟩ | ⟨bl, cap, arr, h1, h2, h3, h4, h5, h6⟩
    · exact .inl ⟨h1, by omega⟩
    · refine .inr ⟨bl, cap, arr, h1, h2, h3, by omega, h5, fun i hi j hj => ?_⟩
      obtain ⟨x, hx, hr⟩ := h6 i (by omega) j hj
      exact ⟨x, hx, hr.mono (fun b hb => ⟨hL b hb, rfl⟩)⟩)
  refine hwk E ρ a w { hR' with clean := ?_, slots := ?_ }
  · intro i o' hr
    by_cases hi : i = s
    · subst hi; rw [upd_same] at hr; cases hr; rw [upd_same]; simp
    · rw [upd_ne _ _ _ hi] at hr; exact hR'.clean i o' hr
  · intro i
    by_cases hi : i = s
    · subst hi
      rw [upd_same]
      show HdlOk _ _ _ _ _
      rw [hdlOk_bldy (g' := g + 2) (n := n) (k := k) (by rw [upd_same]; rfl)]
      refine ⟨a1, Nat.le_refl _, fun _ => ?_⟩
      simp only [SubAt] at a4
      simp only [HdlAt]
      rcases hmo with ⟨h1, h2⟩ | ⟨bl, cap, arr, h1, _⟩
      · rw [h1] at a4 ⊢; exact a4
      · rw [h1] at a4 ⊢
        obtain ⟨ad, a5, a6⟩ := a4
        rw [a6 (by simp)] at a5
        simpa using a5
    · rw [upd_ne _ _ _ hi]; exact hR'.slots i
theorem Adj.id {t : Nat → TV} {m : Id → Mem} {J : (Nat → TV) → (Id → Mem) → Prop} (h : J t m) : Adj t m J := ⟨t, m, Wk.refl t m, h⟩
theorem Cut.id {t : Nat → TV} {m : Id → Mem} {J : (Nat → TV) → (Id → Mem) → Prop} (h : J t m) : Cut t m J := ⟨Adj.id h⟩
theorem MEnd.bldN {m m2 : Id → Mem} {d : Id} {g g' n n' k : Nat} {e : TypeId} {get get' : Nat → Nat → SV} (hn : n = n') (hg : g' = 1 → g = 1) (h : ∀ i, i < n → ∀ j, j < k → SLe (get i j) (get' i j)) : MEnd m m2 d (.bld g n k e get) (.bld g' n' k e get') := by
  subst hn; exact .bld hg h
end Go.Vm
