/-
  An abstract walk over Go's operations: calls, function values, made slices; all operations together.
  An abstract walk over Go's operations: a call of a function that turns what it is given is true of the machine.
-/
import Derived.Test.YtobmlkopbmakcaaGreatVmG
namespace Go.Vm
set_option linter.unusedVariables false
set_option linter.unusedSimpArgs false
open Go Go.RowKit

/-! ### what is read of arguments -/

def Sx (E : Env) (m : Id → Mem) (ρ : Id → Option (Nat × Nat)) (w : World) (hs : List Id) (ft : Bool) (b : Nat) : Prop :=
  L E m ρ w b ∨ ∃ o, (o ∈ hs ∨ ft = true) ∧ (m o).live ∧ ∃ c, ρ o = some (b, c)
theorem Sx.mono {E : Env} {m : Id → Mem} {ρ : Id → Option (Nat × Nat)} {w : World} {hs hs' : List Id} {ft ft' : Bool} (h1 : ∀ o ∈ hs, o ∈ hs') (h2 : ft = true → ft' = true) {b : Nat} (h : Sx E m ρ w hs ft b) : Sx E m ρ w hs' ft' b :=
  h.imp id (fun ⟨o, ho, r⟩ => ⟨o, ho.imp (h1 o) h2, r⟩)

theorem range_map_getD (us : List Value) (n : Nat) (h : us.length = n) : us = (List.range n).map (fun j => (us[j]?).getD Go.undef) := by
  apply List.ext_getElem?
  intro j
  by_cases hj : j < n
  · have hj' : j < us.length := by omega
    simp [hj, hj']
  · rw [List.getElem?_eq_none (by omega), List.getElem?_eq_none (by simp; omega)]

theorem CRL.length {S : Nat → Prop} {m : Id → Mem} {ρ : Id → Option (Nat × Nat)} {w : World} {xs : List Value} {cs : List CR} (hr : CRL S m ρ w xs cs) : xs.length = cs.length := by
  induction hr with
  | nil => rfl
  | cons _ _ ih => simp [ih]
theorem CRL.get {S : Nat → Prop} {m : Id → Mem} {ρ : Id → Option (Nat × Nat)} {w : World} {xs : List Value} {cs : List CR} (hr : CRL S m ρ w xs cs) : ∀ (j : Nat) (c : CR), cs[j]? = some c → ∃ x, xs[j]? = some x ∧ CRk S m ρ w x c := by
  induction hr with
  | nil => intro j c h; simp at h
  | @cons x c xs cs h1 _ ih =>
    intro j c' h
    cases j with
    | zero => simp at h; subst h; exact ⟨x, by simp, h1⟩
    | succ j => simpa using ih j c' (by simpa using h)

/-- What is lent is read. -/
theorem Lend.rd {m : Id → Mem} {ks : List Nat} {c : CV} {x : SV} (h : Lend m ks c x) {E : Env} {ρ : Id → Option (Nat × Nat)} {m' : Id → Mem} {w : World} (hm : Same ks m m') (hO : Own E ρ m' w) :
    ∀ v, CVk (L E m' ρ w) m' ρ w v c → Rd (Sx E m' ρ w [] true) w v x := by
  have hown : ∀ o b c, (m' o).live → ρ o = some (b, c) → Sx E m' ρ w [] true b := fun o b c l r => .inr ⟨o, .inr rfl, l, c, r⟩
  induction h with
  | s c => intro v hv; exact Rd.mono (fun b hb => ⟨.inl hb, rfl⟩) hv
  | @box o p q l hk h hq =>
    intro v hv
    rw [← hm o hk] at h
    have hbx : (m' o).boxy = true := by rcases h with h | h <;> rw [h] <;> rfl
    obtain ⟨bl, c, r1, r2⟩ := (ptrOk_boxy hbx).1 hv
    have hrow : ∃ xs e, Sx E m' ρ w [] true bl ∧ w.heap[bl]? = some (.cells xs.toArray e (0, 0)) ∧ RdL (L E m' ρ w) w xs l := by
      have hmo := hO.mem o
      rcases h with h | h
      · rw [h] at hmo
        obtain ⟨bl', c', xs, e, h1, h2, h3⟩ := hmo
        rw [r1] at h1
        obtain ⟨rfl, rfl⟩ : bl = bl' ∧ c = c' := by simpa using h1
        exact ⟨xs, e, hown o bl c (mem_live_box h) r1, h2, h3⟩
      · rw [h] at hmo
        obtain ⟨bl', c', xs, e, h1, h0, h2, h3⟩ := hmo
        rw [r1] at h1
        obtain ⟨rfl, rfl⟩ : bl = bl' ∧ c = c' := by simpa using h1
        exact ⟨xs, e, .inl h0, h2, h3⟩
    obtain ⟨xs, e, hS, hblk, hrd⟩ := hrow
    rw [r2]
    refine Rd.ad (fun j => (xs[p + j]?).getD Go.undef) hS (fun j hj => ?_) (fun j hj => ?_)
    · obtain ⟨y, hy, _⟩ := hrd.getElemRd (p + j) (by omega)
      simp [World.cell?, hblk, hy]
    · obtain ⟨y, hy, hr⟩ := hrd.getElemRd (p + j) (by omega)
      simp only [hy, Option.getD_some]
      exact hr.mono (fun b hb => ⟨.inl hb, rfl⟩)
  | @obj o p q l cell hk h hq hc ih =>
    intro v hv
    rw [← hm o hk] at h
    have hbx : (m' o).boxy = true := by rw [h]; rfl
    obtain ⟨bl, c, r1, r2⟩ := (ptrOk_boxy hbx).1 hv
    have hmo := hO.mem o
    rw [h] at hmo
    obtain ⟨bl', c', xs, e, h1, hblk, hrd⟩ := hmo
    rw [r1] at h1
    obtain ⟨rfl, rfl⟩ : bl = bl' ∧ c = c' := by simpa using h1
    rw [r2]
    refine Rd.ad (fun j => (xs[p + j]?).getD Go.undef) (hown o bl c (mem_live_obj h) r1) (fun j hj => ?_) (fun j hj => ?_)
    · obtain ⟨y, hy, _⟩ := hrd.getElem (p + j) (by omega) (.s (.v Go.undef))
      simp [World.cell?, hblk, hy]
    · obtain ⟨y, hy, hr⟩ := hrd.getElem (p + j) (by omega) (.s (.v Go.undef))
      simp only [hy, Option.getD_some]
      exact ih j hj y hr
  | @bld o g n k e get hk h =>
    intro v hv
    rw [← hm o hk] at h
    have hby : (m' o).bldy = some (g, n, k) := by rw [h]; rfl
    have h3 := ((hdlOk_bldy hby).1 hv).2.2 rfl
    have hmo := hO.mem o
    rw [h] at hmo
    rcases hmo with ⟨hρ, hn0⟩ | ⟨bl, cap, arr, hρ, hblk, hsz, hnc, hcm, hel⟩
    · simp only [HdlAt, hρ] at h3
      rw [h3, hn0]
      exact Rd.nil k get
    · simp only [HdlAt, hρ] at h3
      rw [h3]
      refine Rd.sl (fun i j => (arr[i * k + j]?).getD Go.undef) (hown o bl cap (mem_live_bld h) hρ) hnc hcm (fun i hi j hj => ?_) (fun i hi j hj => ?_)
      · obtain ⟨y, hy, _⟩ := hel i hi j hj
        simp [World.cell?, hblk, hy]
      · obtain ⟨y, hy, hr⟩ := hel i hi j hj
        simp only [hy, Option.getD_some]
        exact hr.mono (fun b hb => ⟨.inl hb, rfl⟩)
  | @bldc o g n k e get get' hk h hc ih =>
    intro v hv
    rw [← hm o hk] at h
    have hby : (m' o).bldy = some (g, n, k) := by rw [h]; rfl
    have h3 := ((hdlOk_bldy hby).1 hv).2.2 rfl
    have hmo := hO.mem o
    rw [h] at hmo
    rcases hmo with ⟨hρ, hn0⟩ | ⟨bl, cap, arr, hρ, hblk, hsz, hnc, hcm, hel⟩
    · simp only [HdlAt, hρ] at h3
      rw [h3, hn0]
      exact Rd.nil k _
    · simp only [HdlAt, hρ] at h3
      rw [h3]
      refine Rd.sl (fun i j => (arr[i * k + j]?).getD Go.undef) (hown o bl cap (mem_live_bldc h) hρ) hnc hcm (fun i hi j hj => ?_) (fun i hi j hj => ?_)
      · obtain ⟨y, hy, _⟩ := hel i hi j hj
        simp [World.cell?, hblk, hy]
      · obtain ⟨y, hy, hr⟩ := hel i hi j hj
        simp only [hy, Option.getD_some]
        exact ih i hi j hj y hr
  | @clo f n caps cell hn hc hf ih =>
    intro v hv
    obtain ⟨xs, e1, r1⟩ := hv
    have hl := r1.length
    rw [e1.inv hf, range_map_getD xs n (by omega)]
    refine Rd.fn _ (fun j hj => ?_)
    have hj' : j < caps.length := by omega
    obtain ⟨y, hy, hr⟩ := r1.get j caps[j] (by simp [hj'])
    simp only [hy, Option.getD_some]
    refine ih j hj y ?_
    have : caps.getD j (.s (.v Go.undef)) = caps[j] := by simp [List.getD, hj']
    rw [this]
    revert hr
    cases caps[j] <;> exact id

theorem argW_ok {o : Oper} {t : Nat → TV} {m : Id → Mem} {x : Operand} (hmx : x ∈ o.op.operands.toList) {K : DV → List Id → List Nat → Bool → Prop} (h : argW m (opd t x) K) :
    ∃ v hs rd ft, K v hs rd ft ∧ (∀ b ∈ hs, b.key ∈ rd) ∧ (∀ b ∈ hs, ∃ g n k e get, m b = .bld g n k e get) ∧
      ∀ (E : Env) (ρ : Id → Option (Nat × Nat)) (t' : Nat → TV) (m' : Id → Mem) (a : Act) (w : World), Agree o t t' → Same rd m m' → Rel E ρ t' m' a w → DRd (Sx E m' ρ w hs ft) w (a.eval x) v := by
  have hlend : ∀ (c : CV), opd t x = c.tv → LendW m c (fun x ks => K (.one x) [] ks true) → ∃ v hs rd ft, K v hs rd ft ∧ (∀ b ∈ hs, b.key ∈ rd) ∧ (∀ b ∈ hs, ∃ g n k e get, m b = .bld g n k e get) ∧
      ∀ (E : Env) (ρ : Id → Option (Nat × Nat)) (t' : Nat → TV) (m' : Id → Mem) (a : Act) (w : World), Agree o t t' → Same rd m m' → Rel E ρ t' m' a w → DRd (Sx E m' ρ w hs ft) w (a.eval x) v := by
    intro c hx h
    obtain ⟨y, ks, hl, h⟩ := h.h
    refine ⟨_, _, _, _, h, by simp, by simp, fun E ρ t' m' a w ha hm hR => ?_⟩
    have h1 := (opd_ok hR x).1
    rw [opd_agree ha hmx, hx] at h1
    exact hl.rd hm hR.toOwn _ (by cases c <;> exact h1)
  unfold argW at h
  split at h
  · rename_i v hx
    refine ⟨_, _, _, _, h, by simp, by simp, fun E ρ t' m' a w ha _ hR => ?_⟩
    have h1 := (opd_ok hR x).1
    rw [opd_agree ha hmx, hx] at h1
    exact DRd.mono (fun b hb => ⟨.inl hb, rfl⟩) h1
  · rename_i b g hx
    replace h := lookW_iff h
    split at h
    · rename_i g' n k e get hb
      replace h := bif_and h; obtain ⟨hk, h⟩ := h
      obtain rfl := Nat.eq_of_beq_eq_true hk
      refine ⟨_, _, _, _, h, by simp, by simp [hb], fun E ρ t' m' a w ha hm hR => ?_⟩
      have h1 := (opd_ok hR x).1
      rw [opd_agree ha hmx, hx] at h1
      have hb' : m' b = .bld g n k e get := by rw [hm.at b]; exact hb
      simp only [TOk, HdlOk, HdlAt, hb'] at h1
      have h3 := h1.2.2 trivial
      have hmo := hR.mem b
      rw [hb'] at hmo
      show Rd _ _ _ _
      rcases hmo with ⟨hρ, hn0⟩ | ⟨bl, cap, arr, hρ, hblk, hsz, hnc, hcm, hel⟩
      · rw [hρ] at h3
        rw [h3, hn0]
        exact Rd.nil k get
      · rw [hρ] at h3
        rw [h3]
        refine Rd.sl (fun i j => (arr[i * k + j]?).getD Go.undef) (.inr ⟨b, .inl (by simp), mem_live_bld hb', cap, hρ⟩) hnc hcm (fun i hi j hj => ?_) (fun i hi j hj => ?_)
        · obtain ⟨y, hy, _⟩ := hel i hi j hj
          simp [World.cell?, hblk, hy]
        · obtain ⟨y, hy, hr⟩ := hel i hi j hj
          simp only [hy, Option.getD_some]
          exact hr.mono (fun b hb => ⟨.inl hb, rfl⟩)
    · exact hlend (.hdl b g) hx h
  · rename_i b g lo n hx
    replace h := lookW_iff h
    split at h
    · rename_i g' n' k e get hb
      replace h := bif_and h; obtain ⟨hk, h⟩ := h
      obtain rfl := Nat.eq_of_beq_eq_true hk
      refine ⟨_, _, _, _, h, by simp, by simp [hb], fun E ρ t' m' a w ha hm hR => ?_⟩
      have h1 := (opd_ok hR x).1
      rw [opd_agree ha hmx, hx] at h1
      have hb' : m' b = .bld g n' k e get := by rw [hm.at b]; exact hb
      simp only [TOk, SubOk, SubAt, hb'] at h1
      obtain ⟨hln, h3⟩ := h1.2.2 trivial
      have hmo := hR.mem b
      rw [hb'] at hmo
      show Rd _ _ _ _
      rcases hmo with ⟨hρ, hn0⟩ | ⟨bl, cap, arr, hρ, hblk, hsz, hnc, hcm, hel⟩
      · rw [hρ] at h3
        have h0 : n = 0 := by omega
        simp only at h3
        rw [h3, h0]
        exact Rd.nil k _
      · rw [hρ] at h3
        obtain ⟨ad, h3, h4⟩ := h3
        rw [h3]
        rcases Nat.eq_zero_or_pos n with h0 | h0
        · rw [h0]; exact Rd.emp ad _ k _
        · rw [h4 (.inl (by omega))]
          refine Rd.sl (fun i j => (arr[(lo + i) * k + j]?).getD Go.undef) (.inr ⟨b, .inl (by simp), mem_live_bld hb', cap, hρ⟩) (by omega) (by omega) (fun i hi j hj => ?_) (fun i hi j hj => ?_)
          · obtain ⟨y, hy, _⟩ := hel (lo + i) (by omega) j hj
            rw [← Nat.add_assoc, ← Nat.add_mul]
            simp [World.cell?, hblk, hy]
          · obtain ⟨y, hy, hr⟩ := hel (lo + i) (by omega) j hj
            simp only [hy, Option.getD_some]
            exact hr.mono (fun b hb => ⟨.inl hb, rfl⟩)
    · exact h.elim
  · rename_i b p hx
    replace h := lookW_iff h
    split at h
    · rename_i cs hb
      refine ⟨_, _, _, _, h, by simp, by simp, fun E ρ t' m' a w ha hm hR => ?_⟩
      have h1 := (opd_ok hR x).1
      rw [opd_agree ha hmx, hx] at h1
      have hb' : m' b = .ro cs := by rw [hm.at b]; exact hb
      simp only [TOk, PtrOk, hb'] at h1
      obtain ⟨bl, c, r1, r2⟩ := h1
      have hmo := hR.mem b
      rw [hb'] at hmo
      obtain ⟨bl', c', xs, e, hρ', hL, hblk, hrd⟩ := hmo
      rw [r1] at hρ'
      obtain ⟨rfl, rfl⟩ : bl = bl' ∧ c = c' := by simpa using hρ'
      show Rd _ _ _ _
      rw [r2]
      refine Rd.ad (fun j => (xs[p + j]?).getD Go.undef) (.inl hL) (fun j hj => ?_) (fun j hj => ?_)
      · obtain ⟨y, hy, _⟩ := hrd.getElemRd (p + j) (by omega)
        simp [World.cell?, hblk, hy]
      · obtain ⟨y, hy, hr⟩ := hrd.getElemRd (p + j) (by omega)
        simp only [hy, Option.getD_some]
        exact hr.mono (fun b hb => ⟨.inl hb, rfl⟩)
    · exact hlend (.ptr b p) hx h
  · rename_i f caps hx
    exact hlend (.clo f caps) hx h
  · exact h.elim

theorem DRd.sx {E : Env} {m : Id → Mem} {ρ : Id → Option (Nat × Nat)} {w : World} {hs hs' : List Id} {ft ft' : Bool} (h1 : ∀ o ∈ hs, o ∈ hs') (h2 : ft = true → ft' = true) {x : Value} {v : DV} (h : DRd (Sx E m ρ w hs ft) w x v) : DRd (Sx E m ρ w hs' ft') w x v :=
  DRd.mono (fun _ hb => ⟨hb.mono h1 h2, rfl⟩) h
theorem DRdL.sx {E : Env} {m : Id → Mem} {ρ : Id → Option (Nat × Nat)} {w : World} {hs hs' : List Id} {ft ft' : Bool} (h1 : ∀ o ∈ hs, o ∈ hs') (h2 : ft = true → ft' = true) {x : List Value} {v : List DV} (h : DRdL (Sx E m ρ w hs ft) w x v) : DRdL (Sx E m ρ w hs' ft') w x v :=
  DRdL.mono (fun _ hb => ⟨hb.mono h1 h2, rfl⟩) h

theorem argsW_ok {o : Oper} {t : Nat → TV} {m : Id → Mem} : ∀ (xs : List Operand), (∀ x ∈ xs, x ∈ o.op.operands.toList) → ∀ (K : List DV → List Id → List Nat → Bool → Prop), argsW t m xs K →
    ∃ l hs rd ft, K l hs rd ft ∧ (∀ b ∈ hs, b.key ∈ rd) ∧ (∀ b ∈ hs, ∃ g n k e get, m b = .bld g n k e get) ∧
      ∀ (E : Env) (ρ : Id → Option (Nat × Nat)) (t' : Nat → TV) (m' : Id → Mem) (a : Act) (w : World), Agree o t t' → Same rd m m' → Rel E ρ t' m' a w → DRdL (Sx E m' ρ w hs ft) w (xs.map a.eval) l
  | [], _, K, h => ⟨[], [], [], false, h, by simp, by simp, fun _ _ _ _ _ _ _ _ _ => .nil⟩
  | x :: r, hx, K, h => by
    simp only [argsW] at h
    obtain ⟨v, hs, rd, ft, h, h1, h2, h3⟩ := argW_ok (hx x (by simp)) h
    obtain ⟨l, hs', rd', ft', h, h1', h2', h3'⟩ := argsW_ok r (fun y hy => hx y (by simp [hy])) _ h
    refine ⟨_, _, _, _, h, ?_, ?_, fun E ρ t' m' a w ha hm hR => ?_⟩
    · intro b hb
      rcases List.mem_append.1 hb with hb | hb
      · exact List.mem_append.2 (.inl (h1 b hb))
      · exact List.mem_append.2 (.inr (h1' b hb))
    · intro b hb
      rcases List.mem_append.1 hb with hb | hb
      · exact h2 b hb
      · exact h2' b hb
    · exact .cons (DRd.sx (fun o ho => List.mem_append.2 (.inl ho)) (fun e => by rw [e]; rfl) (h3 E ρ t' m' a w ha (hm.sub (fun k hk => List.mem_append.2 (.inl hk))) hR))
        (DRdL.sx (fun o ho => List.mem_append.2 (.inr ho)) (fun e => by rw [e]; simp) (h3' E ρ t' m' a w ha (hm.sub (fun k hk => List.mem_append.2 (.inr hk))) hR))

theorem crsW_ok {m : Id → Mem} : ∀ (cs : List CR) (K : List DV → List Nat → Bool → Prop), crsW m cs K →
    ∃ l rd ft, K l rd ft ∧ ∀ (E : Env) (ρ : Id → Option (Nat × Nat)) (m' : Id → Mem) (w : World), Same rd m m' → Own E ρ m' w → ∀ xs, CRL (L E m' ρ w) m' ρ w xs cs → DRdL (Sx E m' ρ w [] ft) w xs l
  | [], K, h => ⟨[], [], false, h, fun _ _ _ _ _ _ xs hx => by cases hx; exact .nil⟩
  | c :: r, K, h => by
    simp only [crsW] at h
    split at h
    · rename_i c
      obtain ⟨l, rd, ft, h, h1⟩ := crsW_ok r _ h
      refine ⟨_, _, _, h, fun E ρ m' w hm hO xs hx => ?_⟩
      cases hx with
      | cons a b => exact .cons (Rd.mono (fun b hb => ⟨.inl hb, rfl⟩) (show Rd _ _ _ c from a)) (h1 E ρ m' w hm hO _ b)
    · rename_i o p
      obtain ⟨y, ks, hl, h⟩ := h.h
      obtain ⟨l, rd, ft, h, h1⟩ := crsW_ok r _ h
      refine ⟨_, _, _, h, fun E ρ m' w hm hO xs hx => ?_⟩
      cases hx with
      | cons a b =>
        exact .cons (hl.rd (hm.sub (fun k hk => List.mem_append.2 (.inl hk))) hO _ a) (DRdL.sx (fun o ho => ho) (fun _ => rfl) (h1 E ρ m' w (hm.sub (fun k hk => List.mem_append.2 (.inr hk))) hO _ b))

theorem sfreeL_rd {S S' : Nat → Prop} {w w' : World} : ∀ {cs : List SV} {xs : List Value}, sfreeL cs = true → RdL S w xs cs → RdL S' w' xs cs
  | [], _, _, h => by cases h; exact .nil
  | .v x :: cs, _, hf, h => by
    cases h with
    | cons h1 t =>
      obtain ⟨rfl, h2⟩ := Rd.inv_v h1
      exact .cons (.v h2) (sfreeL_rd hf t)
  | .sl .. :: _, _, hf, _ => by simp [sfreeL] at hf
  | .ad .. :: _, _, hf, _ => by simp [sfreeL] at hf
  | .fn .. :: _, _, hf, _ => by simp [sfreeL] at hf

theorem sfreeD_rd {S S' : Nat → Prop} {w w' : World} : ∀ {cs : List DV} {xs : List Value}, sfreeD cs = true → DRdL S w xs cs → DRdL S' w' xs cs
  | [], _, _, h => by cases h; exact .nil
  | .one (.v x) :: cs, _, hf, h => by
    cases h with
    | cons h1 t =>
      obtain ⟨rfl, h2⟩ := Rd.inv_v h1
      exact .cons (Rd.v h2) (sfreeD_rd hf t)
  | .agg ds :: cs, _, hf, h => by
    simp only [sfreeD, Bool.and_eq_true] at hf
    cases h with
    | cons h1 t =>
      obtain ⟨us, e1, r1⟩ := h1
      exact .cons ⟨us, e1, sfreeL_rd hf.1 r1⟩ (sfreeD_rd hf.2 t)
  | .one (.sl ..) :: _, _, hf, _ => by simp [sfreeD] at hf
  | .one (.ad ..) :: _, _, hf, _ => by simp [sfreeD] at hf
  | .one (.fn ..) :: _, _, hf, _ => by simp [sfreeD] at hf

theorem ROk.mono {S S' : Nat → Prop} {w : World} {x : Value} {r : TV} (h : ∀ b, S b → S' b) (hr : ROk S w x r) : ROk S' w x r := by
  cases r with
  | d v => exact DRd.mono (fun b hb => ⟨h b hb, rfl⟩) hr
  | tup vs => obtain ⟨xs, h1, h2⟩ := hr; exact ⟨xs, h1, h2.mono (fun b hb => ⟨h b hb, rfl⟩)⟩
  | _ => exact hr.elim

theorem ROk.sfree {S S' : Nat → Prop} {w : World} {x : Value} {r : TV} (hf : sfree r = true) (hr : ROk S w x r) : ROk S' w x r := by
  cases r with
  | d v =>
    have := sfreeD_rd (S' := S') (w' := w) (show sfreeD [v] = true from hf) (.cons hr .nil : DRdL S w [x] [v])
    cases this with
    | cons h1 _ => exact h1
  | tup vs => obtain ⟨xs, h1, h2⟩ := hr; exact ⟨xs, h1, sfreeD_rd hf h2⟩
  | _ => exact hr.elim

theorem ROk.tok {E : Env} {m : Id → Mem} {ρ : Id → Option (Nat × Nat)} {w : World} {x : Value} {r : TV} (hr : ROk (L E m ρ w) w x r) : TOk E m ρ w x r ∧ ∀ b, r.refs b → m b ≠ .none := by
  cases r with
  | d v => exact ⟨hr, fun _ h => h.elim⟩
  | tup vs => exact ⟨hr, fun _ h => h.elim⟩
  | _ => exact hr.elim

/-- A slice that is being made is shut: it is read from now on, and no more written. -/
theorem Rel.freeze1 {E : Env} {ρ : Id → Option (Nat × Nat)} {t : Nat → TV} {m : Id → Mem} {a : Act} {w : World} (h : Rel E ρ t m a w) (o : Id) (hm : m o ≠ .none) : Rel E ρ t (upd m o .dead) a w := by
  have hρ : upd ρ o (ρ o) = ρ := upd_self ρ o
  have := h.one o .dead (ρ o) (Bx.refl _ _ _) (fun b hl => ⟨⟨hl.1, fun o' c' l r => by
      by_cases e : o' = o
      · subst e; rw [upd_same] at l; exact l.elim
      · rw [upd_ne _ _ _ e] at l r; exact hl.2 o' c' l r⟩, rfl⟩) (fun _ _ _ _ _ _ => rfl) (fun l => l.elim) (by simp) (fun _ h => h.elim) (fun e => absurd e hm) (fun e => by simp [Mem.gen] at e) trivial
      (fun _ => ⟨fun x p hp => by have := hp.oneCell; simp only [PtrOk, upd_same]; exact this, fun x g hg => by simp only [HdlOk, upd_same]; exact ⟨hg.1, trivial⟩⟩)
      (fun x g i off _ _ => by simp only [TOk, upd_same]) (fun x g lo n _ hs => by simp only [SubOk, upd_same]; exact ⟨hs.1, trivial⟩)
  rwa [hρ] at this

theorem putM_dead_live {m : Id → Mem} : ∀ (hs : List Id) (o : Id), ((putM m (hs.map fun o => (o, .dead)) o).live → (m o).live) ∧ (o ∈ hs → ¬ (putM m (hs.map fun o => (o, .dead)) o).live)
  | [], o => ⟨id, by simp⟩
  | h :: hs, o => by
    simp only [List.map_cons, putM]
    obtain ⟨i1, i2⟩ := putM_dead_live (m := upd m h .dead) hs o
    refine ⟨fun l => ?_, fun hm => ?_⟩
    · have := i1 l
      by_cases e : o = h
      · subst e; rw [upd_same] at this; exact this.elim
      · rwa [upd_ne _ _ _ e] at this
    · rcases List.mem_cons.1 hm with rfl | hm
      · intro l
        have := i1 l
        rw [upd_same] at this
        exact this
      · exact i2 hm

theorem Rel.freezeL {E : Env} {ρ : Id → Option (Nat × Nat)} {t : Nat → TV} {a : Act} {w : World} : ∀ (hs : List Id) {m : Id → Mem}, Rel E ρ t m a w → (∀ o ∈ hs, m o ≠ .none) → Rel E ρ t (putM m (hs.map fun o => (o, .dead))) a w
  | [], _, h, _ => h
  | o :: hs, m, h, hn => by
    refine Rel.freezeL hs (h.freeze1 o (hn o (by simp))) (fun o' ho' => ?_)
    by_cases e : o' = o
    · subst e; rw [upd_same]; simp
    · rw [upd_ne _ _ _ e]; exact hn o' (by simp [ho'])

theorem DRdL_caps {S : Nat → Prop} {w : World} (n : Nat) (cap : Nat → SV) (xs : Nat → Value) (h : ∀ j, j < n → Rd S w (xs j) (cap j)) : DRdL S w ((List.range n).map xs) (capsL n cap) := by
  have h1 := RdL_cells n cap xs h
  unfold capsL
  revert h1
  generalize (List.range n).map xs = us
  generalize cells n cap = cs
  intro h1
  induction h1 with
  | nil => exact .nil
  | cons a _ ih => exact .cons a ih

/-- A call by contract is true of the machine. -/
theorem callK_ok {P : Program} {o : Oper} {t : Nat → TV} {m : Id → Mem} {f : FuncId} {l : List DV} {hs : List Id} {rd : List Nat} {ft : Bool} {K : Kont} (hsub : ∀ b ∈ hs, b.key ∈ rd) (hbld : ∀ b ∈ hs, ∃ g n k e get, m b = .bld g n k e get)
    (hread : ∀ (E : Env) (ρ : Id → Option (Nat × Nat)) (t' : Nat → TV) (m' : Id → Mem) (a : Act) (w : World), Agree o t t' → Same rd m m' → Rel E ρ t' m' a w →
      ∃ vs : List Value, DRdL (Sx E m' ρ w hs ft) w vs l ∧ (Enters P f → (execOp a.eval o).run P w = .ok (.enter f vs.toArray) w))
    (h : callK P f l hs rd ft K) : ∃ z mo rd, K z mo rd ∧ StepOk P o t m z mo rd := by
  unfold callK at h
  obtain ⟨r, ⟨hent, hdet⟩, h⟩ := h.h
  replace h := bif_and h; obtain ⟨hft, h⟩ := h
  refine ⟨_, _, _, h, ?_⟩
  intro E ρ t' m' a w hP ha hm hd hR K' Q hK
  obtain ⟨vs, hall, hrun⟩ := hread E ρ t' m' a w ha hm hR
  have hlive : ∀ o ∈ hs, (m' o).live := fun b hb => by
    obtain ⟨g, n, k, e, get, hb'⟩ := hbld b hb
    rw [hm b (hsub b hb), hb']; trivial
  have hSlt : ∀ b, Sx E m' ρ w hs ft b → b < w.heap.size := fun b hb => by
    rcases hb with hb | ⟨o', _, l, c', r⟩
    · exact L_lt hR hb
    · exact (hR.lo o' b c' l r).2
  have hcalls := hdet w (Sx E m' ρ w hs ft) _ hSlt hall
  unfold Oper.wp
  rw [hrun hent]
  refine Calls.mono hcalls ?_
  rintro e w' ⟨v, rfl, hb0, hr⟩
  have hR1 := hR.grow hb0
  show K' (a.put o.dst v) w'
  cases hsf : sfree r with
  | true =>
    refine hK ρ _ w' ?_
    have hr' := ROk.tok (ROk.sfree (S' := L E m' ρ w') hsf hr)
    rw [hsf]
    exact hR1.put hd hr'.1 hr'.2
  | false =>
    refine hK ρ _ w' ?_
    have hft0 : ft = false := by
      rw [hsf] at hft
      simpa using hft
    have hnn : ∀ o ∈ hs, m' o ≠ .none := fun b hb e => by have := hlive b hb; rw [e] at this; exact this
    have hR2 := hR1.freezeL hs hnn
    have hL : ∀ b, (Sx E m' ρ w hs ft b ∨ (w.heap.size ≤ b ∧ b < w'.heap.size)) → L E (putM m' (hs.map fun o => (o, .dead))) ρ w' b := by
      intro b hb
      rcases hb with (hb | ⟨o', ho', l, c', r'⟩) | ⟨hb1, hb2⟩
      · refine ⟨hb.1.imp id (fun h => h.imp id (fun h => ⟨h.1, Nat.lt_of_lt_of_le h.2 hb0.size⟩)), fun o'' c'' l'' r'' => hb.2 o'' c'' ((putM_dead_live hs o'').1 l'') r''⟩
      · have ho' : o' ∈ hs := ho'.resolve_right (fun e => by rw [hft0] at e; cases e)
        obtain ⟨q1, q2⟩ := hR.lo o' b c' l r'
        refine ⟨.inr (q1.imp id (fun q1 => ⟨q1, Nat.lt_of_lt_of_le q2 hb0.size⟩)), fun o'' c'' l'' r'' => ?_⟩
        have l3 := (putM_dead_live hs o'').1 l''
        have e := hR.inj o' o'' b c' c'' l l3 r' r''
        subst e
        exact (putM_dead_live hs o').2 ho' l''
      · refine ⟨.inr (.inr ⟨Nat.le_trans hR.below.size hb1, hb2⟩), fun o'' c'' l'' r'' => ?_⟩
        have l3 := (putM_dead_live hs o'').1 l''
        have := (hR.lo o'' b c'' l3 r'').2
        omega
    have hr' := ROk.tok (ROk.mono hL hr)
    rw [hsf]
    exact hR2.put hd hr'.1 hr'.2

theorem exec_func {P : Program} {o : Oper} {c : Call} (ho : o.op = .call c) {fo : Operand} (hcal : c.callee = .value fo) {f : FuncId} (a : Act) (w : World) (xs : List Value) (e1 : a.eval fo = .func (.func f) #[] xs.toArray) :
    (execOp a.eval o).run P w = (callFunc f (c.args.toList.map a.eval ++ xs).toArray).run P w := by
  simp only [execOp, ho, resolve, hcal, e1, Deferred.ofValue, Sem.run_bind, Sem.run_pure, Result.andThen_ok, invoke]
  congr 2
  apply Array.ext'
  simp
theorem callFunc_enters {P : Program} {f : FuncId} (hent : Enters P f) (args : Array Value) (w : World) : (callFunc f args).run P w = .ok (.enter f args) w := by
  obtain ⟨fn, k1, k2, k3⟩ := hent
  have k2' : ¬ fn.name = "runtime.NumGoroutine" := by simpa using k2
  have k3' : ¬ fn.body = none := by intro e; rw [e] at k3; simp at k3
  simp [callFunc, k1]
  rw [if_neg k2', if_neg k3']
theorem exec_enter {P : Program} {o : Oper} {c : Call} (ho : o.op = .call c) {fo : Operand} (hcal : c.callee = .value fo) {f : FuncId} (hent : Enters P f) (a : Act) (w : World) (xs : List Value) (e1 : a.eval fo = .func (.func f) #[] xs.toArray) :
    (execOp a.eval o).run P w = .ok (.enter f (c.args.toList.map a.eval ++ xs).toArray) w := by
  rw [exec_func ho hcal a w xs e1, callFunc_enters hent]

/-! ### function values -/
theorem Rel.thaw1 {E : Env} {ρ : Id → Option (Nat × Nat)} {t : Nat → TV} {m : Id → Mem} {a : Act} {w : World} (h : Rel E ρ t m a w) (o : Id) {cs : List SV} (hm : m o = .box cs) : Rel E ρ t (upd m o (.ro cs)) a w := by
  have hρ : upd ρ o (ρ o) = ρ := upd_self ρ o
  have hmo := h.mem o
  rw [hm] at hmo
  obtain ⟨b, c, xs, e, h1, h2, h3⟩ := hmo
  obtain ⟨q1, q2⟩ := h.lo o b c (mem_live_box hm) h1
  have hs : Shape (m o) (upd m o (.ro cs) o) := .boxy (by rw [hm]; rfl) (by rw [upd_same]; rfl)
  have hL : ∀ b, L E m ρ w b → L E (upd m o (.ro cs)) (upd ρ o (ρ o)) w b ∧ w.heap[b]? = w.heap[b]? := fun b hl => ⟨⟨hl.1, fun o' c' l r => by
      by_cases e : o' = o
      · subst e; rw [upd_same] at l; exact l.elim
      · rw [upd_ne _ _ _ e] at l r; exact hl.2 o' c' l r⟩, rfl⟩
  have := h.one o (.ro cs) (ρ o) (Bx.refl _ _ _) hL (fun _ _ _ _ _ _ => rfl) (fun l => l.elim) (by simp) (fun _ h => h.elim) (fun e => by rw [hm] at e; simp at e) (fun e => by simp [Mem.gen] at e) (by
      refine ⟨b, c, xs, e, by rw [upd_same]; exact h1, ⟨.inr (q1.imp id (fun q1 => ⟨q1, q2⟩)), fun o' c' l r => ?_⟩, h2, h3.mono hL⟩
      by_cases e : o' = o
      · subst e; rw [upd_same] at l; exact l.elim
      · rw [upd_ne _ _ _ e] at l r
        exact e (h.inj o' o b c' c l (mem_live_box hm) r h1)) (fun _ => hs.carry (by rw [hρ])) (fun x g i off _ => hs.ep (by rw [hρ]) x g i off) (fun x g lo n _ => hs.sub (by rw [hρ]) x g lo n)
  rwa [hρ] at this

/-- The objects that a function value captures are shut one by one; what is captured is read from then on. -/
theorem captureW_ok {o : Oper} {t : Nat → TV} {m : Id → Mem} : ∀ (xs : List Operand), (∀ x ∈ xs, x ∈ o.op.operands.toList) → ∀ (K : List SV → List (Id × Mem) → List Nat → Prop), captureW t m xs K →
    ∃ l ms rd, K l ms rd ∧ (∀ p ∈ ms, ∃ cs, p.2 = .ro cs ∧ m p.1 = .box cs ∧ p.1.key ∈ rd) ∧
      ∀ (E : Env) (ρ : Id → Option (Nat × Nat)) (t' : Nat → TV) (m' : Id → Mem) (a : Act) (w : World), Agree o t t' → Same rd m m' → Rel E ρ t' m' a w →
        RdL (Sx E m' ρ w (ms.map (·.1)) false) w (xs.map a.eval) l
  | [], _, K, h => ⟨[], [], [], h, by simp, fun _ _ _ _ _ _ _ _ _ => .nil⟩
  | x :: r, hx, K, h => by
    have hmx := hx x (by simp)
    simp only [captureW] at h
    split at h
    · rename_i c hq
      obtain ⟨l, ms, rd, h, h1, h3⟩ := captureW_ok r (fun y hy => hx y (by simp [hy])) _ h
      refine ⟨_, _, _, h, h1, fun E ρ t' m' a w ha hm hR => ?_⟩
      have hv := (opd_ok hR x).1
      rw [opd_agree ha hmx, hq] at hv
      exact .cons (Rd.mono (fun b hb => ⟨.inl hb, rfl⟩) (show Rd _ _ _ _ from hv)) (h3 E ρ t' m' a w ha hm hR)
    · rename_i b p hq
      split at h
      · replace h := lookW_iff h
        split at h
        · rename_i cs hb
          obtain ⟨l, ms, rd, h, h1, h3⟩ := captureW_ok r (fun y hy => hx y (by simp [hy])) _ h
          refine ⟨_, _, _, h, fun q hq' => ?_, fun E ρ t' m' a w ha hm hR => ?_⟩
          · rcases List.mem_cons.1 hq' with rfl | hq'
            · exact ⟨cs, rfl, hb, by simp⟩
            · obtain ⟨cs', a1, a2, a3⟩ := h1 q hq'
              exact ⟨cs', a1, a2, by simp [a3]⟩
          · have hv := (opd_ok hR x).1
            rw [opd_agree ha hmx, hq] at hv
            have hb' : m' b = .box cs := by rw [hm.at b]; exact hb
            simp only [TOk, PtrOk, hb'] at hv
            obtain ⟨bl, c, r1, r2⟩ := hv
            have hmo := hR.mem b
            rw [hb'] at hmo
            obtain ⟨bl', c', us, e, hρ', hblk, hrd⟩ := hmo
            rw [r1] at hρ'
            obtain ⟨rfl, rfl⟩ : bl = bl' ∧ c = c' := by simpa using hρ'
            refine .cons ?_ (RdL.mono (fun b hb => ⟨hb.mono (fun o ho => by simp at ho ⊢; exact .inr ho) id, rfl⟩) (h3 E ρ t' m' a w ha (hm.sub (fun k hk => by simp [hk])) hR))
            rw [r2]
            refine Rd.ad (fun j => (us[j]?).getD Go.undef) (.inr ⟨b, .inl (by simp), mem_live_box hb', c, r1⟩) (fun j hj => ?_) (fun j hj => ?_)
            · obtain ⟨y, hy, _⟩ := hrd.getElemRd j hj
              simp [World.cell?, hblk, hy]
            · obtain ⟨y, hy, hr⟩ := hrd.getElemRd j hj
              simp only [hy, Option.getD_some]
              exact hr.mono (fun b hb => ⟨.inl hb, rfl⟩)
        · rename_i cs hb
          obtain ⟨l, ms, rd, h, h1, h3⟩ := captureW_ok r (fun y hy => hx y (by simp [hy])) _ h
          refine ⟨_, _, _, h, fun q hq' => ?_, fun E ρ t' m' a w ha hm hR => ?_⟩
          · obtain ⟨cs', a1, a2, a3⟩ := h1 q hq'
            exact ⟨cs', a1, a2, by simp [a3]⟩
          · have hv := (opd_ok hR x).1
            rw [opd_agree ha hmx, hq] at hv
            have hb' : m' b = .ro cs := by rw [hm.at b]; exact hb
            simp only [TOk, PtrOk, hb'] at hv
            obtain ⟨bl, c, r1, r2⟩ := hv
            have hmo := hR.mem b
            rw [hb'] at hmo
            obtain ⟨bl', c', us, e, hρ', hLb, hblk, hrd⟩ := hmo
            rw [r1] at hρ'
            obtain ⟨rfl, rfl⟩ : bl = bl' ∧ c = c' := by simpa using hρ'
            refine .cons ?_ (h3 E ρ t' m' a w ha (hm.sub (fun k hk => by simp [hk])) hR)
            rw [r2]
            refine Rd.ad (fun j => (us[j]?).getD Go.undef) (.inl hLb) (fun j hj => ?_) (fun j hj => ?_)
            · obtain ⟨y, hy, _⟩ := hrd.getElemRd j hj
              simp [World.cell?, hblk, hy]
            · obtain ⟨y, hy, hr⟩ := hrd.getElemRd j hj
              simp only [hy, Option.getD_some]
              exact hr.mono (fun b hb => ⟨.inl hb, rfl⟩)
        · exact h.elim
      · exact h.elim
    · exact h.elim

theorem Rel.thawL {E : Env} {ρ : Id → Option (Nat × Nat)} {t : Nat → TV} {a : Act} {w : World} : ∀ (ms : List (Id × Mem)) {m : Id → Mem}, Rel E ρ t m a w → (∀ p ∈ ms, ∃ cs, p.2 = .ro cs ∧ (m p.1 = .box cs ∨ m p.1 = .ro cs)) →
    Rel E ρ t (putM m ms) a w ∧ (∀ o, (putM m ms o).live → (m o).live) ∧ (∀ p ∈ ms, ¬ (putM m ms p.1).live)
  | [], m, h, _ => ⟨h, fun _ l => l, by simp⟩
  | (o, nm) :: ms, m, h, hm => by
    obtain ⟨cs, e1, e2⟩ := hm (o, nm) (by simp)
    simp only at e1 e2
    subst e1
    have h' : Rel E ρ t (upd m o (.ro cs)) a w := by
      rcases e2 with e2 | e2
      · exact h.thaw1 o e2
      · have : upd m o (.ro cs) = m := by rw [← e2]; exact upd_self m o
        rw [this]; exact h
    have hrec := Rel.thawL ms h' (fun p hp => by
      obtain ⟨cs', a1, a2⟩ := hm p (by simp [hp])
      refine ⟨cs', a1, ?_⟩
      by_cases e : p.1 = o
      · right
        rw [e, upd_same]
        rw [e] at a2
        rcases e2 with e2 | e2 <;> rcases a2 with a2 | a2 <;> rw [e2] at a2 <;> simp at a2 <;> simp [a2]
      · rw [upd_ne _ _ _ e]; exact a2)
    simp only [putM]
    refine ⟨hrec.1, fun o' l => ?_, fun p hp l => ?_⟩
    · have := hrec.2.1 o' l
      by_cases e : o' = o
      · subst e; rw [upd_same] at this; exact this.elim
      · rwa [upd_ne _ _ _ e] at this
    · rcases List.mem_cons.1 hp with rfl | hp
      · have := hrec.2.1 _ l
        rw [upd_same] at this
        exact this
      · exact hrec.2.2 p hp l

theorem stepOk_makeFunc {P : Program} {o : Oper} {t : Nat → TV} {m : Id → Mem} {f : Nat} {first captured : Array Operand} (ho : o.op = .makeFunc (.func f) first captured) (hf : first.toList = []) {K : List SV → List (Id × Mem) → List Nat → Prop}
    (h : captureW t m captured.toList K) : ∃ l ms rd, K l ms rd ∧ StepOk P o t m (.d (.one (.fn f l.length fun j => l.getD j (.v Go.undef)))) ms rd := by
  have hfe : first = #[] := by rw [← Array.toArray_toList (xs := first), hf]
  obtain ⟨l, ms, rd, h, hbox, hread⟩ := captureW_ok (o := o) captured.toList (fun x hx => by rw [ho]; simp [Op.operands, hfe]; simpa using hx) _ h
  refine ⟨l, ms, rd, h, ?_⟩
  intro E ρ t' m' a w hP ha hm hd hR K' Q hK
  have hr := hread E ρ t' m' a w ha hm hR
  obtain ⟨hR', hl1, hl2⟩ := hR.thawL ms (fun p hp => by
    obtain ⟨cs, a1, a2, a3⟩ := hbox p hp
    exact ⟨cs, a1, .inl (by rw [hm p.1 a3]; exact a2)⟩)
  have hlive : ∀ o ∈ ms.map (·.1), (m' o).live := fun o ho => by
    obtain ⟨p, hp, rfl⟩ := List.mem_map.1 ho
    obtain ⟨cs, _, a2, a3⟩ := hbox p hp
    rw [hm p.1 a3, a2]; trivial
  have hL : ∀ b, Sx E m' ρ w (ms.map (·.1)) false b → L E (putM m' ms) ρ w b := by
    intro b hb
    rcases hb with hb | ⟨o', ho', l', c', r'⟩
    · exact ⟨hb.1, fun o'' c'' l'' r'' => hb.2 o'' c'' (hl1 o'' l'') r''⟩
    · have ho' := ho'.resolve_right (fun e => by cases e)
      obtain ⟨q1, q2⟩ := hR.lo o' b c' l' r'
      refine ⟨.inr (q1.imp id (fun q1 => ⟨q1, q2⟩)), fun o'' c'' l'' r'' => ?_⟩
      have e := hR.inj o' o'' b c' c'' l' (hl1 o'' l'') r' r''
      subst e
      obtain ⟨p, hp, rfl⟩ := List.mem_map.1 ho'
      exact hl2 p hp l''
  have hrun : (execOp a.eval o).run P w = .ok (.value (.func (.func f) #[] (captured.toList.map a.eval).toArray)) w := by
    simp [execOp, ho, Instr.makeFunc, hfe]
    apply Array.ext'
    simp
  unfold Oper.wp
  rw [hrun]
  refine hK ρ _ w (hR'.put hd ?_ (fun _ h => h.elim))
  have hlen := hr.length
  have hx : (captured.toList.map a.eval) = (List.range l.length).map (fun j => ((captured.toList.map a.eval)[j]?).getD Go.undef) := by
    revert hlen
    generalize captured.toList.map a.eval = us
    intro hlen
    apply List.ext_getElem?
    intro j
    by_cases hj : j < l.length
    · have hj' : j < us.length := by omega
      simp [hj, hj']
    · rw [List.getElem?_eq_none (by omega), List.getElem?_eq_none (by simp; omega)]
  show Rd _ _ _ _
  rw [hx]
  refine Rd.fn _ (fun j hj => ?_)
  obtain ⟨y, hy, hr'⟩ := hr.getElemRd j hj
  simp only [hy, Option.getD_some]
  exact hr'.mono (fun b hb => ⟨hL b hb, rfl⟩)
end Go.Vm
namespace Go.Vm
set_option linter.unusedVariables false
set_option linter.unusedSimpArgs false
open Go Go.RowKit

/-! ### names -/
theorem memL_at : ∀ (ms : List Mem) (k j : Nat) (x : Mem), ms[j]? = some x → memL k ms (.n (k + j)) = x
  | [], _, _, _, h => by simp at h
  | y :: r, k, 0, x, h => by
    have e : y = x := by simpa using h
    simp only [memL, Nat.add_zero]
    rw [upd_same, e]
  | y :: r, k, j + 1, x, h => by
    have h' : r[j]? = some x := by simpa using h
    simp only [memL]
    rw [upd_ne _ _ _ (by intro e; injection e; omega), show k + (j + 1) = (k + 1) + j by omega]
    exact memL_at r (k + 1) j x h'
theorem memL_inv : ∀ (ms : List Mem) (k : Nat) (o : Id), memL k ms o ≠ .none → ∃ j x, ms[j]? = some x ∧ o = .n (k + j)
  | [], _, _, h => absurd rfl h
  | y :: r, k, o, h => by
    by_cases e : o = .n k
    · exact ⟨0, y, by simp, e⟩
    · simp only [memL] at h
      rw [upd_ne _ _ _ e] at h
      obtain ⟨j, x, h1, h2⟩ := memL_inv r (k + 1) o h
      exact ⟨j + 1, x, by simpa using h1, by rw [h2]; congr 1; omega⟩
theorem memL_s : ∀ (ms : List Mem) (k q i : Nat), memL k ms (.s q i) = .none
  | [], _, _, _ => rfl
  | _ :: r, k, q, i => by
    simp only [memL]
    rw [upd_ne _ _ _ (by intro e; cases e)]
    exact memL_s r (k + 1) q i
theorem memL_out (ms : List Mem) (k q : Nat) (h : q < k ∨ k + ms.length ≤ q) : memL k ms (.n q) = .none := by
  refine Classical.byContradiction fun hn => ?_
  obtain ⟨j, x, h1, h2⟩ := memL_inv ms k _ hn
  have hj := (List.getElem?_eq_some_iff.1 h1).1
  injection h2 with h2
  omega
theorem memR_at {ms : List Mem} {fr : Mem} (hf : ms.length ≤ 1000) {j : Nat} {x : Mem} (h : ms[j]? = some x) : memR ms fr (.n (2000 + j)) = x := by
  have hj := (List.getElem?_eq_some_iff.1 h).1
  rw [memR, upd_ne _ _ _ (by intro e; injection e; omega)]
  exact memL_at ms 2000 j x h
theorem memR_fr (ms : List Mem) (fr : Mem) : memR ms fr (.n 3000) = fr := upd_same _ _ _
theorem memR_inv {ms : List Mem} {fr : Mem} {o : Id} (h : memR ms fr o ≠ .none) : (o = .n 3000 ∧ fr ≠ .none) ∨ ∃ j x, ms[j]? = some x ∧ o = .n (2000 + j) := by
  by_cases e : o = .n 3000
  · subst e; rw [memR_fr] at h; exact .inl ⟨rfl, h⟩
  · rw [memR, upd_ne _ _ _ e] at h
    exact .inr (memL_inv ms 2000 o h)

theorem renI_at {os : List Id} {d : Id} {j : Nat} (hj : j < 1000) {o : Id} (h : os[j]? = some o) : renI os d (.n (2000 + j)) = o := by
  have hb : Nat.beq (2000 + j) 3000 = false := beq_f (by omega)
  simp only [renI, hb, cond_false]
  rw [show 2000 + j - 2000 = j by omega]
  simp [List.getD, h]
theorem renI_fr (os : List Id) (d : Id) : renI os d (.n 3000) = d := rfl

theorem putM_append : ∀ (l1 l2 : List (Id × Mem)) (m : Id → Mem), putM m (l1 ++ l2) = putM (putM m l1) l2
  | [], _, _ => rfl
  | _ :: l1, l2, m => by simp only [List.cons_append, putM]; exact putM_append l1 l2 _
theorem putM_out : ∀ (l : List (Id × Mem)) (m : Id → Mem) (o : Id), (∀ p ∈ l, p.1 ≠ o) → putM m l o = m o
  | [], _, _, _ => rfl
  | p :: l, m, o, h => by
    simp only [putM]
    rw [putM_out l _ o (fun q hq => h q (by simp [hq])), upd_ne _ _ _ (fun e => h p (by simp) e.symm)]
theorem renL_mem {os0 : List Id} {d : Id} {G : Id → Nat} : ∀ (os : List Id) (ms : List Mem) (k : Nat) (p : Id × Mem), p ∈ renL os0 d G k os ms → p.1 ∈ os
  | [], _, _, p, h => by simp [renL] at h
  | o :: os, [], _, p, h => by simp [renL] at h
  | o :: os, x :: ms, k, p, h => by
    simp only [renL] at h
    rcases List.mem_cons.1 h with rfl | h
    · simp
    · exact List.mem_cons_of_mem _ (renL_mem os ms (k + 1) p h)
theorem renL_at {os0 : List Id} {d : Id} {G : Id → Nat} : ∀ (os : List Id) (ms : List Mem) (k j : Nat) (o : Id) (y : Mem) (m : Id → Mem), (∀ (i i' : Nat) (a : Id), os[i]? = some a → os[i']? = some a → i = i') → os[j]? = some o → ms[j]? = some y →
    putM m (renL os0 d G k os ms) o = renM os0 d G (G (.n (k + j))) y
  | [], _, _, _, _, _, _, _, h, _ => by simp at h
  | _ :: _, [], _, _, _, _, _, _, _, h => by simp at h
  | o' :: os, x :: ms, k, 0, o, y, m, hnd, h1, h2 => by
    have e1 : o' = o := by simpa using h1
    have e2 : x = y := by simpa using h2
    subst e1 e2
    simp only [renL, putM, Nat.add_zero]
    rw [putM_out _ _ _ (fun p hp e => by
      have hm := renL_mem os ms (k + 1) p hp
      rw [e] at hm
      obtain ⟨i, hi⟩ := List.getElem?_of_mem hm
      have := hnd 0 (i + 1) o' (by simp) (by simpa using hi)
      omega), upd_same]
  | o' :: os, x :: ms, k, j + 1, o, y, m, hnd, h1, h2 => by
    simp only [renL, putM]
    rw [show k + (j + 1) = (k + 1) + j by omega]
    exact renL_at os ms (k + 1) j o y _ (fun i i' a p q => by have := hnd (i + 1) (i' + 1) a (by simpa using p) (by simpa using q); omega) (by simpa using h1) (by simpa using h2)

theorem nodupB_iff : ∀ (l : List Nat), nodupB l = true → l.Nodup
  | [], _ => List.nodup_nil
  | k :: r, h => by
    simp only [nodupB, Bool.and_eq_true, Bool.not_eq_true', List.any_eq_false] at h
    refine List.nodup_cons.2 ⟨fun hm => h.1 k hm (Nat.beq_refl k), nodupB_iff r h.2⟩

theorem MFits.at {m : Id → Mem} {os0 : List Id} {d : Id} {os : List Id} {ms : List Mem} (h : MFits m os0 d os ms) : os.length = ms.length ∧ ∀ (j : Nat) (o : Id) (x : Mem), os[j]? = some o → ms[j]? = some x → MFit m os0 d (m o) x := by
  induction h with
  | nil => exact ⟨rfl, fun j o x h => by simp at h⟩
  | cons a _ ih =>
    refine ⟨by simp [ih.1], fun j o x h1 h2 => ?_⟩
    cases j with
    | zero => simp at h1 h2; subst h1 h2; exact a
    | succ j => exact ih.2 j o x (by simpa using h1) (by simpa using h2)
theorem kinB_at : ∀ (ms ms' : List Mem), kinB ms ms' = true → ms'.length = ms.length ∧ ∀ (j : Nat) (x y : Mem), ms[j]? = some x → ms'[j]? = some y → y = .dead ∨ (y.kind = x.kind ∧ 0 < x.kind)
  | [], [], _ => ⟨rfl, fun j x y h => by simp at h⟩
  | [], _ :: _, h => by simp [kinB] at h
  | _ :: _, [], h => by simp [kinB] at h
  | x0 :: r, y0 :: r', h => by
    simp only [kinB, Bool.and_eq_true, Bool.or_eq_true] at h
    obtain ⟨i1, i2⟩ := kinB_at r r' h.2
    refine ⟨by simp [i1], fun j x y h1 h2 => ?_⟩
    cases j with
    | zero =>
      simp at h1 h2; subst h1 h2
      rcases h.1 with h | h
      · left
        revert h
        cases y0 <;> simp [Mem.isDead]
      · exact .inr ⟨Nat.eq_of_beq_eq_true h.1, lt_of_blt h.2⟩
    | succ j => exact i2 j x y (by simpa using h1) (by simpa using h2)

theorem kind_boxy {x : Mem} : x.kind = 1 ↔ x.boxy = true := by cases x <;> simp [Mem.kind, Mem.boxy]
theorem kind_bldy {x : Mem} {k : Nat} : x.kind = k + 2 ↔ ∃ g n, x.bldy = some (g, n, k) := by
  cases x <;> simp [Mem.kind, Mem.bldy]

theorem CRL.ren {S S' : Nat → Prop} {m m' : Id → Mem} {ρ ρ' : Id → Option (Nat × Nat)} {w w' : World} {os : List Id} {d : Id} (hL : ∀ b, S b → S' b ∧ w'.heap[b]? = w.heap[b]?) {xs : List Value} {cs : List CR} (h : CRL S m ρ w xs cs) :
    (∀ o p x, (∃ c ∈ cs, c.refs o) → PtrOk m ρ x o p → PtrOk m' ρ' x (renI os d o) p) → CRL S' m' ρ' w' xs (renCRs os d cs) := by
  induction h with
  | nil => intro _; exact .nil
  | @cons x c xs cs a _ ih =>
    intro hp
    refine .cons ?_ (ih (fun o p x ⟨c', hc, hr⟩ => hp o p x ⟨c', by simp [hc], hr⟩))
    cases c with
    | s c => exact Rd.mono hL a
    | ptr o p => exact hp o p x ⟨.ptr o p, by simp, rfl⟩ a
theorem CVk.ren {S S' : Nat → Prop} {m m' : Id → Mem} {ρ ρ' : Id → Option (Nat × Nat)} {w w' : World} {os : List Id} {d : Id} {G : Id → Nat} (hL : ∀ b, S b → S' b ∧ w'.heap[b]? = w.heap[b]?) {x : Value} {c : CV} (h : CVk S m ρ w x c) (hcur : c.cur m)
    (hp : ∀ o p x, c.refs o → PtrOk m ρ x o p → PtrOk m' ρ' x (renI os d o) p) (hh : ∀ o x, c.refs o → HdlOk m ρ x o (m o).gen → HdlOk m' ρ' x (renI os d o) (G o)) : CVk S' m' ρ' w' x (renCV os d G c) := by
  cases c with
  | s c => exact Rd.mono hL h
  | ptr o p => exact hp o p x rfl h
  | hdl o g => exact hh o x rfl (by rw [← (show g = (m o).gen from hcur)]; exact h)
  | clo f caps => obtain ⟨us, e1, r1⟩ := h; exact ⟨us, e1, r1.ren hL hp⟩
theorem CVL.ren {S S' : Nat → Prop} {m m' : Id → Mem} {ρ ρ' : Id → Option (Nat × Nat)} {w w' : World} {os : List Id} {d : Id} {G : Id → Nat} (hL : ∀ b, S b → S' b ∧ w'.heap[b]? = w.heap[b]?) {xs : List Value} {cs : List CV} (h : CVL S m ρ w xs cs) : (∀ c ∈ cs, c.cur m) →
    (∀ o p x, (∃ c ∈ cs, c.refs o) → PtrOk m ρ x o p → PtrOk m' ρ' x (renI os d o) p) → (∀ o x, (∃ c ∈ cs, c.refs o) → HdlOk m ρ x o (m o).gen → HdlOk m' ρ' x (renI os d o) (G o)) → CVL S' m' ρ' w' xs (renCVs os d G cs) := by
  induction h with
  | nil => intro _ _ _; exact .nil
  | @cons x c xs cs a _ ih =>
    intro hc hp hh
    exact .cons (a.ren hL (hc c (by simp)) (fun o p x hr => hp o p x ⟨c, by simp, hr⟩) (fun o x hr => hh o x ⟨c, by simp, hr⟩))
      (ih (fun c' hc' => hc c' (by simp [hc'])) (fun o p x ⟨c', hc, hr⟩ => hp o p x ⟨c', by simp [hc], hr⟩) (fun o x ⟨c', hc, hr⟩ => hh o x ⟨c', by simp [hc], hr⟩))

theorem CRL.fit {S S' : Nat → Prop} {m' m0 : Id → Mem} {ρ ρ0 : Id → Option (Nat × Nat)} {w : World} {os : List Id} {d : Id} (hL : ∀ b, S b → S' b) : ∀ {cs cs' : List CR} (_ : CRFits os d cs cs') {xs : List Value} (_ : CRL S m' ρ w xs cs),
    (∀ o p x, (∃ c ∈ cs', c.refs o) → PtrOk m' ρ x (renI os d o) p → PtrOk m0 ρ0 x o p) → CRL S' m0 ρ0 w xs cs' := by
  intro cs cs' hf
  induction hf with
  | nil => intro xs h _; cases h; exact .nil
  | @cons c c' l l' h _ ih =>
    intro xs hx hp
    cases hx with
    | cons a b =>
      refine .cons ?_ (ih b (fun o p x ⟨c', hc, hr⟩ => hp o p x ⟨c', by simp [hc], hr⟩))
      cases h with
      | s h => exact h _ _ _ (Rd.mono (fun b hb => ⟨hL b hb, rfl⟩) a)
      | @ptr o o' p h => subst h; exact hp o' p _ ⟨.ptr o' p, by simp, rfl⟩ a
theorem CVk.fit {S S' : Nat → Prop} {m m' m0 : Id → Mem} {ρ ρ0 : Id → Option (Nat × Nat)} {w : World} {os : List Id} {d : Id} (hL : ∀ b, S b → S' b) {c c' : CV} (hf : CVFit m os d c c') {x : Value} (h : CVk S m' ρ w x c)
    (hp : ∀ o p x, c'.refs o → PtrOk m' ρ x (renI os d o) p → PtrOk m0 ρ0 x o p) (hh : ∀ o x, c'.refs o → HdlOk m' ρ x (renI os d o) (m (renI os d o)).gen → HdlOk m0 ρ0 x o 1) : CVk S' m0 ρ0 w x c' := by
  cases hf with
  | s hs => exact hs _ _ _ (Rd.mono (fun b hb => ⟨hL b hb, rfl⟩) h)
  | @ptr o o' p he => subst he; exact hp o' p _ rfl h
  | @hdl o o' g he hg => subst he hg; exact hh o' _ rfl h
  | @clo f c c' hc => obtain ⟨us, e1, r1⟩ := h; exact ⟨us, e1, CRL.fit hL hc r1 hp⟩
theorem CVL.fit {S S' : Nat → Prop} {m m' m0 : Id → Mem} {ρ ρ0 : Id → Option (Nat × Nat)} {w : World} {os : List Id} {d : Id} (hL : ∀ b, S b → S' b) : ∀ {cs cs' : List CV} (_ : CVFits m os d cs cs') {xs : List Value} (_ : CVL S m' ρ w xs cs),
    (∀ o p x, (∃ c ∈ cs', c.refs o) → PtrOk m' ρ x (renI os d o) p → PtrOk m0 ρ0 x o p) → (∀ o x, (∃ c ∈ cs', c.refs o) → HdlOk m' ρ x (renI os d o) (m (renI os d o)).gen → HdlOk m0 ρ0 x o 1) → CVL S' m0 ρ0 w xs cs' := by
  intro cs cs' hf
  induction hf with
  | nil => intro xs h _ _; cases h; exact .nil
  | @cons c c' l l' h _ ih =>
    intro xs hx hp hh
    cases hx with
    | cons a b =>
      exact .cons (a.fit hL h (fun o p x hr => hp o p x ⟨c', by simp, hr⟩) (fun o x hr => hh o x ⟨c', by simp, hr⟩))
        (ih b (fun o p x ⟨c', hc, hr⟩ => hp o p x ⟨c', by simp [hc], hr⟩) (fun o x ⟨c', hc, hr⟩ => hh o x ⟨c', by simp [hc], hr⟩))

theorem LLe.rdL {S : Nat → Prop} {w : World} {cs cs' : List SV} (h : LLe cs cs') : ∀ {xs : List Value}, RdL S w xs cs → RdL S w xs cs' := by
  induction h with
  | nil => intro xs h; exact h
  | cons a _ ih => intro xs h; cases h with | cons b c => exact .cons (a _ _ _ b) (ih c)
theorem CVFits.of_map {m : Id → Mem} {os : List Id} {d : Id} : ∀ {l : List SV} {l' : List CV} {S S' : Nat → Prop} {m' m0 : Id → Mem} {ρ ρ0 : Id → Option (Nat × Nat)} {w : World}, CVFits m os d (l.map .s) l' → (∀ b, S b → S' b) → ∀ {xs : List Value}, RdL S w xs l → CVL S' m0 ρ0 w xs l' := by
  intro l
  induction l with
  | nil => intro l' S S' m' m0 ρ ρ0 w h _ xs hx; cases h; cases hx; exact .nil
  | cons c l ih =>
    intro l' S S' m' m0 ρ ρ0 w h hL xs hx
    cases h with
    | cons a b =>
      cases hx with
      | cons p q =>
        refine .cons ?_ (ih (m' := m') (ρ := ρ) b hL q)
        cases a with
        | s hs => exact hs _ _ _ (Rd.mono (fun b hb => ⟨hL b hb, rfl⟩) p)

section
open Classical
/-- Where the caller's objects lie, by the contract's names. -/
noncomputable def rho0 (ρ : Id → Option (Nat × Nat)) (os : List Id) (o : Id) : Option (Nat × Nat) :=
  if h : ∃ j a, os[j]? = some a ∧ o = .n (2000 + j) then ρ h.choose_spec.choose else none
theorem rho0_at {ρ : Id → Option (Nat × Nat)} {os : List Id} {j : Nat} {a : Id} (h : os[j]? = some a) : rho0 ρ os (.n (2000 + j)) = ρ a := by
  have hex : ∃ j' a', os[j']? = some a' ∧ Id.n (2000 + j) = .n (2000 + j') := ⟨j, a, h, rfl⟩
  unfold rho0
  rw [dif_pos hex]
  obtain ⟨h1, h2⟩ := hex.choose_spec.choose_spec
  injection h2 with h2
  have key : ∀ (a' : Id) (i : Nat), os[i]? = some a' → i = j → ρ a' = ρ a := by
    intro a' i h3 h4
    subst h4
    rw [h] at h3
    injection h3 with h3
    rw [h3]
  exact key _ _ h1 (by omega)
/-- Where the objects lie behind the call. -/
noncomputable def rho2 (ρ ρ2 : Id → Option (Nat × Nat)) (os : List Id) (d : Id) (fresh : Prop) (o : Id) : Option (Nat × Nat) :=
  if h : ∃ j : Nat, os[j]? = some o then ρ2 (.n (2000 + h.choose)) else if o = d ∧ fresh then ρ2 (.n 3000) else ρ o
theorem rho2_at {ρ ρ2 : Id → Option (Nat × Nat)} {os : List Id} {d : Id} {fresh : Prop} (hnd : ∀ (i i' : Nat) (a : Id), os[i]? = some a → os[i']? = some a → i = i') {j : Nat} {a : Id} (h : os[j]? = some a) : rho2 ρ ρ2 os d fresh a = ρ2 (.n (2000 + j)) := by
  have hex : ∃ j : Nat, os[j]? = some a := ⟨j, h⟩
  unfold rho2
  rw [dif_pos hex, hnd _ _ _ hex.choose_spec h]
theorem rho2_fr {ρ ρ2 : Id → Option (Nat × Nat)} {os : List Id} {d : Id} {fresh : Prop} (hd : d ∉ os) (hf : fresh) : rho2 ρ ρ2 os d fresh d = ρ2 (.n 3000) := by
  unfold rho2
  rw [dif_neg (fun ⟨j, h⟩ => hd (List.mem_of_getElem? h)), if_pos ⟨rfl, hf⟩]
theorem rho2_out {ρ ρ2 : Id → Option (Nat × Nat)} {os : List Id} {d : Id} {fresh : Prop} {o : Id} (ho : o ∉ os) (hd : ¬ (o = d ∧ fresh)) : rho2 ρ ρ2 os d fresh o = ρ o := by
  unfold rho2
  rw [dif_neg (fun ⟨j, h⟩ => ho (List.mem_of_getElem? h)), if_neg hd]
end

theorem MFit.live {m : Id → Mem} {os : List Id} {d : Id} {x y : Mem} (h : MFit m os d x y) : y.live → x.live := by cases h <;> exact id
theorem MFit.boxy {m : Id → Mem} {os : List Id} {d : Id} {x y : Mem} (h : MFit m os d x y) : (x.boxy = true ∧ y.boxy = true ∧ y.kind = 1) ∨ ∃ g n k, x.bldy = some (g, n, k) ∧ y.bldy = some (1, n, k) ∧ y.kind = k + 2 := by
  cases h <;> first | exact .inl ⟨rfl, rfl, rfl⟩ | exact .inr ⟨_, _, _, rfl, rfl, rfl⟩
theorem renM_live {os : List Id} {d : Id} {G : Id → Nat} {g : Nat} {x : Mem} : (renM os d G g x).live ↔ x.live := by cases x <;> exact Iff.rfl
theorem renM_none {os : List Id} {d : Id} {G : Id → Nat} {g : Nat} {x : Mem} : renM os d G g x = .none ↔ x = .none := by cases x <;> simp [renM]
theorem renM_boxy {os : List Id} {d : Id} {G : Id → Nat} {g : Nat} {x : Mem} : (renM os d G g x).boxy = x.boxy := by cases x <;> rfl
theorem renM_bldy {os : List Id} {d : Id} {G : Id → Nat} {g : Nat} {x : Mem} {g' n k : Nat} (h : x.bldy = some (g', n, k)) : (renM os d G g x).bldy = some (g, n, k) := by
  cases x <;> simp [Mem.bldy] at h <;> (obtain ⟨_, rfl, rfl⟩ := h; rfl)
theorem mem_renCRs {os : List Id} {d : Id} : ∀ {cs : List CR} {c : CR}, c ∈ renCRs os d cs → ∃ c0 ∈ cs, c = renCR os d c0
  | [], _, h => by simp [renCRs] at h
  | c0 :: r, c, h => by
    simp only [renCRs] at h
    rcases List.mem_cons.1 h with rfl | h
    · exact ⟨c0, by simp, rfl⟩
    · obtain ⟨c1, h1, h2⟩ := mem_renCRs h
      exact ⟨c1, by simp [h1], h2⟩
theorem mem_renCVs {os : List Id} {d : Id} {G : Id → Nat} : ∀ {cs : List CV} {c : CV}, c ∈ renCVs os d G cs → ∃ c0 ∈ cs, c = renCV os d G c0
  | [], _, h => by simp [renCVs] at h
  | c0 :: r, c, h => by
    simp only [renCVs] at h
    rcases List.mem_cons.1 h with rfl | h
    · exact ⟨c0, by simp, rfl⟩
    · obtain ⟨c1, h1, h2⟩ := mem_renCVs h
      exact ⟨c1, by simp [h1], h2⟩
theorem renCRs_refs {os : List Id} {d : Id} {cs : List CR} {o : Id} (h : ∃ c ∈ renCRs os d cs, c.refs o) : ∃ o0, (∃ c ∈ cs, c.refs o0) ∧ o = renI os d o0 := by
  obtain ⟨c, hc, hr⟩ := h
  obtain ⟨c0, h1, rfl⟩ := mem_renCRs hc
  cases c0 with
  | s c => exact hr.elim
  | ptr o0 p => exact ⟨o0, ⟨_, h1, rfl⟩, (show renI os d o0 = o from hr).symm⟩
theorem renCV_refs {os : List Id} {d : Id} {G : Id → Nat} {c : CV} {o : Id} (h : (renCV os d G c).refs o) : ∃ o0, c.refs o0 ∧ o = renI os d o0 := by
  cases c with
  | s c => exact h.elim
  | ptr o0 p => exact ⟨o0, rfl, (show renI os d o0 = o from h).symm⟩
  | hdl o0 g => exact ⟨o0, rfl, (show renI os d o0 = o from h).symm⟩
  | clo f caps => exact renCRs_refs h
theorem renM_refs {os : List Id} {d : Id} {G : Id → Nat} {g : Nat} {x : Mem} {o : Id} (h : (renM os d G g x).refs o) : ∃ o0, x.refs o0 ∧ o = renI os d o0 := by
  cases x with
  | obj cs =>
    obtain ⟨c, hc, hr⟩ := h
    obtain ⟨c0, h1, rfl⟩ := mem_renCVs hc
    obtain ⟨o0, h2, h3⟩ := renCV_refs hr
    exact ⟨o0, ⟨c0, h1, h2⟩, h3⟩
  | bldc g' n k e get =>
    obtain ⟨i, j, hi, hj, hr⟩ := h
    obtain ⟨o0, h2, h3⟩ := renCV_refs hr
    exact ⟨o0, ⟨i, j, hi, hj, h2⟩, h3⟩
  | _ => exact h.elim
theorem renT_refs {os : List Id} {d : Id} {G : Id → Nat} {x : TV} {o : Id} (h : (renT os d G x).refs o) : ∃ o0, x.refs o0 ∧ o = renI os d o0 := by
  cases x with
  | ptr o0 p => exact ⟨o0, rfl, (show renI os d o0 = o from h).symm⟩
  | hdl o0 g => exact ⟨o0, rfl, (show renI os d o0 = o from h).symm⟩
  | clo f caps => exact renCRs_refs h
  | _ => exact h.elim


set_option maxHeartbeats 2000000 in
/-- A CALL BY A MEMORY CONTRACT is true of the machine. -/
theorem callM_ok {P : Program} {o : Oper} {t : Nat → TV} {m : Id → Mem} {f : FuncId} {xs : List TV} {K : Kont}
    (hread : ∀ (E : Env) (ρ : Id → Option (Nat × Nat)) (t' : Nat → TV) (m' : Id → Mem) (a : Act) (w : World), Agree o t t' → Rel E ρ t' m' a w →
      ∃ vs : List Value, TOkL E m' ρ w vs xs ∧ (Enters P f → (execOp a.eval o).run P w = .ok (.enter f vs.toArray) w))
    (h : CallM P f xs (.n (o.dst.getD 0)) m K) : ∃ z mo rd, K z mo rd ∧ StepOk P o t m z mo rd := by
  obtain ⟨os, args, ms, r, ms', fr, hdet, hfit, hk⟩ := h.h
  clear h
  refine ⟨_, _, _, hk, ?_⟩
  generalize hd0 : (Id.n (o.dst.getD 0)) = d at *
  intro E ρ t' m' a w hP ha hm hd hR K' Q hK
  obtain ⟨vs, hvs, hrun⟩ := hread E ρ t' m' a w ha hR
  -- names
  obtain ⟨hlen, hmf⟩ := hfit.mems.at
  obtain ⟨hlen', hkin⟩ := kinB_at _ _ hdet.kin
  have hfew : os.length ≤ 1000 := Nat.le_of_ble_eq_true hfit.few
  have hnod := nodupB_iff _ hfit.keys
  have hdn : d ∉ os := fun hmem => (List.nodup_cons.1 hnod).1 (List.mem_map.2 ⟨d, hmem, rfl⟩)
  have hnd : ∀ (i i' : Nat) (b : Id), os[i]? = some b → os[i']? = some b → i = i' := by
    intro i i' b h1 h2
    have hn := (List.nodup_cons.1 hnod).2
    have h1' : (os.map Id.key)[i]? = some b.key := by simp [h1]
    have h2' : (os.map Id.key)[i']? = some b.key := by simp [h2]
    exact (List.getElem?_inj (List.getElem?_eq_some_iff.1 h1').1 hn).1 (h1'.trans h2'.symm)
  have hmo : ∀ b ∈ os, m' b = m b := fun b hb => hm b (by simp; exact .inr ⟨b, hb, rfl⟩)
  have hmd : m' d = m d := hm d (by simp)
  have hE0 : E.m0 d = .none := by
    rw [← hd0]
    refine E.hm0 _ ?_
    cases hq : o.dst with
    | none => exact Nat.zero_le _
    | some k => exact Nat.le_of_lt (hd k hq)
  -- the callee's environment
  let ρ0 := rho0 ρ os
  let E2 : Env := ⟨P, 0, w, L E m' ρ w, fun b hb => L_lt hR hb, fun b => ∃ a ∈ os, (m' a).live ∧ ∃ c, ρ a = some (b, c), fun b ⟨a, _, l, c, r⟩ => (hR.lo a b c l r).2, memL 2000 ms, ρ0, fun k hk => memL_out _ _ _ (.inl (by omega)), fun k hk => memL_out _ _ _ (.inl (by omega)), memL_s ms 2000, w.heap.size⟩
  have hidx : ∀ o', memL 2000 ms o' ≠ .none → ∃ (j : Nat) (a : Id) (x : Mem), os[j]? = some a ∧ ms[j]? = some x ∧ o' = .n (2000 + j) ∧ memL 2000 ms o' = x ∧ renI os d o' = a ∧ ρ0 o' = ρ a ∧ MFit m os d (m' a) x ∧ a ∈ os := by
    intro o' hn
    obtain ⟨j, x, h1, h2⟩ := memL_inv ms 2000 o' hn
    have hj := (List.getElem?_eq_some_iff.1 h1).1
    have hja : os[j]? = some (os[j]'(by omega)) := List.getElem?_eq_getElem (by omega)
    subst h2
    have hmem := List.mem_of_getElem? hja
    exact ⟨j, _, x, hja, h1, rfl, memL_at ms 2000 j x h1, renI_at (by omega) hja, rho0_at hja, by rw [hmo _ hmem]; exact hmf j _ x hja h1, hmem⟩
  have hptr0 : ∀ o' p x, memL 2000 ms o' ≠ .none → PtrOk m' ρ x (renI os d o') p → PtrOk (memL 2000 ms) ρ0 x o' p := by
    intro o' p x hn hp
    obtain ⟨j, a, y, i1, i2, i3, i4, i5, i6, i7, i8⟩ := hidx o' hn
    rw [i5] at hp
    rcases i7.boxy with ⟨b1, b2, _⟩ | ⟨g, n, k, b1, _, _⟩
    · rw [ptrOk_boxy b1] at hp
      rw [ptrOk_boxy (by rw [i4]; exact b2), i6]
      exact hp
    · exact absurd hp (ptrOk_bldy b1)
  have hhdl0 : ∀ o' x, memL 2000 ms o' ≠ .none → HdlOk m' ρ x (renI os d o') (m (renI os d o')).gen → HdlOk (memL 2000 ms) ρ0 x o' 1 := by
    intro o' x hn hp
    obtain ⟨j, a, y, i1, i2, i3, i4, i5, i6, i7, i8⟩ := hidx o' hn
    rw [i5, ← hmo a i8] at hp
    rcases i7.boxy with ⟨b1, b2, _⟩ | ⟨g, n, k, b1, b2, _⟩
    · rw [hdlOk_boxy b1] at hp
      rw [hdlOk_boxy (by rw [i4]; exact b2)]
      exact hp
    · rw [hdlOk_bldy b1, gen_bldy b1] at hp
      rw [hdlOk_bldy (by rw [i4]; exact b2)]
      refine ⟨hp.1, Nat.le_refl _, fun _ => ?_⟩
      have := hp.2.2 rfl
      simp only [HdlAt] at this ⊢
      rw [i6]; exact this
  have hlive0 : ∀ o' b c, (memL 2000 ms o').live → ρ0 o' = some (b, c) → ∃ a ∈ os, (m' a).live ∧ ρ a = some (b, c) ∧ renI os d o' = a := by
    intro o' b c l r'
    obtain ⟨j, a, y, i1, i2, i3, i4, i5, i6, i7, i8⟩ := hidx o' (by intro e; rw [e] at l; exact l)
    rw [i4] at l
    rw [i6] at r'
    exact ⟨a, i8, i7.live l, r', i5⟩
  have hL0 : ∀ b, L E m' ρ w b → L E2 (memL 2000 ms) ρ0 w b := by
    intro b hb
    refine ⟨.inl hb, fun o' c l r' => ?_⟩
    obtain ⟨a, _, la, ra, _⟩ := hlive0 o' b c l r'
    exact hb.2 a c la ra
  have hOwn0 : Own E2 E2.ρ0 E2.m0 E2.w0 := by
    refine { below := Bx.refl _ _ _, inj := ?_, lo := ?_, cleanM := hdet.closed, mem := ?_, carry := fun o' _ => ⟨fun _ _ h => h, fun _ _ h => h⟩ }
    · intro o1 o2 b c c' l1 l2 r1 r2
      replace l1 : (memL 2000 ms o1).live := l1
      replace l2 : (memL 2000 ms o2).live := l2
      replace r1 : ρ0 o1 = some (b, c) := r1
      replace r2 : ρ0 o2 = some (b, c') := r2
      obtain ⟨j1, a1, y1, i1, i2, i3, i4, i5, i6, i7, i8⟩ := hidx o1 (by intro e; rw [e] at l1; exact l1)
      obtain ⟨j2, a2, y2, k1, k2, k3, k4, k5, k6, k7, k8⟩ := hidx o2 (by intro e; rw [e] at l2; exact l2)
      have e := hR.inj a1 a2 b c c' (i7.live (by rw [← i4]; exact l1)) (k7.live (by rw [← k4]; exact l2)) (by rw [← i6]; exact r1) (by rw [← k6]; exact r2)
      subst e
      rw [i3, k3, hnd j1 j2 a1 i1 k1]
    · intro o' b c l r'
      obtain ⟨a, ha', la, ra, _⟩ := hlive0 o' b c l r'
      exact ⟨.inl ⟨a, ha', la, c, ra⟩, (hR.lo a b c la ra).2⟩
    · intro o'
      by_cases hn : memL 2000 ms o' = .none
      · show MemOk E2 _ _ _ o' (memL 2000 ms o')
        rw [hn]; trivial
      obtain ⟨j, a, y, i1, i2, i3, i4, i5, i6, i7, i8⟩ := hidx o' hn
      have hmem := hR.mem a
      show MemOk E2 (memL 2000 ms) ρ0 w o' (memL 2000 ms o')
      have hcl : ∀ o'', y.refs o'' → memL 2000 ms o'' ≠ .none := fun o'' hr => hdet.closed o' o'' (by rw [i4]; exact hr)
      rw [i4]
      revert hmem i7 hcl
      generalize m' a = x
      intro i7 hmem hcl
      cases i7 with
      | ro hl =>
        obtain ⟨b, c, us, e, h1, h0, h2, h3⟩ := hmem
        exact ⟨b, c, us, e, by rw [i6, h1], hL0 b h0, h2, hl.rdL (h3.mono (fun b hb => ⟨hL0 b hb, rfl⟩))⟩
      | box hl =>
        obtain ⟨b, c, us, e, h1, h2, h3⟩ := hmem
        exact ⟨b, c, us, e, by rw [i6, h1], h2, hl.rdL (h3.mono (fun b hb => ⟨hL0 b hb, rfl⟩))⟩
      | boxObj hl =>
        obtain ⟨b, c, us, e, h1, h2, h3⟩ := hmem
        exact ⟨b, c, us, e, by rw [i6, h1], h2, CVFits.of_map (m' := m') (ρ := ρ) hl hL0 h3⟩
      | obj hl =>
        obtain ⟨b, c, us, e, h1, h2, h3⟩ := hmem
        refine ⟨b, c, us, e, by rw [i6, h1], h2, CVL.fit hL0 hl h3 (fun o'' p x ⟨c', hc, hr⟩ => hptr0 o'' p x (hcl o'' ⟨c', hc, hr⟩)) (fun o'' x ⟨c', hc, hr⟩ => hhdl0 o'' x (hcl o'' ⟨c', hc, hr⟩))⟩
      | @bld g n k e get get' hl =>
        rcases hmem with ⟨h1, h2⟩ | ⟨b, cap, arr, h1, h2, h3, h4, h5, h7⟩
        · exact .inl ⟨by rw [i6, h1], h2⟩
        · refine .inr ⟨b, cap, arr, by rw [i6, h1], h2, h3, h4, h5, fun i hi q hq => ?_⟩
          obtain ⟨x, hx, hr⟩ := h7 i hi q hq
          exact ⟨x, hx, hl i hi q hq _ _ _ (hr.mono (fun b hb => ⟨hL0 b hb, rfl⟩))⟩
      | @bldc g n k e get get' hl =>
        rcases hmem with ⟨h1, h2⟩ | ⟨b, cap, arr, h1, h2, h3, h4, h5, h7⟩
        · exact .inl ⟨by rw [i6, h1], h2⟩
        · refine .inr ⟨b, cap, arr, by rw [i6, h1], h2, h3, h4, h5, fun i hi q hq => ?_⟩
          obtain ⟨x, hx, hr⟩ := h7 i hi q hq
          exact ⟨x, hx, hr.fit hL0 (hl i hi q hq) (fun o'' p x hr => hptr0 o'' p x (hcl o'' ⟨i, q, hi, hq, hr⟩)) (fun o'' x hr => hhdl0 o'' x (hcl o'' ⟨i, q, hi, hq, hr⟩))⟩
  have hargs : TOkL E2 E2.m0 E2.ρ0 E2.w0 vs args := by
    have hf := hfit.args
    have hcl := hdet.closedA
    revert hvs hf hcl
    generalize args = as
    intro hvs hf hcl
    clear hrun hk hfit hdet hread
    induction hvs generalizing as with
    | nil => cases hf; exact .nil
    | @cons v tv vs tvs h1 _ ih =>
      cases hf with
      | @cons _ c' _ l' a1 b1 =>
        refine .cons ?_ (ih l' b1 (fun x hx o' hr => hcl x (by simp [hx]) o' hr))
        have hcl1 := hcl c' (by simp)
        cases a1 with
        | d hle => exact hle _ _ _ (DRd.mono (fun b hb => ⟨hL0 b hb, rfl⟩) h1)
        | @ptr o o' p he => subst he; exact hptr0 o' p _ (hcl1 o' rfl) h1
        | @hdl o o' g he hg => subst he hg; exact hhdl0 o' _ (hcl1 o' rfl) h1
        | @clo f c c' hc =>
          obtain ⟨us, e1, r1⟩ := h1
          exact ⟨us, e1, CRL.fit hL0 hc r1 (fun o' p x hr => hptr0 o' p x (hcl1 o' hr))⟩
  have hcalls := hdet.calls E2 vs rfl rfl hOwn0 hargs
  unfold Oper.wp
  rw [hrun hdet.enters]
  refine Calls.mono hcalls ?_
  rintro e w' ⟨v, ρ2, rfl, hO2, hv2⟩
  -- behind the call
  generalize hm2 : memR ms' fr = m2 at *
  let G := renG m os d ms'
  let m3 := putM m' (renL os d G 2000 os ms' ++ renF os d G fr)
  let ρ3 := rho2 ρ ρ2 os d (fr ≠ .none)
  have hF : ∀ q ∈ renF os d G fr, q.1 = d := by
    intro q hq
    revert hq
    unfold renF
    split
    · intro hq; simp at hq
    · intro hq; simp at hq; rw [hq]
  have hm3out : ∀ b, b ∉ os → ¬ (b = d ∧ fr ≠ .none) → m3 b = m' b := by
    intro b hb hbd
    refine putM_out _ _ _ (fun q hq e => ?_)
    rcases List.mem_append.1 hq with hq | hq
    · exact hb (e ▸ renL_mem _ _ _ q hq)
    · have := hF q hq
      refine hbd ⟨e.symm.trans this, fun hfr => ?_⟩
      rw [hfr] at hq
      simp [renF] at hq
  -- the contract's names behind the call
  have hidx2 : ∀ o', m2 o' ≠ .none → (∃ (j : Nat) (a : Id) (x y : Mem), os[j]? = some a ∧ ms[j]? = some x ∧ ms'[j]? = some y ∧ o' = .n (2000 + j) ∧ m2 o' = y ∧ renI os d o' = a ∧ a ∈ os) ∨ (o' = .n 3000 ∧ m2 o' = fr ∧ fr ≠ .none ∧ renI os d o' = d) := by
    intro o' hn
    rw [← hm2] at hn
    rcases memR_inv hn with ⟨rfl, hn⟩ | ⟨j, y, h1, rfl⟩
    · exact .inr ⟨rfl, by rw [← hm2, memR_fr], hn, rfl⟩
    · have hj := (List.getElem?_eq_some_iff.1 h1).1
      have hja : os[j]? = some (os[j]'(by omega)) := List.getElem?_eq_getElem (by omega)
      have hjx : ms[j]? = some (ms[j]'(by omega)) := List.getElem?_eq_getElem (by omega)
      exact .inl ⟨j, _, _, y, hja, hjx, h1, rfl, by rw [← hm2, memR_at (by omega) h1], renI_at (by omega) hja, List.mem_of_getElem? hja⟩
  have hm3at : ∀ o', m2 o' ≠ .none → m3 (renI os d o') = renM os d G (G o') (m2 o') ∧ ρ3 (renI os d o') = ρ2 o' := by
    intro o' hn
    rcases hidx2 o' hn with ⟨j, a, x, y, i1, i2, i3, rfl, i5, i6, i7⟩ | ⟨rfl, i2, i3, i4⟩
    · rw [i6]
      refine ⟨?_, rho2_at hnd i1⟩
      show putM m' _ a = _
      rw [putM_append, putM_out _ _ _ (fun q hq e => hdn (by rw [← hF q hq, e]; exact i7)), renL_at os ms' 2000 j a y m' hnd i1 i3, i5]
    · rw [i4]
      refine ⟨?_, rho2_fr hdn i3⟩
      show putM m' _ d = _
      rw [putM_append, i2]
      have : renF os d G fr = [(d, renM os d G 0 fr)] := by
        cases fr <;> first | exact absurd rfl i3 | rfl
      rw [this]
      exact upd_same _ _ _
  have hGat : ∀ (j : Nat) (a : Id) (y : Mem), os[j]? = some a → ms'[j]? = some y → G (.n (2000 + j)) = bif Nat.beq y.gen 1 then (m' a).gen else (m' a).gen + 2 := by
    intro j a y i1 i2
    have hj := (List.getElem?_eq_some_iff.1 i1).1
    have hb : Nat.beq (2000 + j) 3000 = false := beq_f (by omega)
    show renG m os d ms' (.n (2000 + j)) = _
    simp only [renG, hb, cond_false]
    rw [show 2000 + j - 2000 = j by omega]
    have e1 : ms'.getD j .none = y := by simp [List.getD, i2]
    have e2 : os.getD j d = a := by simp [List.getD, i1]
    rw [e1, e2, hmo a (List.mem_of_getElem? i1)]
  have hptr2 : ∀ o' p x, m2 o' ≠ .none → PtrOk m2 ρ2 x o' p → PtrOk m3 ρ3 x (renI os d o') p := by
    intro o' p x hn hp
    obtain ⟨e1, e2⟩ := hm3at o' hn
    simp only [PtrOk, e1, e2] at hp ⊢
    revert hp
    generalize m2 o' = z
    cases z <;> exact id
  have hhdl2 : ∀ o' x, m2 o' ≠ .none → HdlOk m2 ρ2 x o' (m2 o').gen → HdlOk m3 ρ3 x (renI os d o') (G o') := by
    intro o' x hn hp
    obtain ⟨e1, e2⟩ := hm3at o' hn
    simp only [HdlOk, HdlAt, e1, e2] at hp ⊢
    revert hp
    generalize m2 o' = z
    cases z <;> first | exact id | (intro hp; exact ⟨hp.1, Nat.le_refl _, fun _ => hp.2.2 rfl⟩)
  -- the blocks
  have hE2X : ∀ b, E2.X b → E.X b ∨ E.w0.heap.size ≤ b := fun b ⟨a, _, l, c, r⟩ => (hR.lo a b c l r).1
  have hE2lt : ∀ b, E2.X b → b < w.heap.size := E2.hX
  have hsz : w.heap.size ≤ w'.heap.size := hO2.below.size
  have hl2 : ∀ o' b c, (m2 o').live → ρ2 o' = some (b, c) → (E2.X b ∨ w.heap.size ≤ b) ∧ b < w'.heap.size := hO2.lo
  have hl3 : ∀ b, (m3 b).live → (∃ o', m2 o' ≠ .none ∧ renI os d o' = b ∧ (m2 o').live ∧ ρ3 b = ρ2 o') ∨ (b ∉ os ∧ (m' b).live ∧ ρ3 b = ρ b) := by
    intro b l
    by_cases hb : b ∈ os
    · obtain ⟨j, hj⟩ := List.getElem?_of_mem hb
      have hjl := (List.getElem?_eq_some_iff.1 hj).1
      have hjy : ms'[j]? = some (ms'[j]'(by omega)) := List.getElem?_eq_getElem (by omega)
      have hjx : ms[j]? = some (ms[j]'(by omega)) := List.getElem?_eq_getElem (by omega)
      have hyn : m2 (.n (2000 + j)) ≠ .none := by
        rw [← hm2, memR_at (by omega) hjy]
        rcases hkin j _ _ hjx hjy with h | ⟨h, h'⟩
        · rw [h]; simp
        · intro e; rw [e] at h; rw [← h] at h'; simp [Mem.kind] at h'
      have hren : renI os d (.n (2000 + j)) = b := renI_at (by omega) hj
      obtain ⟨e1, e2⟩ := hm3at _ hyn
      rw [hren] at e1 e2
      exact .inl ⟨_, hyn, hren, by rw [e1] at l; exact renM_live.1 l, e2⟩
    · by_cases hbd : b = d ∧ fr ≠ .none
      · obtain ⟨rfl, hfr⟩ := hbd
        have hyn : m2 (.n 3000) ≠ .none := by rw [← hm2, memR_fr]; exact hfr
        obtain ⟨e1, e2⟩ := hm3at _ hyn
        exact .inl ⟨_, hyn, rfl, by rw [show m3 b = _ from e1] at l; exact renM_live.1 l, e2⟩
      · rw [hm3out b hb hbd] at l
        exact .inr ⟨hb, l, rho2_out hb hbd⟩
  have hL2 : ∀ b, L E2 m2 ρ2 w' b → L E m3 ρ3 w' b := by
    intro b hb
    have hlt : b < w'.heap.size := by
      rcases hb.1 with h | h | h
      · exact Nat.lt_of_lt_of_le (L_lt hR h) hsz
      · exact Nat.lt_of_lt_of_le (hE2lt b h) hsz
      · exact h.2
    refine ⟨?_, fun o3 c l r3 => ?_⟩
    · rcases hb.1 with h | h | h
      · exact (show L E m' ρ w b from h).1.imp id (fun h => h.imp id (fun h => ⟨h.1, hlt⟩))
      · rcases hE2X b h with h | h
        · exact .inr (.inl h)
        · exact .inr (.inr ⟨h, hlt⟩)
      · exact .inr (.inr ⟨Nat.le_trans hR.below.size h.1, hlt⟩)
    · rcases hl3 o3 l with ⟨o', hn, _, l', e⟩ | ⟨hno, l', e⟩
      · exact hb.2 o' c l' (by rw [← e]; exact r3)
      · rw [e] at r3
        rcases hb.1 with h | ⟨a, ha', la, c', ra⟩ | h
        · exact (show L E m' ρ w b from h).2 o3 c l' r3
        · exact hno (hR.inj o3 a b c c' l' la r3 ra ▸ ha')
        · have := (hR.lo o3 b c l' r3).2
          exact Nat.lt_irrefl _ (Nat.lt_of_lt_of_le this h.1)
  have hblk : ∀ b, b < w.heap.size → ¬ E2.X b → w'.heap[b]? = w.heap[b]? := fun b hb hx => hO2.below.block b hb hx
  have hLX : ∀ b, L E m' ρ w b → ¬ E2.X b := fun b hb ⟨a, _, la, c, ra⟩ => hb.2 a c la ra
  have hLS : ∀ b, L E m' ρ w b → L E m3 ρ3 w' b ∧ w'.heap[b]? = w.heap[b]? := by
    intro b hb
    refine ⟨hL2 b ⟨.inl hb, fun o' c l r' => ?_⟩, hblk b (L_lt hR hb) (hLX b hb)⟩
    rcases (hl2 o' b c l r').1 with h | h
    · exact hLX b hb h
    · exact Nat.lt_irrefl _ (Nat.lt_of_lt_of_le (L_lt hR hb) h)
  -- what refers to a lent object
  have hos : ∀ b ∈ os, ∃ (j : Nat) (x y : Mem), os[j]? = some b ∧ ms[j]? = some x ∧ ms'[j]? = some y ∧ MFit m os d (m' b) x ∧ (y = .dead ∨ (y.kind = x.kind ∧ 0 < x.kind)) ∧ y ≠ .none ∧ m2 (.n (2000 + j)) = y ∧ m3 b = renM os d G (G (.n (2000 + j))) y ∧ ρ3 b = ρ2 (.n (2000 + j)) ∧
      memL 2000 ms (.n (2000 + j)) = x ∧ ρ0 (.n (2000 + j)) = ρ b ∧ x ≠ .none := by
    intro b hb
    obtain ⟨j, hj⟩ := List.getElem?_of_mem hb
    have hjl := (List.getElem?_eq_some_iff.1 hj).1
    have hjy : ms'[j]? = some (ms'[j]'(by omega)) := List.getElem?_eq_getElem (by omega)
    have hjx : ms[j]? = some (ms[j]'(by omega)) := List.getElem?_eq_getElem (by omega)
    have hk := hkin j _ _ hjx hjy
    have hxn : ms[j]'(by omega) ≠ .none := by
      have hf := hmf j b _ hj hjx
      intro e
      rw [e] at hf
      revert hf
      generalize m b = z
      intro hf
      cases hf
    have hyn : ms'[j]'(by omega) ≠ .none := by
      rcases hk with h | ⟨h, h'⟩
      · rw [h]; simp
      · intro e; rw [e] at h; rw [← h] at h'; simp [Mem.kind] at h'
    have e2 : m2 (.n (2000 + j)) = ms'[j]'(by omega) := by rw [← hm2, memR_at (by omega) hjy]
    obtain ⟨q1, q2⟩ := hm3at (.n (2000 + j)) (by rw [e2]; exact hyn)
    rw [renI_at (by omega) hj] at q1 q2
    rw [e2] at q1
    exact ⟨j, _, _, hj, hjx, hjy, by rw [hmo b hb]; exact hmf j b _ hj hjx, hk, hyn, e2, q1, q2, memL_at ms 2000 j _ hjx, rho0_at hj, hxn⟩
  -- of a slice: the newer generation, or the same header
  have hsl : ∀ b ∈ os, ∀ g n k, (m' b).bldy = some (g, n, k) → m3 b = .dead ∨ ∃ g3 n3, (m3 b).bldy = some (g3, n3, k) ∧ (g < g3 ∧ 1 < g3 ∨ g3 = g ∧ ρ3 b = ρ b ∧ (n = n3 ∨ (ρ b = none ∧ n = 0))) := by
    intro b hb g n k hbl
    obtain ⟨j, x, y, i1, i2, i3, i4, i5, i6, i7, i8, i9, i10, i11, i12⟩ := hos b hb
    rcases i4.boxy with ⟨b1, _, _⟩ | ⟨g', n', k', b1, b2, b3⟩
    · exfalso
      revert b1 hbl
      cases m' b <;> simp [Mem.boxy, Mem.bldy]
    · rw [hbl] at b1
      obtain ⟨rfl, rfl, rfl⟩ : g = g' ∧ n = n' ∧ k = k' := by simpa using b1
      rcases i5 with rfl | ⟨h1, _⟩
      · left; rw [i8]; rfl
      · right
        rw [b3] at h1
        obtain ⟨gy, ny, hy⟩ := kind_bldy.1 h1
        have hgen := hGat j b y i1 i3
        rw [gen_bldy hy, gen_bldy hbl] at hgen
        refine ⟨G (.n (2000 + j)), ny, by rw [i8]; exact renM_bldy hy, ?_⟩
        by_cases hg1 : gy = 1
        · right
          subst hg1
          rw [show Nat.beq 1 1 = true from rfl, cond_true] at hgen
          have hcar := hO2.carry (.n (2000 + j)) (by show memL 2000 ms _ ≠ .none; rw [i10]; exact i12)
          have hcar' : ∀ v, HdlAt ρ0 v (.n (2000 + j)) n → v.oneCell' = true → HdlAt ρ2 v (.n (2000 + j)) ny := by
            intro v hv ho
            have h0 : HdlOk (memL 2000 ms) ρ0 v (.n (2000 + j)) 1 := (hdlOk_bldy (by rw [i10]; exact b2)).2 ⟨ho, Nat.le_refl _, fun _ => hv⟩
            have h2 := hcar.hdl v (by rw [i7, gen_bldy hy]) h0
            exact ((hdlOk_bldy (by rw [i7]; exact hy)).1 h2).2.2 rfl
          refine ⟨hgen, ?_⟩
          have hm0 := mem_bldy hbl (hR.mem b)
          rw [i9]
          rcases hm0 with ⟨r1, r2⟩ | ⟨bl, cap, arr, e, r1, _⟩
          · have := hcar' (.slice none 0 0) (by simp only [HdlAt, i11, r1]) rfl
            revert this
            simp only [HdlAt]
            cases hq : ρ2 (.n (2000 + j)) with
            | none => intro _; exact ⟨r1.symm, .inr ⟨r1, r2⟩⟩
            | some bc => intro he; simp at he
          · have := hcar' (.slice (some ⟨bl, 0, none⟩) n cap) (by simp only [HdlAt, i11, r1]) rfl
            revert this
            simp only [HdlAt]
            cases hq : ρ2 (.n (2000 + j)) with
            | none => intro he; simp at he
            | some bc =>
              obtain ⟨b3, c3⟩ := bc
              intro he
              simp at he
              obtain ⟨rfl, rfl, rfl⟩ := he
              exact ⟨r1.symm, .inl rfl⟩
        · left
          rw [beq_f hg1, cond_false] at hgen
          omega
  have hbx : ∀ b ∈ os, (m' b).boxy = true → m3 b = .dead ∨ ((m3 b).boxy = true ∧ ∀ p x, PtrOk m' ρ x b p → PtrOk m3 ρ3 x b p) := by
    intro b hb hbo
    obtain ⟨j, x, y, i1, i2, i3, i4, i5, i6, i7, i8, i9, i10, i11, i12⟩ := hos b hb
    rcases i4.boxy with ⟨_, b2, b3⟩ | ⟨g', n', k', b1, _, _⟩
    · rcases i5 with rfl | ⟨h1, _⟩
      · left; rw [i8]; rfl
      · right
        rw [b3] at h1
        have hyb := kind_boxy.1 h1
        have hm3b : (m3 b).boxy = true := by rw [i8, renM_boxy]; exact hyb
        refine ⟨hm3b, fun p v hp => ?_⟩
        have hcar := hO2.carry (.n (2000 + j)) (by show memL 2000 ms _ ≠ .none; rw [i10]; exact i12)
        have h0 : PtrOk (memL 2000 ms) ρ0 v (.n (2000 + j)) p := by
          rw [ptrOk_boxy (by rw [i10]; exact b2), i11]
          exact (ptrOk_boxy hbo).1 hp
        have h2 := hcar.ptr v p h0
        rw [ptrOk_boxy (by rw [i7]; exact hyb)] at h2
        rw [ptrOk_boxy hm3b, i9]
        exact h2
    · exfalso
      revert b1 hbo
      cases m' b <;> simp [Mem.boxy, Mem.bldy]
  have hcase : ∀ b ∈ os, (m' b).boxy = true ∨ ∃ g n k, (m' b).bldy = some (g, n, k) := by
    intro b hb
    obtain ⟨j, x, y, i1, i2, i3, i4, _⟩ := hos b hb
    rcases i4.boxy with ⟨b1, _⟩ | ⟨g, n, k, b1, _⟩
    · exact .inl b1
    · exact .inr ⟨g, n, k, b1⟩
  have hC : ∀ b, m' b ≠ .none → Carry m' m3 ρ ρ3 b := by
    intro b hn
    by_cases hb : b ∈ os
    · rcases hcase b hb with hbo | ⟨g, n, k, hbl⟩
      · rcases hbx b hb hbo with h | ⟨h1, h2⟩
        · refine ⟨fun x p hp => ?_, fun x q hq => ?_⟩
          · simp only [PtrOk, h]; exact hp.oneCell
          · simp only [HdlOk, h]; exact ⟨hq.1, trivial⟩
        · exact ⟨fun x p hp => h2 p x hp, fun x q hq => (hdlOk_boxy h1).2 ((hdlOk_boxy hbo).1 hq)⟩
      · rcases hsl b hb g n k hbl with h | ⟨g3, n3, h1, h2⟩
        · refine ⟨fun x p hp => ?_, fun x q hq => ?_⟩
          · simp only [PtrOk, h]; exact hp.oneCell
          · simp only [HdlOk, h]; exact ⟨hq.1, trivial⟩
        · refine ⟨fun x p hp => absurd hp (ptrOk_bldy hbl), fun x q hq => ?_⟩
          obtain ⟨a1, a2, a3⟩ := (hdlOk_bldy hbl).1 hq
          refine (hdlOk_bldy h1).2 ⟨a1, ?_, fun e => ?_⟩
          · rcases h2 with h2 | h2 <;> omega
          · rcases h2 with h2 | ⟨h2, h3, h4⟩
            · omega
            · have := a3 (by omega)
              simp only [HdlAt] at this ⊢
              rw [h3]
              rcases h4 with h4 | ⟨h4, h5⟩
              · rw [← h4]; exact this
              · rw [h4] at this ⊢; exact this
    · have hbd : ¬ (b = d ∧ fr ≠ .none) := fun ⟨e, hfr⟩ => hn (by rw [e, hmd]; exact hfit.fresh hfr)
      exact Carry.same (hm3out b hb hbd) (rho2_out hb hbd)
  have hnn : ∀ b, m' b ≠ .none → m3 b ≠ .none := by
    intro b hn
    by_cases hb : b ∈ os
    · obtain ⟨j, x, y, i1, i2, i3, i4, i5, i6, i7, i8, _⟩ := hos b hb
      rw [i8]
      exact fun e => i6 (renM_none.1 e)
    · have hbd : ¬ (b = d ∧ fr ≠ .none) := fun ⟨e, hfr⟩ => hn (by rw [e, hmd]; exact hfit.fresh hfr)
      rw [hm3out b hb hbd]; exact hn
  have hnn2 : ∀ o', m2 o' ≠ .none → m3 (renI os d o') ≠ .none := fun o' hn => by
    rw [(hm3at o' hn).1]
    exact fun e => hn (renM_none.1 e)
  have hR3 : Rel E ρ3 t' m3 a w' := by
    refine { below := ?_, defers := hR.defers.mono hLS, size := hR.size, inj := ?_, lo := ?_, clean := fun i b hr => hnn b (hR.clean i b hr), cleanM := ?_, mem := ?_, slots := ?slots, carry := ?carry }
    · exact hR.below.trans (hO2.below.mono hR.below.size (fun b hlt hx => (hE2X b hx).resolve_right (fun h => absurd hlt (Nat.not_lt.2 h))))
    · intro o1 o2 b c c' l1 l2 r1 r2
      rcases hl3 o1 l1 with ⟨p1, n1, q1, l1', e1⟩ | ⟨n1, l1', e1⟩
      · rw [e1] at r1
        rcases hl3 o2 l2 with ⟨p2, n2, q2, l2', e2⟩ | ⟨n2, l2', e2⟩
        · rw [e2] at r2
          rw [← q1, ← q2, hO2.inj p1 p2 b c c' l1' l2' r1 r2]
        · rw [e2] at r2
          exfalso
          rcases (hl2 p1 b c l1' r1).1 with ⟨a', ha', la, c'', ra⟩ | h
          · exact n2 (hR.inj o2 a' b c' c'' l2' la r2 ra ▸ ha')
          · exact Nat.lt_irrefl _ (Nat.lt_of_lt_of_le (hR.lo o2 b c' l2' r2).2 h)
      · rw [e1] at r1
        rcases hl3 o2 l2 with ⟨p2, n2, q2, l2', e2⟩ | ⟨n2, l2', e2⟩
        · rw [e2] at r2
          exfalso
          rcases (hl2 p2 b c' l2' r2).1 with ⟨a', ha', la, c'', ra⟩ | h
          · exact n1 (hR.inj o1 a' b c c'' l1' la r1 ra ▸ ha')
          · exact Nat.lt_irrefl _ (Nat.lt_of_lt_of_le (hR.lo o1 b c l1' r1).2 h)
        · rw [e2] at r2
          exact hR.inj o1 o2 b c c' l1' l2' r1 r2
    · intro o1 b c l1 r1
      rcases hl3 o1 l1 with ⟨p1, n1, q1, l1', e1⟩ | ⟨n1, l1', e1⟩
      · rw [e1] at r1
        obtain ⟨h1, h2⟩ := hl2 p1 b c l1' r1
        refine ⟨?_, h2⟩
        rcases h1 with h1 | h1
        · exact hE2X b h1
        · exact .inr (Nat.le_trans hR.below.size h1)
      · rw [e1] at r1
        obtain ⟨h1, h2⟩ := hR.lo o1 b c l1' r1
        exact ⟨h1, Nat.lt_of_lt_of_le h2 hsz⟩
    · intro o1 o2 hr
      by_cases hb : o1 ∈ os
      · obtain ⟨j, x, y, i1, i2, i3, i4, i5, i6, i7, i8, _⟩ := hos o1 hb
        rw [i8] at hr
        obtain ⟨o0, h1, rfl⟩ := renM_refs hr
        exact hnn2 o0 (hO2.cleanM (.n (2000 + j)) o0 (by rw [i7]; exact h1))
      · by_cases hbd : o1 = d ∧ fr ≠ .none
        · obtain ⟨rfl, hfr⟩ := hbd
          have e2 : m2 (.n 3000) = fr := by rw [← hm2, memR_fr]
          have q1 := (hm3at (.n 3000) (by rw [e2]; exact hfr)).1
          rw [show m3 o1 = _ from q1] at hr
          obtain ⟨o0, h1, rfl⟩ := renM_refs hr
          exact hnn2 o0 (hO2.cleanM (.n 3000) o0 h1)
        · rw [hm3out o1 hb hbd] at hr
          exact hnn o2 (hR.cleanM o1 o2 hr)
    · intro o1
      have hren : ∀ o', m2 o' ≠ .none → MemOk E m3 ρ3 w' (renI os d o') (m3 (renI os d o')) := by
        intro o' hn
        obtain ⟨q1, q2⟩ := hm3at o' hn
        have hmem := hO2.mem o'
        have hcl : ∀ o'', (m2 o').refs o'' → m2 o'' ≠ .none := fun o'' hr => hO2.cleanM o' o'' hr
        have hcu : (m2 o').cur m2 := by have := hdet.curM o'; rwa [hm2] at this
        rw [q1]
        revert hmem hcl hcu
        generalize m2 o' = y
        intro hmem hcl hcu
        cases y with
        | none => trivial
        | dead => trivial
        | ro l =>
          obtain ⟨b, c, us, e, h1, h0, h2, h3⟩ := hmem
          exact ⟨b, c, us, e, by rw [q2, h1], hL2 b h0, h2, h3.mono (fun b hb => ⟨hL2 b hb, rfl⟩)⟩
        | box l =>
          obtain ⟨b, c, us, e, h1, h2, h3⟩ := hmem
          exact ⟨b, c, us, e, by rw [q2, h1], h2, h3.mono (fun b hb => ⟨hL2 b hb, rfl⟩)⟩
        | obj l =>
          obtain ⟨b, c, us, e, h1, h2, h3⟩ := hmem
          exact ⟨b, c, us, e, by rw [q2, h1], h2, CVL.ren (fun b hb => ⟨hL2 b hb, rfl⟩) h3 hcu (fun o'' p x hr => hptr2 o'' p x (hcl o'' hr)) (fun o'' x hr => hhdl2 o'' x (hcl o'' hr))⟩
        | bld g n k e get =>
          rcases hmem with ⟨h1, h2⟩ | ⟨b, cap, arr, h1, h2, h3, h4, h5, h7⟩
          · exact .inl ⟨by rw [q2, h1], h2⟩
          · refine .inr ⟨b, cap, arr, by rw [q2, h1], h2, h3, h4, h5, fun i hi q hq => ?_⟩
            obtain ⟨x, hx, hr⟩ := h7 i hi q hq
            exact ⟨x, hx, hr.mono (fun b hb => ⟨hL2 b hb, rfl⟩)⟩
        | bldc g n k e get =>
          rcases hmem with ⟨h1, h2⟩ | ⟨b, cap, arr, h1, h2, h3, h4, h5, h7⟩
          · exact .inl ⟨by rw [q2, h1], h2⟩
          · refine .inr ⟨b, cap, arr, by rw [q2, h1], h2, h3, h4, h5, fun i hi q hq => ?_⟩
            obtain ⟨x, hx, hr⟩ := h7 i hi q hq
            exact ⟨x, hx, CVk.ren (fun b hb => ⟨hL2 b hb, rfl⟩) hr (hcu i hi q hq) (fun o'' p x hr => hptr2 o'' p x (hcl o'' ⟨i, q, hi, hq, hr⟩)) (fun o'' x hr => hhdl2 o'' x (hcl o'' ⟨i, q, hi, hq, hr⟩))⟩
      by_cases hb : o1 ∈ os
      · obtain ⟨j, x, y, i1, i2, i3, i4, i5, i6, i7, i8, _⟩ := hos o1 hb
        have hjl := (List.getElem?_eq_some_iff.1 i1).1
        have := hren (.n (2000 + j)) (by rw [i7]; exact i6)
        rwa [renI_at (by omega) i1] at this
      · by_cases hbd : o1 = d ∧ fr ≠ .none
        · obtain ⟨rfl, hfr⟩ := hbd
          exact hren (.n 3000) (by rw [← hm2, memR_fr]; exact hfr)
        · rw [hm3out o1 hb hbd]
          refine (hR.mem o1).mono hLS (rho2_out hb hbd) (fun l b c hr => ?_) (fun o2 hr => hC o2 (hR.cleanM o1 o2 hr))
          refine hblk b (hR.lo o1 b c l hr).2 (fun ⟨a', ha', la, c'', ra⟩ => hb (hR.inj o1 a' b c c'' l la hr ra ▸ ha'))
    case slots =>
      intro i
      have hs := hR.slots i
      have hcl := hR.clean i
      generalize t' i = v at hs hcl
      cases v with
      | any => trivial
      | undef => exact hs
      | d v => exact DRd.mono hLS hs
      | tup vs => obtain ⟨us, h1, h2⟩ := hs; exact ⟨us, h1, h2.mono hLS⟩
      | ptr o1 p => exact (hC o1 (hcl o1 rfl)).ptr _ p hs
      | hdl o1 g => exact (hC o1 (hcl o1 rfl)).hdl _ g hs
      | nb n neg => exact hs
      | clo f caps => exact CloOk.mono hLS (fun o1 hr => hC o1 (hcl o1 hr)) hs
      | ep o1 q i' off =>
        by_cases hb : o1 ∈ os
        · rcases hcase o1 hb with hbo | ⟨g, n, k, hbl⟩
          · rcases hbx o1 hb hbo with h | ⟨h1, h2⟩
            · simp only [TOk, h]
            · exact epOk_boxy h1
          · rcases hsl o1 hb g n k hbl with h | ⟨g3, n3, h1, h2⟩
            · simp only [TOk, h]
            · obtain ⟨a1, a2⟩ := (epOk_bldy hbl).1 hs
              refine (epOk_bldy h1).2 ⟨by rcases h2 with h2 | h2 <;> omega, fun e => ?_⟩
              rcases h2 with h2 | ⟨h2, h3, h4⟩
              · omega
              · obtain ⟨b1, b, c, b2, b3⟩ := a2 (by omega)
                rw [h3]
                rcases h4 with h4 | ⟨h4, h5⟩
                · exact ⟨by omega, b, c, b2, b3⟩
                · omega
        · have hbd : ¬ (o1 = d ∧ fr ≠ .none) := fun ⟨e, hfr⟩ => hcl o1 rfl (by rw [e, hmd]; exact hfit.fresh hfr)
          exact TOk.mono hLS (fun o2 h2 => by cases h2; exact ⟨hm3out _ hb hbd, rho2_out hb hbd⟩) hs
      | sub o1 q lo cnt =>
        by_cases hb : o1 ∈ os
        · rcases hcase o1 hb with hbo | ⟨g, n, k, hbl⟩
          · rcases hbx o1 hb hbo with h | ⟨h1, h2⟩
            · simp only [TOk, SubOk, h]; exact ⟨hs.1, trivial⟩
            · exact (subOk_boxy h1).2 ((subOk_boxy hbo).1 hs)
          · rcases hsl o1 hb g n k hbl with h | ⟨g3, n3, h1, h2⟩
            · simp only [TOk, SubOk, h]; exact ⟨hs.1, trivial⟩
            · obtain ⟨a0, a1, a2⟩ := (subOk_bldy hbl).1 hs
              refine (subOk_bldy h1).2 ⟨a0, by rcases h2 with h2 | h2 <;> omega, fun e => ?_⟩
              rcases h2 with h2 | ⟨h2, h3, h4⟩
              · omega
              · obtain ⟨b1, b2⟩ := a2 (by omega)
                simp only [SubAt] at b2 ⊢
                rw [h3]
                exact ⟨by omega, b2⟩
        · have hbd : ¬ (o1 = d ∧ fr ≠ .none) := fun ⟨e, hfr⟩ => hcl o1 rfl (by rw [e, hmd]; exact hfit.fresh hfr)
          exact TOk.mono hLS (fun o2 h2 => by cases h2; exact ⟨hm3out _ hb hbd, rho2_out hb hbd⟩) hs
    case carry =>
      intro b hn
      by_cases hbd : b = d
      · exact absurd (by rw [hbd]; exact hE0) hn
      have hcar := hR.carry b hn
      by_cases hbn : m' b = .none
      · have hbo : b ∉ os := fun hb => by
          obtain ⟨j, x, y, i1, i2, i3, i4, _⟩ := hos b hb
          rw [hbn] at i4
          cases i4
        have e1 := hm3out b hbo (fun h => hbd h.1)
        have e2 : ρ3 b = ρ b := rho2_out hbo (fun h => hbd h.1)
        have hc := Carry.same (m := m') (m' := m3) (ρ := ρ) (ρ' := ρ3) (o := b) e1 e2
        exact ⟨fun x p hp => hc.ptr x p (hcar.ptr x p hp), fun x hg hp => hc.hdl x 1 (hcar.hdl x (by rw [← e1]; exact hg) hp)⟩
      · have hc := hC b hbn
        refine ⟨fun x p hp => hc.ptr x p (hcar.ptr x p hp), fun x hg hp => hc.hdl x 1 (hcar.hdl x ?_ hp)⟩
        by_cases hb : b ∈ os
        · rcases hcase b hb with hbo | ⟨g, n, k, hbl⟩
          · rcases hbx b hb hbo with h | ⟨h1, h2⟩
            · rw [h] at hg; simp [Mem.gen] at hg
            · rw [gen_boxy h1] at hg; omega
          · rcases hsl b hb g n k hbl with h | ⟨g3, n3, h1, h2⟩
            · rw [h] at hg; simp [Mem.gen] at hg
            · rw [gen_bldy h1] at hg
              rw [gen_bldy hbl]
              rcases h2 with h2 | h2 <;> omega
        · rw [← hm3out b hb (fun h => hbd h.1)]; exact hg
  refine hK ρ3 _ w' (hR3.put hd ?_ ?_)
  · have hcur := hdet.cur
    have hcl := hdet.clean
    revert hv2 hcur hcl
    cases r with
    | d v => intro hv2 _ _; exact DRd.mono (fun b hb => ⟨hL2 b hb, rfl⟩) hv2
    | tup l => rintro ⟨us, e1, r1⟩ _ _; exact ⟨us, e1, r1.mono (fun b hb => ⟨hL2 b hb, rfl⟩)⟩
    | ptr o' p => intro hv2 _ hcl; exact hptr2 o' p v (by rw [← hm2]; exact hcl o' rfl) hv2
    | hdl o' g =>
      intro hv2 hcur hcl
      have hc : g = (m2 o').gen := by rw [← hm2]; exact hcur
      subst hc
      exact hhdl2 o' v (by rw [← hm2]; exact hcl o' rfl) hv2
    | clo f caps => rintro ⟨us, e1, r1⟩ _ hcl; exact ⟨us, e1, r1.ren (fun b hb => ⟨hL2 b hb, rfl⟩) (fun o' p x hr => hptr2 o' p x (by rw [← hm2]; exact hcl o' hr))⟩
    | undef => intro hv2 _ _; exact hv2
    | nb n neg => intro hv2 _ _; exact hv2
    | any => intro _ _ _; trivial
    | ep _ _ _ _ => intro _ _ _; trivial
    | sub _ _ _ _ => intro _ _ _; trivial
  · intro b hr
    obtain ⟨o0, h1, rfl⟩ := renT_refs hr
    exact hnn2 o0 (by rw [← hm2]; exact hdet.clean o0 h1)

theorem TOkL.append {E : Env} {m : Id → Mem} {ρ : Id → Option (Nat × Nat)} {w : World} {xs ys : List Value} {ts us : List TV} (h : TOkL E m ρ w xs ts) (h' : TOkL E m ρ w ys us) : TOkL E m ρ w (xs ++ ys) (ts ++ us) := by
  induction h with
  | nil => exact h'
  | cons a _ ih => exact .cons a ih
theorem tokL_args {E : Env} {m' : Id → Mem} {ρ : Id → Option (Nat × Nat)} {w : World} {o : Oper} {t t' : Nat → TV} {a : Act} (ha : Agree o t t') (hR : Rel E ρ t' m' a w) : ∀ (xs : List Operand), (∀ x ∈ xs, x ∈ o.op.operands.toList) → TOkL E m' ρ w (xs.map a.eval) (xs.map (opd t))
  | [], _ => .nil
  | x :: r, hx => by
    have h1 := (opd_ok hR x).1
    rw [opd_agree ha (hx x (by simp))] at h1
    exact .cons h1 (tokL_args ha hR r (fun y hy => hx y (by simp [hy])))
theorem tokL_data {E : Env} {m : Id → Mem} {ρ : Id → Option (Nat × Nat)} {w : World} {xs : List Value} {l : List DV} (h : DRdL (L E m ρ w) w xs l) : TOkL E m ρ w xs (l.map .d) := by
  induction h with
  | nil => exact .nil
  | cons a _ ih => exact .cons a ih
theorem tokL_caps {E : Env} {m : Id → Mem} {ρ : Id → Option (Nat × Nat)} {w : World} {xs : List Value} {l : List CR} (h : CRL (L E m ρ w) m ρ w xs l) : TOkL E m ρ w xs (l.map CR.tv) := by
  induction h with
  | nil => exact .nil
  | @cons x c xs cs a _ ih =>
    refine .cons ?_ ih
    cases c <;> exact a

theorem stepOk_call {P : Program} {fl : List Nat} {o : Oper} {t : Nat → TV} {m : Id → Mem} {c : Call} (ho : o.op = .call c) {fo : Operand} (hcal : c.callee = .value fo) {f n : Nat} {cap : Nat → SV} (hf : opd t fo = .d (.one (.fn f n cap))) {K : Kont}
    (h : callW P fl t m f c.args.toList n cap o.dst K) : ∃ z mo rd, K z mo rd ∧ StepOk P o t m z mo rd := by
  have hmf : fo ∈ o.op.operands.toList := by rw [ho]; simp [Op.operands, Call.operands, hcal]
  have hma : ∀ x ∈ c.args.toList, x ∈ o.op.operands.toList := fun x hx => by rw [ho]; simp [Op.operands, Call.operands, hcal]; right; simpa using hx
  have hfn : ∀ (E : Env) (ρ : Id → Option (Nat × Nat)) (t' : Nat → TV) (m' : Id → Mem) (a : Act) (w : World), Agree o t t' → Rel E ρ t' m' a w →
      ∃ xs : Nat → Value, DRdL (L E m' ρ w) w ((List.range n).map xs) (capsL n cap) ∧ (execOp a.eval o).run P w = (callFunc f (c.args.toList.map a.eval ++ (List.range n).map xs).toArray).run P w := by
    intro E ρ t' m' a w ha hR
    have hv := (opd_ok hR fo).1
    rw [opd_agree ha hmf, hf] at hv
    obtain ⟨xs, e1, r1⟩ := Rd.inv_fn (show Rd _ _ _ _ from hv)
    exact ⟨xs, DRdL_caps n cap xs r1, exec_func ho hcal a w _ e1⟩
  unfold callW at h
  cases hfl : flagged fl (f + 2000000) with
  | true =>
    rw [hfl] at h
    refine callM_ok (f := f) (fun E ρ t' m' a w ha hR => ?_) h
    obtain ⟨xs, h1, h2⟩ := hfn E ρ t' m' a w ha hR
    exact ⟨_, (tokL_args ha hR _ hma).append (tokL_data h1), fun hent => h2.trans (callFunc_enters hent _ _)⟩
  | false =>
    rw [hfl] at h
    cases hfx : flagged fl (f + 5000000) with
    | true =>
      rw [hfx] at h
      obtain ⟨l, hs, rd, ft, h, hsub, hbld, hread⟩ := argsW_ok (o := o) c.args.toList hma _ h
      obtain ⟨x, hx, hrun, h⟩ := h.h
      refine ⟨_, _, _, h, stepOk_pure fun E ρ t' m' a w hP ha hm hR => ?_⟩
      obtain ⟨xs, h1, h2⟩ := hfn E ρ t' m' a w ha hR
      refine ⟨x, ?_, Rd.v hx, fun b h => h.elim⟩
      rw [h2]
      exact hrun w _ _ ((hread E ρ t' m' a w ha hm hR).append (h1.mono (fun b hb => ⟨.inl hb, rfl⟩)))
    | false =>
      rw [hfx] at h
      obtain ⟨l, hs, rd, ft, h, hsub, hbld, hread⟩ := argsW_ok (o := o) c.args.toList hma _ h
      refine callK_ok (l := l ++ capsL n cap) hsub hbld (fun E ρ t' m' a w ha hm hR => ?_) h
      obtain ⟨xs, h1, h2⟩ := hfn E ρ t' m' a w ha hR
      exact ⟨_, (hread E ρ t' m' a w ha hm hR).append (h1.mono (fun b hb => ⟨.inl hb, rfl⟩)), fun hent => h2.trans (callFunc_enters hent _ _)⟩

theorem stepOk_callC {P : Program} {fl : List Nat} {o : Oper} {t : Nat → TV} {m : Id → Mem} {c : Call} (ho : o.op = .call c) {fo : Operand} (hcal : c.callee = .value fo) {f : Nat} {caps : List CR} (hf : opd t fo = .clo f caps) {K : Kont}
    (h : callCW P fl t m f c.args.toList caps o.dst K) : ∃ z mo rd, K z mo rd ∧ StepOk P o t m z mo rd := by
  have hmf : fo ∈ o.op.operands.toList := by rw [ho]; simp [Op.operands, Call.operands, hcal]
  have hma : ∀ x ∈ c.args.toList, x ∈ o.op.operands.toList := fun x hx => by rw [ho]; simp [Op.operands, Call.operands, hcal]; right; simpa using hx
  have hfn : ∀ (E : Env) (ρ : Id → Option (Nat × Nat)) (t' : Nat → TV) (m' : Id → Mem) (a : Act) (w : World), Agree o t t' → Rel E ρ t' m' a w →
      ∃ xs : List Value, CRL (L E m' ρ w) m' ρ w xs caps ∧ CloV f xs (a.eval fo) := by
    intro E ρ t' m' a w ha hR
    have hv := (opd_ok hR fo).1
    rw [opd_agree ha hmf, hf] at hv
    obtain ⟨xs, e1, r1⟩ := hv
    exact ⟨xs, r1, e1⟩
  unfold callCW at h
  cases hlt : Nat.blt f 10000000 with
  | false =>
    rw [hlt] at h
    simp only [cond_false] at h
    cases hargs : c.args.toList with
    | cons y r => rw [hargs] at h; exact h.elim
    | nil =>
      rw [hargs] at h
      obtain ⟨g, hg, h⟩ := (show BoundC _ _ _ _ _ _ from h).h
      refine callM_ok (f := g) (fun E ρ t' m' a w ha hR => ?_) h
      obtain ⟨xs, h1, e1⟩ := hfn E ρ t' m' a w ha hR
      obtain ⟨g', hg', e1⟩ := e1.inv' hlt
      obtain rfl : g = g' := Nat.add_right_cancel (hg.symm.trans hg')
      refine ⟨_, tokL_caps h1, fun hent => ?_⟩
      have hma' : c.args = #[] := by rw [← Array.toArray_toList (xs := c.args), hargs]
      rw [← callFunc_enters hent]
      simp only [execOp, ho, resolve, hcal, e1, Deferred.ofValue, Sem.run_bind, Sem.run_pure, Result.andThen_ok, invoke, hma']
      congr 2
      apply Array.ext'
      simp
  | true =>
  rw [hlt] at h
  simp only [cond_true] at h
  replace hfn : ∀ (E : Env) (ρ : Id → Option (Nat × Nat)) (t' : Nat → TV) (m' : Id → Mem) (a : Act) (w : World), Agree o t t' → Rel E ρ t' m' a w →
      ∃ xs : List Value, CRL (L E m' ρ w) m' ρ w xs caps ∧ (Enters P f → (execOp a.eval o).run P w = .ok (.enter f (c.args.toList.map a.eval ++ xs).toArray) w) := by
    intro E ρ t' m' a w ha hR
    obtain ⟨xs, h1, e1⟩ := hfn E ρ t' m' a w ha hR
    exact ⟨xs, h1, fun hent => exec_enter ho hcal hent a w _ (e1.inv hlt)⟩
  cases hfl : flagged fl (f + 2000000) with
  | true =>
    rw [hfl] at h
    refine callM_ok (f := f) (fun E ρ t' m' a w ha hR => ?_) h
    obtain ⟨xs, h1, h2⟩ := hfn E ρ t' m' a w ha hR
    exact ⟨_, (tokL_args ha hR _ hma).append (tokL_caps h1), h2⟩
  | false =>
    rw [hfl] at h
    obtain ⟨l, hs, rd, ft, h, hsub, hbld, hread⟩ := argsW_ok (o := o) c.args.toList hma _ h
    obtain ⟨l', rd', ft', h, hread'⟩ := crsW_ok caps _ h
    refine callK_ok (l := l ++ l') (rd := rd ++ rd') (fun b hb => List.mem_append.2 (.inl (hsub b hb))) hbld (fun E ρ t' m' a w ha hm hR => ?_) h
    obtain ⟨xs, h1, h2⟩ := hfn E ρ t' m' a w ha hR
    refine ⟨_, ((hread E ρ t' m' a w ha (hm.sub (fun k hk => List.mem_append.2 (.inl hk))) hR).sx (fun o ho => ho) (fun e => by rw [e]; rfl)).append ((hread' E ρ m' w (hm.sub (fun k hk => List.mem_append.2 (.inr hk))) hR.toOwn xs h1).sx (fun o ho => by simp at ho) (fun e => by rw [e]; simp)), h2⟩

/-! ### function values that capture addresses -/
theorem captureR_ok {t : Nat → TV} : ∀ (xs : List Operand) (K : List CR → Prop), captureR t xs K → ∃ l, K l ∧ xs.map (opd t) = l.map CR.tv
  | [], K, h => ⟨[], h, rfl⟩
  | x :: r, K, h => by
    simp only [captureR] at h
    split at h
    · rename_i c hq
      obtain ⟨l, h1, h2⟩ := captureR_ok r _ h
      exact ⟨_, h1, by simp [h2, hq, CR.tv]⟩
    · rename_i b p hq
      obtain ⟨l, h1, h2⟩ := captureR_ok r _ h
      exact ⟨_, h1, by simp [h2, hq, CR.tv]⟩
    · exact h.elim

theorem crl_of {E : Env} {m : Id → Mem} {ρ : Id → Option (Nat × Nat)} {w : World} : ∀ {l : List CR} {us : List Value}, TOkL E m ρ w us (l.map CR.tv) → CRL (L E m ρ w) m ρ w us l
  | [], _, h => by cases h; exact .nil
  | c :: l, _, h => by
    cases h with
    | cons a b =>
      refine .cons ?_ (crl_of b)
      cases c <;> exact a

theorem stepOk_makeFuncR {P : Program} {o : Oper} {t : Nat → TV} {m : Id → Mem} {f : Nat} {first captured : Array Operand} (ho : o.op = .makeFunc (.func f) first captured) (hf : first.toList = []) (hlt : Nat.blt f 10000000 = true) {rd : List Nat} {K : List CR → Prop}
    (h : captureR t captured.toList K) : ∃ l, K l ∧ StepOk P o t m (.clo f l) [] rd := by
  have hfe : first = #[] := by rw [← Array.toArray_toList (xs := first), hf]
  have hma : ∀ x ∈ captured.toList, x ∈ o.op.operands.toList := fun x hx => by rw [ho]; simp [Op.operands, hfe]; simpa using hx
  obtain ⟨l, h, hl⟩ := captureR_ok _ _ h
  refine ⟨l, h, stepOk_pure fun E ρ t' m' a w hP ha hm hR => ?_⟩
  refine ⟨.func (.func f) #[] (captured.toList.map a.eval).toArray, ?_, ⟨captured.toList.map a.eval, CloV.plain hlt, ?_⟩, ?_⟩
  · simp [execOp, ho, Instr.makeFunc, hfe]
    apply Array.ext'
    simp
  · have h1 := tokL_args ha hR captured.toList hma
    rw [hl] at h1
    exact crl_of h1
  · rintro b ⟨c, hc, hr⟩
    cases c with
    | s c => exact hr.elim
    | ptr b' p =>
      have hcm : CR.tv (.ptr b' p) ∈ captured.toList.map (opd t) := by rw [hl]; exact List.mem_map.2 ⟨_, hc, rfl⟩
      obtain ⟨x, hx, he⟩ := List.mem_map.1 hcm
      have := (opd_ok hR x).2 b
      rw [opd_agree ha (hma x hx), he] at this
      exact this hr
theorem stepOk_makeFuncB {P : Program} {o : Oper} {t : Nat → TV} {m : Id → Mem} {f : Nat} {first captured : Array Operand} (ho : o.op = .makeFunc (.func f) first captured) (hf : captured.toList = []) {rd : List Nat} {K : List CR → Prop}
    (h : captureR t first.toList K) : ∃ l, K l ∧ StepOk P o t m (.clo (f + 10000000) l) [] rd := by
  have hfe : captured = #[] := by rw [← Array.toArray_toList (xs := captured), hf]
  have hma : ∀ x ∈ first.toList, x ∈ o.op.operands.toList := fun x hx => by rw [ho]; simp [Op.operands, hfe]; simpa using hx
  obtain ⟨l, h, hl⟩ := captureR_ok _ _ h
  refine ⟨l, h, stepOk_pure fun E ρ t' m' a w hP ha hm hR => ?_⟩
  refine ⟨.func (.func f) (first.toList.map a.eval).toArray #[], ?_, ⟨first.toList.map a.eval, CloV.bound f rfl, ?_⟩, ?_⟩
  · simp [execOp, ho, Instr.makeFunc, hfe]
    apply Array.ext'
    simp
  · have h1 := tokL_args ha hR first.toList hma
    rw [hl] at h1
    exact crl_of h1
  · rintro b ⟨c, hc, hr⟩
    cases c with
    | s c => exact hr.elim
    | ptr b' p =>
      have hcm : CR.tv (.ptr b' p) ∈ first.toList.map (opd t) := by rw [hl]; exact List.mem_map.2 ⟨_, hc, rfl⟩
      obtain ⟨x, hx, he⟩ := List.mem_map.1 hcm
      have := (opd_ok hR x).2 b
      rw [opd_agree ha (hma x hx), he] at this
      exact this hr
end Go.Vm
