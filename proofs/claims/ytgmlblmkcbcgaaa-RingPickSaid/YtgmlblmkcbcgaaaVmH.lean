/-
  An abstract walk over Go's operations: calls, function values, made slices; all operations together.
-/
import Derived.Test.YtgmlblmkcbcgaaaVmG
namespace Go.Vm
set_option linter.unusedVariables false
set_option linter.unusedSimpArgs false
open Go Go.RowKit

/-! ### what is read of arguments -/

def Sx (E : Env) (m : Id → Mem) (ρ : Id → Option (Nat × Nat)) (w : World) (hs : List Id) (ft : Bool) (b : Nat) : Prop :=
  L E m ρ w b ∨ ∃ o, (o ∈ hs ∨ ft = true) ∧ (m o).live ∧ ∃ c, ρ o = some (b, c)
theorem Sx.mono {E : Env} {m : Id → Mem} {ρ : Id → Option (Nat × Nat)} {w : World} {hs hs' : List Id} {ft ft' : Bool} (h1 : ∀ o ∈ hs, o ∈ hs') (h2 : ft = true → ft' = true) {b : Nat} (h : Sx E m ρ w hs ft b) : Sx E m ρ w hs' ft' b :=
  h.imp id (fun ⟨o, ho, r⟩ => ⟨o, ho.imp (h1 o) h2, r⟩)

theorem range_map_getD (us : List Value) (n : Nat) (h : us.length = n) : us = (List.range n).map (fun j => (us[j]?).getD Go.undef) := by
  apply List.ext_getElem?
  intro j
  by_cases hj : j < n
  · have hj' : j < us.length := by omega
    simp [hj, hj']
  · rw [List.getElem?_eq_none (by omega), List.getElem?_eq_none (by simp; omega)]

theorem CRL.length {S : Nat → Prop} {m : Id → Mem} {ρ : Id → Option (Nat × Nat)} {w : World} {xs : List Value} {cs : List CR} (hr : CRL S m ρ w xs cs) : xs.length = cs.length := by
  induction hr with
  | nil => rfl
  | cons _ _ ih => simp [ih]
theorem CRL.get {S : Nat → Prop} {m : Id → Mem} {ρ : Id → Option (Nat × Nat)} {w : World} {xs : List Value} {cs : List CR} (hr : CRL S m ρ w xs cs) : ∀ (j : Nat) (c : CR), cs[j]? = some c → ∃ x, xs[j]? = some x ∧ CRk S m ρ w x c := by
  induction hr with
  | nil => intro j c h; simp at h
  | @cons x c xs cs h1 _ ih =>
    intro j c' h
    cases j with
    | zero => simp at h; subst h; exact ⟨x, by simp, h1⟩
    | succ j => simpa using ih j c' (by simpa using h)

/-- What is lent is read. -/
theorem Lend.rd {m : Id → Mem} {ks : List Nat} {c : CV} {x : SV} (h : Lend m ks c x) {E : Env} {ρ : Id → Option (Nat × Nat)} {m' : Id → Mem} {w : World} (hm : Same ks m m') (hO : Own E ρ m' w) :
    ∀ v, CVk (L E m' ρ w) m' ρ w v c → Rd (Sx E m' ρ w [] true) w v x := by
  have hown : ∀ o b c, (m' o).live → ρ o = some (b, c) → Sx E m' ρ w [] true b := fun o b c l r => .inr ⟨o, .inr rfl, l, c, r⟩
  induction h with
  | s c => intro v hv; exact Rd.mono (fun b hb => ⟨.inl hb, rfl⟩) hv
  | @box o p q l hk h hq =>
    intro v hv
    rw [← hm o hk] at h
    have hbx : (m' o).boxy = true := by rcases h with h | h <;> rw [h] <;> rfl
    obtain ⟨bl, c, r1, r2⟩ := (ptrOk_boxy hbx).1 hv
    have hrow : ∃ xs e, Sx E m' ρ w [] true bl ∧ w.heap[bl]? = some (.cells xs.toArray e (0, 0)) ∧ RdL (L E m' ρ w) w xs l := by
      have hmo := hO.mem o
      rcases h with h | h
      · rw [h] at hmo
        obtain ⟨bl', c', xs, e, h1, h2, h3⟩ := hmo
        rw [r1] at h1
        obtain ⟨rfl, rfl⟩ : bl = bl' ∧ c = c' := by simpa using h1
        exact ⟨xs, e, hown o bl c (mem_live_box h) r1, h2, h3⟩
      · rw [h] at hmo
        obtain ⟨bl', c', xs, e, h1, h0, h2, h3⟩ := hmo
        rw [r1] at h1
        obtain ⟨rfl, rfl⟩ : bl = bl' ∧ c = c' := by simpa using h1
        exact ⟨xs, e, .inl h0, h2, h3⟩
    obtain ⟨xs, e, hS, hblk, hrd⟩ := hrow
    rw [r2]
    refine Rd.ad (fun j => (xs[p + j]?).getD Go.undef) hS (fun j hj => ?_) (fun j hj => ?_)
    · obtain ⟨y, hy, _⟩ := hrd.getElemRd (p + j) (by omega)
      simp [World.cell?, hblk, hy]
    · obtain ⟨y, hy, hr⟩ := hrd.getElemRd (p + j) (by omega)
      simp only [hy, Option.getD_some]
      exact hr.mono (fun b hb => ⟨.inl hb, rfl⟩)
  | @obj o p q l cell hk h hq hc ih =>
    intro v hv
    rw [← hm o hk] at h
    have hbx : (m' o).boxy = true := by rw [h]; rfl
    obtain ⟨bl, c, r1, r2⟩ := (ptrOk_boxy hbx).1 hv
    have hmo := hO.mem o
    rw [h] at hmo
    obtain ⟨bl', c', xs, e, h1, hblk, hrd⟩ := hmo
    rw [r1] at h1
    obtain ⟨rfl, rfl⟩ : bl = bl' ∧ c = c' := by simpa using h1
    rw [r2]
    refine Rd.ad (fun j => (xs[p + j]?).getD Go.undef) (hown o bl c (mem_live_obj h) r1) (fun j hj => ?_) (fun j hj => ?_)
    · obtain ⟨y, hy, _⟩ := hrd.getElem (p + j) (by omega) (.s (.v Go.undef))
      simp [World.cell?, hblk, hy]
    · obtain ⟨y, hy, hr⟩ := hrd.getElem (p + j) (by omega) (.s (.v Go.undef))
      simp only [hy, Option.getD_some]
      exact ih j hj y hr
  | @bld o g n k e get hk h =>
    intro v hv
    rw [← hm o hk] at h
    have hby : (m' o).bldy = some (g, n, k) := by rw [h]; rfl
    have h3 := ((hdlOk_bldy hby).1 hv).2.2 rfl
    have hmo := hO.mem o
    rw [h] at hmo
    rcases hmo with ⟨hρ, hn0⟩ | ⟨bl, cap, arr, hρ, hblk, hsz, hnc, hcm, hel⟩
    · simp only [HdlAt, hρ] at h3
      rw [h3, hn0]
      exact Rd.nil k get
    · simp only [HdlAt, hρ] at h3
      rw [h3]
      refine Rd.sl (fun i j => (arr[i * k + j]?).getD Go.undef) (hown o bl cap (mem_live_bld h) hρ) hnc hcm (fun i hi j hj => ?_) (fun i hi j hj => ?_)
      · obtain ⟨y, hy, _⟩ := hel i hi j hj
        simp [World.cell?, hblk, hy]
      · obtain ⟨y, hy, hr⟩ := hel i hi j hj
        simp only [hy, Option.getD_some]
        exact hr.mono (fun b hb => ⟨.inl hb, rfl⟩)
  | @bldc o g n k e get get' hk h hc ih =>
    intro v hv
    rw [← hm o hk] at h
    have hby : (m' o).bldy = some (g, n, k) := by rw [h]; rfl
    have h3 := ((hdlOk_bldy hby).1 hv).2.2 rfl
    have hmo := hO.mem o
    rw [h] at hmo
    rcases hmo with ⟨hρ, hn0⟩ | ⟨bl, cap, arr, hρ, hblk, hsz, hnc, hcm, hel⟩
    · simp only [HdlAt, hρ] at h3
      rw [h3, hn0]
      exact Rd.nil k _
    · simp only [HdlAt, hρ] at h3
      rw [h3]
      refine Rd.sl (fun i j => (arr[i * k + j]?).getD Go.undef) (hown o bl cap (mem_live_bldc h) hρ) hnc hcm (fun i hi j hj => ?_) (fun i hi j hj => ?_)
      · obtain ⟨y, hy, _⟩ := hel i hi j hj
        simp [World.cell?, hblk, hy]
      · obtain ⟨y, hy, hr⟩ := hel i hi j hj
        simp only [hy, Option.getD_some]
        exact ih i hi j hj y hr
  | @clo f n caps cell hn hc hf ih =>
    intro v hv
    obtain ⟨xs, e1, r1⟩ := hv
    have hl := r1.length
    rw [e1.inv hf, range_map_getD xs n (by omega)]
    refine Rd.fn _ (fun j hj => ?_)
    have hj' : j < caps.length := by omega
    obtain ⟨y, hy, hr⟩ := r1.get j caps[j] (by simp [hj'])
    simp only [hy, Option.getD_some]
    refine ih j hj y ?_
    have : caps.getD j (.s (.v Go.undef)) = caps[j] := by simp [List.getD, hj']
    rw [this]
    revert hr
    cases caps[j] <;> exact id

theorem argW_ok {o : Oper} {t : Nat → TV} {m : Id → Mem} {x : Operand} (hmx : x ∈ o.op.operands.toList) {K : DV → List Id → List Nat → Bool → Prop} (h : argW m (opd t x) K) :
    ∃ v hs rd ft, K v hs rd ft ∧ (∀ b ∈ hs, b.key ∈ rd) ∧ (∀ b ∈ hs, ∃ g n k e get, m b = .bld g n k e get) ∧
      ∀ (E : Env) (ρ : Id → Option (Nat × Nat)) (t' : Nat → TV) (m' : Id → Mem) (a : Act) (w : World), Agree o t t' → Same rd m m' → Rel E ρ t' m' a w → DRd (Sx E m' ρ w hs ft) w (a.eval x) v := by
  have hlend : ∀ (c : CV), opd t x = c.tv → LendW m c (fun x ks => K (.one x) [] ks true) → ∃ v hs rd ft, K v hs rd ft ∧ (∀ b ∈ hs, b.key ∈ rd) ∧ (∀ b ∈ hs, ∃ g n k e get, m b = .bld g n k e get) ∧
      ∀ (E : Env) (ρ : Id → Option (Nat × Nat)) (t' : Nat → TV) (m' : Id → Mem) (a : Act) (w : World), Agree o t t' → Same rd m m' → Rel E ρ t' m' a w → DRd (Sx E m' ρ w hs ft) w (a.eval x) v := by
    intro c hx h
    obtain ⟨y, ks, hl, h⟩ := h.h
    refine ⟨_, _, _, _, h, by simp, by simp, fun E ρ t' m' a w ha hm hR => ?_⟩
    have h1 := (opd_ok hR x).1
    rw [opd_agree ha hmx, hx] at h1
    exact hl.rd hm hR.toOwn _ (by cases c <;> exact h1)
  unfold argW at h
  split at h
  · rename_i v hx
    refine ⟨_, _, _, _, h, by simp, by simp, fun E ρ t' m' a w ha _ hR => ?_⟩
    have h1 := (opd_ok hR x).1
    rw [opd_agree ha hmx, hx] at h1
    exact DRd.mono (fun b hb => ⟨.inl hb, rfl⟩) h1
  · rename_i b g hx
    replace h := lookW_iff h
    split at h
    · rename_i g' n k e get hb
      replace h := bif_and h; obtain ⟨hk, h⟩ := h
      obtain rfl := Nat.eq_of_beq_eq_true hk
      refine ⟨_, _, _, _, h, by simp, by simp [hb], fun E ρ t' m' a w ha hm hR => ?_⟩
      have h1 := (opd_ok hR x).1
      rw [opd_agree ha hmx, hx] at h1
      have hb' : m' b = .bld g n k e get := by rw [hm.at b]; exact hb
      simp only [TOk, HdlOk, HdlAt, hb'] at h1
      have h3 := h1.2.2 trivial
      have hmo := hR.mem b
      rw [hb'] at hmo
      show Rd _ _ _ _
      rcases hmo with ⟨hρ, hn0⟩ | ⟨bl, cap, arr, hρ, hblk, hsz, hnc, hcm, hel⟩
      · rw [hρ] at h3
        rw [h3, hn0]
        exact Rd.nil k get
      · rw [hρ] at h3
        rw [h3]
        refine Rd.sl (fun i j => (arr[i * k + j]?).getD Go.undef) (.inr ⟨b, .inl (by simp), mem_live_bld hb', cap, hρ⟩) hnc hcm (fun i hi j hj => ?_) (fun i hi j hj => ?_)
        · obtain ⟨y, hy, _⟩ := hel i hi j hj
          simp [World.cell?, hblk, hy]
        · obtain ⟨y, hy, hr⟩ := hel i hi j hj
          simp only [hy, Option.getD_some]
          exact hr.mono (fun b hb => ⟨.inl hb, rfl⟩)
    · exact hlend (.hdl b g) hx h
  · rename_i b g lo n hx
    replace h := lookW_iff h
    split at h
    · rename_i g' n' k e get hb
      replace h := bif_and h; obtain ⟨hk, h⟩ := h
      obtain rfl := Nat.eq_of_beq_eq_true hk
      refine ⟨_, _, _, _, h, by simp, by simp [hb], fun E ρ t' m' a w ha hm hR => ?_⟩
      have h1 := (opd_ok hR x).1
      rw [opd_agree ha hmx, hx] at h1
      have hb' : m' b = .bld g n' k e get := by rw [hm.at b]; exact hb
      simp only [TOk, SubOk, SubAt, hb'] at h1
      obtain ⟨hln, h3⟩ := h1.2.2 trivial
      have hmo := hR.mem b
      rw [hb'] at hmo
      show Rd _ _ _ _
      rcases hmo with ⟨hρ, hn0⟩ | ⟨bl, cap, arr, hρ, hblk, hsz, hnc, hcm, hel⟩
      · rw [hρ] at h3
        have h0 : n = 0 := by omega
        simp only at h3
        rw [h3, h0]
        exact Rd.nil k _
      · rw [hρ] at h3
        obtain ⟨ad, h3, h4⟩ := h3
        rw [h3]
        rcases Nat.eq_zero_or_pos n with h0 | h0
        · rw [h0]; exact Rd.emp ad _ k _
        · rw [h4 (.inl (by omega))]
          refine Rd.sl (fun i j => (arr[(lo + i) * k + j]?).getD Go.undef) (.inr ⟨b, .inl (by simp), mem_live_bld hb', cap, hρ⟩) (by omega) (by omega) (fun i hi j hj => ?_) (fun i hi j hj => ?_)
          · obtain ⟨y, hy, _⟩ := hel (lo + i) (by omega) j hj
            rw [← Nat.add_assoc, ← Nat.add_mul]
            simp [World.cell?, hblk, hy]
          · obtain ⟨y, hy, hr⟩ := hel (lo + i) (by omega) j hj
            simp only [hy, Option.getD_some]
            exact hr.mono (fun b hb => ⟨.inl hb, rfl⟩)
    · exact h.elim
  · rename_i b p hx
    replace h := lookW_iff h
    split at h
    · rename_i cs hb
      refine ⟨_, _, _, _, h, by simp, by simp, fun E ρ t' m' a w ha hm hR => ?_⟩
      have h1 := (opd_ok hR x).1
      rw [opd_agree ha hmx, hx] at h1
      have hb' : m' b = .ro cs := by rw [hm.at b]; exact hb
      simp only [TOk, PtrOk, hb'] at h1
      obtain ⟨bl, c, r1, r2⟩ := h1
      have hmo := hR.mem b
      rw [hb'] at hmo
      obtain ⟨bl', c', xs, e, hρ', hL, hblk, hrd⟩ := hmo
      rw [r1] at hρ'
      obtain ⟨rfl, rfl⟩ : bl = bl' ∧ c = c' := by simpa using hρ'
      show Rd _ _ _ _
      rw [r2]
      refine Rd.ad (fun j => (xs[p + j]?).getD Go.undef) (.inl hL) (fun j hj => ?_) (fun j hj => ?_)
      · obtain ⟨y, hy, _⟩ := hrd.getElemRd (p + j) (by omega)
        simp [World.cell?, hblk, hy]
      · obtain ⟨y, hy, hr⟩ := hrd.getElemRd (p + j) (by omega)
        simp only [hy, Option.getD_some]
        exact hr.mono (fun b hb => ⟨.inl hb, rfl⟩)
    · exact hlend (.ptr b p) hx h
  · rename_i f caps hx
    exact hlend (.clo f caps) hx h
  · exact h.elim

theorem DRd.sx {E : Env} {m : Id → Mem} {ρ : Id → Option (Nat × Nat)} {w : World} {hs hs' : List Id} {ft ft' : Bool} (h1 : ∀ o ∈ hs, o ∈ hs') (h2 : ft = true → ft' = true) {x : Value} {v : DV} (h : DRd (Sx E m ρ w hs ft) w x v) : DRd (Sx E m ρ w hs' ft') w x v :=
  DRd.mono (fun _ hb => ⟨hb.mono h1 h2, rfl⟩) h
theorem DRdL.sx {E : Env} {m : Id → Mem} {ρ : Id → Option (Nat × Nat)} {w : World} {hs hs' : List Id} {ft ft' : Bool} (h1 : ∀ o ∈ hs, o ∈ hs') (h2 : ft = true → ft' = true) {x : List Value} {v : List DV} (h : DRdL (Sx E m ρ w hs ft) w x v) : DRdL (Sx E m ρ w hs' ft') w x v :=
  DRdL.mono (fun _ hb => ⟨hb.mono h1 h2, rfl⟩) h

theorem argsW_ok {o : Oper} {t : Nat → TV} {m : Id → Mem} : ∀ (xs : List Operand), (∀ x ∈ xs, x ∈ o.op.operands.toList) → ∀ (K : List DV → List Id → List Nat → Bool → Prop), argsW t m xs K →
    ∃ l hs rd ft, K l hs rd ft ∧ (∀ b ∈ hs, b.key ∈ rd) ∧ (∀ b ∈ hs, ∃ g n k e get, m b = .bld g n k e get) ∧
      ∀ (E : Env) (ρ : Id → Option (Nat × Nat)) (t' : Nat → TV) (m' : Id → Mem) (a : Act) (w : World), Agree o t t' → Same rd m m' → Rel E ρ t' m' a w → DRdL (Sx E m' ρ w hs ft) w (xs.map a.eval) l
  | [], _, K, h => ⟨[], [], [], false, h, by simp, by simp, fun _ _ _ _ _ _ _ _ _ => .nil⟩
  | x :: r, hx, K, h => by
    simp only [argsW] at h
    obtain ⟨v, hs, rd, ft, h, h1, h2, h3⟩ := argW_ok (hx x (by simp)) h
    obtain ⟨l, hs', rd', ft', h, h1', h2', h3'⟩ := argsW_ok r (fun y hy => hx y (by simp [hy])) _ h
    refine ⟨_, _, _, _, h, ?_, ?_, fun E ρ t' m' a w ha hm hR => ?_⟩
    · intro b hb
      rcases List.mem_append.1 hb with hb | hb
      · exact List.mem_append.2 (.inl (h1 b hb))
      · exact List.mem_append.2 (.inr (h1' b hb))
    · intro b hb
      rcases List.mem_append.1 hb with hb | hb
      · exact h2 b hb
      · exact h2' b hb
    · exact .cons (DRd.sx (fun o ho => List.mem_append.2 (.inl ho)) (fun e => by rw [e]; rfl) (h3 E ρ t' m' a w ha (hm.sub (fun k hk => List.mem_append.2 (.inl hk))) hR))
        (DRdL.sx (fun o ho => List.mem_append.2 (.inr ho)) (fun e => by rw [e]; simp) (h3' E ρ t' m' a w ha (hm.sub (fun k hk => List.mem_append.2 (.inr hk))) hR))

theorem crsW_ok {m : Id → Mem} : ∀ (cs : List CR) (K : List DV → List Nat → Bool → Prop), crsW m cs K →
    ∃ l rd ft, K l rd ft ∧ ∀ (E : Env) (ρ : Id → Option (Nat × Nat)) (m' : Id → Mem) (w : World), Same rd m m' → Own E ρ m' w → ∀ xs, CRL (L E m' ρ w) m' ρ w xs cs → DRdL (Sx E m' ρ w [] ft) w xs l
  | [], K, h => ⟨[], [], false, h, fun _ _ _ _ _ _ xs hx => by cases hx; exact .nil⟩
  | c :: r, K, h => by
    simp only [crsW] at h
    split at h
    · rename_i c
      obtain ⟨l, rd, ft, h, h1⟩ := crsW_ok r _ h
      refine ⟨_, _, _, h, fun E ρ m' w hm hO xs hx => ?_⟩
      cases hx with
      | cons a b => exact .cons (Rd.mono (fun b hb => ⟨.inl hb, rfl⟩) (show Rd _ _ _ c from a)) (h1 E ρ m' w hm hO _ b)
    · rename_i o p
      obtain ⟨y, ks, hl, h⟩ := h.h
      obtain ⟨l, rd, ft, h, h1⟩ := crsW_ok r _ h
      refine ⟨_, _, _, h, fun E ρ m' w hm hO xs hx => ?_⟩
      cases hx with
      | cons a b =>
        exact .cons (hl.rd (hm.sub (fun k hk => List.mem_append.2 (.inl hk))) hO _ a) (DRdL.sx (fun o ho => ho) (fun _ => rfl) (h1 E ρ m' w (hm.sub (fun k hk => List.mem_append.2 (.inr hk))) hO _ b))

theorem sfreeL_rd {S S' : Nat → Prop} {w w' : World} : ∀ {cs : List SV} {xs : List Value}, sfreeL cs = true → RdL S w xs cs → RdL S' w' xs cs
  | [], _, _, h => by cases h; exact .nil
  | .v x :: cs, _, hf, h => by
    cases h with
    | cons h1 t =>
      obtain ⟨rfl, h2⟩ := Rd.inv_v h1
      exact .cons (.v h2) (sfreeL_rd hf t)
  | .sl .. :: _, _, hf, _ => by simp [sfreeL] at hf
  | .ad .. :: _, _, hf, _ => by simp [sfreeL] at hf
  | .fn .. :: _, _, hf, _ => by simp [sfreeL] at hf

theorem sfreeD_rd {S S' : Nat → Prop} {w w' : World} : ∀ {cs : List DV} {xs : List Value}, sfreeD cs = true → DRdL S w xs cs → DRdL S' w' xs cs
  | [], _, _, h => by cases h; exact .nil
  | .one (.v x) :: cs, _, hf, h => by
    cases h with
    | cons h1 t =>
      obtain ⟨rfl, h2⟩ := Rd.inv_v h1
      exact .cons (Rd.v h2) (sfreeD_rd hf t)
  | .agg ds :: cs, _, hf, h => by
    simp only [sfreeD, Bool.and_eq_true] at hf
    cases h with
    | cons h1 t =>
      obtain ⟨us, e1, r1⟩ := h1
      exact .cons ⟨us, e1, sfreeL_rd hf.1 r1⟩ (sfreeD_rd hf.2 t)
  | .one (.sl ..) :: _, _, hf, _ => by simp [sfreeD] at hf
  | .one (.ad ..) :: _, _, hf, _ => by simp [sfreeD] at hf
  | .one (.fn ..) :: _, _, hf, _ => by simp [sfreeD] at hf

theorem ROk.mono {S S' : Nat → Prop} {w : World} {x : Value} {r : TV} (h : ∀ b, S b → S' b) (hr : ROk S w x r) : ROk S' w x r := by
  cases r with
  | d v => exact DRd.mono (fun b hb => ⟨h b hb, rfl⟩) hr
  | tup vs => obtain ⟨xs, h1, h2⟩ := hr; exact ⟨xs, h1, h2.mono (fun b hb => ⟨h b hb, rfl⟩)⟩
  | _ => exact hr.elim

theorem ROk.sfree {S S' : Nat → Prop} {w : World} {x : Value} {r : TV} (hf : sfree r = true) (hr : ROk S w x r) : ROk S' w x r := by
  cases r with
  | d v =>
    have := sfreeD_rd (S' := S') (w' := w) (show sfreeD [v] = true from hf) (.cons hr .nil : DRdL S w [x] [v])
    cases this with
    | cons h1 _ => exact h1
  | tup vs => obtain ⟨xs, h1, h2⟩ := hr; exact ⟨xs, h1, sfreeD_rd hf h2⟩
  | _ => exact hr.elim

theorem ROk.tok {E : Env} {m : Id → Mem} {ρ : Id → Option (Nat × Nat)} {w : World} {x : Value} {r : TV} (hr : ROk (L E m ρ w) w x r) : TOk E m ρ w x r ∧ ∀ b, r.refs b → m b ≠ .none := by
  cases r with
  | d v => exact ⟨hr, fun _ h => h.elim⟩
  | tup vs => exact ⟨hr, fun _ h => h.elim⟩
  | _ => exact hr.elim

/-- A slice that is being made is shut: it is read from now on, and no more written. -/
theorem Rel.freeze1 {E : Env} {ρ : Id → Option (Nat × Nat)} {t : Nat → TV} {m : Id → Mem} {a : Act} {w : World} (h : Rel E ρ t m a w) (o : Id) (hm : m o ≠ .none) : Rel E ρ t (upd m o .dead) a w := by
  have hρ : upd ρ o (ρ o) = ρ := upd_self ρ o
  have := h.one o .dead (ρ o) (Bx.refl _ _ _) (fun b hl => ⟨⟨hl.1, fun o' c' l r => by
      by_cases e : o' = o
      · subst e; rw [upd_same] at l; exact l.elim
      · rw [upd_ne _ _ _ e] at l r; exact hl.2 o' c' l r⟩, rfl⟩) (fun _ _ _ _ _ _ => rfl) (fun l => l.elim) (by simp) (fun _ h => h.elim) (fun e => absurd e hm) (fun e => by simp [Mem.gen] at e) trivial
      (fun _ => ⟨fun x p hp => by have := hp.oneCell; simp only [PtrOk, upd_same]; exact this, fun x g hg => by simp only [HdlOk, upd_same]; exact ⟨hg.1, trivial⟩⟩)
      (fun x g i off _ _ => by simp only [TOk, upd_same]) (fun x g lo n _ hs => by simp only [SubOk, upd_same]; exact ⟨hs.1, trivial⟩)
  rwa [hρ] at this

theorem putM_dead_live {m : Id → Mem} : ∀ (hs : List Id) (o : Id), ((putM m (hs.map fun o => (o, .dead)) o).live → (m o).live) ∧ (o ∈ hs → ¬ (putM m (hs.map fun o => (o, .dead)) o).live)
  | [], o => ⟨id, by simp⟩
  | h :: hs, o => by
    simp only [List.map_cons, putM]
    obtain ⟨i1, i2⟩ := putM_dead_live (m := upd m h .dead) hs o
    refine ⟨fun l => ?_, fun hm => ?_⟩
    · have := i1 l
      by_cases e : o = h
      · subst e; rw [upd_same] at this; exact this.elim
      · rwa [upd_ne _ _ _ e] at this
    · rcases List.mem_cons.1 hm with rfl | hm
      · intro l
        have := i1 l
        rw [upd_same] at this
        exact this
      · exact i2 hm

theorem Rel.freezeL {E : Env} {ρ : Id → Option (Nat × Nat)} {t : Nat → TV} {a : Act} {w : World} : ∀ (hs : List Id) {m : Id → Mem}, Rel E ρ t m a w → (∀ o ∈ hs, m o ≠ .none) → Rel E ρ t (putM m (hs.map fun o => (o, .dead))) a w
  | [], _, h, _ => h
  | o :: hs, m, h, hn => by
    refine Rel.freezeL hs (h.freeze1 o (hn o (by simp))) (fun o' ho' => ?_)
    by_cases e : o' = o
    · subst e; rw [upd_same]; simp
    · rw [upd_ne _ _ _ e]; exact hn o' (by simp [ho'])

theorem DRdL_caps {S : Nat → Prop} {w : World} (n : Nat) (cap : Nat → SV) (xs : Nat → Value) (h : ∀ j, j < n → Rd S w (xs j) (cap j)) : DRdL S w ((List.range n).map xs) (capsL n cap) := by
  have h1 := RdL_cells n cap xs h
  unfold capsL
  revert h1
  generalize (List.range n).map xs = us
  generalize cells n cap = cs
  intro h1
  induction h1 with
  | nil => exact .nil
  | cons a _ ih => exact .cons a ih

/-- A call by contract is true of the machine. -/
theorem callK_ok {P : Program} {o : Oper} {t : Nat → TV} {m : Id → Mem} {f : FuncId} {l : List DV} {hs : List Id} {rd : List Nat} {ft : Bool} {K : Kont} (hsub : ∀ b ∈ hs, b.key ∈ rd) (hbld : ∀ b ∈ hs, ∃ g n k e get, m b = .bld g n k e get)
    (hread : ∀ (E : Env) (ρ : Id → Option (Nat × Nat)) (t' : Nat → TV) (m' : Id → Mem) (a : Act) (w : World), Agree o t t' → Same rd m m' → Rel E ρ t' m' a w →
      ∃ vs : List Value, DRdL (Sx E m' ρ w hs ft) w vs l ∧ (Enters P f → (execOp a.eval o).run P w = .ok (.enter f vs.toArray) w))
    (h : callK P f l hs rd ft K) : ∃ z mo rd, K z mo rd ∧ StepOk P o t m z mo rd := by
  unfold callK at h
  obtain ⟨r, ⟨hent, hdet⟩, h⟩ := h.h
  replace h := bif_and h; obtain ⟨hft, h⟩ := h
  refine ⟨_, _, _, h, ?_⟩
  intro E ρ t' m' a w hP ha hm hd hR K' Q hK
  obtain ⟨vs, hall, hrun⟩ := hread E ρ t' m' a w ha hm hR
  have hlive : ∀ o ∈ hs, (m' o).live := fun b hb => by
    obtain ⟨g, n, k, e, get, hb'⟩ := hbld b hb
    rw [hm b (hsub b hb), hb']; trivial
  have hSlt : ∀ b, Sx E m' ρ w hs ft b → b < w.heap.size := fun b hb => by
    rcases hb with hb | ⟨o', _, l, c', r⟩
    · exact L_lt hR hb
    · exact (hR.lo o' b c' l r).2
  have hcalls := hdet w (Sx E m' ρ w hs ft) _ hSlt hall
  unfold Oper.wp
  rw [hrun hent]
  refine Calls.mono hcalls ?_
  rintro e w' ⟨v, rfl, hb0, hr⟩
  have hR1 := hR.grow hb0
  show K' (a.put o.dst v) w'
  cases hsf : sfree r with
  | true =>
    refine hK ρ _ w' ?_
    have hr' := ROk.tok (ROk.sfree (S' := L E m' ρ w') hsf hr)
    rw [hsf]
    exact hR1.put hd hr'.1 hr'.2
  | false =>
    refine hK ρ _ w' ?_
    have hft0 : ft = false := by
      rw [hsf] at hft
      simpa using hft
    have hnn : ∀ o ∈ hs, m' o ≠ .none := fun b hb e => by have := hlive b hb; rw [e] at this; exact this
    have hR2 := hR1.freezeL hs hnn
    have hL : ∀ b, (Sx E m' ρ w hs ft b ∨ (w.heap.size ≤ b ∧ b < w'.heap.size)) → L E (putM m' (hs.map fun o => (o, .dead))) ρ w' b := by
      intro b hb
      rcases hb with (hb | ⟨o', ho', l, c', r'⟩) | ⟨hb1, hb2⟩
      · refine ⟨hb.1.imp id (fun h => h.imp id (fun h => ⟨h.1, Nat.lt_of_lt_of_le h.2 hb0.size⟩)), fun o'' c'' l'' r'' => hb.2 o'' c'' ((putM_dead_live hs o'').1 l'') r''⟩
      · have ho' : o' ∈ hs := ho'.resolve_right (fun e => by rw [hft0] at e; cases e)
        obtain ⟨q1, q2⟩ := hR.lo o' b c' l r'
        refine ⟨.inr (q1.imp id (fun q1 => ⟨q1, Nat.lt_of_lt_of_le q2 hb0.size⟩)), fun o'' c'' l'' r'' => ?_⟩
        have l3 := (putM_dead_live hs o'').1 l''
        have e := hR.inj o' o'' b c' c'' l l3 r' r''
        subst e
        exact (putM_dead_live hs o').2 ho' l''
      · refine ⟨.inr (.inr ⟨Nat.le_trans hR.below.size hb1, hb2⟩), fun o'' c'' l'' r'' => ?_⟩
        have l3 := (putM_dead_live hs o'').1 l''
        have := (hR.lo o'' b c'' l3 r'').2
        omega
    have hr' := ROk.tok (ROk.mono hL hr)
    rw [hsf]
    exact hR2.put hd hr'.1 hr'.2

theorem exec_func {P : Program} {o : Oper} {c : Call} (ho : o.op = .call c) {fo : Operand} (hcal : c.callee = .value fo) {f : FuncId} (a : Act) (w : World) (xs : List Value) (e1 : a.eval fo = .func (.func f) #[] xs.toArray) :
    (execOp a.eval o).run P w = (callFunc f (c.args.toList.map a.eval ++ xs).toArray).run P w := by
  simp only [execOp, ho, resolve, hcal, e1, Deferred.ofValue, Sem.run_bind, Sem.run_pure, Result.andThen_ok, invoke]
  congr 2
  apply Array.ext'
  simp
theorem callFunc_enters {P : Program} {f : FuncId} (hent : Enters P f) (args : Array Value) (w : World) : (callFunc f args).run P w = .ok (.enter f args) w := by
  obtain ⟨fn, k1, k2, k3⟩ := hent
  have k2' : ¬ fn.name = "runtime.NumGoroutine" := by simpa using k2
  have k3' : ¬ fn.body = none := by intro e; rw [e] at k3; simp at k3
  simp [callFunc, k1]
  rw [if_neg k2', if_neg k3']
theorem exec_enter {P : Program} {o : Oper} {c : Call} (ho : o.op = .call c) {fo : Operand} (hcal : c.callee = .value fo) {f : FuncId} (hent : Enters P f) (a : Act) (w : World) (xs : List Value) (e1 : a.eval fo = .func (.func f) #[] xs.toArray) :
    (execOp a.eval o).run P w = .ok (.enter f (c.args.toList.map a.eval ++ xs).toArray) w := by
  rw [exec_func ho hcal a w xs e1, callFunc_enters hent]

/-! ### function values -/
theorem Rel.thaw1 {E : Env} {ρ : Id → Option (Nat × Nat)} {t : Nat → TV} {m : Id → Mem} {a : Act} {w : World} (h : Rel E ρ t m a w) (o : Id) {cs : List SV} (hm : m o = .box cs) : Rel E ρ t (upd m o (.ro cs)) a w := by
  have hρ : upd ρ o (ρ o) = ρ := upd_self ρ o
  have hmo := h.mem o
  rw [hm] at hmo
  obtain ⟨b, c, xs, e, h1, h2, h3⟩ := hmo
  obtain ⟨q1, q2⟩ := h.lo o b c (mem_live_box hm) h1
  have hs : Shape (m o) (upd m o (.ro cs) o) := .boxy (by rw [hm]; rfl) (by rw [upd_same]; rfl)
  have hL : ∀ b, L E m ρ w b → L E (upd m o (.ro cs)) (upd ρ o (ρ o)) w b ∧ w.heap[b]? = w.heap[b]? := fun b hl => ⟨⟨hl.1, fun o' c' l r => by
      by_cases e : o' = o
      · subst e; rw [upd_same] at l; exact l.elim
      · rw [upd_ne _ _ _ e] at l r; exact hl.2 o' c' l r⟩, rfl⟩
  have := h.one o (.ro cs) (ρ o) (Bx.refl _ _ _) hL (fun _ _ _ _ _ _ => rfl) (fun l => l.elim) (by simp) (fun _ h => h.elim) (fun e => by rw [hm] at e; simp at e) (fun e => by simp [Mem.gen] at e) (by
      refine ⟨b, c, xs, e, by rw [upd_same]; exact h1, ⟨.inr (q1.imp id (fun q1 => ⟨q1, q2⟩)), fun o' c' l r => ?_⟩, h2, h3.mono hL⟩
      by_cases e : o' = o
      · subst e; rw [upd_same] at l; exact l.elim
      · rw [upd_ne _ _ _ e] at l r
        exact e (h.inj o' o b c' c l (mem_live_box hm) r h1)) (fun _ => hs.carry (by rw [hρ])) (fun x g i off _ => hs.ep (by rw [hρ]) x g i off) (fun x g lo n _ => hs.sub (by rw [hρ]) x g lo n)
  rwa [hρ] at this

/-- The objects that a function value captures are shut one by one; what is captured is read from then on. -/
theorem captureW_ok {o : Oper} {t : Nat → TV} {m : Id → Mem} : ∀ (xs : List Operand), (∀ x ∈ xs, x ∈ o.op.operands.toList) → ∀ (K : List SV → List (Id × Mem) → List Nat → Prop), captureW t m xs K →
    ∃ l ms rd, K l ms rd ∧ (∀ p ∈ ms, ∃ cs, p.2 = .ro cs ∧ m p.1 = .box cs ∧ p.1.key ∈ rd) ∧
      ∀ (E : Env) (ρ : Id → Option (Nat × Nat)) (t' : Nat → TV) (m' : Id → Mem) (a : Act) (w : World), Agree o t t' → Same rd m m' → Rel E ρ t' m' a w →
        RdL (Sx E m' ρ w (ms.map (·.1)) false) w (xs.map a.eval) l
  | [], _, K, h => ⟨[], [], [], h, by simp, fun _ _ _ _ _ _ _ _ _ => .nil⟩
  | x :: r, hx, K, h => by
    have hmx := hx x (by simp)
    simp only [captureW] at h
    split at h
    · rename_i c hq
      obtain ⟨l, ms, rd, h, h1, h3⟩ := captureW_ok r (fun y hy => hx y (by simp [hy])) _ h
      refine ⟨_, _, _, h, h1, fun E ρ t' m' a w ha hm hR => ?_⟩
      have hv := (opd_ok hR x).1
      rw [opd_agree ha hmx, hq] at hv
      exact .cons (Rd.mono (fun b hb => ⟨.inl hb, rfl⟩) (show Rd _ _ _ _ from hv)) (h3 E ρ t' m' a w ha hm hR)
    · rename_i b p hq
      split at h
      · replace h := lookW_iff h
        split at h
        · rename_i cs hb
          obtain ⟨l, ms, rd, h, h1, h3⟩ := captureW_ok r (fun y hy => hx y (by simp [hy])) _ h
          refine ⟨_, _, _, h, fun q hq' => ?_, fun E ρ t' m' a w ha hm hR => ?_⟩
          · rcases List.mem_cons.1 hq' with rfl | hq'
            · exact ⟨cs, rfl, hb, by simp⟩
            · obtain ⟨cs', a1, a2, a3⟩ := h1 q hq'
              exact ⟨cs', a1, a2, by simp [a3]⟩
          · have hv := (opd_ok hR x).1
            rw [opd_agree ha hmx, hq] at hv
            have hb' : m' b = .box cs := by rw [hm.at b]; exact hb
            simp only [TOk, PtrOk, hb'] at hv
            obtain ⟨bl, c, r1, r2⟩ := hv
            have hmo := hR.mem b
            rw [hb'] at hmo
            obtain ⟨bl', c', us, e, hρ', hblk, hrd⟩ := hmo
            rw [r1] at hρ'
            obtain ⟨rfl, rfl⟩ : bl = bl' ∧ c = c' := by simpa using hρ'
            refine .cons ?_ (RdL.mono (fun b hb => ⟨hb.mono (fun o ho => by simp at ho ⊢; exact .inr ho) id, rfl⟩) (h3 E ρ t' m' a w ha (hm.sub (fun k hk => by simp [hk])) hR))
            rw [r2]
            refine Rd.ad (fun j => (us[j]?).getD Go.undef) (.inr ⟨b, .inl (by simp), mem_live_box hb', c, r1⟩) (fun j hj => ?_) (fun j hj => ?_)
            · obtain ⟨y, hy, _⟩ := hrd.getElemRd j hj
              simp [World.cell?, hblk, hy]
            · obtain ⟨y, hy, hr⟩ := hrd.getElemRd j hj
              simp only [hy, Option.getD_some]
              exact hr.mono (fun b hb => ⟨.inl hb, rfl⟩)
        · rename_i cs hb
          obtain ⟨l, ms, rd, h, h1, h3⟩ := captureW_ok r (fun y hy => hx y (by simp [hy])) _ h
          refine ⟨_, _, _, h, fun q hq' => ?_, fun E ρ t' m' a w ha hm hR => ?_⟩
          · obtain ⟨cs', a1, a2, a3⟩ := h1 q hq'
            exact ⟨cs', a1, a2, by simp [a3]⟩
          · have hv := (opd_ok hR x).1
            rw [opd_agree ha hmx, hq] at hv
            have hb' : m' b = .ro cs := by rw [hm.at b]; exact hb
            simp only [TOk, PtrOk, hb'] at hv
            obtain ⟨bl, c, r1, r2⟩ := hv
            have hmo := hR.mem b
            rw [hb'] at hmo
            obtain ⟨bl', c', us, e, hρ', hLb, hblk, hrd⟩ := hmo
            rw [r1] at hρ'
            obtain ⟨rfl, rfl⟩ : bl = bl' ∧ c = c' := by simpa using hρ'
            refine .cons ?_ (h3 E ρ t' m' a w ha (hm.sub (fun k hk => by simp [hk])) hR)
            rw [r2]
            refine Rd.ad (fun j => (us[j]?).getD Go.undef) (.inl hLb) (fun j hj => ?_) (fun j hj => ?_)
            · obtain ⟨y, hy, _⟩ := hrd.getElemRd j hj
              simp [World.cell?, hblk, hy]
            · obtain ⟨y, hy, hr⟩ := hrd.getElemRd j hj
              simp only [hy, Option.getD_some]
              exact hr.mono (fun b hb => ⟨.inl hb, rfl⟩)
        · exact h.elim
      · exact h.elim
    · exact h.elim

theorem Rel.thawL {E : Env} {ρ : Id → Option (Nat × Nat)} {t : Nat → TV} {a : Act} {w : World} : ∀ (ms : List (Id × Mem)) {m : Id → Mem}, Rel E ρ t m a w → (∀ p ∈ ms, ∃ cs, p.2 = .ro cs ∧ (m p.1 = .box cs ∨ m p.1 = .ro cs)) →
    Rel E ρ t (putM m ms) a w ∧ (∀ o, (putM m ms o).live → (m o).live) ∧ (∀ p ∈ ms, ¬ (putM m ms p.1).live)
  | [], m, h, _ => ⟨h, fun _ l => l, by simp⟩
  | (o, nm) :: ms, m, h, hm => by
    obtain ⟨cs, e1, e2⟩ := hm (o, nm) (by simp)
    simp only at e1 e2
    subst e1
    have h' : Rel E ρ t (upd m o (.ro cs)) a w := by
      rcases e2 with e2 | e2
      · exact h.thaw1 o e2
      · have : upd m o (.ro cs) = m := by rw [← e2]; exact upd_self m o
        rw [this]; exact h
    have hrec := Rel.thawL ms h' (fun p hp => by
      obtain ⟨cs', a1, a2⟩ := hm p (by simp [hp])
      refine ⟨cs', a1, ?_⟩
      by_cases e : p.1 = o
      · right
        rw [e, upd_same]
        rw [e] at a2
        rcases e2 with e2 | e2 <;> rcases a2 with a2 | a2 <;> rw [e2] at a2 <;> simp at a2 <;> simp [a2]
      · rw [upd_ne _ _ _ e]; exact a2)
    simp only [putM]
    refine ⟨hrec.1, fun o' l => ?_, fun p hp l => ?_⟩
    · have := hrec.2.1 o' l
      by_cases e : o' = o
      · subst e; rw [upd_same] at this; exact this.elim
      · rwa [upd_ne _ _ _ e] at this
    · rcases List.mem_cons.1 hp with rfl | hp
      · have := hrec.2.1 _ l
        rw [upd_same] at this
        exact this
      · exact hrec.2.2 p hp l

theorem stepOk_makeFunc {P : Program} {o : Oper} {t : Nat → TV} {m : Id → Mem} {f : Nat} {first captured : Array Operand} (ho : o.op = .makeFunc (.func f) first captured) (hf : first.toList = []) {K : List SV → List (Id × Mem) → List Nat → Prop}
    (h : captureW t m captured.toList K) : ∃ l ms rd, K l ms rd ∧ StepOk P o t m (.d (.one (.fn f l.length fun j => l.getD j (.v Go.undef)))) ms rd := by
  have hfe : first = #[] := by rw [← Array.toArray_toList (xs := first), hf]
  obtain ⟨l, ms, rd, h, hbox, hread⟩ := captureW_ok (o := o) captured.toList (fun x hx => by rw [ho]; simp [Op.operands, hfe]; simpa using hx) _ h
  refine ⟨l, ms, rd, h, ?_⟩
  intro E ρ t' m' a w hP ha hm hd hR K' Q hK
  have hr := hread E ρ t' m' a w ha hm hR
  obtain ⟨hR', hl1, hl2⟩ := hR.thawL ms (fun p hp => by
    obtain ⟨cs, a1, a2, a3⟩ := hbox p hp
    exact ⟨cs, a1, .inl (by rw [hm p.1 a3]; exact a2)⟩)
  have hlive : ∀ o ∈ ms.map (·.1), (m' o).live := fun o ho => by
    obtain ⟨p, hp, rfl⟩ := List.mem_map.1 ho
    obtain ⟨cs, _, a2, a3⟩ := hbox p hp
    rw [hm p.1 a3, a2]; trivial
  have hL : ∀ b, Sx E m' ρ w (ms.map (·.1)) false b → L E (putM m' ms) ρ w b := by
    intro b hb
    rcases hb with hb | ⟨o', ho', l', c', r'⟩
    · exact ⟨hb.1, fun o'' c'' l'' r'' => hb.2 o'' c'' (hl1 o'' l'') r''⟩
    · have ho' := ho'.resolve_right (fun e => by cases e)
      obtain ⟨q1, q2⟩ := hR.lo o' b c' l' r'
      refine ⟨.inr (q1.imp id (fun q1 => ⟨q1, q2⟩)), fun o'' c'' l'' r'' => ?_⟩
      have e := hR.inj o' o'' b c' c'' l' (hl1 o'' l'') r' r''
      subst e
      obtain ⟨p, hp, rfl⟩ := List.mem_map.1 ho'
      exact hl2 p hp l''
  have hrun : (execOp a.eval o).run P w = .ok (.value (.func (.func f) #[] (captured.toList.map a.eval).toArray)) w := by
    simp [execOp, ho, Instr.makeFunc, hfe]
    apply Array.ext'
    simp
  unfold Oper.wp
  rw [hrun]
  refine hK ρ _ w (hR'.put hd ?_ (fun _ h => h.elim))
  have hlen := hr.length
  have hx : (captured.toList.map a.eval) = (List.range l.length).map (fun j => ((captured.toList.map a.eval)[j]?).getD Go.undef) := by
    revert hlen
    generalize captured.toList.map a.eval = us
    intro hlen
    apply List.ext_getElem?
    intro j
    by_cases hj : j < l.length
    · have hj' : j < us.length := by omega
      simp [hj, hj']
    · rw [List.getElem?_eq_none (by omega), List.getElem?_eq_none (by simp; omega)]
  show Rd _ _ _ _
  rw [hx]
  refine Rd.fn _ (fun j hj => ?_)
  obtain ⟨y, hy, hr'⟩ := hr.getElemRd j hj
  simp only [hy, Option.getD_some]
  exact hr'.mono (fun b hb => ⟨hL b hb, rfl⟩)
end Go.Vm
