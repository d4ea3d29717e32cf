/-
  An abstract walk over Go's operations: each step is true of the machine (values, memory).
-/
import Derived.Test.YtgmlblmkcbcgaaaVmB
namespace Go.Vm
set_option linter.unusedVariables false
set_option linter.unusedSimpArgs false
open Go Go.RowKit

def Agree (o : Oper) (t t' : Nat → TV) : Prop := ∀ s, Operand.tmp s ∈ o.op.operands.toList → t' s = t s

/-- The families of the list are as they were. -/
def Same (rd : List Nat) (m m' : Id → Mem) : Prop := ∀ b : Id, b.key ∈ rd → m' b = m b
theorem Same.at {rd : List Nat} {m m' : Id → Mem} (h : Same rd m m') (o : Id) (hm : o.key ∈ rd := by simp) : m' o = m o := h o hm
theorem Same.sub {rd rd' : List Nat} {m m' : Id → Mem} (h : Same rd m m') (hs : ∀ k ∈ rd', k ∈ rd) : Same rd' m m' := fun b hb => h b (hs _ hb)

/-- The step is true of the machine, wherever slots and objects read as they did here. -/
def StepOk (P : Program) (o : Oper) (t : Nat → TV) (m : Id → Mem) (x : TV) (mo : List (Id × Mem)) (rd : List Nat) : Prop :=
  ∀ (E : Env) (ρ : Id → Option (Nat × Nat)) (t' : Nat → TV) (m' : Id → Mem) (a : Act) (w : World), E.P = P → Agree o t t' → Same rd m m' → (∀ k, o.dst = some k → k < E.N) →
    Rel E ρ t' m' a w → ∀ (K : Act → World → Prop) (Q : Exit → Act → World → Prop),
    (∀ ρ' a' w', Rel E ρ' (putT t' o.dst x) (putM m' mo) a' w' → K a' w') → o.wp P a w K Q

theorem opd_agree {o : Oper} {t t' : Nat → TV} (h : Agree o t t') {x : Operand} (hx : x ∈ o.op.operands.toList) : opd t' x = opd t x := by
  cases x with
  | tmp s => exact h s hx
  | _ => rfl

theorem opd_ok {E : Env} {ρ : Id → Option (Nat × Nat)} {t : Nat → TV} {m : Id → Mem} {a : Act} {w : World} (h : Rel E ρ t m a w) (x : Operand) :
    TOk E m ρ w (a.eval x) (opd t x) ∧ ∀ b, (opd t x).refs b → m b ≠ .none := by
  cases x with
  | tmp s => exact ⟨h.slots s, h.clean s⟩
  | const v =>
    show TOk E m ρ w v (cvT v) ∧ ∀ b, (cvT v).refs b → m b ≠ .none
    unfold cvT
    split <;> first
      | exact ⟨Rd.v rfl, fun _ h => h.elim⟩
      | exact ⟨trivial, fun _ h => h.elim⟩
  | global g => exact ⟨trivial, fun _ h => h.elim⟩
  | func f => exact ⟨Rd.fn (n := 0) (fun _ => Go.undef) (fun j hj => absurd hj (Nat.not_lt_zero j)), fun _ h => h.elim⟩

theorem stepOk_pure {P : Program} {o : Oper} {t : Nat → TV} {m : Id → Mem} {x : TV} {rd : List Nat}
    (h : ∀ E ρ t' m' a w, E.P = P → Agree o t t' → Same rd m m' → Rel E ρ t' m' a w →
      ∃ v, (execOp a.eval o).run P w = .ok (.value v) w ∧ TOk E m' ρ w v x ∧ ∀ b, x.refs b → m' b ≠ .none) : StepOk P o t m x [] rd := by
  intro E ρ t' m' a w hP ha hm hd hR K Q hK
  obtain ⟨v, h1, h2, h3⟩ := h E ρ t' m' a w hP ha hm hR
  unfold Oper.wp
  rw [h1]
  exact hK ρ _ w (hR.put hd h2 h3)

/-! ### reading a type -/
theorem run_isAgg' {P : Program} {t : TypeId} {T : Ty} (hT : TyOk P t T) (w : World) : (isAgg t).run P w = .ok T.kind.isAgg w := by
  have hk := hT.kind
  cases hq : T.kind with
  | int k => rw [hq] at hk; simp [isAgg, run_underlying hk, TK.isAgg]
  | str fs => rw [hq] at hk; obtain ⟨F, hk, _⟩ := hk; simp [isAgg, run_underlying hk, TK.isAgg]
  | arr n e => rw [hq] at hk; simp [isAgg, run_underlying hk, TK.isAgg]
  | slc e => rw [hq] at hk; simp [isAgg, run_underlying hk, TK.isAgg]
  | cell =>
    rw [hq] at hk
    obtain ⟨d, hk, hd⟩ := hk
    cases d <;> simp [isAgg, run_underlying hk, TK.isAgg, descIsAgg] at hd ⊢

theorem run_sizeOf' {P : Program} {t : TypeId} {T : Ty} (hT : TyOk P t T) (w : World) : (sizeOf t).run P w = .ok T.size w := by
  obtain ⟨i, z, h1, h2, _⟩ := hT.info
  simp [sizeOf, typeInfo, h1, h2]

theorem bif_and {b : Bool} {p : Prop} (h : bif b then p else False) : b = true ∧ p := by
  cases b with
  | true => exact ⟨rfl, h⟩
  | false => exact h.elim

def pack (ag : Bool) (xs : List Value) : Value := if ag then .agg xs.toArray else xs.headD Go.undef

theorem run_loadVar' {P : Program} {t : TypeId} {T : Ty} (hT : TyOk P t T) (w : World) (b off : Nat) (xs : List Value) (hl : xs.length = T.size) (h1 : T.kind.isAgg = false → xs.length = 1)
    (h : ∀ j v, xs[j]? = some v → w.cell? ⟨b, off + j, none⟩ = some v) : (loadVar t ⟨b, off, none⟩).run P w = .ok (pack T.kind.isAgg xs) w := by
  have hadd : ∀ j, (⟨b, off, none⟩ : Addr).add j = ⟨b, off + j, none⟩ := by
    intro j; unfold Addr.add; split <;> simp_all
  cases hq : T.kind.isAgg with
  | true =>
    have hl' := run_loadCells_list (P := P) w ⟨b, off, none⟩ xs (fun j v hv => by rw [hadd]; exact h j v hv)
    rw [hl] at hl'
    simp [loadVar, run_isAgg' hT, hq, run_sizeOf' hT, hl', pack]
  | false =>
    obtain ⟨x, rfl⟩ : ∃ x, xs = [x] := by
      have := h1 hq
      match xs, this with
      | [x], _ => exact ⟨x, rfl⟩
    have h0 := h 0 x rfl
    simp only [Nat.add_zero] at h0
    simp [loadVar, run_isAgg' hT, hq, pack, h0]

theorem dataW_ok {T : Ty} {cs : List SV} {K : TV → Prop} (h : dataW T cs K) {S : Nat → Prop} {w : World} {xs : List Value} (hr : RdL S w xs cs) :
    (T.kind.isAgg = false → xs.length = 1) ∧ ∃ x, K (.d x) ∧ DRd S w (pack T.kind.isAgg xs) x := by
  unfold dataW at h
  split at h
  · rename_i hq
    exact ⟨fun e => by rw [hq] at e; exact absurd e (by decide), .agg cs, h, xs, by simp [pack, hq], hr⟩
  · rename_i hq
    split at h
    · rename_i c
      cases hr with
      | cons h1 t =>
        cases t
        rw [TV.force_iff] at h
        exact ⟨fun _ => rfl, .one c, h, by show Rd S w _ c; simpa [pack, hq] using h1⟩
    · exact h.elim

theorem dataW_det {T : Ty} {cs : List SV} {K : TV → Prop} (h : dataW T cs K) : ∃ x, K (.d x) ∧ (T.kind.isAgg = false → cs.length = 1) ∧ ∀ (S : Nat → Prop) (w : World) (xs : List Value), RdL S w xs cs → DRd S w (pack T.kind.isAgg xs) x := by
  unfold dataW at h
  split at h
  · rename_i hq
    exact ⟨.agg cs, h, fun e => by rw [hq] at e; exact absurd e (by decide), fun S w xs hr => ⟨xs, by simp [pack, hq], hr⟩⟩
  · rename_i hq
    split at h
    · rename_i c
      rw [TV.force_iff] at h
      refine ⟨.one c, h, fun _ => rfl, fun S w xs hr => ?_⟩
      cases hr with
      | cons h1 t => cases t; show Rd S w _ c; simpa [pack, hq] using h1
    · exact h.elim

theorem length_cells : ∀ (n : Nat) (f : Nat → SV), (cells n f).length = n
  | 0, _ => rfl
  | n + 1, f => by simp [cells, length_cells n]

theorem getElem?_cells : ∀ (n : Nat) (f : Nat → SV) (j : Nat), (cells n f)[j]? = if j < n then some (f j) else none
  | 0, _, _ => by simp [cells]
  | n + 1, f, 0 => by simp [cells]
  | n + 1, f, j + 1 => by simp [cells, getElem?_cells n]

theorem RdL_cells {S : Nat → Prop} {w : World} (n : Nat) (f : Nat → SV) (xs : Nat → Value) (h : ∀ j, j < n → Rd S w (xs j) (f j)) : RdL S w ((List.range n).map xs) (cells n f) := by
  induction n generalizing f xs with
  | zero => exact .nil
  | succ n ih =>
    rw [List.range_succ_eq_map, List.map_cons, List.map_map]
    exact .cons (h 0 (by omega)) (ih (fun j => f (j + 1)) (fun j => xs (j + 1)) (fun j hj => h (j + 1) (by omega)))

theorem cell_of_block {w : World} {b off : Nat} {xs : List Value} {e : TypeId} (hb : w.heap[b]? = some (.cells xs.toArray e (0, 0))) (j : Nat) {v : Value} (hv : xs[off + j]? = some v) :
    w.cell? ⟨b, off + j, none⟩ = some v := by
  simp [World.cell?, hb, hv]

theorem L_lt {E : Env} {ρ : Id → Option (Nat × Nat)} {t : Nat → TV} {m : Id → Mem} {a : Act} {w : World} (h : Rel E ρ t m a w) {b : Nat} (hb : L E m ρ w b) : b < w.heap.size := by
  rcases hb.1 with h1 | h1 | h1
  · exact Nat.lt_of_lt_of_le (E.hS b h1) h.below.size
  · exact Nat.lt_of_lt_of_le (E.hX b h1) h.below.size
  · exact h1.2

theorem mem_live_box {m : Id → Mem} {o : Id} {cs : List SV} (h : m o = .box cs) : (m o).live := by rw [h]; trivial
theorem mem_live_bld {m : Id → Mem} {o : Id} {g n k : Nat} {e : TypeId} {get : Nat → Nat → SV} (h : m o = .bld g n k e get) : (m o).live := by rw [h]; trivial
theorem mem_live_obj {m : Id → Mem} {o : Id} {cs : List CV} (h : m o = .obj cs) : (m o).live := by rw [h]; trivial
theorem mem_live_bldc {m : Id → Mem} {o : Id} {g n k : Nat} {e : TypeId} {get : Nat → Nat → CV} (h : m o = .bldc g n k e get) : (m o).live := by rw [h]; trivial

theorem CVL.length {S : Nat → Prop} {m : Id → Mem} {ρ : Id → Option (Nat × Nat)} {w : World} {xs : List Value} {cs : List CV} (hr : CVL S m ρ w xs cs) : xs.length = cs.length := by
  induction hr with
  | nil => rfl
  | cons _ _ ih => simp [ih]
theorem CVL.take {S : Nat → Prop} {m : Id → Mem} {ρ : Id → Option (Nat × Nat)} {w : World} {xs : List Value} {cs : List CV} (hr : CVL S m ρ w xs cs) (n : Nat) : CVL S m ρ w (xs.take n) (cs.take n) := by
  induction hr generalizing n with
  | nil => simpa using CVL.nil
  | cons h1 _ ih =>
    cases n with
    | zero => exact .nil
    | succ n => exact .cons h1 (ih n)
theorem CVL.drop {S : Nat → Prop} {m : Id → Mem} {ρ : Id → Option (Nat × Nat)} {w : World} {xs : List Value} {cs : List CV} (hr : CVL S m ρ w xs cs) (n : Nat) : CVL S m ρ w (xs.drop n) (cs.drop n) := by
  induction hr generalizing n with
  | nil => simpa using CVL.nil
  | cons h1 t ih =>
    cases n with
    | zero => exact .cons h1 t
    | succ n => exact ih n
theorem CVL.set {S : Nat → Prop} {m : Id → Mem} {ρ : Id → Option (Nat × Nat)} {w : World} {xs : List Value} {cs : List CV} (hr : CVL S m ρ w xs cs) (j : Nat) {x : Value} {c : CV} (h : CVk S m ρ w x c) : CVL S m ρ w (xs.set j x) (cs.set j c) := by
  induction hr generalizing j with
  | nil => simpa using CVL.nil
  | cons h1 t ih =>
    cases j with
    | zero => exact .cons h t
    | succ j => exact .cons h1 (ih j)
theorem CVL.setCells {S : Nat → Prop} {m : Id → Mem} {ρ : Id → Option (Nat × Nat)} {w : World} {ys : List Value} {ds : List CV} (hs : CVL S m ρ w ys ds) : ∀ {xs : List Value} {cs : List CV} (i : Nat), CVL S m ρ w xs cs → CVL S m ρ w (setCells xs i ys) (setCells cs i ds) := by
  induction hs with
  | nil => intro xs cs i h; exact h
  | cons h1 _ ih => intro xs cs i h; exact ih (i + 1) (h.set i h1)
theorem CVL.oneCell {S : Nat → Prop} {m : Id → Mem} {ρ : Id → Option (Nat × Nat)} {w : World} {xs : List Value} {cs : List CV} (hr : CVL S m ρ w xs cs) : ∀ x ∈ xs, x.oneCell' = true := by
  induction hr with
  | nil => simp
  | cons h1 _ ih => intro y hy; rcases List.mem_cons.1 hy with rfl | hy; exact h1.oneCell; exact ih y hy
theorem CVL.get {S : Nat → Prop} {m : Id → Mem} {ρ : Id → Option (Nat × Nat)} {w : World} {xs : List Value} {cs : List CV} (hr : CVL S m ρ w xs cs) : ∀ (j : Nat) (c : CV), cs[j]? = some c → ∃ x, xs[j]? = some x ∧ CVk S m ρ w x c := by
  induction hr with
  | nil => intro j c h; simp at h
  | @cons x c xs cs h1 _ ih =>
    intro j c' h
    cases j with
    | zero => simp at h; subst h; exact ⟨x, by simp, h1⟩
    | succ j => simpa using ih j c' (by simpa using h)
theorem CVL.ofRd {S : Nat → Prop} {m : Id → Mem} {ρ : Id → Option (Nat × Nat)} {w : World} {xs : List Value} {cs : List SV} (hr : RdL S w xs cs) : CVL S m ρ w xs (cs.map .s) := by
  induction hr with
  | nil => exact .nil
  | cons h1 _ ih => exact .cons h1 ih
theorem sOnly_ok {K : List SV → Prop} : ∀ {l : List CV}, sOnly l K → ∃ l', l = l'.map .s ∧ K l'
  | [], h => ⟨[], rfl, h⟩
  | c :: r, h => by
    simp only [sOnly] at h
    split at h
    · rename_i c
      obtain ⟨l', e, hk⟩ := sOnly_ok h
      exact ⟨c :: l', by rw [e]; rfl, hk⟩
    · exact h.elim
theorem CVL.toRd {S : Nat → Prop} {m : Id → Mem} {ρ : Id → Option (Nat × Nat)} {w : World} : ∀ {cs : List SV} {xs : List Value}, CVL S m ρ w xs (cs.map .s) → RdL S w xs cs
  | [], _, h => by cases h; exact .nil
  | c :: cs, _, h => by cases h with | cons a b => exact .cons a (CVL.toRd b)
/-- A cell's word is a slot's. -/
theorem CVk.tok {E : Env} {m : Id → Mem} {ρ : Id → Option (Nat × Nat)} {w : World} {x : Value} {c : CV} (h : CVk (L E m ρ w) m ρ w x c) : TOk E m ρ w x c.tv := by
  cases c <;> exact h
theorem CV.tv_refs {c : CV} {o : Id} (h : c.tv.refs o) : c.refs o := by
  cases c <;> exact h

theorem loadC_det {T : Ty} {cs : List CV} {K : TV → Prop} (h : loadC T cs K) : ∃ x, K x ∧ (T.kind.isAgg = false → cs.length = 1) ∧ (∀ o, x.refs o → ∃ c ∈ cs, c.refs o) ∧
    ∀ (E : Env) (m : Id → Mem) (ρ : Id → Option (Nat × Nat)) (w : World) (xs : List Value), CVL (L E m ρ w) m ρ w xs cs → TOk E m ρ w (pack T.kind.isAgg xs) x := by
  unfold loadC at h
  split at h
  · rename_i hq
    obtain ⟨l, e, hk⟩ := sOnly_ok h
    refine ⟨.d (.agg l), hk, fun e => by rw [hq] at e; exact absurd e (by decide), fun _ h => h.elim, fun E m ρ w xs hr => ?_⟩
    rw [e] at hr
    exact ⟨xs, by simp [pack, hq], hr.toRd⟩
  · rename_i hq
    split at h
    · rename_i c
      rw [CV.tvW_iff] at h
      refine ⟨c.tv, h, fun _ => rfl, fun o ho => ⟨c, by simp, CV.tv_refs ho⟩, fun E m ρ w xs hr => ?_⟩
      cases hr with
      | cons h1 t =>
        cases t
        have := CVk.tok h1
        simpa [pack, hq] using this
    · exact h.elim

theorem mem_drop_take {α : Type} {l : List α} {a b : Nat} {c : α} (h : c ∈ (l.drop a).take b) : c ∈ l := List.mem_of_mem_drop (List.mem_of_mem_take h)

theorem load_pure {P : Program} {o : Oper} {t : Nat → TV} {m : Id → Mem} {TT : Tab} (hT : TabOk P TT) {ty : TypeId} {T : Ty} (hty : TT ty = some T) {x : Operand} (ho : o.op = .load ty x) {K : Kont}
    (h : loadW T m (opd t x) K) : ∃ y rd, K y [] rd ∧ ∀ E ρ t' m' a w, E.P = P → Agree o t t' → Same rd m m' → Rel E ρ t' m' a w →
      ∃ v, (execOp a.eval o).run P w = .ok (.value v) w ∧ TOk E m' ρ w v y ∧ ∀ b, y.refs b → m' b ≠ .none := by
  have hTy := hT ty T hty
  have hmem : x ∈ o.op.operands.toList := by rw [ho]; simp [Op.operands]
  have hexec : ∀ (a : Act) (w : World) (b off : Nat) (xs : List Value), a.eval x = .pointer (some ⟨b, off, none⟩) → xs.length = T.size → (T.kind.isAgg = false → xs.length = 1) →
      (∀ j v, xs[j]? = some v → w.cell? ⟨b, off + j, none⟩ = some v) → (execOp a.eval o).run P w = .ok (.value (pack T.kind.isAgg xs)) w := by
    intro a w b off xs hx hl h1 hc
    have hr := run_loadVar' hTy w b off xs hl h1 hc
    simp [execOp, ho, hx, Instr.loadAt, Instr.sureAddr, hr]
  unfold loadW at h
  split at h
  · rename_i n cell hx
    replace h := bif_and h; obtain ⟨hle, h⟩ := h
    have hle' : T.size ≤ n := Nat.le_of_ble_eq_true hle
    obtain ⟨y, hK, h1, hd⟩ := dataW_det h
    refine ⟨_, _, hK, fun E ρ t' m' a w hP ha _ hR => ?_⟩
    have hv := (opd_ok hR x).1
    rw [opd_agree ha hmem, hx] at hv
    obtain ⟨b, off, xs, heq, hS, hc, hr⟩ := Rd.inv_ad hv
    refine ⟨_, hexec a w b off ((List.range T.size).map xs) heq (by simp) (fun e => by have := h1 e; rw [length_cells] at this; simpa using this) (fun j v hv => ?_), hd _ w _ (RdL_cells _ _ _ (fun j hj => hr j (by omega))), fun _ h => h.elim⟩
    simp only [List.getElem?_map] at hv
    by_cases hj : j < T.size
    · simp [hj] at hv; rw [← hv]; exact hc j (by omega)
    · simp [hj] at hv
  · rename_i b off hx
    replace h := lookW_iff h
    split at h
    · rename_i cs hb
      replace h := bif_and h; obtain ⟨hle, h⟩ := h
      have hle' : off + T.size ≤ cs.length := Nat.le_of_ble_eq_true hle
      obtain ⟨y, hK, h1, hd⟩ := dataW_det h
      refine ⟨_, _, hK, fun E ρ t' m' a w hP ha hm hR => ?_⟩
      have hv := (opd_ok hR x).1
      have hb' : m' b = .box cs := by rw [hm.at b]; exact hb
      rw [opd_agree ha hmem, hx] at hv
      simp only [TOk, PtrOk, hb'] at hv
      obtain ⟨bl, c, hρ, hval⟩ := hv
      have hmo := hR.mem b
      rw [hb'] at hmo
      obtain ⟨bl', c', xs, e, hρ', hblk, hrd⟩ := hmo
      rw [hρ] at hρ'
      obtain ⟨rfl, rfl⟩ : bl = bl' ∧ c = c' := by simpa using hρ'
      have hrd' := (hrd.drop off).take T.size
      have hlen : ((xs.drop off).take T.size).length = T.size := by have := hrd.length; simp; omega
      refine ⟨_, hexec a w bl off ((xs.drop off).take T.size) hval hlen (fun e => by have := h1 e; rw [← hrd'.length] at this; exact this) (fun j v hv => ?_), hd _ w _ hrd', fun _ h => h.elim⟩
      refine cell_of_block hblk j ?_
      rw [List.getElem?_take, List.getElem?_drop] at hv
      split at hv
      · exact hv
      · simp at hv
    · rename_i cs hb
      replace h := bif_and h; obtain ⟨hle, h⟩ := h
      have hle' : off + T.size ≤ cs.length := Nat.le_of_ble_eq_true hle
      obtain ⟨y, hK, h1, hd⟩ := dataW_det h
      refine ⟨_, _, hK, fun E ρ t' m' a w hP ha hm hR => ?_⟩
      have hv := (opd_ok hR x).1
      have hb' : m' b = .ro cs := by rw [hm.at b]; exact hb
      rw [opd_agree ha hmem, hx] at hv
      simp only [TOk, PtrOk, hb'] at hv
      obtain ⟨bl, c, hρ, hval⟩ := hv
      have hmo := hR.mem b
      rw [hb'] at hmo
      obtain ⟨bl', c', xs, e, hρ', _, hblk, hrd⟩ := hmo
      rw [hρ] at hρ'
      obtain ⟨rfl, rfl⟩ : bl = bl' ∧ c = c' := by simpa using hρ'
      have hrd' := (hrd.drop off).take T.size
      have hlen : ((xs.drop off).take T.size).length = T.size := by have := hrd.length; simp; omega
      refine ⟨_, hexec a w bl off ((xs.drop off).take T.size) hval hlen (fun e => by have := h1 e; rw [← hrd'.length] at this; exact this) (fun j v hv => ?_), hd _ w _ hrd', fun _ h => h.elim⟩
      refine cell_of_block hblk j ?_
      rw [List.getElem?_take, List.getElem?_drop] at hv
      split at hv
      · exact hv
      · simp at hv
    · rename_i cs hb
      replace h := bif_and h; obtain ⟨hle, h⟩ := h
      have hle' : off + T.size ≤ cs.length := Nat.le_of_ble_eq_true hle
      obtain ⟨y, hK, h1, hrf, hd⟩ := loadC_det h
      refine ⟨_, _, hK, fun E ρ t' m' a w hP ha hm hR => ?_⟩
      have hv := (opd_ok hR x).1
      have hb' : m' b = .obj cs := by rw [hm.at b]; exact hb
      rw [opd_agree ha hmem, hx] at hv
      simp only [TOk, PtrOk, hb'] at hv
      obtain ⟨bl, c, hρ, hval⟩ := hv
      have hmo := hR.mem b
      rw [hb'] at hmo
      obtain ⟨bl', c', xs, e, hρ', hblk, hrd⟩ := hmo
      rw [hρ] at hρ'
      obtain ⟨rfl, rfl⟩ : bl = bl' ∧ c = c' := by simpa using hρ'
      have hrd' := (hrd.drop off).take T.size
      have hlen : ((xs.drop off).take T.size).length = T.size := by have := hrd.length; simp; omega
      refine ⟨_, hexec a w bl off ((xs.drop off).take T.size) hval hlen (fun e => by have := h1 e; rw [← hrd'.length] at this; exact this) (fun j v hv => ?_), hd E m' ρ w _ hrd', fun o ho => ?_⟩
      · refine cell_of_block hblk j ?_
        rw [List.getElem?_take, List.getElem?_drop] at hv
        split at hv
        · exact hv
        · simp at hv
      · obtain ⟨c, hc, hr⟩ := hrf o ho
        refine hR.cleanM b o ?_
        rw [hb']
        exact ⟨c, mem_drop_take hc, hr⟩
    · exact h.elim
  · rename_i b g i off hx
    replace h := lookW_iff h
    split at h
    · rename_i g' n k e get hb
      replace h := bif_and h; obtain ⟨hle, h⟩ := h
      simp only [Bool.and_eq_true] at hle
      obtain rfl : g = g' := Nat.eq_of_beq_eq_true hle.1
      have hle' : off + T.size ≤ k := Nat.le_of_ble_eq_true hle.2
      obtain ⟨y, hK, h1, hd⟩ := dataW_det h
      refine ⟨_, _, hK, fun E ρ t' m' a w hP ha hm hR => ?_⟩
      have hv := (opd_ok hR x).1
      have hb' : m' b = .bld g n k e get := by rw [hm.at b]; exact hb
      rw [opd_agree ha hmem, hx] at hv
      simp only [TOk, PtrOk, hb'] at hv
      obtain ⟨hin, bl, c, hρ, hval⟩ := hv.2 trivial
      have hmo := hR.mem b
      rw [hb'] at hmo
      rcases hmo with ⟨hn, _⟩ | ⟨bl', c', arr, hρ', hblk, hsz, hnc, hcm, hel⟩
      · rw [hρ] at hn; simp at hn
      · rw [hρ] at hρ'
        obtain ⟨rfl, rfl⟩ : bl = bl' ∧ c = c' := by simpa using hρ'
        have hsel : ∀ j, j < T.size → ∃ v, arr[i * k + (off + j)]? = some v ∧ Rd (L E m' ρ w) w v (get i (off + j)) := fun j hj => hel i hin (off + j) (by omega)
        have hch : ∃ xs : Nat → Value, ∀ j, j < T.size → arr[i * k + (off + j)]? = some (xs j) ∧ Rd (L E m' ρ w) w (xs j) (get i (off + j)) := by
          refine ⟨fun j => (arr[i * k + (off + j)]?).getD Go.undef, fun j hj => ?_⟩
          obtain ⟨v, h1, h2⟩ := hsel j hj
          simp only [h1, Option.getD_some]
          exact ⟨trivial, h2⟩
        obtain ⟨xs, hxs⟩ := hch
        refine ⟨_, hexec a w bl (i * k + off) ((List.range T.size).map xs) hval (by simp) (fun e => by have := h1 e; rw [length_cells] at this; simpa using this) (fun j v hv => ?_), hd _ w _ (RdL_cells _ _ _ (fun j hj => (hxs j hj).2)), fun _ h => h.elim⟩
        simp only [List.getElem?_map] at hv
        by_cases hj : j < T.size
        · simp [hj] at hv
          have := (hxs j hj).1
          rw [← Nat.add_assoc] at this
          simp [World.cell?, hblk, this, hv]
        · simp [hj] at hv
    · rename_i g' n k e get hb
      replace h := bif_and h; obtain ⟨hle, h⟩ := h
      simp only [Bool.and_eq_true, Bool.not_eq_true'] at hle
      obtain rfl : g = g' := Nat.eq_of_beq_eq_true hle.1.1.1
      have hk' : off < k := lt_of_blt hle.1.1.2
      have hs1 : T.size = 1 := Nat.eq_of_beq_eq_true hle.1.2
      have hag := hle.2
      have h := h.elim
      rw [CV.tvW_iff] at h
      refine ⟨_, _, h, fun E ρ t' m' a w hP ha hm hR => ?_⟩
      have hv := (opd_ok hR x).1
      have hb' : m' b = .bldc g n k e get := by rw [hm.at b]; exact hb
      rw [opd_agree ha hmem, hx] at hv
      simp only [TOk, hb'] at hv
      obtain ⟨hin, bl, c, hρ, hval⟩ := hv.2 trivial
      have hmo := hR.mem b
      rw [hb'] at hmo
      rcases hmo with ⟨hn, _⟩ | ⟨bl', c', arr, hρ', hblk, hsz, hnc, hcm, hel⟩
      · rw [hρ] at hn; simp at hn
      · rw [hρ] at hρ'
        obtain ⟨rfl, rfl⟩ : bl = bl' ∧ c = c' := by simpa using hρ'
        obtain ⟨v, hv1, hv2⟩ := hel i hin off hk'
        refine ⟨_, hexec a w bl (i * k + off) [v] hval (by simp [hs1]) (fun _ => rfl) (fun j u hu => ?_), ?_, fun o ho => ?_⟩
        · cases j with
          | zero => simp at hu; subst hu; simp [World.cell?, hblk, hv1]
          | succ j => simp at hu
        · have := CVk.tok hv2
          simpa [pack, hag] using this
        · refine hR.cleanM b o ?_
          rw [hb']
          exact ⟨i, off, hin, hk', CV.tv_refs ho⟩
    · exact h.elim
  · exact h.elim
theorem stepOk_load {P : Program} {o : Oper} {t : Nat → TV} {m : Id → Mem} {TT : Tab} (hT : TabOk P TT) {ty : TypeId} {T : Ty} (hty : TT ty = some T) {x : Operand} (ho : o.op = .load ty x) {K : Kont}
    (h : loadW T m (opd t x) K) : ∃ y mo rd, K y mo rd ∧ StepOk P o t m y mo rd := by
  obtain ⟨y, rd, hK, hp⟩ := load_pure hT hty ho h
  exact ⟨y, [], rd, hK, stepOk_pure hp⟩
end Go.Vm
