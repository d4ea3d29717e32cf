/-
  An abstract walk over Go's operations: each step is true of the machine (values, memory).
  An abstract walk over Go's operations: the steps that make or write memory.
  An abstract walk over Go's operations: the steps that reckon.
-/
import Derived.Test.YtobmlkopbmakcaaGreatVmB
namespace Go.Vm
set_option linter.unusedVariables false
set_option linter.unusedSimpArgs false
open Go Go.RowKit

def Agree (o : Oper) (t t' : Nat → TV) : Prop := ∀ s, Operand.tmp s ∈ o.op.operands.toList → t' s = t s

/-- The families of the list are as they were. -/
def Same (rd : List Nat) (m m' : Id → Mem) : Prop := ∀ b : Id, b.key ∈ rd → m' b = m b
theorem Same.at {rd : List Nat} {m m' : Id → Mem} (h : Same rd m m') (o : Id) (hm : o.key ∈ rd := by simp) : m' o = m o := h o hm
theorem Same.sub {rd rd' : List Nat} {m m' : Id → Mem} (h : Same rd m m') (hs : ∀ k ∈ rd', k ∈ rd) : Same rd' m m' := fun b hb => h b (hs _ hb)

/-- The step is true of the machine, wherever slots and objects read as they did here. -/
def StepOk (P : Program) (o : Oper) (t : Nat → TV) (m : Id → Mem) (x : TV) (mo : List (Id × Mem)) (rd : List Nat) : Prop :=
  ∀ (E : Env) (ρ : Id → Option (Nat × Nat)) (t' : Nat → TV) (m' : Id → Mem) (a : Act) (w : World), E.P = P → Agree o t t' → Same rd m m' → (∀ k, o.dst = some k → k < E.N) →
    Rel E ρ t' m' a w → ∀ (K : Act → World → Prop) (Q : Exit → Act → World → Prop),
    (∀ ρ' a' w', Rel E ρ' (putT t' o.dst x) (putM m' mo) a' w' → K a' w') → o.wp P a w K Q

theorem opd_agree {o : Oper} {t t' : Nat → TV} (h : Agree o t t') {x : Operand} (hx : x ∈ o.op.operands.toList) : opd t' x = opd t x := by
  cases x with
  | tmp s => exact h s hx
  | _ => rfl

theorem opd_ok {E : Env} {ρ : Id → Option (Nat × Nat)} {t : Nat → TV} {m : Id → Mem} {a : Act} {w : World} (h : Rel E ρ t m a w) (x : Operand) :
    TOk E m ρ w (a.eval x) (opd t x) ∧ ∀ b, (opd t x).refs b → m b ≠ .none := by
  cases x with
  | tmp s => exact ⟨h.slots s, h.clean s⟩
  | const v =>
    show TOk E m ρ w v (cvT v) ∧ ∀ b, (cvT v).refs b → m b ≠ .none
    unfold cvT
    split <;> first
      | exact ⟨Rd.v rfl, fun _ h => h.elim⟩
      | exact ⟨trivial, fun _ h => h.elim⟩
  | global g => exact ⟨trivial, fun _ h => h.elim⟩
  | func f => exact ⟨Rd.fn (n := 0) (fun _ => Go.undef) (fun j hj => absurd hj (Nat.not_lt_zero j)), fun _ h => h.elim⟩

theorem stepOk_pure {P : Program} {o : Oper} {t : Nat → TV} {m : Id → Mem} {x : TV} {rd : List Nat}
    (h : ∀ E ρ t' m' a w, E.P = P → Agree o t t' → Same rd m m' → Rel E ρ t' m' a w →
      ∃ v, (execOp a.eval o).run P w = .ok (.value v) w ∧ TOk E m' ρ w v x ∧ ∀ b, x.refs b → m' b ≠ .none) : StepOk P o t m x [] rd := by
  intro E ρ t' m' a w hP ha hm hd hR K Q hK
  obtain ⟨v, h1, h2, h3⟩ := h E ρ t' m' a w hP ha hm hR
  unfold Oper.wp
  rw [h1]
  exact hK ρ _ w (hR.put hd h2 h3)

/-! ### reading a type -/
theorem run_isAgg' {P : Program} {t : TypeId} {T : Ty} (hT : TyOk P t T) (w : World) : (isAgg t).run P w = .ok T.kind.isAgg w := by
  have hk := hT.kind
  cases hq : T.kind with
  | int k => rw [hq] at hk; simp [isAgg, run_underlying hk, TK.isAgg]
  | str fs => rw [hq] at hk; obtain ⟨F, hk, _⟩ := hk; simp [isAgg, run_underlying hk, TK.isAgg]
  | arr n e => rw [hq] at hk; simp [isAgg, run_underlying hk, TK.isAgg]
  | slc e => rw [hq] at hk; simp [isAgg, run_underlying hk, TK.isAgg]
  | cell =>
    rw [hq] at hk
    obtain ⟨d, hk, hd⟩ := hk
    cases d <;> simp [isAgg, run_underlying hk, TK.isAgg, descIsAgg] at hd ⊢

theorem run_sizeOf' {P : Program} {t : TypeId} {T : Ty} (hT : TyOk P t T) (w : World) : (sizeOf t).run P w = .ok T.size w := by
  obtain ⟨i, z, h1, h2, _⟩ := hT.info
  simp [sizeOf, typeInfo, h1, h2]

theorem bif_and {b : Bool} {p : Prop} (h : bif b then p else False) : b = true ∧ p := by
  cases b with
  | true => exact ⟨rfl, h⟩
  | false => exact h.elim

def pack (ag : Bool) (xs : List Value) : Value := if ag then .agg xs.toArray else xs.headD Go.undef

theorem run_loadVar' {P : Program} {t : TypeId} {T : Ty} (hT : TyOk P t T) (w : World) (b off : Nat) (xs : List Value) (hl : xs.length = T.size) (h1 : T.kind.isAgg = false → xs.length = 1)
    (h : ∀ j v, xs[j]? = some v → w.cell? ⟨b, off + j, none⟩ = some v) : (loadVar t ⟨b, off, none⟩).run P w = .ok (pack T.kind.isAgg xs) w := by
  have hadd : ∀ j, (⟨b, off, none⟩ : Addr).add j = ⟨b, off + j, none⟩ := by
    intro j; unfold Addr.add; split <;> simp_all
  cases hq : T.kind.isAgg with
  | true =>
    have hl' := run_loadCells_list (P := P) w ⟨b, off, none⟩ xs (fun j v hv => by rw [hadd]; exact h j v hv)
    rw [hl] at hl'
    simp [loadVar, run_isAgg' hT, hq, run_sizeOf' hT, hl', pack]
  | false =>
    obtain ⟨x, rfl⟩ : ∃ x, xs = [x] := by
      have := h1 hq
      match xs, this with
      | [x], _ => exact ⟨x, rfl⟩
    have h0 := h 0 x rfl
    simp only [Nat.add_zero] at h0
    simp [loadVar, run_isAgg' hT, hq, pack, h0]

theorem dataW_ok {T : Ty} {cs : List SV} {K : TV → Prop} (h : dataW T cs K) {S : Nat → Prop} {w : World} {xs : List Value} (hr : RdL S w xs cs) :
    (T.kind.isAgg = false → xs.length = 1) ∧ ∃ x, K (.d x) ∧ DRd S w (pack T.kind.isAgg xs) x := by
  unfold dataW at h
  split at h
  · rename_i hq
    exact ⟨fun e => by rw [hq] at e; exact absurd e (by decide), .agg cs, h, xs, by simp [pack, hq], hr⟩
  · rename_i hq
    split at h
    · rename_i c
      cases hr with
      | cons h1 t =>
        cases t
        rw [TV.force_iff] at h
        exact ⟨fun _ => rfl, .one c, h, by show Rd S w _ c; simpa [pack, hq] using h1⟩
    · exact h.elim

theorem dataW_det {T : Ty} {cs : List SV} {K : TV → Prop} (h : dataW T cs K) : ∃ x, K (.d x) ∧ (T.kind.isAgg = false → cs.length = 1) ∧ ∀ (S : Nat → Prop) (w : World) (xs : List Value), RdL S w xs cs → DRd S w (pack T.kind.isAgg xs) x := by
  unfold dataW at h
  split at h
  · rename_i hq
    exact ⟨.agg cs, h, fun e => by rw [hq] at e; exact absurd e (by decide), fun S w xs hr => ⟨xs, by simp [pack, hq], hr⟩⟩
  · rename_i hq
    split at h
    · rename_i c
      rw [TV.force_iff] at h
      refine ⟨.one c, h, fun _ => rfl, fun S w xs hr => ?_⟩
      cases hr with
      | cons h1 t => cases t; show Rd S w _ c; simpa [pack, hq] using h1
    · exact h.elim

theorem length_cells : ∀ (n : Nat) (f : Nat → SV), (cells n f).length = n
  | 0, _ => rfl
  | n + 1, f => by simp [cells, length_cells n]

theorem getElem?_cells : ∀ (n : Nat) (f : Nat → SV) (j : Nat), (cells n f)[j]? = if j < n then some (f j) else none
  | 0, _, _ => by simp [cells]
  | n + 1, f, 0 => by simp [cells]
  | n + 1, f, j + 1 => by simp [cells, getElem?_cells n]

theorem RdL_cells {S : Nat → Prop} {w : World} (n : Nat) (f : Nat → SV) (xs : Nat → Value) (h : ∀ j, j < n → Rd S w (xs j) (f j)) : RdL S w ((List.range n).map xs) (cells n f) := by
  induction n generalizing f xs with
  | zero => exact .nil
  | succ n ih =>
    rw [List.range_succ_eq_map, List.map_cons, List.map_map]
    exact .cons (h 0 (by omega)) (ih (fun j => f (j + 1)) (fun j => xs (j + 1)) (fun j hj => h (j + 1) (by omega)))

theorem cell_of_block {w : World} {b off : Nat} {xs : List Value} {e : TypeId} (hb : w.heap[b]? = some (.cells xs.toArray e (0, 0))) (j : Nat) {v : Value} (hv : xs[off + j]? = some v) :
    w.cell? ⟨b, off + j, none⟩ = some v := by
  simp [World.cell?, hb, hv]

theorem L_lt {E : Env} {ρ : Id → Option (Nat × Nat)} {t : Nat → TV} {m : Id → Mem} {a : Act} {w : World} (h : Rel E ρ t m a w) {b : Nat} (hb : L E m ρ w b) : b < w.heap.size := by
  rcases hb.1 with h1 | h1 | h1
  · exact Nat.lt_of_lt_of_le (E.hS b h1) h.below.size
  · exact Nat.lt_of_lt_of_le (E.hX b h1) h.below.size
  · exact h1.2

theorem mem_live_box {m : Id → Mem} {o : Id} {cs : List SV} (h : m o = .box cs) : (m o).live := by rw [h]; trivial
theorem mem_live_bld {m : Id → Mem} {o : Id} {g n k : Nat} {e : TypeId} {get : Nat → Nat → SV} (h : m o = .bld g n k e get) : (m o).live := by rw [h]; trivial
theorem mem_live_obj {m : Id → Mem} {o : Id} {cs : List CV} (h : m o = .obj cs) : (m o).live := by rw [h]; trivial
theorem mem_live_bldc {m : Id → Mem} {o : Id} {g n k : Nat} {e : TypeId} {get : Nat → Nat → CV} (h : m o = .bldc g n k e get) : (m o).live := by rw [h]; trivial

theorem CVL.length {S : Nat → Prop} {m : Id → Mem} {ρ : Id → Option (Nat × Nat)} {w : World} {xs : List Value} {cs : List CV} (hr : CVL S m ρ w xs cs) : xs.length = cs.length := by
  induction hr with
  | nil => rfl
  | cons _ _ ih => simp [ih]
theorem CVL.take {S : Nat → Prop} {m : Id → Mem} {ρ : Id → Option (Nat × Nat)} {w : World} {xs : List Value} {cs : List CV} (hr : CVL S m ρ w xs cs) (n : Nat) : CVL S m ρ w (xs.take n) (cs.take n) := by
  induction hr generalizing n with
  | nil => simpa using CVL.nil
  | cons h1 _ ih =>
    cases n with
    | zero => exact .nil
    | succ n => exact .cons h1 (ih n)
theorem CVL.drop {S : Nat → Prop} {m : Id → Mem} {ρ : Id → Option (Nat × Nat)} {w : World} {xs : List Value} {cs : List CV} (hr : CVL S m ρ w xs cs) (n : Nat) : CVL S m ρ w (xs.drop n) (cs.drop n) := by
  induction hr generalizing n with
  | nil => simpa using CVL.nil
  | cons h1 t ih =>
    cases n with
    | zero => exact .cons h1 t
    | succ n => exact ih n
theorem CVL.set {S : Nat → Prop} {m : Id → Mem} {ρ : Id → Option (Nat × Nat)} {w : World} {xs : List Value} {cs : List CV} (hr : CVL S m ρ w xs cs) (j : Nat) {x : Value} {c : CV} (h : CVk S m ρ w x c) : CVL S m ρ w (xs.set j x) (cs.set j c) := by
  induction hr generalizing j with
  | nil => simpa using CVL.nil
  | cons h1 t ih =>
    cases j with
    | zero => exact .cons h t
    | succ j => exact .cons h1 (ih j)
theorem CVL.setCells {S : Nat → Prop} {m : Id → Mem} {ρ : Id → Option (Nat × Nat)} {w : World} {ys : List Value} {ds : List CV} (hs : CVL S m ρ w ys ds) : ∀ {xs : List Value} {cs : List CV} (i : Nat), CVL S m ρ w xs cs → CVL S m ρ w (setCells xs i ys) (setCells cs i ds) := by
  induction hs with
  | nil => intro xs cs i h; exact h
  | cons h1 _ ih => intro xs cs i h; exact ih (i + 1) (h.set i h1)
theorem CVL.oneCell {S : Nat → Prop} {m : Id → Mem} {ρ : Id → Option (Nat × Nat)} {w : World} {xs : List Value} {cs : List CV} (hr : CVL S m ρ w xs cs) : ∀ x ∈ xs, x.oneCell' = true := by
  induction hr with
  | nil => simp
  | cons h1 _ ih => intro y hy; rcases List.mem_cons.1 hy with rfl | hy; exact h1.oneCell; exact ih y hy
theorem CVL.get {S : Nat → Prop} {m : Id → Mem} {ρ : Id → Option (Nat × Nat)} {w : World} {xs : List Value} {cs : List CV} (hr : CVL S m ρ w xs cs) : ∀ (j : Nat) (c : CV), cs[j]? = some c → ∃ x, xs[j]? = some x ∧ CVk S m ρ w x c := by
  induction hr with
  | nil => intro j c h; simp at h
  | @cons x c xs cs h1 _ ih =>
    intro j c' h
    cases j with
    | zero => simp at h; subst h; exact ⟨x, by simp, h1⟩
    | succ j => simpa using ih j c' (by simpa using h)
theorem CVL.ofRd {S : Nat → Prop} {m : Id → Mem} {ρ : Id → Option (Nat × Nat)} {w : World} {xs : List Value} {cs : List SV} (hr : RdL S w xs cs) : CVL S m ρ w xs (cs.map .s) := by
  induction hr with
  | nil => exact .nil
  | cons h1 _ ih => exact .cons h1 ih
theorem sOnly_ok {K : List SV → Prop} : ∀ {l : List CV}, sOnly l K → ∃ l', l = l'.map .s ∧ K l'
  | [], h => ⟨[], rfl, h⟩
  | c :: r, h => by
    simp only [sOnly] at h
    split at h
    · rename_i c
      obtain ⟨l', e, hk⟩ := sOnly_ok h
      exact ⟨c :: l', by rw [e]; rfl, hk⟩
    · exact h.elim
theorem CVL.toRd {S : Nat → Prop} {m : Id → Mem} {ρ : Id → Option (Nat × Nat)} {w : World} : ∀ {cs : List SV} {xs : List Value}, CVL S m ρ w xs (cs.map .s) → RdL S w xs cs
  | [], _, h => by cases h; exact .nil
  | c :: cs, _, h => by cases h with | cons a b => exact .cons a (CVL.toRd b)
/-- A cell's word is a slot's. -/
theorem CVk.tok {E : Env} {m : Id → Mem} {ρ : Id → Option (Nat × Nat)} {w : World} {x : Value} {c : CV} (h : CVk (L E m ρ w) m ρ w x c) : TOk E m ρ w x c.tv := by
  cases c <;> exact h
theorem CV.tv_refs {c : CV} {o : Id} (h : c.tv.refs o) : c.refs o := by
  cases c <;> exact h

theorem loadC_det {T : Ty} {cs : List CV} {K : TV → Prop} (h : loadC T cs K) : ∃ x, K x ∧ (T.kind.isAgg = false → cs.length = 1) ∧ (∀ o, x.refs o → ∃ c ∈ cs, c.refs o) ∧
    ∀ (E : Env) (m : Id → Mem) (ρ : Id → Option (Nat × Nat)) (w : World) (xs : List Value), CVL (L E m ρ w) m ρ w xs cs → TOk E m ρ w (pack T.kind.isAgg xs) x := by
  unfold loadC at h
  split at h
  · rename_i hq
    obtain ⟨l, e, hk⟩ := sOnly_ok h
    refine ⟨.d (.agg l), hk, fun e => by rw [hq] at e; exact absurd e (by decide), fun _ h => h.elim, fun E m ρ w xs hr => ?_⟩
    rw [e] at hr
    exact ⟨xs, by simp [pack, hq], hr.toRd⟩
  · rename_i hq
    split at h
    · rename_i c
      rw [CV.tvW_iff] at h
      refine ⟨c.tv, h, fun _ => rfl, fun o ho => ⟨c, by simp, CV.tv_refs ho⟩, fun E m ρ w xs hr => ?_⟩
      cases hr with
      | cons h1 t =>
        cases t
        have := CVk.tok h1
        simpa [pack, hq] using this
    · exact h.elim

theorem mem_drop_take {α : Type} {l : List α} {a b : Nat} {c : α} (h : c ∈ (l.drop a).take b) : c ∈ l := List.mem_of_mem_drop (List.mem_of_mem_take h)

theorem load_pure {P : Program} {o : Oper} {t : Nat → TV} {m : Id → Mem} {TT : Tab} (hT : TabOk P TT) {ty : TypeId} {T : Ty} (hty : TT ty = some T) {x : Operand} (ho : o.op = .load ty x) {K : Kont}
    (h : loadW T m (opd t x) K) : ∃ y rd, K y [] rd ∧ ∀ E ρ t' m' a w, E.P = P → Agree o t t' → Same rd m m' → Rel E ρ t' m' a w →
      ∃ v, (execOp a.eval o).run P w = .ok (.value v) w ∧ TOk E m' ρ w v y ∧ ∀ b, y.refs b → m' b ≠ .none := by
  have hTy := hT ty T hty
  have hmem : x ∈ o.op.operands.toList := by rw [ho]; simp [Op.operands]
  have hexec : ∀ (a : Act) (w : World) (b off : Nat) (xs : List Value), a.eval x = .pointer (some ⟨b, off, none⟩) → xs.length = T.size → (T.kind.isAgg = false → xs.length = 1) →
      (∀ j v, xs[j]? = some v → w.cell? ⟨b, off + j, none⟩ = some v) → (execOp a.eval o).run P w = .ok (.value (pack T.kind.isAgg xs)) w := by
    intro a w b off xs hx hl h1 hc
    have hr := run_loadVar' hTy w b off xs hl h1 hc
    simp [execOp, ho, hx, Instr.loadAt, Instr.sureAddr, hr]
  unfold loadW at h
  split at h
  · rename_i n cell hx
    replace h := bif_and h; obtain ⟨hle, h⟩ := h
    have hle' : T.size ≤ n := Nat.le_of_ble_eq_true hle
    obtain ⟨y, hK, h1, hd⟩ := dataW_det h
    refine ⟨_, _, hK, fun E ρ t' m' a w hP ha _ hR => ?_⟩
    have hv := (opd_ok hR x).1
    rw [opd_agree ha hmem, hx] at hv
    obtain ⟨b, off, xs, heq, hS, hc, hr⟩ := Rd.inv_ad hv
    refine ⟨_, hexec a w b off ((List.range T.size).map xs) heq (by simp) (fun e => by have := h1 e; rw [length_cells] at this; simpa using this) (fun j v hv => ?_), hd _ w _ (RdL_cells _ _ _ (fun j hj => hr j (by omega))), fun _ h => h.elim⟩
    simp only [List.getElem?_map] at hv
    by_cases hj : j < T.size
    · simp [hj] at hv; rw [← hv]; exact hc j (by omega)
    · simp [hj] at hv
  · rename_i b off hx
    replace h := lookW_iff h
    split at h
    · rename_i cs hb
      replace h := bif_and h; obtain ⟨hle, h⟩ := h
      have hle' : off + T.size ≤ cs.length := Nat.le_of_ble_eq_true hle
      obtain ⟨y, hK, h1, hd⟩ := dataW_det h
      refine ⟨_, _, hK, fun E ρ t' m' a w hP ha hm hR => ?_⟩
      have hv := (opd_ok hR x).1
      have hb' : m' b = .box cs := by rw [hm.at b]; exact hb
      rw [opd_agree ha hmem, hx] at hv
      simp only [TOk, PtrOk, hb'] at hv
      obtain ⟨bl, c, hρ, hval⟩ := hv
      have hmo := hR.mem b
      rw [hb'] at hmo
      obtain ⟨bl', c', xs, e, hρ', hblk, hrd⟩ := hmo
      rw [hρ] at hρ'
      obtain ⟨rfl, rfl⟩ : bl = bl' ∧ c = c' := by simpa using hρ'
      have hrd' := (hrd.drop off).take T.size
      have hlen : ((xs.drop off).take T.size).length = T.size := by have := hrd.length; simp; omega
      refine ⟨_, hexec a w bl off ((xs.drop off).take T.size) hval hlen (fun e => by have := h1 e; rw [← hrd'.length] at this; exact this) (fun j v hv => ?_), hd _ w _ hrd', fun _ h => h.elim⟩
      refine cell_of_block hblk j ?_
      rw [List.getElem?_take, List.getElem?_drop] at hv
      split at hv
      · exact hv
      · simp at hv
    · rename_i cs hb
      replace h := bif_and h; obtain ⟨hle, h⟩ := h
      have hle' : off + T.size ≤ cs.length := Nat.le_of_ble_eq_true hle
      obtain ⟨y, hK, h1, hd⟩ := dataW_det h
      refine ⟨_, _, hK, fun E ρ t' m' a w hP ha hm hR => ?_⟩
      have hv := (opd_ok hR x).1
      have hb' : m' b = .ro cs := by rw [hm.at b]; exact hb
      rw [opd_agree ha hmem, hx] at hv
      simp only [TOk, PtrOk, hb'] at hv
      obtain ⟨bl, c, hρ, hval⟩ := hv
      have hmo := hR.mem b
      rw [hb'] at hmo
      obtain ⟨bl', c', xs, e, hρ', _, hblk, hrd⟩ := hmo
      rw [hρ] at hρ'
      obtain ⟨rfl, rfl⟩ : bl = bl' ∧ c = c' := by simpa using hρ'
      have hrd' := (hrd.drop off).take T.size
      have hlen : ((xs.drop off).take T.size).length = T.size := by have := hrd.length; simp; omega
      refine ⟨_, hexec a w bl off ((xs.drop off).take T.size) hval hlen (fun e => by have := h1 e; rw [← hrd'.length] at this; exact this) (fun j v hv => ?_), hd _ w _ hrd', fun _ h => h.elim⟩
      refine cell_of_block hblk j ?_
      rw [List.getElem?_take, List.getElem?_drop] at hv
      split at hv
      · exact hv
      · simp at hv
    · rename_i cs hb
      replace h := bif_and h; obtain ⟨hle, h⟩ := h
      have hle' : off + T.size ≤ cs.length := Nat.le_of_ble_eq_true hle
      obtain ⟨y, hK, h1, hrf, hd⟩ := loadC_det h
      refine ⟨_, _, hK, fun E ρ t' m' a w hP ha hm hR => ?_⟩
      have hv := (opd_ok hR x).1
      have hb' : m' b = .obj cs := by rw [hm.at b]; exact hb
      rw [opd_agree ha hmem, hx] at hv
      simp only [TOk, PtrOk, hb'] at hv
      obtain ⟨bl, c, hρ, hval⟩ := hv
      have hmo := hR.mem b
      rw [hb'] at hmo
      obtain ⟨bl', c', xs, e, hρ', hblk, hrd⟩ := hmo
      rw [hρ] at hρ'
      obtain ⟨rfl, rfl⟩ : bl = bl' ∧ c = c' := by simpa using hρ'
      have hrd' := (hrd.drop off).take T.size
      have hlen : ((xs.drop off).take T.size).length = T.size := by have := hrd.length; simp; omega
      refine ⟨_, hexec a w bl off ((xs.drop off).take T.size) hval hlen (fun e => by have := h1 e; rw [← hrd'.length] at this; exact this) (fun j v hv => ?_), hd E m' ρ w _ hrd', fun o ho => ?_⟩
      · refine cell_of_block hblk j ?_
        rw [List.getElem?_take, List.getElem?_drop] at hv
        split at hv
        · exact hv
        · simp at hv
      · obtain ⟨c, hc, hr⟩ := hrf o ho
        refine hR.cleanM b o ?_
        rw [hb']
        exact ⟨c, mem_drop_take hc, hr⟩
    · exact h.elim
  · rename_i b g i off hx
    replace h := lookW_iff h
    split at h
    · rename_i g' n k e get hb
      replace h := bif_and h; obtain ⟨hle, h⟩ := h
      simp only [Bool.and_eq_true] at hle
      obtain rfl : g = g' := Nat.eq_of_beq_eq_true hle.1
      have hle' : off + T.size ≤ k := Nat.le_of_ble_eq_true hle.2
      obtain ⟨y, hK, h1, hd⟩ := dataW_det h
      refine ⟨_, _, hK, fun E ρ t' m' a w hP ha hm hR => ?_⟩
      have hv := (opd_ok hR x).1
      have hb' : m' b = .bld g n k e get := by rw [hm.at b]; exact hb
      rw [opd_agree ha hmem, hx] at hv
      simp only [TOk, PtrOk, hb'] at hv
      obtain ⟨hin, bl, c, hρ, hval⟩ := hv.2 trivial
      have hmo := hR.mem b
      rw [hb'] at hmo
      rcases hmo with ⟨hn, _⟩ | ⟨bl', c', arr, hρ', hblk, hsz, hnc, hcm, hel⟩
      · rw [hρ] at hn; simp at hn
      · rw [hρ] at hρ'
        obtain ⟨rfl, rfl⟩ : bl = bl' ∧ c = c' := by simpa using hρ'
        have hsel : ∀ j, j < T.size → ∃ v, arr[i * k + (off + j)]? = some v ∧ Rd (L E m' ρ w) w v (get i (off + j)) := fun j hj => hel i hin (off + j) (by omega)
        have hch : ∃ xs : Nat → Value, ∀ j, j < T.size → arr[i * k + (off + j)]? = some (xs j) ∧ Rd (L E m' ρ w) w (xs j) (get i (off + j)) := by
          refine ⟨fun j => (arr[i * k + (off + j)]?).getD Go.undef, fun j hj => ?_⟩
          obtain ⟨v, h1, h2⟩ := hsel j hj
          simp only [h1, Option.getD_some]
          exact ⟨trivial, h2⟩
        obtain ⟨xs, hxs⟩ := hch
        refine ⟨_, hexec a w bl (i * k + off) ((List.range T.size).map xs) hval (by simp) (fun e => by have := h1 e; rw [length_cells] at this; simpa using this) (fun j v hv => ?_), hd _ w _ (RdL_cells _ _ _ (fun j hj => (hxs j hj).2)), fun _ h => h.elim⟩
        simp only [List.getElem?_map] at hv
        by_cases hj : j < T.size
        · simp [hj] at hv
          have := (hxs j hj).1
          rw [← Nat.add_assoc] at this
          simp [World.cell?, hblk, this, hv]
        · simp [hj] at hv
    · rename_i g' n k e get hb
      replace h := bif_and h; obtain ⟨hle, h⟩ := h
      simp only [Bool.and_eq_true, Bool.not_eq_true'] at hle
      obtain rfl : g = g' := Nat.eq_of_beq_eq_true hle.1.1.1
      have hk' : off < k := lt_of_blt hle.1.1.2
      have hs1 : T.size = 1 := Nat.eq_of_beq_eq_true hle.1.2
      have hag := hle.2
      have h := h.elim
      rw [CV.tvW_iff] at h
      refine ⟨_, _, h, fun E ρ t' m' a w hP ha hm hR => ?_⟩
      have hv := (opd_ok hR x).1
      have hb' : m' b = .bldc g n k e get := by rw [hm.at b]; exact hb
      rw [opd_agree ha hmem, hx] at hv
      simp only [TOk, hb'] at hv
      obtain ⟨hin, bl, c, hρ, hval⟩ := hv.2 trivial
      have hmo := hR.mem b
      rw [hb'] at hmo
      rcases hmo with ⟨hn, _⟩ | ⟨bl', c', arr, hρ', hblk, hsz, hnc, hcm, hel⟩
      · rw [hρ] at hn; simp at hn
      · rw [hρ] at hρ'
        obtain ⟨rfl, rfl⟩ : bl = bl' ∧ c = c' := by simpa using hρ'
        obtain ⟨v, hv1, hv2⟩ := hel i hin off hk'
        refine ⟨_, hexec a w bl (i * k + off) [v] hval (by simp [hs1]) (fun _ => rfl) (fun j u hu => ?_), ?_, fun o ho => ?_⟩
        · cases j with
          | zero => simp at hu; subst hu; simp [World.cell?, hblk, hv1]
          | succ j => simp at hu
        · have := CVk.tok hv2
          simpa [pack, hag] using this
        · refine hR.cleanM b o ?_
          rw [hb']
          exact ⟨i, off, hin, hk', CV.tv_refs ho⟩
    · exact h.elim
  · exact h.elim
theorem stepOk_load {P : Program} {o : Oper} {t : Nat → TV} {m : Id → Mem} {TT : Tab} (hT : TabOk P TT) {ty : TypeId} {T : Ty} (hty : TT ty = some T) {x : Operand} (ho : o.op = .load ty x) {K : Kont}
    (h : loadW T m (opd t x) K) : ∃ y mo rd, K y mo rd ∧ StepOk P o t m y mo rd := by
  obtain ⟨y, rd, hK, hp⟩ := load_pure hT hty ho h
  exact ⟨y, [], rd, hK, stepOk_pure hp⟩
end Go.Vm
namespace Go.Vm
set_option linter.unusedVariables false
set_option linter.unusedSimpArgs false
open Go Go.RowKit

theorem heap_alloc_new' (w : World) (o : Obj) : (w.alloc o).heap[w.heap.size]? = some o := by
  show (w.heap.push o)[w.heap.size]? = some o
  simp
theorem heap_alloc_old' (w : World) (o : Obj) (k : Nat) (h : k < w.heap.size) : (w.alloc o).heap[k]? = w.heap[k]? := Below.heap_alloc w o k h
theorem below_alloc (w : World) (o : Obj) : Below w.heap.size w (w.alloc o) := (Below.refl _ w).alloc (Nat.le_refl _) o

theorem L_alloc {E : Env} {ρ : Id → Option (Nat × Nat)} {t : Nat → TV} {m : Id → Mem} {a : Act} {w w' : World} (h : Rel E ρ t m a w) (o : Id) (nm : Mem) (c : Nat) (hm : ¬ (m o).live)
    (hb : Below w.heap.size w w') (hgt : w.heap.size < w'.heap.size) : ∀ b, L E m ρ w b → L E (upd m o nm) (upd ρ o (some (w.heap.size, c))) w' b ∧ w'.heap[b]? = w.heap[b]? := by
  intro b hl
  have hlt := L_lt h hl
  refine ⟨⟨hl.1.imp id (fun h1 => h1.imp id (fun h1 => ⟨h1.1, by omega⟩)), fun o' c' l r => ?_⟩, hb.block b hlt⟩
  by_cases e : o' = o
  · subst e; rw [upd_same] at r; simp at r; omega
  · rw [upd_ne _ _ _ e] at l r; exact hl.2 o' c' l r

/-- A new variable of the call's own. -/
theorem Rel.allocObj {E : Env} {ρ : Id → Option (Nat × Nat)} {t : Nat → TV} {m : Id → Mem} {a : Act} {w : World} (h : Rel E ρ t m a w) (o : Id) (hm : m o = .none) (hm0 : E.m0 o = .none) (xs : List Value) (nm : Mem) (e : TypeId)
    (hnm : (∃ cs, nm = .box cs ∧ RdL (L E m ρ w) w xs cs) ∨ (∃ cs, nm = .obj cs ∧ CVL (L E m ρ w) m ρ w xs cs ∧ ∀ c ∈ cs, ∀ o', c.refs o' → m o' ≠ .none)) : Rel E (upd ρ o (some (w.heap.size, 0))) t (upd m o nm) a (w.alloc (.cells xs.toArray e)) := by
  have hnl : ¬ (m o).live := by rw [hm]; exact id
  have hL := L_alloc h o nm 0 hnl (below_alloc w (.cells xs.toArray e)) (by simp)
  have hcar : ∀ o', m o' ≠ .none → Carry m (upd m o nm) ρ (upd ρ o (some (w.heap.size, 0))) o' := fun o' hn => by
    have e : o' ≠ o := fun e => hn (e ▸ hm)
    exact Carry.same (upd_ne _ _ _ e) (upd_ne _ _ _ e)
  refine h.one o nm _ (Bx.of (below_alloc w _) h.below.size) hL ?_ ?_ ?_ ?_ (fun _ => hm0) ?_ ?_ (fun hn => absurd hm hn) (fun _ _ _ _ hn => absurd hm hn) (fun _ _ _ _ hn => absurd hm hn)
  · intro o' b c _ l r
    exact heap_alloc_old' w _ b (h.lo o' b c l r).2
  · intro _ b c hr
    simp only [Option.some.injEq, Prod.mk.injEq] at hr
    obtain ⟨rfl, rfl⟩ := hr
    refine ⟨⟨.inr h.below.size, by simp⟩, fun o' c' _ l r => ?_⟩
    exact absurd (h.lo o' _ c' l r).2 (Nat.lt_irrefl _)
  · rcases hnm with ⟨cs, rfl, _⟩ | ⟨cs, rfl, _⟩ <;> simp
  · intro o' hr
    rcases hnm with ⟨cs, rfl, _⟩ | ⟨cs, rfl, _, hcl⟩
    · exact hr.elim
    · obtain ⟨c, hc, hr⟩ := hr
      exact .inr (hcl c hc o' hr)
  · rcases hnm with ⟨cs, rfl, _⟩ | ⟨cs, rfl, _⟩ <;> simp [Mem.gen]
  · rcases hnm with ⟨cs, rfl, hx⟩ | ⟨cs, rfl, hx, hcl⟩
    · exact ⟨w.heap.size, 0, xs, e, upd_same _ _ _, heap_alloc_new' w _, hx.mono hL⟩
    · exact ⟨w.heap.size, 0, xs, e, upd_same _ _ _, heap_alloc_new' w _, hx.mono hL (fun o' ⟨c, hc, hr⟩ => hcar o' (hcl c hc o' hr))⟩

theorem setCells_eq {α : Type} : ∀ (ys xs : List α) (i : Nat), i + ys.length ≤ xs.length → setCells xs i ys = xs.take i ++ ys ++ xs.drop (i + ys.length)
  | [], xs, i, _ => by simp [setCells]
  | y :: ys, xs, i, h => by
    simp only [List.length_cons] at h
    rw [setCells, setCells_eq ys (xs.set i y) (i + 1) (by simp; omega)]
    apply List.ext_getElem?
    intro k
    simp only [List.length_cons, List.getElem?_append, List.length_take, List.length_set, List.length_append, List.getElem?_take, List.getElem?_drop, List.getElem?_set]
    have e1 : min (i + 1) xs.length = i + 1 := by omega
    have e2 : min i xs.length = i := by omega
    rw [e1, e2]
    by_cases h1 : k < i
    · simp [h1, show k < i + 1 by omega, show k < i + 1 + ys.length by omega, show k < i + (ys.length + 1) by omega, show ¬ i = k by omega]
    · by_cases h2 : k = i
      · subst h2
        simp [show k < k + 1 + ys.length by omega, show k < xs.length by omega]
      · by_cases h3 : k < i + 1 + ys.length
        · simp [h1, h3, show ¬ k < i + 1 by omega, show k < i + (ys.length + 1) by omega, show k - i = (k - (i + 1)) + 1 by omega]
        · simp [h3, show ¬ k < i + (ys.length + 1) by omega, show ¬ i = i + 1 + ys.length + (k - (i + 1 + ys.length)) by omega]
          congr 1
          omega

theorem getElem?_setCells {α : Type} (ys xs : List α) (i : Nat) (h : i + ys.length ≤ xs.length) (p : Nat) : (setCells xs i ys)[p]? = if i ≤ p ∧ p < i + ys.length then ys[p - i]? else xs[p]? := by
  rw [setCells_eq ys xs i h]
  simp only [List.append_assoc, List.getElem?_append, List.length_take, List.getElem?_take, List.getElem?_drop]
  rw [show min i xs.length = i by omega]
  by_cases h1 : p < i
  · simp [h1, show ¬ i ≤ p by omega]
  · by_cases h2 : p < i + ys.length
    · simp [h1, h2, show i ≤ p by omega, show p - i < ys.length by omega]
    · simp [h1, h2, show ¬ p - i < ys.length by omega]
      congr 1
      omega

theorem cellsW_det {x : TV} {K : List SV → Prop} (h : x.cellsW K) : ∃ l, K l ∧ ∀ (E : Env) (m : Id → Mem) (ρ : Id → Option (Nat × Nat)) (w : World) (v : Value), TOk E m ρ w v x → ∃ us : List Value, v.cells = us.toArray ∧ RdL (L E m ρ w) w us l := by
  unfold TV.cellsW at h
  split at h
  · rename_i c
    refine ⟨_, h, fun E m ρ w v hv => ⟨[v], ?_, .cons hv .nil⟩⟩
    have h1 := Rd.oneCell (show Rd _ _ v c from hv)
    cases v <;> first | rfl | (simp [Value.oneCell'] at h1)
  · rename_i cs
    refine ⟨_, h, fun E m ρ w v hv => ?_⟩
    obtain ⟨xs, rfl, hr⟩ := hv
    exact ⟨xs, rfl, hr⟩
  · exact h.elim

theorem putM_one (m : Id → Mem) (o : Id) (x : Mem) : putM m [(o, x)] = upd m o x := rfl

/-- The step leaves a world in which one object is new or turned. -/
theorem stepOk_mem {P : Program} {o : Oper} {t : Nat → TV} {m : Id → Mem} {x : TV} {b : Id} {nm : Mem} {rd : List Nat}
    (h : ∀ E ρ t' m' a w, E.P = P → Agree o t t' → Same rd m m' → (∀ k, o.dst = some k → k < E.N) → Rel E ρ t' m' a w →
      ∃ n v w' ρ', (execOp a.eval o).run P w = .ok n w' ∧ (n = .value v ∨ (n = .skip ∧ v = Go.undef)) ∧ Rel E ρ' t' (upd m' b nm) a w' ∧ TOk E (upd m' b nm) ρ' w' v x ∧ ∀ b', x.refs b' → upd m' b nm b' ≠ .none) :
    StepOk P o t m x [(b, nm)] rd := by
  intro E ρ t' m' a w hP ha hm hd hR K Q hK
  obtain ⟨n, v, w', ρ', h1, h2, h3, h4, h5⟩ := h E ρ t' m' a w hP ha hm hd hR
  unfold Oper.wp
  rw [h1]
  rcases h2 with rfl | ⟨rfl, rfl⟩
  · exact hK ρ' _ w' (h3.put hd h4 h5)
  · exact hK ρ' _ w' (h3.put hd h4 h5)

theorem stepOk_alloc {P : Program} {o : Oper} {t : Nat → TV} {m : Id → Mem} {TT : Tab} (hT : TabOk P TT) {e : TypeId} {T : Ty} (hty : TT e = some T) (ho : o.op = .alloc e) {d : Nat} (hdd : o.dst = some d) (hm : m (.n d) = .none) :
    StepOk P o t m (.ptr d 0) [(.n d, .box T.zero)] [d] := by
  obtain ⟨i, z, h1, h2, h3, h4, h5, h6, h7⟩ := (hT e T hty).info
  refine stepOk_mem fun E ρ t' m' a w hP ha hm' hd hR => ?_
  have hmd : m' (.n d) = .none := by rw [hm'.at (.n d) (by simp [Id.key])]; exact hm
  have hz : RdL (L E m' ρ w) w z.cells.toList T.zero := by
    rw [← h5]
    have h6' : ∀ x ∈ z.cells.toList, x.oneCell' = true := fun x hx => List.all_eq_true.1 h6 x hx
    revert h6'
    generalize z.cells.toList = l
    intro h6'
    induction l with
    | nil => exact .nil
    | cons x l ih => exact .cons (.v (h6' x (by simp))) (ih (fun y hy => h6' y (by simp [hy])))
  have hR' := hR.allocObj (.n d) hmd (E.hm0 d (Nat.le_of_lt (hd d hdd))) z.cells.toList (.box T.zero) e (.inl ⟨_, rfl, hz⟩)
  refine ⟨_, .pointer (some ⟨w.heap.size, 0, none⟩), _, _, ?_, .inl rfl, hR', ?_, ?_⟩
  · simp [execOp, ho, Instr.alloc, zeroValue, typeInfo, h1, h4, newVar, newRow]
  · simp only [TOk, PtrOk, upd_same]; exact ⟨_, _, rfl, rfl⟩
  · intro b' hb'; cases hb'; rw [upd_same]; simp

theorem stepOk_box {P : Program} {o : Oper} {t : Nat → TV} {m : Id → Mem} {e : TypeId} {x : Operand} (ho : o.op = .box e x) {d : Nat} (hdd : o.dst = some d) (hm : m (.n d) = .none) {K : List SV → Prop}
    (h : (opd t x).cellsW K) : ∃ l, K l ∧ StepOk P o t m (.ptr d 0) [(.n d, .box l)] [d] := by
  obtain ⟨l, hK, hl⟩ := cellsW_det h
  refine ⟨l, hK, stepOk_mem fun E ρ t' m' a w hP ha hm' hd hR => ?_⟩
  have hmd : m' (.n d) = .none := by rw [hm'.at (.n d) (by simp [Id.key])]; exact hm
  have hv := (opd_ok hR x).1
  rw [opd_agree ha (by rw [ho]; simp [Op.operands])] at hv
  obtain ⟨us, h1, h2⟩ := hl E m' ρ w _ hv
  have hR' := hR.allocObj (.n d) hmd (E.hm0 d (Nat.le_of_lt (hd d hdd))) us (.box l) e (.inl ⟨_, rfl, h2⟩)
  refine ⟨_, .pointer (some ⟨w.heap.size, 0, none⟩), _, _, ?_, .inl rfl, hR', ?_, ?_⟩
  · simp [execOp, ho, Instr.box, newVar, newRow, h1]
  · simp only [TOk, PtrOk, upd_same]; exact ⟨_, _, rfl, rfl⟩
  · intro b' hb'; cases hb'; rw [upd_same]; simp

theorem cells_one {x : Value} (h : x.oneCell' = true) : x.cells = #[x] := by
  cases x <;> first | rfl | (simp [Value.oneCell'] at h)

theorem stepOk_boxR {P : Program} {o : Oper} {t : Nat → TV} {m : Id → Mem} {e : TypeId} {x : Operand} (ho : o.op = .box e x) {d : Nat} (hdd : o.dst = some d) (hm : m (.n d) = .none) {c : CV} (hx : opd t x = c.tv) :
    StepOk P o t m (.ptr d 0) [(.n d, .obj [c])] [d] := by
  refine stepOk_mem fun E ρ t' m' a w hP ha hm' hd hR => ?_
  have hmd : m' (.n d) = .none := by rw [hm'.at (.n d) (by simp [Id.key])]; exact hm
  have hv := opd_ok hR x
  rw [opd_agree ha (by rw [ho]; simp [Op.operands]), hx] at hv
  have hck : CVk (L E m' ρ w) m' ρ w (a.eval x) c := by
    have := hv.1
    cases c <;> exact this
  have hrf : ∀ o', c.refs o' → m' o' ≠ .none := fun o' hr => hv.2 o' (by cases c <;> exact hr)
  have h1 := cells_one hck.oneCell
  have hR' := hR.allocObj (.n d) hmd (E.hm0 d (Nat.le_of_lt (hd d hdd))) [a.eval x] (.obj [c]) e (.inr ⟨_, rfl, .cons hck .nil, fun c' hc' => by
    rcases List.mem_cons.1 hc' with rfl | hc'
    · exact hrf
    · simp at hc'⟩)
  refine ⟨_, .pointer (some ⟨w.heap.size, 0, none⟩), _, _, ?_, .inl rfl, hR', ?_, ?_⟩
  · simp [execOp, ho, Instr.box, newVar, newRow, h1]
  · simp only [TOk, PtrOk, upd_same]; exact ⟨_, _, rfl, rfl⟩
  · intro b' hb'; cases hb'; rw [upd_same]; simp

/-! objects by their shape alone -/
def _root_.Go.Vm.Mem.boxy : Mem → Bool
  | .box _ => true
  | .ro _ => true
  | .obj _ => true
  | _ => false
def _root_.Go.Vm.Mem.bldy : Mem → Option (Nat × Nat × Nat)
  | .bld g n k _ _ => some (g, n, k)
  | .bldc g n k _ _ => some (g, n, k)
  | _ => none
theorem ptrOk_boxy {m : Id → Mem} {ρ : Id → Option (Nat × Nat)} {x : Value} {o : Id} {p : Nat} (h : (m o).boxy = true) : PtrOk m ρ x o p ↔ ∃ b c, ρ o = some (b, c) ∧ x = .pointer (some ⟨b, p, none⟩) := by
  unfold PtrOk
  revert h
  cases m o <;> intro h <;> first | exact Iff.rfl | simp [Mem.boxy] at h
theorem ptrOk_bldy {m : Id → Mem} {ρ : Id → Option (Nat × Nat)} {x : Value} {o : Id} {p : Nat} {q : Nat × Nat × Nat} (h : (m o).bldy = some q) : ¬ PtrOk m ρ x o p := by
  unfold PtrOk
  revert h
  cases m o <;> intro h <;> first | exact id | simp [Mem.bldy] at h
theorem hdlOk_bldy {m : Id → Mem} {ρ : Id → Option (Nat × Nat)} {x : Value} {o : Id} {g g' n k : Nat} (h : (m o).bldy = some (g', n, k)) : HdlOk m ρ x o g ↔ x.oneCell' = true ∧ g ≤ g' ∧ (g = g' → HdlAt ρ x o n) := by
  unfold HdlOk
  revert h
  cases m o <;> intro h <;> simp [Mem.bldy] at h <;> (obtain ⟨rfl, rfl, rfl⟩ := h; exact Iff.rfl)
theorem hdlOk_boxy {m : Id → Mem} {ρ : Id → Option (Nat × Nat)} {x : Value} {o : Id} {g : Nat} (h : (m o).boxy = true) : HdlOk m ρ x o g ↔ x.oneCell' = true := by
  unfold HdlOk
  revert h
  cases m o <;> intro h <;> first | exact ⟨fun h => h.1, fun h => ⟨h, trivial⟩⟩ | simp [Mem.boxy] at h
theorem subOk_bldy {m : Id → Mem} {ρ : Id → Option (Nat × Nat)} {x : Value} {o : Id} {g g' lo n n' k : Nat} (h : (m o).bldy = some (g', n', k)) : SubOk m ρ x o g lo n ↔ x.oneCell' = true ∧ g ≤ g' ∧ (g = g' → lo + n ≤ n' ∧ SubAt ρ x o k lo n) := by
  unfold SubOk
  revert h
  cases m o <;> intro h <;> simp [Mem.bldy] at h <;> (obtain ⟨rfl, rfl, rfl⟩ := h; exact Iff.rfl)
theorem subOk_boxy {m : Id → Mem} {ρ : Id → Option (Nat × Nat)} {x : Value} {o : Id} {g lo n : Nat} (h : (m o).boxy = true) : SubOk m ρ x o g lo n ↔ x.oneCell' = true := by
  unfold SubOk
  revert h
  cases m o <;> intro h <;> first | exact ⟨fun h => h.1, fun h => ⟨h, trivial⟩⟩ | simp [Mem.boxy] at h
theorem epOk_bldy {E : Env} {m : Id → Mem} {ρ : Id → Option (Nat × Nat)} {w : World} {x : Value} {o : Id} {g g' i off n k : Nat} (h : (m o).bldy = some (g', n, k)) :
    TOk E m ρ w x (.ep o g i off) ↔ g ≤ g' ∧ (g = g' → i < n ∧ ∃ b c, ρ o = some (b, c) ∧ x = .pointer (some ⟨b, i * k + off, none⟩)) := by
  simp only [TOk]
  revert h
  cases m o <;> intro h <;> simp [Mem.bldy] at h <;> (obtain ⟨rfl, rfl, rfl⟩ := h; exact Iff.rfl)
theorem epOk_boxy {E : Env} {m : Id → Mem} {ρ : Id → Option (Nat × Nat)} {w : World} {x : Value} {o : Id} {g i off : Nat} (h : (m o).boxy = true) : TOk E m ρ w x (.ep o g i off) := by
  simp only [TOk]
  revert h
  cases m o <;> intro h <;> first | trivial | simp [Mem.boxy] at h
theorem gen_bldy {x : Mem} {g n k : Nat} (h : x.bldy = some (g, n, k)) : x.gen = g := by
  revert h
  cases x <;> intro h <;> simp [Mem.bldy] at h <;> (obtain ⟨rfl, rfl, rfl⟩ := h; rfl)
theorem gen_boxy {x : Mem} (h : x.boxy = true) : x.gen = 0 := by
  revert h
  cases x <;> intro h <;> first | rfl | simp [Mem.boxy] at h
theorem mem_bldy {E : Env} {m : Id → Mem} {ρ : Id → Option (Nat × Nat)} {w : World} {o : Id} {x : Mem} {g n k : Nat} (h : x.bldy = some (g, n, k)) (hm : MemOk E m ρ w o x) :
    (ρ o = none ∧ n = 0) ∨ ∃ b cap arr e, ρ o = some (b, cap) ∧ w.heap[b]? = some (.cells arr e (0, 0)) ∧ arr.size = cap * k ∧ n ≤ cap ∧ cap ≤ maxLen := by
  revert h hm
  cases x <;> intro h hm <;> simp [Mem.bldy] at h
  all_goals
    obtain ⟨rfl, rfl, rfl⟩ := h
    rcases hm with hm | ⟨b, cap, arr, h1, h2, h3, h4, h5, _⟩
    · exact .inl hm
    · exact .inr ⟨b, cap, arr, _, h1, h2, h3, h4, h5⟩
theorem live_bldy {x : Mem} {q : Nat × Nat × Nat} (h : x.bldy = some q) : x.live ∧ x ≠ .none := by
  revert h
  cases x <;> intro h <;> simp [Mem.bldy] at h <;> exact ⟨trivial, by simp⟩

/-- Two shapes under which all that refers to an object reads on. -/
inductive Shape : Mem → Mem → Prop where
  | boxy {x y : Mem} (h : x.boxy = true) (h' : y.boxy = true) : Shape x y
  | bldy {x y : Mem} {q : Nat × Nat × Nat} (h : x.bldy = some q) (h' : y.bldy = some q) : Shape x y
theorem Shape.ne {x y : Mem} (h : Shape x y) : y ≠ .none := by
  cases h with
  | boxy _ h' => intro e; rw [e] at h'; simp [Mem.boxy] at h'
  | bldy _ h' => intro e; rw [e] at h'; simp [Mem.bldy] at h'
theorem Shape.gen {x y : Mem} (h : Shape x y) : y.gen = x.gen := by
  cases h with
  | boxy h h' => rw [gen_boxy h, gen_boxy h']
  | @bldy q h h' => obtain ⟨g, n, k⟩ := q; rw [gen_bldy h, gen_bldy h']
theorem Shape.carry {m m' : Id → Mem} {ρ ρ' : Id → Option (Nat × Nat)} {o : Id} (h : Shape (m o) (m' o)) (hρ : ρ' o = ρ o) : Carry m m' ρ ρ' o := by
  generalize hx : m o = x at h
  generalize hy : m' o = y at h
  cases h with
  | boxy h h' =>
    subst hx hy
    refine ⟨fun x p => ?_, fun x g => ?_⟩
    · rw [ptrOk_boxy h, ptrOk_boxy h', hρ]; exact id
    · rw [hdlOk_boxy h, hdlOk_boxy h']; exact id
  | @bldy q h h' =>
    subst hx hy
    obtain ⟨g', n, k⟩ := q
    refine ⟨fun x p hp => absurd hp (ptrOk_bldy h), fun x g => ?_⟩
    rw [hdlOk_bldy h, hdlOk_bldy h']
    simp only [HdlAt, hρ]; exact id
theorem Shape.sub {m m' : Id → Mem} {ρ ρ' : Id → Option (Nat × Nat)} {o : Id} (h : Shape (m o) (m' o)) (hρ : ρ' o = ρ o) (x : Value) (g lo n : Nat) : SubOk m ρ x o g lo n → SubOk m' ρ' x o g lo n := by
  generalize hx : m o = x at h
  generalize hy : m' o = y at h
  cases h with
  | boxy h h' => subst hx hy; rw [subOk_boxy h, subOk_boxy h']; exact id
  | @bldy q h h' =>
    subst hx hy
    obtain ⟨g', n', k⟩ := q
    rw [subOk_bldy h, subOk_bldy h']
    simp only [SubAt, hρ]; exact id
theorem Shape.ep {E : Env} {m m' : Id → Mem} {ρ ρ' : Id → Option (Nat × Nat)} {w w' : World} {o : Id} (h : Shape (m o) (m' o)) (hρ : ρ' o = ρ o) (x : Value) (g i off : Nat) : TOk E m ρ w x (.ep o g i off) → TOk E m' ρ' w' x (.ep o g i off) := by
  generalize hx : m o = x at h
  generalize hy : m' o = y at h
  cases h with
  | boxy h h' => subst hx hy; intro _; exact epOk_boxy h'
  | @bldy q h h' =>
    subst hx hy
    obtain ⟨g', n', k⟩ := q
    rw [epOk_bldy h, epOk_bldy h', hρ]; exact id

/-! a later generation: what refers to the earlier one says nothing more -/
section
variable {m m' : Id → Mem} {ρ ρ' : Id → Option (Nat × Nat)} {o : Id} {g n k g' n' k' : Nat}
theorem newer_carry (h : (m o).bldy = some (g, n, k)) (h' : (m' o).bldy = some (g', n', k')) (hg : g < g') : Carry m m' ρ ρ' o := by
  refine ⟨fun x p hp => absurd hp (ptrOk_bldy h), fun x q => ?_⟩
  rw [hdlOk_bldy h, hdlOk_bldy h']
  exact fun hh => ⟨hh.1, by omega, fun e => by omega⟩
theorem newer_sub (h : (m o).bldy = some (g, n, k)) (h' : (m' o).bldy = some (g', n', k')) (hg : g < g') (x : Value) (q lo c : Nat) : SubOk m ρ x o q lo c → SubOk m' ρ' x o q lo c := by
  rw [subOk_bldy h, subOk_bldy h']
  exact fun hh => ⟨hh.1, by omega, fun e => by omega⟩
theorem newer_ep {E : Env} {w w' : World} (h : (m o).bldy = some (g, n, k)) (h' : (m' o).bldy = some (g', n', k')) (hg : g < g') (x : Value) (q i off : Nat) : TOk E m ρ w x (.ep o q i off) → TOk E m' ρ' w' x (.ep o q i off) := by
  rw [epOk_bldy h, epOk_bldy h']
  exact fun hh => ⟨by omega, fun e => by omega⟩
end

/-- A slice that is being made begins a new generation where it lies. -/
theorem Rel.regen {E : Env} {ρ : Id → Option (Nat × Nat)} {t : Nat → TV} {m : Id → Mem} {a : Act} {w : World} (h : Rel E ρ t m a w) {o : Id} {g n k g' n' k' : Nat} (hb : (m o).bldy = some (g, n, k)) {nm : Mem} (hn : nm.bldy = some (g', n', k')) (hg : g < g') (h1 : g' ≠ 1)
    (hclean : ∀ o', nm.refs o' → m o' ≠ .none) (hmem : (∀ o', m o' ≠ .none → Carry m (upd m o nm) ρ ρ o') → (∀ b, L E m ρ w b → L E (upd m o nm) ρ w b) → MemOk E (upd m o nm) ρ w o nm) : Rel E ρ t (upd m o nm) a w := by
  have hρ : upd ρ o (ρ o) = ρ := upd_self ρ o
  have hn' : (upd m o nm o).bldy = some (g', n', k') := by rw [upd_same]; exact hn
  have hL : ∀ b, L E m ρ w b → L E (upd m o nm) ρ w b := fun b hl => ⟨hl.1, fun o' c' l r => by
      by_cases e : o' = o
      · subst e; exact hl.2 o' c' (live_bldy hb).1 r
      · rw [upd_ne _ _ _ e] at l; exact hl.2 o' c' l r⟩
  have hcar : ∀ o', m o' ≠ .none → Carry m (upd m o nm) ρ ρ o' := fun o' _ => by
    by_cases e : o' = o
    · subst e; exact newer_carry hb hn' hg
    · exact Carry.same (upd_ne _ _ _ e) rfl
  have := h.one o nm (ρ o) (Bx.refl _ _ _) (fun b hl => ⟨by rw [hρ]; exact hL b hl, rfl⟩) (fun _ _ _ _ _ _ => rfl)
    (fun _ b c r => ⟨h.lo o b c (live_bldy hb).1 r, fun o' c' ho l r' => ho (h.inj o' o b c' c l (live_bldy hb).1 r' r)⟩) (live_bldy hn).2 (fun o' hr => .inr (hclean o' hr))
    (fun e => absurd e (live_bldy hb).2) (fun e => by rw [gen_bldy hn] at e; exact absurd e h1) (by rw [hρ]; exact hmem hcar hL)
    (fun _ => by rw [hρ]; exact newer_carry hb hn' hg) (fun x q i off _ => by rw [hρ]; exact newer_ep hb hn' hg x q i off) (fun x q lo c _ => by rw [hρ]; exact newer_sub hb hn' hg x q lo c)
  rwa [hρ] at this

/-- A store into one of the call's own objects turns nothing else. -/
theorem L_store {E : Env} {ρ : Id → Option (Nat × Nat)} {t : Nat → TV} {m : Id → Mem} {a : Act} {w : World} (h : Rel E ρ t m a w) {o : Id} {b c : Nat} (hl : (m o).live) (hρ : ρ o = some (b, c)) (nm : Mem) (r : Array Value) :
    Bx E.w0.heap.size E.X w (w.setRow b r) ∧ (∀ b', L E m ρ w b' → L E (upd m o nm) (upd ρ o (some (b, c))) (w.setRow b r) b' ∧ (w.setRow b r).heap[b']? = w.heap[b']?) ∧
      (∀ o' b' c', o' ≠ o → (m o').live → ρ o' = some (b', c') → (w.setRow b r).heap[b']? = w.heap[b']?) := by
  obtain ⟨h1, h2⟩ := h.lo o b c hl hρ
  refine ⟨⟨rfl, rfl, rfl, by simp, fun k hk hx => setRow_other w b k r (fun e => ?_)⟩, fun b' hb' => ⟨⟨?_, fun o' c' l r' => ?_⟩, setRow_other w b b' r (fun e => hb'.2 o c hl (e ▸ hρ))⟩, fun o' b' c' ho l r' => setRow_other w b b' r (fun e => ho (h.inj o' o b' c' c l hl r' (e ▸ hρ)))⟩
  · subst e
    rcases h1 with h1 | h1
    · exact hx h1
    · omega
  · exact hb'.1.imp id (fun h => h.imp id (fun h => ⟨h.1, by simpa using h.2⟩))
  · by_cases e : o' = o
    · subst e
      rw [upd_same] at r'
      simp only [Option.some.injEq, Prod.mk.injEq] at r'
      exact hb'.2 o' c hl (by rw [hρ, r'.1])
    · rw [upd_ne _ _ _ e] at l r'; exact hb'.2 o' c' l r'

/-- The row of one of the call's own objects is written, the object keeps its shape. -/
theorem Rel.setShape {E : Env} {ρ : Id → Option (Nat × Nat)} {t : Nat → TV} {m : Id → Mem} {a : Act} {w : World} (h : Rel E ρ t m a w) {o : Id} {b c : Nat} (hl : (m o).live) (hρ : ρ o = some (b, c)) (nm : Mem) (r : Array Value)
    (hs : Shape (m o) nm) (hclean : ∀ o', nm.refs o' → m o' ≠ .none)
    (hmem : (∀ b', L E m ρ w b' → L E (upd m o nm) (upd ρ o (some (b, c))) (w.setRow b r) b' ∧ (w.setRow b r).heap[b']? = w.heap[b']?) → (∀ o', m o' ≠ .none → Carry m (upd m o nm) ρ (upd ρ o (some (b, c))) o') →
      MemOk E (upd m o nm) (upd ρ o (some (b, c))) (w.setRow b r) o nm) :
    Rel E (upd ρ o (some (b, c))) t (upd m o nm) a (w.setRow b r) := by
  obtain ⟨k1, k2, k3⟩ := L_store h hl hρ nm r
  have hs' : Shape (m o) (upd m o nm o) := by rw [upd_same]; exact hs
  have hρ' : upd ρ o (some (b, c)) o = ρ o := by rw [upd_same, hρ]
  have hcar : Carry m (upd m o nm) ρ (upd ρ o (some (b, c))) o := hs'.carry hρ'
  refine h.one o nm _ k1 k2 k3 ?_ hs.ne (fun o' hr => .inr (hclean o' hr)) (fun e => by rw [e] at hl; exact hl.elim) (fun hg => by rw [← hs.gen]; exact hg) (hmem k2 (fun o' hn => ?_)) (fun _ => hcar)
    (fun x g i off _ => hs'.ep hρ' x g i off) (fun x g lo n _ => hs'.sub hρ' x g lo n)
  · intro _ b' c' hr
    simp only [Option.some.injEq, Prod.mk.injEq] at hr
    obtain ⟨rfl, rfl⟩ := hr
    obtain ⟨q1, q2⟩ := h.lo o b c hl hρ
    exact ⟨⟨q1, by simpa using q2⟩, fun o' c'' ho' l' r' => ho' (h.inj o' o b c'' c l' hl r' hρ)⟩
  · by_cases e : o' = o
    · subst e; exact hcar
    · exact Carry.same (upd_ne _ _ _ e) (upd_ne _ _ _ e)

theorem run_storeVar' {P : Program} {t : TypeId} {T : Ty} (hT : TyOk P t T) (w : World) (b off : Nat) (cur : Array Value) (e : TypeId) (hb : w.heap[b]? = some (.cells cur e (0, 0))) (v : Value) (us : List Value) (hv : v.cells = us.toArray) (hl : us.length = T.size)
    (hfit : off + us.length ≤ cur.size) (h1 : ∀ x ∈ us, x.oneCell' = true) : (storeVar t ⟨b, off, none⟩ v).run P w = .ok () (w.setRow b (setCells cur.toList off us).toArray) := by
  have hr := run_storeCells_at (P := P) b off e us 0 cur w hb (by omega) h1
  rw [setCells_eq us cur.toList off (by simpa using hfit)]
  simp only [Nat.add_zero] at hr
  simp only [storeVar, Sem.run_bind, run_sizeOf' hT, Result.andThen_ok, hv, List.size_toArray, ← hl, ne_eq, not_true, if_false]
  exact hr

theorem RdL.getElemRd {S : Nat → Prop} {w : World} {xs : List Value} {cs : List SV} (hr : RdL S w xs cs) (j : Nat) (hj : j < cs.length) : ∃ x, xs[j]? = some x ∧ Rd S w x (cs.getD j (.v Go.undef)) := by
  obtain ⟨x, h1, h2⟩ := hr.get j cs[j] (by simp [hj])
  exact ⟨x, h1, by simpa [List.getD, hj] using h2⟩

theorem row_store {γ : Type} {R : Value → γ → Prop} {arr : Array Value} {us : List Value} {n k i off len : Nat} {get : Nat → Nat → γ} {new : Nat → γ} (hlen : us.length = len) (hroom : i * k + off + us.length ≤ arr.size) (hle : off + len ≤ k)
    (hel : ∀ i', i' < n → ∀ j, j < k → ∃ x, arr[i' * k + j]? = some x ∧ R x (get i' j)) (hnew : ∀ j, j < us.length → ∃ v, us[j]? = some v ∧ R v (new j)) :
    ∀ i', i' < n → ∀ j, j < k → ∃ x, (setCells arr.toList (i * k + off) us).toArray[i' * k + j]? = some x ∧ R x (bif Nat.beq i' i && Nat.ble off j && Nat.blt j (off + len) then new (j - off) else get i' j) := by
  subst hlen
  intro i' hi' j hj
  have hgt := getElem?_setCells us arr.toList (i * k + off) (by simpa using hroom) (i' * k + j)
  by_cases hc : i' = i ∧ off ≤ j ∧ j < off + us.length
  · obtain ⟨rfl, hj1, hj2⟩ := hc
    obtain ⟨v, hv1, hv2⟩ := hnew (j - off) (by omega)
    refine ⟨v, ?_, ?_⟩
    · rw [if_pos (by omega), show i' * k + j - (i' * k + off) = j - off by omega] at hgt
      simpa [hgt] using hv1
    · have e1 : (Nat.beq i' i' && Nat.ble off j && Nat.blt j (off + us.length)) = true := by
        simp [hj1, hj2]
      rw [e1]
      exact hv2
  · obtain ⟨v, hv1, hv2⟩ := hel i' hi' j hj
    refine ⟨v, ?_, ?_⟩
    · have hne : ¬ (i * k + off ≤ i' * k + j ∧ i' * k + j < i * k + off + us.length) := by
        rcases Nat.lt_trichotomy i' i with h1 | h1 | h1
        · have : (i' + 1) * k ≤ i * k := Nat.mul_le_mul_right k h1
          rw [Nat.add_mul] at this
          omega
        · subst h1
          omega
        · have : (i + 1) * k ≤ i' * k := Nat.mul_le_mul_right k h1
          rw [Nat.add_mul] at this
          omega
      rw [if_neg hne] at hgt
      simpa [hgt] using hv1
    · have e1 : (Nat.beq i' i && Nat.ble off j && Nat.blt j (off + us.length)) = false := by
        simp only [Bool.and_eq_false_iff]
        by_cases q1 : i' = i
        · by_cases q2 : off ≤ j
          · right
            exact blt_f fun q3 => hc ⟨q1, q2, q3⟩
          · left; right
            exact ble_f q2
        · left; left
          exact beq_f q1
      rw [e1]
      exact hv2

theorem mem_setCells {α : Type} : ∀ (ys xs : List α) (i : Nat) {c : α}, c ∈ setCells xs i ys → c ∈ xs ∨ c ∈ ys
  | [], xs, i, c, h => .inl h
  | y :: ys, xs, i, c, h => by
    rcases mem_setCells ys (xs.set i y) (i + 1) h with h | h
    · rcases List.mem_or_eq_of_mem_set h with h | h
      · exact .inl h
      · exact .inr (by simp [h])
    · exact .inr (by simp [h])

/-- What is stored, as cells that may lead to objects. -/
structure Stored (t : Nat → TV) (y : Operand) (l : List CV) (n : Nat) : Prop where
  len : l.length = n
  ok : ∀ (E : Env) (ρ : Id → Option (Nat × Nat)) (t' : Nat → TV) (m : Id → Mem) (a : Act) (w : World), opd t' y = opd t y → Rel E ρ t' m a w → ∃ us : List Value, (a.eval y).cells = us.toArray ∧ CVL (L E m ρ w) m ρ w us l ∧ ∀ c ∈ l, ∀ o, c.refs o → m o ≠ .none

theorem stored_data {t : Nat → TV} {y : Operand} {l : List SV} {n : Nat} (hy : opd t y = .d (.agg l) ∨ ∃ c, opd t y = .d (.one c) ∧ l = [c]) (hn : l.length = n) : Stored t y (l.map .s) n := by
  refine ⟨by simpa using hn, fun E ρ t' m a w hy' hR => ?_⟩
  have hv := (opd_ok hR y).1
  rw [hy'] at hv
  have hcl : ∀ c ∈ l.map CV.s, ∀ o, c.refs o → m o ≠ .none := fun c hc o hr => by
    obtain ⟨c', _, rfl⟩ := List.mem_map.1 hc
    exact hr.elim
  rcases hy with hy | ⟨c, hy, rfl⟩
  · rw [hy] at hv
    obtain ⟨xs, e1, r1⟩ := hv
    exact ⟨xs, by rw [e1]; rfl, CVL.ofRd r1, hcl⟩
  · rw [hy] at hv
    have hv : Rd (L E m ρ w) w (a.eval y) c := hv
    exact ⟨[a.eval y], cells_one hv.oneCell, .cons hv .nil, hcl⟩

theorem stored_ref {t : Nat → TV} {y : Operand} {c : CV} (hy : opd t y = c.tv) : Stored t y [c] 1 := by
  refine ⟨rfl, fun E ρ t' m a w hy' hR => ?_⟩
  have hv := opd_ok hR y
  rw [hy', hy] at hv
  have hck : CVk (L E m ρ w) m ρ w (a.eval y) c := by
    have := hv.1
    cases c <;> exact this
  refine ⟨[a.eval y], cells_one hck.oneCell, .cons hck .nil, fun c' hc' o hr => ?_⟩
  rcases List.mem_cons.1 hc' with rfl | hc'
  · exact hv.2 o (by cases c' <;> exact hr)
  · simp at hc'

theorem CVL.getElem {S : Nat → Prop} {m : Id → Mem} {ρ : Id → Option (Nat × Nat)} {w : World} {xs : List Value} {cs : List CV} (hr : CVL S m ρ w xs cs) (j : Nat) (hj : j < cs.length) (c0 : CV) : ∃ x, xs[j]? = some x ∧ CVk S m ρ w x (cs.getD j c0) := by
  obtain ⟨x, h1, h2⟩ := hr.get j cs[j] (by simp [hj])
  exact ⟨x, h1, by simpa [List.getD, hj] using h2⟩

section
variable {P : Program} {o : Oper} {t : Nat → TV} {m : Id → Mem} {TT : Tab}
theorem exec_store {ty : TypeId} {T : Ty} (hTy : TyOk P ty T) {x y : Operand} (ho : o.op = .store ty x y) (a : Act) (w : World) (bl off : Nat) (cur : Array Value) (e : TypeId) (us : List Value)
    (hx : a.eval x = .pointer (some ⟨bl, off, none⟩)) (hb : w.heap[bl]? = some (.cells cur e (0, 0))) (hu : (a.eval y).cells = us.toArray) (hl : us.length = T.size) (hfit : off + us.length ≤ cur.size) (h1 : ∀ x ∈ us, x.oneCell' = true) :
    (execOp a.eval o).run P w = .ok .skip (w.setRow bl (setCells cur.toList off us).toArray) := by
  have hst := run_storeVar' hTy w bl off cur e hb _ us hu hl hfit h1
  simp [execOp, ho, hx, Instr.storeAt, Instr.sureAddr, hst]

/-- A store into a variable. -/
theorem store_var {ty : TypeId} {T : Ty} (hTy : TyOk P ty T) {x y : Operand} (ho : o.op = .store ty x y) {b : Id} {off : Nat} (hx : opd t x = .ptr b off) {l : List CV} (hst : Stored t y l T.size) {nm : Mem}
    (hnm : (∃ cs ls, m b = .box cs ∧ l = ls.map .s ∧ off + l.length ≤ cs.length ∧ nm = .box (setCells cs off ls)) ∨ (∃ cs, m b = .box cs ∧ off + l.length ≤ cs.length ∧ nm = .obj (setCells (cs.map .s) off l)) ∨ (∃ cs, m b = .obj cs ∧ off + l.length ≤ cs.length ∧ nm = .obj (setCells cs off l))) :
    StepOk P o t m .any [(b, nm)] [b.key] := by
  have hmx : x ∈ o.op.operands.toList := by rw [ho]; simp [Op.operands]
  have hmy : y ∈ o.op.operands.toList := by rw [ho]; simp [Op.operands]
  refine stepOk_mem fun E ρ t' m' a w hP ha hm hd hR => ?_
  have hv := (opd_ok hR x).1
  rw [opd_agree ha hmx, hx] at hv
  have hb' := hm.at b
  obtain ⟨us, hu1, hu2, hucl⟩ := hst.ok E ρ t' m' a w (opd_agree ha hmy) hR
  have hul := hu2.length
  have hsl := hst.len
  -- the row as it is
  have hrow : (m' b).boxy = true ∧ (m' b).live ∧ ∃ bl c xs e cs, ρ b = some (bl, c) ∧ w.heap[bl]? = some (.cells xs.toArray e (0, 0)) ∧ CVL (L E m' ρ w) m' ρ w xs cs ∧ off + l.length ≤ cs.length ∧ (∀ c ∈ cs, ∀ o, c.refs o → m' o ≠ .none) ∧
      nm.boxy = true ∧ (∃ cs', nm = .obj (setCells cs off l) ∨ (nm = .box cs' ∧ cs'.map .s = setCells cs off l)) := by
    rcases hnm with ⟨cs, ls, hb, rfl, hle, rfl⟩ | ⟨cs, hb, hle, rfl⟩ | ⟨cs, hb, hle, rfl⟩
    · rw [← hb'] at hb
      have hmo := hR.mem b
      rw [hb] at hmo
      obtain ⟨bl, c, xs, e, h1, h2, h3⟩ := hmo
      refine ⟨by rw [hb]; rfl, mem_live_box hb, bl, c, xs, e, cs.map .s, h1, h2, CVL.ofRd h3, by simpa using hle, fun c hc o hr => ?_, rfl, _, .inr ⟨rfl, ?_⟩⟩
      · obtain ⟨c', _, rfl⟩ := List.mem_map.1 hc; exact hr.elim
      · have : ∀ (ls cs : List SV) (i : Nat), (setCells cs i ls).map CV.s = setCells (cs.map .s) i (ls.map .s) := by
          intro ls
          induction ls with
          | nil => intro cs i; rfl
          | cons x ls ih => intro cs i; simp only [setCells, List.map_cons]; rw [ih]; simp
        exact this ls cs off
    · rw [← hb'] at hb
      have hmo := hR.mem b
      rw [hb] at hmo
      obtain ⟨bl, c, xs, e, h1, h2, h3⟩ := hmo
      refine ⟨by rw [hb]; rfl, mem_live_box hb, bl, c, xs, e, cs.map .s, h1, h2, CVL.ofRd h3, by simpa using hle, fun c hc o hr => ?_, rfl, [], .inl rfl⟩
      obtain ⟨c', _, rfl⟩ := List.mem_map.1 hc; exact hr.elim
    · rw [← hb'] at hb
      have hmo := hR.mem b
      rw [hb] at hmo
      obtain ⟨bl, c, xs, e, h1, h2, h3⟩ := hmo
      exact ⟨by rw [hb]; rfl, mem_live_obj hb, bl, c, xs, e, cs, h1, h2, h3, hle, fun c hc o hr => hR.cleanM b o (by rw [hb]; exact ⟨c, hc, hr⟩), rfl, [], .inl rfl⟩
  obtain ⟨hbx, hlive, bl, c, xs, e, cs, hρ, hblk, hrd, hle, hcl, hnb, hnew⟩ := hrow
  have hxl := hrd.length
  simp only [TOk] at hv
  rw [ptrOk_boxy hbx] at hv
  obtain ⟨bl2, c2, hρ2, hval⟩ := hv
  rw [hρ] at hρ2
  obtain ⟨rfl, rfl⟩ : bl = bl2 ∧ c = c2 := by simpa using hρ2
  have hclean : ∀ o', nm.refs o' → m' o' ≠ .none := by
    intro o' hr
    obtain ⟨cs', h | ⟨h, _⟩⟩ := hnew
    · rw [h] at hr
      obtain ⟨c', hc', hr⟩ := hr
      rcases mem_setCells _ _ _ hc' with h | h
      · exact hcl c' h o' hr
      · exact hucl c' h o' hr
    · rw [h] at hr; exact hr.elim
  refine ⟨.skip, Go.undef, w.setRow bl (setCells xs off us).toArray, upd ρ b (some (bl, c)), ?_, .inr ⟨rfl, rfl⟩, hR.setShape hlive hρ nm _ (.boxy hbx hnb) hclean (fun hL hcar => ?_), trivial, fun _ h => h.elim⟩
  · exact exec_store hTy ho a w bl off xs.toArray e us hval hblk hu1 (by omega) (by simp; omega) hu2.oneCell
  · have hrow : CVL (L E (upd m' b nm) (upd ρ b (some (bl, c))) (w.setRow bl (setCells xs off us).toArray)) (upd m' b nm) (upd ρ b (some (bl, c))) (w.setRow bl (setCells xs off us).toArray) (setCells xs off us) (setCells cs off l) :=
      CVL.setCells (hu2.mono hL (fun o' ⟨c', hc', hr⟩ => hcar o' (hucl c' hc' o' hr))) off (hrd.mono hL (fun o' ⟨c', hc', hr⟩ => hcar o' (hcl c' hc' o' hr)))
    obtain ⟨cs', h | ⟨h, hc⟩⟩ := hnew
    · subst h
      exact ⟨bl, c, _, e, upd_same _ _ _, setRow_heap w bl _ _ e _ hblk, hrow⟩
    · subst h
      rw [← hc] at hrow
      exact ⟨bl, c, _, e, upd_same _ _ _, setRow_heap w bl _ _ e _ hblk, hrow.toRd⟩

/-- A store into a part of a slice that is being made. -/
theorem store_elem {ty : TypeId} {T : Ty} (hTy : TyOk P ty T) {x y : Operand} (ho : o.op = .store ty x y) {b : Id} {g i off : Nat} (hx : opd t x = .ep b g i off) {l : List CV} (hst : Stored t y l T.size) {n k : Nat} {e : TypeId} {get : Nat → Nat → CV} {nm : Mem}
    (hm : (∃ get0, m b = .bld g n k e get0 ∧ ∀ i j, get i j = .s (get0 i j)) ∨ m b = .bldc g n k e get) (hle : off + l.length ≤ k)
    (hnm : (∃ new, nm = .bldc g n k e new ∧ ∀ i' j, new i' j = bif Nat.beq i' i && Nat.ble off j && Nat.blt j (off + l.length) then l.getD (j - off) (.s (.v Go.undef)) else get i' j) ∨
      (∃ new, nm = .bld g n k e new ∧ ∀ i' j, (.s (new i' j)) = bif Nat.beq i' i && Nat.ble off j && Nat.blt j (off + l.length) then l.getD (j - off) (.s (.v Go.undef)) else get i' j)) :
    StepOk P o t m .any [(b, nm)] [b.key] := by
  have hmx : x ∈ o.op.operands.toList := by rw [ho]; simp [Op.operands]
  have hmy : y ∈ o.op.operands.toList := by rw [ho]; simp [Op.operands]
  refine stepOk_mem fun E ρ t' m' a w hP ha hm1 hd hR => ?_
  have hv := (opd_ok hR x).1
  rw [opd_agree ha hmx, hx] at hv
  have hb' := hm1.at b
  obtain ⟨us, hu1, hu2, hucl⟩ := hst.ok E ρ t' m' a w (opd_agree ha hmy) hR
  have hul := hu2.length
  have hsl := hst.len
  rw [← hb'] at hm
  have hby : (m' b).bldy = some (g, n, k) := by
    rcases hm with ⟨_, h, _⟩ | h <;> rw [h] <;> rfl
  have hnby : nm.bldy = some (g, n, k) := by
    rcases hnm with ⟨_, h, _⟩ | ⟨_, h, _⟩ <;> rw [h] <;> rfl
  rw [epOk_bldy hby] at hv
  obtain ⟨hin, bl, c, hρ, hval⟩ := hv.2 rfl
  have hmo : ∃ arr, w.heap[bl]? = some (.cells arr e (0, 0)) ∧ arr.size = c * k ∧ n ≤ c ∧ c ≤ maxLen ∧ ∀ i, i < n → ∀ j, j < k → ∃ x, arr[i * k + j]? = some x ∧ CVk (L E m' ρ w) m' ρ w x (get i j) := by
    have h := hR.mem b
    rcases hm with ⟨get0, hb, hg⟩ | hb
    · rw [hb] at h
      rcases h with ⟨hn, _⟩ | ⟨bl', c', arr, hρ', h2, h3, h4, h5, h6⟩
      · rw [hρ] at hn; simp at hn
      · rw [hρ] at hρ'
        obtain ⟨rfl, rfl⟩ : bl = bl' ∧ c = c' := by simpa using hρ'
        refine ⟨arr, h2, h3, h4, h5, fun i hi j hj => ?_⟩
        obtain ⟨x, hx, hr⟩ := h6 i hi j hj
        exact ⟨x, hx, by rw [hg]; exact hr⟩
    · rw [hb] at h
      rcases h with ⟨hn, _⟩ | ⟨bl', c', arr, hρ', h2, h3, h4, h5, h6⟩
      · rw [hρ] at hn; simp at hn
      · rw [hρ] at hρ'
        obtain ⟨rfl, rfl⟩ : bl = bl' ∧ c = c' := by simpa using hρ'
        exact ⟨arr, h2, h3, h4, h5, h6⟩
  obtain ⟨arr, hblk, hasz, hnc, hcm, hel⟩ := hmo
  have hgcl : ∀ i j, i < n → j < k → ∀ o', (get i j).refs o' → m' o' ≠ .none := fun i j hi hj o' hr => by
    rcases hm with ⟨get0, hb, hg⟩ | hb
    · rw [hg] at hr; exact hr.elim
    · exact hR.cleanM b o' (by rw [hb]; exact ⟨i, j, hi, hj, hr⟩)
  have hlcl : ∀ j, ∀ o', (l.getD j (.s (.v Go.undef))).refs o' → m' o' ≠ .none := fun j o' hr => by
    by_cases hj : j < l.length
    · have : l.getD j (.s (.v Go.undef)) ∈ l := by simp [List.getD, hj]
      exact hucl _ this o' hr
    · have : l.getD j (.s (.v Go.undef)) = .s (.v Go.undef) := by simp [List.getD, List.getElem?_eq_none (show l.length ≤ j by omega)]
      rw [this] at hr; exact hr.elim
  have hncl : ∀ (i' j : Nat), i' < n → j < k → ∀ o', (bif Nat.beq i' i && Nat.ble off j && Nat.blt j (off + l.length) then l.getD (j - off) (.s (.v Go.undef)) else get i' j).refs o' → m' o' ≠ .none := fun i' j hi hj o' hr => by
    cases hc : (Nat.beq i' i && Nat.ble off j && Nat.blt j (off + l.length)) with
    | true => rw [hc] at hr; exact hlcl _ o' hr
    | false => rw [hc] at hr; exact hgcl i' j hi hj o' hr
  have hroom : i * k + off + us.length ≤ arr.size := by
    have : (i + 1) * k ≤ c * k := Nat.mul_le_mul_right k (by omega)
    rw [Nat.add_mul] at this
    omega
  refine ⟨.skip, Go.undef, w.setRow bl (setCells arr.toList (i * k + off) us).toArray, upd ρ b (some (bl, c)), ?_, .inr ⟨rfl, rfl⟩, hR.setShape (live_bldy hby).1 hρ nm _ (.bldy hby hnby) (fun o' hr => ?_) (fun hL hcar => ?_), trivial, fun _ h => h.elim⟩
  · exact exec_store hTy ho a w bl (i * k + off) arr e us hval hblk hu1 (by omega) hroom hu2.oneCell
  · rcases hnm with ⟨new, rfl, hq⟩ | ⟨new, rfl, hq⟩
    · obtain ⟨i', j, hi, hj, hr⟩ := hr
      rw [hq] at hr
      exact hncl i' j hi hj o' hr
    · exact hr.elim
  · have hrow := row_store (R := fun x c' => CVk (L E (upd m' b nm) (upd ρ b (some (bl, c))) (w.setRow bl (setCells arr.toList (i * k + off) us).toArray)) (upd m' b nm) (upd ρ b (some (bl, c))) (w.setRow bl (setCells arr.toList (i * k + off) us).toArray) x c')
      (new := fun j => l.getD j (.s (.v Go.undef))) (get := get) (i := i) (off := off) (n := n) (len := l.length) hul hroom hle
      (fun i' hi j hj => by obtain ⟨x, hx, hr⟩ := hel i' hi j hj; exact ⟨x, hx, hr.mono hL (fun o' ho => hcar o' (hgcl i' j hi hj o' ho))⟩)
      (fun j hj => by obtain ⟨x, hx, hr⟩ := hu2.getElem j (by omega) (.s (.v Go.undef)); exact ⟨x, hx, hr.mono hL (fun o' ho => hcar o' (hlcl j o' ho))⟩)
    rcases hnm with ⟨new, rfl, hq⟩ | ⟨new, rfl, hq⟩
    · refine .inr ⟨bl, c, _, upd_same _ _ _, setRow_heap w bl _ _ e _ hblk, by simp [length_setCells, hasz], hnc, hcm, fun i' hi' j hj => ?_⟩
      obtain ⟨x, hx, hr⟩ := hrow i' hi' j hj
      exact ⟨x, hx, by rw [hq]; exact hr⟩
    · refine .inr ⟨bl, c, _, upd_same _ _ _, setRow_heap w bl _ _ e _ hblk, by simp [length_setCells, hasz], hnc, hcm, fun i' hi' j hj => ?_⟩
      obtain ⟨x, hx, hr⟩ := hrow i' hi' j hj
      rw [← hq] at hr
      exact ⟨x, hx, hr⟩

theorem getD_map_s (l : List SV) (j : Nat) : (l.map CV.s).getD j (.s (.v Go.undef)) = .s (l.getD j (.v Go.undef)) := by
  simp only [List.getD, List.getElem?_map]
  cases l[j]? <;> rfl

theorem storeD_ok {ty : TypeId} {T : Ty} (hTy : TyOk P ty T) {x y : Operand} (ho : o.op = .store ty x y) {l : List SV} (hst : Stored t y (l.map .s) T.size) {K : Kont} (h : storeD m (opd t x) l K) : ∃ z mo rd, K z mo rd ∧ StepOk P o t m z mo rd := by
  unfold storeD at h
  split at h
  · rename_i b off hx
    replace h := lookW_iff h
    split at h
    · rename_i cs hb
      replace h := bif_and h; obtain ⟨hle, h⟩ := h
      rw [setC_eq] at h
      exact ⟨_, _, _, h, store_var hTy ho hx hst (.inl ⟨cs, l, hb, rfl, by simpa using Nat.le_of_ble_eq_true hle, rfl⟩)⟩
    · rename_i cs hb
      replace h := bif_and h; obtain ⟨hle, h⟩ := h
      rw [setC_eq] at h
      exact ⟨_, _, _, h, store_var hTy ho hx hst (.inr (.inr ⟨cs, hb, by simpa using Nat.le_of_ble_eq_true hle, rfl⟩))⟩
    · exact h.elim
  · rename_i b g i off hx
    replace h := lookW_iff h
    split at h
    · rename_i g' n k e get hb
      replace h := bif_and h; obtain ⟨hle, h⟩ := h
      simp only [Bool.and_eq_true] at hle
      obtain rfl : g = g' := Nat.eq_of_beq_eq_true hle.1
      refine ⟨_, _, _, h, store_elem hTy ho hx hst (get := fun i j => .s (get i j)) (.inl ⟨get, hb, fun _ _ => rfl⟩) (by simpa using Nat.le_of_ble_eq_true hle.2) (.inr ⟨_, rfl, fun i' j => ?_⟩)⟩
      rw [List.length_map, getD_map_s]
      cases (Nat.beq i' i && Nat.ble off j && Nat.blt j (off + l.length)) <;> rfl
    · rename_i g' n k e get hb
      replace h := bif_and h; obtain ⟨hle, h⟩ := h
      simp only [Bool.and_eq_true] at hle
      obtain rfl : g = g' := Nat.eq_of_beq_eq_true hle.1
      refine ⟨_, _, _, h, store_elem hTy ho hx hst (.inr hb) (by simpa using Nat.le_of_ble_eq_true hle.2) (.inl ⟨_, rfl, fun i' j => ?_⟩)⟩
      rw [List.length_map, getD_map_s]
    · exact h.elim
  · exact h.elim

theorem storeR_ok {ty : TypeId} {T : Ty} (hTy : TyOk P ty T) {x y : Operand} (ho : o.op = .store ty x y) {c : CV} (hst : Stored t y [c] T.size) {K : Kont} (h : storeR m (opd t x) c K) : ∃ z mo rd, K z mo rd ∧ StepOk P o t m z mo rd := by
  unfold storeR at h
  split at h
  · rename_i b off hx
    replace h := lookW_iff h
    split at h
    · rename_i cs hb
      replace h := bif_and h; obtain ⟨hle, h⟩ := h
      rw [setC_eq] at h
      exact ⟨_, _, _, h, store_var hTy ho hx hst (.inr (.inl ⟨cs, hb, lt_of_blt hle, rfl⟩))⟩
    · rename_i cs hb
      replace h := bif_and h; obtain ⟨hle, h⟩ := h
      rw [setC_eq] at h
      exact ⟨_, _, _, h, store_var hTy ho hx hst (.inr (.inr ⟨cs, hb, lt_of_blt hle, rfl⟩))⟩
    · exact h.elim
  · rename_i b g i off hx
    have hcond : ∀ (i' j : Nat) (q : CV), (bif Nat.beq i' i && Nat.beq j off then c else q) = bif Nat.beq i' i && Nat.ble off j && Nat.blt j (off + [c].length) then [c].getD (j - off) (.s (.v Go.undef)) else q := by
      intro i' j q
      by_cases hj : j = off
      · subst hj
        have e2 : (Nat.ble j j && Nat.blt j (j + [c].length)) = true := by
          rw [ble_t (Nat.le_refl j), blt_t (show j < j + [c].length by simp)]; rfl
        rw [Bool.and_assoc, e2, Nat.beq_refl, Nat.sub_self]
        rfl
      · have e1 : Nat.beq j off = false := beq_f hj
        have e2 : (Nat.ble off j && Nat.blt j (off + [c].length)) = false := by
          by_cases h1 : off ≤ j
          · simp only [List.length_cons, List.length_nil, Bool.and_eq_false_iff]
            exact .inr (blt_f (by omega))
          · simp only [Bool.and_eq_false_iff]
            exact .inl (ble_f h1)
        rw [e1, Bool.and_assoc, e2, Bool.and_false]
        rfl
    replace h := lookW_iff h
    split at h
    · rename_i g' n k e get hb
      replace h := bif_and h; obtain ⟨hle, h⟩ := h
      simp only [Bool.and_eq_true] at hle
      obtain rfl : g = g' := Nat.eq_of_beq_eq_true hle.1
      exact ⟨_, _, _, h, store_elem hTy ho hx hst (get := fun i j => .s (get i j)) (.inl ⟨get, hb, fun _ _ => rfl⟩) (lt_of_blt hle.2) (.inl ⟨_, rfl, fun i' j => hcond i' j _⟩)⟩
    · rename_i g' n k e get hb
      replace h := bif_and h; obtain ⟨hle, h⟩ := h
      simp only [Bool.and_eq_true] at hle
      obtain rfl : g = g' := Nat.eq_of_beq_eq_true hle.1
      exact ⟨_, _, _, h, store_elem hTy ho hx hst (.inr hb) (lt_of_blt hle.2) (.inl ⟨_, rfl, fun i' j => hcond i' j _⟩)⟩
    · exact h.elim
  · exact h.elim

theorem stepOk_store (hT : TabOk P TT) {ty : TypeId} {T : Ty} (hty : TT ty = some T) {x y : Operand} (ho : o.op = .store ty x y) {K : Kont}
    (h : storeW T m (opd t x) (opd t y) K) : ∃ z mo rd, K z mo rd ∧ StepOk P o t m z mo rd := by
  have hTy := hT ty T hty
  unfold storeW at h
  split at h
  · rename_i c hy
    replace h := bif_and h; obtain ⟨hq, h⟩ := h
    exact storeD_ok hTy ho (stored_data (.inr ⟨c, hy, rfl⟩) (Nat.eq_of_beq_eq_true hq)) h
  · rename_i cs hy
    replace h := bif_and h; obtain ⟨hq, h⟩ := h
    exact storeD_ok hTy ho (stored_data (.inl hy) (Nat.eq_of_beq_eq_true hq)) h
  · rename_i b p hy
    replace h := bif_and h; obtain ⟨hq, h⟩ := h
    exact storeR_ok hTy ho (Nat.eq_of_beq_eq_true hq ▸ stored_ref (c := .ptr b p) hy) h
  · rename_i b p hy
    replace h := bif_and h; obtain ⟨hq, h⟩ := h
    exact storeR_ok hTy ho (Nat.eq_of_beq_eq_true hq ▸ stored_ref (c := .hdl b p) hy) h
  · rename_i f caps hy
    replace h := bif_and h; obtain ⟨hq, h⟩ := h
    exact storeR_ok hTy ho (Nat.eq_of_beq_eq_true hq ▸ stored_ref (c := .clo f caps) hy) h
  · exact h.elim
end
end Go.Vm
namespace Go.Vm
set_option linter.unusedVariables false
set_option linter.unusedSimpArgs false
open Go Go.RowKit

theorem fold_setCells (off : Nat) : ∀ (us xs : List Value) (j : Nat),
    ((us.zipIdx j).foldl (fun cs (p : Value × Nat) => cs.setIfInBounds (off + p.2) p.1) xs.toArray) = (setCells xs (off + j) us).toArray
  | [], _, _ => rfl
  | u :: us, xs, j => by
    simp only [List.zipIdx_cons, List.foldl_cons, setCells]
    have h := fold_setCells off us (xs.set (off + j) u) (j + 1)
    rw [show off + (j + 1) = off + j + 1 by omega] at h
    simpa using h

theorem fill_ok {t : Nat → TV} (place : Nat → Option (Nat × Nat)) : ∀ (parts : List (Nat × Operand)) (cs : List SV) (K : List SV → Prop),
    partsFit t (fun i => (place i).map (·.2)) parts = true → fillW t (fun i => (place i).map (·.1)) cs parts K →
    ∃ cs', K cs' ∧ cs'.length = cs.length ∧ ∀ (E : Env) (m : Id → Mem) (ρ : Id → Option (Nat × Nat)) (w : World) (a : Act) (xs : List Value), (∀ p ∈ parts, TOk E m ρ w (a.eval p.2) (opd t p.2)) → RdL (L E m ρ w) w xs cs →
      ∃ ys : List Value, Instr.fill place xs.toArray (parts.map fun p => (p.1, a.eval p.2)) = some ys.toArray ∧ RdL (L E m ρ w) w ys cs'
  | [], cs, K, _, h => ⟨cs, h, rfl, fun E m ρ w a xs _ hx => ⟨xs, by simp [Instr.fill], hx⟩⟩
  | (i, x) :: r, cs, K, hf, h => by
    simp only [fillW] at h
    simp only [partsFit, Bool.and_eq_true] at hf
    obtain ⟨hf1, hf2⟩ := hf
    cases hp : place i with
    | none => simp [hp] at h
    | some p =>
      obtain ⟨off, sz⟩ := p
      simp only [hp, Option.map_some] at h hf1
      obtain ⟨l, h, hl⟩ := cellsW_det h
      replace h := bif_and h; obtain ⟨hle, h⟩ := h
      have hle' : off + l.length ≤ cs.length := Nat.le_of_ble_eq_true hle
      rw [deepL_iff, setC_eq] at h
      obtain ⟨cs', hK, hlen, hfill⟩ := fill_ok place r (setCells cs off l) K hf2 h
      refine ⟨cs', hK, by rw [hlen, length_setCells], fun E m ρ w a xs hev hx => ?_⟩
      have hv := hev (i, x) (by simp)
      obtain ⟨us, hu1, hu2⟩ := hl E m ρ w _ hv
      have hul := hu2.length
      have hxl := hx.length
      obtain ⟨ys, hy1, hy2⟩ := hfill E m ρ w a (setCells xs off us) (fun p hp => hev p (by simp [hp])) (RdL.setCells hu2 off hx)
      refine ⟨ys, ?_, hy2⟩
      have hsz : us.length = sz := by
        revert hf1 hv
        cases opd t x with
        | d dv =>
          cases dv with
          | one c =>
            intro hf1 hv
            have h1 := Nat.eq_of_beq_eq_true hf1
            have h2 : (a.eval x).cells.size = 1 := by
              have h1 := Rd.oneCell (show Rd _ _ (a.eval x) c from hv)
              revert h1
              cases a.eval x <;> intro h1 <;> first | rfl | (simp [Value.oneCell'] at h1)
            rw [hu1] at h2
            simp at h2
            omega
          | agg cs =>
            intro hf1 hv
            have h1 := Nat.eq_of_beq_eq_true hf1
            obtain ⟨zs, hz, hr⟩ := hv
            have h2 := hr.length
            rw [hz] at hu1
            simp only [Value.cells] at hu1
            have : zs = us := by simpa using hu1
            subst this
            omega
        | _ => intro hf1; simp at hf1
      have hsz2 : (a.eval x).cells.size = sz := by rw [hu1]; simpa using hsz
      have hfs := fold_setCells off us xs 0
      simp only [Nat.add_zero] at hfs
      simp only [List.map_cons, Instr.fill, hp, hsz2, ne_eq, not_true, decide_false, Bool.false_or, decide_eq_true_eq]
      rw [if_neg (by simp; omega), hu1]
      have hz : us.toArray.zipIdx.foldl (fun (cs : Array Value) (x : Value × Nat) => match x with | (c, j) => cs.setIfInBounds (off + j) c) xs.toArray = (setCells xs off us).toArray := by
        rw [← hfs]
        simp
      rw [hz]
      exact hy1

theorem zero_rd {P : Program} {t : TypeId} {T : Ty} (hT : TyOk P t T) (S : Nat → Prop) (w : World) : ∃ i z, P.info? t = some i ∧ i.size = T.size ∧ i.bytes = T.bytes ∧ i.zero = some z ∧ z.cells.size = T.size ∧ RdL S w z.cells.toList T.zero := by
  obtain ⟨i, z, h1, h2, h3, h4, h5, h6, h7⟩ := hT.info
  refine ⟨i, z, h1, h2, h3, h4, h7, ?_⟩
  rw [← h5]
  have h6' : ∀ x ∈ z.cells.toList, x.oneCell' = true := fun x hx => List.all_eq_true.1 h6 x hx
  revert h6'
  generalize z.cells.toList = l
  intro h6'
  induction l with
  | nil => exact .nil
  | cons x l ih => exact .cons (.v (h6' x (by simp))) (ih (fun y hy => h6' y (by simp [hy])))

theorem parts_mem {o : Oper} {parts : Array (Nat × Operand)} (h : o.op.operands = (parts.toList.map (·.2)).toArray) (p : Nat × Operand) (hp : p ∈ parts.toList) : p.2 ∈ o.op.operands.toList := by
  rw [h]
  simp only [List.mem_map]
  exact ⟨p, hp, rfl⟩

theorem stepOk_buildStr {P : Program} {o : Oper} {t : Nat → TV} {m : Id → Mem} {TT : Tab} (hT : TabOk P TT) {ty : TypeId} {T : Ty} (hty : TT ty = some T) {fs : List (Nat × TypeId × Nat)} (hk : T.kind = .str fs) {parts : Array (Nat × Operand)} (ho : o.op = .build ty parts) {K : List SV → Prop}
    (hf : partsFit t (fun i => (fs[i]?).map (·.2.2)) parts.toList = true) (h : fillW t (fun i => (fs[i]?).map (·.1)) T.zero parts.toList K) : ∃ cs, K cs ∧ StepOk P o t m (.d (.agg cs)) [] [] := by
  have hTy := hT ty T hty
  have hkk := hTy.kind
  rw [hk] at hkk
  obtain ⟨F, hu, hF, hM⟩ := hkk
  have e1 : (fun i : Nat => (((fs.map fun x : Nat × TypeId × Nat => (x.1, x.2.2)).toArray[i]?).map (·.2) : Option Nat)) = fun i : Nat => (fs[i]?).map (·.2.2) := by
    funext i; simp only [List.getElem?_toArray, List.getElem?_map, Option.map_map]; rfl
  have e2 : (fun i : Nat => (((fs.map fun x : Nat × TypeId × Nat => (x.1, x.2.2)).toArray[i]?).map (·.1) : Option Nat)) = fun i : Nat => (fs[i]?).map (·.1) := by
    funext i; simp only [List.getElem?_toArray, List.getElem?_map, Option.map_map]; rfl
  obtain ⟨cs, hK, _, hfill⟩ := fill_ok (t := t) (fun i : Nat => (fs.map fun x : Nat × TypeId × Nat => (x.1, x.2.2)).toArray[i]?) parts.toList T.zero K (by rw [e1]; exact hf) (by rw [e2]; exact h)
  refine ⟨cs, hK, stepOk_pure fun E ρ t' m' a w hP ha _ hR => ?_⟩
  obtain ⟨i, z, h1, h2, h3, h4, h5, hz⟩ := zero_rd hTy (L E m' ρ w) w
  obtain ⟨ys, hy1, hy2⟩ := hfill E m' ρ w a z.cells.toList (fun p hp => by
    have hv := (opd_ok hR p.2).1
    rw [opd_agree ha (parts_mem (by rw [ho]; rfl) p hp)] at hv
    exact hv) hz
  have hb : P.built ty (parts.map fun (i, x) => (i, a.eval x)).toList = some ys.toArray := by
    unfold Program.built
    simp only [h1, hu, h4, hM, Array.toList_map]
    exact hy1
  refine ⟨.agg ys.toArray, ?_, ⟨ys, rfl, hy2⟩, fun _ h => h.elim⟩
  have hr := run_build (P := P) w ty (parts.map fun (i, x) => (i, a.eval x)) ys.toArray hb
  simp [execOp, ho, hr]

theorem stepOk_buildArr {P : Program} {o : Oper} {t : Nat → TV} {m : Id → Mem} {TT : Tab} (hT : TabOk P TT) {ty : TypeId} {T : Ty} (hty : TT ty = some T) {n : Nat} {e : TypeId} (hk : T.kind = .arr n e) {TE : Ty} (hte : TT e = some TE) {parts : Array (Nat × Operand)} (ho : o.op = .build ty parts) {K : List SV → Prop}
    (hf : partsFit t (fun _ => some TE.size) parts.toList = true) (h : fillW t (fun i => some (i * TE.size)) T.zero parts.toList K) : ∃ cs, K cs ∧ StepOk P o t m (.d (.agg cs)) [] [] := by
  have hTy := hT ty T hty
  have hkk := hTy.kind
  rw [hk] at hkk
  obtain ⟨cs, hK, _, hfill⟩ := fill_ok (t := t) (fun i => some (i * TE.size, TE.size)) parts.toList T.zero K hf h
  refine ⟨cs, hK, stepOk_pure fun E ρ t' m' a w hP ha _ hR => ?_⟩
  obtain ⟨i, z, h1, h2, h3, h4, h5, hz⟩ := zero_rd hTy (L E m' ρ w) w
  obtain ⟨ie, ze, g1, g2, g3, g4, g5, _⟩ := zero_rd (hT e TE hte) (L E m' ρ w) w
  obtain ⟨ys, hy1, hy2⟩ := hfill E m' ρ w a z.cells.toList (fun p hp => by
    have hv := (opd_ok hR p.2).1
    rw [opd_agree ha (parts_mem (by rw [ho]; rfl) p hp)] at hv
    exact hv) hz
  have hb : P.built ty (parts.map fun (i, x) => (i, a.eval x)).toList = some ys.toArray := by
    unfold Program.built
    simp only [h1, hkk, h4, g1, g2, Array.toList_map]
    exact hy1
  refine ⟨.agg ys.toArray, ?_, ⟨ys, rfl, hy2⟩, fun _ h => h.elim⟩
  have hr := run_build (P := P) w ty (parts.map fun (i, x) => (i, a.eval x)) ys.toArray hb
  simp [execOp, ho, hr]

theorem length_repeatL : ∀ (n : Nat) (l : List SV), (repeatL n l).length = n * l.length
  | 0, _ => by simp [repeatL]
  | n + 1, l => by simp [repeatL, length_repeatL n, Nat.add_mul, Nat.add_comm]

def repeatV : Nat → List Value → List Value
  | 0, _ => []
  | n + 1, l => l ++ repeatV n l
theorem length_repeatV : ∀ (n : Nat) (l : List Value), (repeatV n l).length = n * l.length
  | 0, _ => by simp [repeatV]
  | n + 1, l => by simp [repeatV, length_repeatV n, Nat.add_mul, Nat.add_comm]
theorem RdL_repeat {S : Nat → Prop} {w : World} {xs : List Value} {cs : List SV} (h : RdL S w xs cs) : ∀ n, RdL S w (repeatV n xs) (repeatL n cs)
  | 0 => .nil
  | n + 1 => h.append (RdL_repeat h n)
theorem getElem?_repeatV (l : List Value) (hl : 0 < l.length) : ∀ (n j : Nat), j < n * l.length → (repeatV n l)[j]? = l[j % l.length]?
  | 0, j, h => by simp at h
  | n + 1, j, h => by
    rw [repeatV, List.getElem?_append]
    by_cases hj : j < l.length
    · rw [if_pos hj, Nat.mod_eq_of_lt hj]
    · rw [if_neg hj, getElem?_repeatV l hl n (j - l.length) (by rw [Nat.add_mul] at h; omega)]
      congr 1
      rw [← Nat.mod_eq_sub_mod (by omega)]

theorem made_repeat (z : Array Value) (n : Nat) (hz : 0 < z.size) : (Array.range (n * z.size)).map (z[· % z.size]!) = (repeatV n z.toList).toArray := by
  apply Array.ext_getElem?
  intro j
  have hl : 0 < z.toList.length := by simpa using hz
  by_cases hj : j < n * z.size
  · have h1 := getElem?_repeatV z.toList hl n j (by simpa using hj)
    have hm : j % z.size < z.size := Nat.mod_lt _ hz
    simp only [List.getElem?_toArray, h1, Array.getElem?_map]
    simp [hj, hm]
  · have h2 : (repeatV n z.toList).length = n * z.size := by rw [length_repeatV]; simp
    rw [Array.getElem?_eq_none (by simp; omega), Array.getElem?_eq_none (by simp [h2]; omega)]

theorem stepOk_buildSlice {P : Program} {o : Oper} {t : Nat → TV} {m : Id → Mem} {TT : Tab} (hT : TabOk P TT) {ty : TypeId} {T : Ty} (hty : TT ty = some T) {e : TypeId} (hk : T.kind = .slc e) {TE : Ty} (hte : TT e = some TE) {parts : Array (Nat × Operand)} {len : Nat} (ho : o.op = .buildSlice ty len parts) {K : List SV → Prop}
    (hsz : len * TE.size ≤ 65536) (hpos : 0 < TE.size) (hlen : 0 < len) (hf : partsFit t (fun _ => some TE.size) parts.toList = true) (h : fillW t (fun i => some (i * TE.size)) (repeatL len TE.zero) parts.toList K) :
    ∃ cs, K cs ∧ StepOk P o t m (.d (.one (.sl len TE.size fun i j => cs.getD (i * TE.size + j) (.v Go.undef)))) [] [] := by
  have hTy := hT ty T hty
  have hkk : P.underlying ty = some (.slice e) := by have := hTy.kind; rw [hk] at this; exact this
  obtain ⟨cs, hK, hcl, hfill⟩ := fill_ok (t := t) (fun i => some (i * TE.size, TE.size)) parts.toList (repeatL len TE.zero) K hf h
  refine ⟨cs, hK, ?_⟩
  intro E ρ t' m' a w hP ha _ hd hR Kc Q hKc
  obtain ⟨ie, ze, g1, g2, g3, g4, g5, hz⟩ := zero_rd (hT e TE hte) (L E m' ρ w) w
  have hzl := hz.length
  simp at hzl
  rw [length_repeatL, ← hzl, g5] at hcl
  obtain ⟨ys, hy1, hy2⟩ := hfill E m' ρ w a (repeatV len ze.cells.toList) (fun p hp => by
    have hv := (opd_ok hR p.2).1
    rw [opd_agree ha (parts_mem (by rw [ho]; rfl) p hp)] at hv
    exact hv) (RdL_repeat hz len)
  have hmade := made_repeat ze.cells len (by omega)
  rw [g5] at hmade
  have hn0 : len * TE.size ≠ 0 := Nat.ne_of_gt (Nat.mul_pos hlen hpos)
  have hrun : (execOp a.eval o).run P w = .ok (.value (.slice (some ⟨w.heap.size, 0, none⟩) len len)) (w.alloc (.cells ys.toArray e)) := by
    have h24 : ¬ (16777216 < len * TE.size) := by omega
    simp [execOp, ho, Instr.buildSlice, run_underlying hkk, run_sizeOf' (hT e TE hte), h24, zeroValue, typeInfo, g1, g4, g5, newRow]
    rw [if_neg hn0, hmade, hy1]
    simp
  have hR' := hR.grow (below_alloc w (.cells ys.toArray e))
  have hyl := hy2.length
  have hsize : w.heap.size < (w.alloc (.cells ys.toArray e)).heap.size := by simp
  have hLn : L E m' ρ (w.alloc (.cells ys.toArray e)) w.heap.size := ⟨.inr (.inr ⟨hR.below.size, hsize⟩), fun o' c l r => absurd (hR.lo o' _ c l r).2 (Nat.lt_irrefl _)⟩
  have hmono : ∀ b, L E m' ρ w b → L E m' ρ (w.alloc (.cells ys.toArray e)) b ∧ (w.alloc (.cells ys.toArray e)).heap[b]? = w.heap[b]? := fun b hl =>
    ⟨⟨hl.1.imp id (fun h1 => h1.imp id (fun h1 => ⟨h1.1, by omega⟩)), hl.2⟩, heap_alloc_old' w _ b (L_lt hR hl)⟩
  unfold Oper.wp
  rw [hrun]
  refine hKc ρ _ _ (hR'.put hd ?_ (fun _ h => h.elim))
  show Rd _ _ _ _
  have hall : ∀ i, i < len → ∀ j, j < TE.size → ∃ x, ys[i * TE.size + j]? = some x ∧ Rd (L E m' ρ w) w x (cs.getD (i * TE.size + j) (.v Go.undef)) := by
    intro i hi j hj
    refine hy2.getElemRd _ ?_
    have : (i + 1) * TE.size ≤ len * TE.size := Nat.mul_le_mul_right _ hi
    rw [Nat.add_mul] at this
    omega
  refine Rd.sl (fun i j => (ys[i * TE.size + j]?).getD Go.undef) hLn (Nat.le_refl _) ?_ (fun i hi j hj => ?_) (fun i hi j hj => ?_)
  · have : len ≤ len * TE.size := Nat.le_mul_of_pos_right _ hpos
    simp only [maxLen]; omega
  · obtain ⟨x, hx, _⟩ := hall i hi j hj
    rw [hx]
    simp only [World.cell?, heap_alloc_new', Option.isSome_none, Bool.false_eq_true, if_false, List.getElem?_toArray, Nat.zero_add, hx, Option.getD_some]
  · obtain ⟨x, hx, hr⟩ := hall i hi j hj
    simp only [hx, Option.getD_some]
    exact hr.mono hmono

end Go.Vm
