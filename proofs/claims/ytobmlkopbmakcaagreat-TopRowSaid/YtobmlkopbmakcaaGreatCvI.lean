/-
  An evaluator for closed runs: slices, lengths, function values; objects are made and written.
  An evaluator for closed runs: append and clear.
  An evaluator for closed runs: append where a new row may be made; clear.
  An evaluator for closed runs: maps whose keys are arrays of ints.
  An evaluator for closed runs: all operations but calls of functions.
  An evaluator for closed runs: regions, code, calls.
-/
import Derived.Test.YtobmlkopbmakcaaGreatCvC
namespace Go.Cv
open Go Go.RowKit Go.Vm

/-! ### slices -/
def bndE (g : Operand → Tv) (d : Nat) : Option Operand → Option Int
  | Option.none => some d
  | some y => match g y with
    | .d (.one (.w (.int _ z))) => some z
    | _ => Option.none
theorem bndE_ok {ρ : Rho} {ev : Operand → Value} {g : Operand → Tv} {d : Nat} {b : Option Operand} {z : Int} (h : bndE g d b = some z) (hev : ∀ y, b = some y → TvOk ρ (ev y) (g y)) : (b = Option.none → z = d) ∧ ∀ y, b.map ev = some y → ∃ k, y = .int k z := by
  cases b with
  | none => simp only [bndE] at h; cases h; exact ⟨fun _ => rfl, fun y hy => by cases hy⟩
  | some y =>
    refine ⟨(fun e => by cases e), fun v hv => ?_⟩
    cases hv
    simp only [bndE] at h
    split at h
    · rename_i k z' hq
      cases h
      have := hev y rfl
      rw [hq] at this
      exact ⟨k, w_inv this⟩
    · cases h
def leB (a b : Int) : Bool := decide (a ≤ b)
theorem leB_ok {a b : Int} (h : leB a b = true) : a ≤ b := of_decide_eq_true h
def sliceE (size : Nat) (x : Tv) (g : Operand → Tv) (lo hi : Option Operand) : Option Tv := match x with
  | .d (.one (.w (.slice none 0 0))) => match bndE g 0 lo, bndE g 0 hi with
    | some l, some h => bif l == 0 && h == 0 then some (wv (.slice none 0 0)) else none
    | _, _ => none
  | .d (.one (.slc o k p n full)) => match bndE g 0 lo, bndE g n hi with
    | some l, some h => bif Nat.beq k size && leB 0 l && leB l h && leB h n && (!full || (h == (n : Int) && (l == 0 || decide (l < h)))) then some (.d (.one (.slc o k (p + l.toNat) (h.toNat - l.toNat) full))) else none
    | _, _ => none
  | _ => none
theorem pure_slice {P : Program} {TT : Tab} (hT : TabOk P TT) {o : Oper} {g : Operand → Tv} {ty : TypeId} {T : Ty} (hty : TT ty = some T) {e : Nat} (hk : T.kind = .slc e) {TE : Ty} (hte : TT e = some TE) {x : Operand} {lo hi : Option Operand} (ho : o.op = .slice ty x lo hi none) {r : Tv} (h : sliceE TE.size (g x) g lo hi = some r) : PureOk P o g r := by
  intro ρ w ev hev
  have e1 := hev x (by rw [ho]; simp [Op.operands])
  have hlo : ∀ y, lo = some y → TvOk ρ (ev y) (g y) := fun y hy => hev y (by rw [ho, hy]; simp [Op.operands])
  have hhi : ∀ y, hi = some y → TvOk ρ (ev y) (g y) := fun y hy => hev y (by rw [ho, hy]; simp [Op.operands])
  have hkk : P.underlying ty = some (.slice e) := by have := (hT ty T hty).kind; rw [hk] at this; exact this
  have mapNone : ∀ {b : Option Operand}, b.map ev = Option.none → b = Option.none := fun {b} h => by cases b <;> simp at h ⊢
  unfold sliceE at h
  split at h
  · rename_i hx
    rw [hx] at e1
    have e1 := w_inv e1
    split at h
    · rename_i l hh h1 h2
      obtain ⟨a1, a2⟩ := bndE_ok h1 hlo
      obtain ⟨b1, b2⟩ := bndE_ok h2 hhi
      cases hq : (l == 0 && hh == 0) with
      | false => rw [hq] at h; cases h
      | true =>
        rw [hq] at h; cases h
        simp only [Bool.and_eq_true, beq_iff_eq] at hq
        obtain ⟨rfl, rfl⟩ := hq
        have hrun := bounds_run (P := P) (w := w) (n := 0) (cap := 0) (lo := lo.map ev) (hi := hi.map ev) (ll := 0) (hh := 0) (lz := 0) (hz := 0) rfl rfl a2 b2 (fun _ => rfl) (fun _ => rfl) (by omega) (by omega) (by omega)
        exact ⟨.slice none 0 0, by simp [execOp, ho, e1, Instr.sliceAt, Instr.slice, run_underlying hkk, hrun, run_sizeOf' (hT e TE hte)], ⟨rfl, rfl⟩⟩
    · cases h
  · rename_i ob k p n full hx
    rw [hx] at e1
    obtain ⟨b, off, c, a, hρ, e1, hpn, ha⟩ := slc_inv e1
    split at h
    · rename_i l hh h1 h2
      obtain ⟨a1, a2⟩ := bndE_ok h1 hlo
      obtain ⟨b1, b2⟩ := bndE_ok h2 hhi
      cases hq : (Nat.beq k TE.size && leB 0 l && leB l hh && leB hh n && (!full || (hh == (n : Int) && (l == 0 || decide (l < hh))))) with
      | false => rw [hq] at h; cases h
      | true =>
        rw [hq] at h; cases h
        simp only [Bool.and_eq_true] at hq
        obtain ⟨⟨⟨⟨q1, q2⟩, q3⟩, q4⟩, q5⟩ := hq
        have q1 := Nat.eq_of_beq_eq_true q1
        have q2 := leB_ok q2
        have q3 := leB_ok q3
        have q4 := leB_ok q4
        have hcap : (n : Int) ≤ ((if full then n else c - p : Nat) : Int) := by split <;> omega
        have hrun := bounds_run (P := P) (w := w) (n := n) (cap := if full then n else c - p) (lo := lo.map ev) (hi := hi.map ev) (ll := l.toNat) (hh := hh.toNat) (lz := l) (hz := hh) rfl rfl a2 b2 (fun e => a1 (mapNone e)) (fun e => b1 (mapNone e)) q2 q3 (Int.le_trans q4 hcap)
        refine ⟨.slice (some (if (if full then n else c - p) = l.toNat then a else a.add (l.toNat * TE.size))) (hh.toNat - l.toNat) ((if full then n else c - p) - l.toNat), ?_, b, off, c, (if (if full then n else c - p) = l.toNat then a else a.add (l.toNat * TE.size)), hρ, ?_, by omega, fun hpl => ?_⟩
        · generalize (if full then n else c - p) = cap at e1 hrun ⊢
          by_cases hc : cap = l.toNat
          · subst hc
            simp [execOp, ho, e1, Instr.sliceAt, Instr.slice, run_underlying hkk, hrun, run_sizeOf' (hT e TE hte)]
          · simp [execOp, ho, e1, Instr.sliceAt, Instr.slice, run_underlying hkk, hrun, run_sizeOf' (hT e TE hte), hc]
        · congr 1
          cases full with
          | true =>
            simp only [Bool.not_true, Bool.false_or, Bool.and_eq_true, beq_iff_eq] at q5
            simp only [if_true]
            omega
          | false => simp only [Bool.false_eq_true, if_false]; omega
        · have hap := ha (by omega)
          subst hap
          by_cases hl0 : l.toNat = 0
          · simp [hl0, Addr.add]
          · have hne : (if full then n else c - p) ≠ l.toNat := by
              cases full with
              | true =>
                simp only [Bool.not_true, Bool.false_or, Bool.and_eq_true, beq_iff_eq, Bool.or_eq_true, decide_eq_true_eq] at q5
                simp only [if_true]
                omega
              | false => simp only [Bool.false_eq_true, if_false]; omega
            rw [if_neg hne, addr_add, q1, Nat.add_mul, Nat.add_assoc]
    · cases h
  · cases h

def slice3E (size : Nat) (x : Tv) (g : Operand → Tv) (lo : Option Operand) (hi mx : Operand) : Option Tv := match x with
  | .d (.one (.slc o k p n _)) => match bndE g 0 lo, bndE g 0 (some hi), bndE g 0 (some mx) with
    | some l, some h, some h' => bif Nat.beq k size && leB 0 l && leB l h && leB h n && h == h' && (l == 0 || decide (l < h)) then some (.d (.one (.slc o k (p + l.toNat) (h.toNat - l.toNat) true))) else none
    | _, _, _ => none
  | _ => none
theorem pure_slice3 {P : Program} {TT : Tab} (hT : TabOk P TT) {o : Oper} {g : Operand → Tv} {ty : TypeId} {T : Ty} (hty : TT ty = some T) {e : Nat} (hk : T.kind = .slc e) {TE : Ty} (hte : TT e = some TE) {x : Operand} {lo : Option Operand} {hi mx : Operand} (ho : o.op = .slice ty x lo (some hi) (some mx)) {r : Tv} (h : slice3E TE.size (g x) g lo hi mx = some r) : PureOk P o g r := by
  intro ρ w ev hev
  have e1 := hev x (by rw [ho]; simp [Op.operands])
  have hlo : ∀ y, lo = some y → TvOk ρ (ev y) (g y) := fun y hy => hev y (by rw [ho, hy]; simp [Op.operands])
  have hhi : ∀ y, some hi = some y → TvOk ρ (ev y) (g y) := fun y hy => hev y (by rw [ho]; cases hy; simp [Op.operands])
  have hmx : ∀ y, some mx = some y → TvOk ρ (ev y) (g y) := fun y hy => hev y (by rw [ho]; cases hy; simp [Op.operands])
  have hkk : P.underlying ty = some (.slice e) := by have := (hT ty T hty).kind; rw [hk] at this; exact this
  have mapNone : ∀ {b : Option Operand}, b.map ev = Option.none → b = Option.none := fun {b} h => by cases b <;> simp at h ⊢
  unfold slice3E at h
  split at h
  · rename_i ob k p n full hx
    rw [hx] at e1
    obtain ⟨b, off, c, a, hρ, e1, hpn, ha⟩ := slc_inv e1
    split at h
    · rename_i l hh hm h1 h2 h3
      obtain ⟨a1, a2⟩ := bndE_ok h1 hlo
      obtain ⟨_, b2⟩ := bndE_ok h2 hhi
      obtain ⟨_, c2⟩ := bndE_ok h3 hmx
      cases hq : (Nat.beq k TE.size && leB 0 l && leB l hh && leB hh n && hh == hm && (l == 0 || decide (l < hh))) with
      | false => rw [hq] at h; cases h
      | true =>
        rw [hq] at h; cases h
        simp only [Bool.and_eq_true, beq_iff_eq] at hq
        obtain ⟨⟨⟨⟨⟨q1, q2⟩, q3⟩, q4⟩, q6⟩, q5⟩ := hq
        subst q6
        have q1 := Nat.eq_of_beq_eq_true q1
        have q2 := leB_ok q2
        have q3 := leB_ok q3
        have q4 := leB_ok q4
        have hcap : (n : Int) ≤ ((if full then n else c - p : Nat) : Int) := by split <;> omega
        generalize (if full then n else c - p) = cap at e1 hcap
        obtain ⟨kh, hkh⟩ := b2 (ev hi) rfl
        obtain ⟨km, hkm⟩ := c2 (ev mx) rfl
        have hrun := bounds3_run (P := P) (w := w) (n := n) (cap := cap) (lo := lo.map ev) (hi := ev hi) (mx := ev mx) (ll := l.toNat) (lz := l) (hz := hh) (mz := hh) rfl a2 ⟨kh, hkh⟩ ⟨km, hkm⟩ (fun e => a1 (mapNone e)) q2 q3 (Int.le_refl _) (Int.le_trans q4 hcap)
        refine ⟨.slice (some (if hh.toNat = l.toNat then a else a.add (l.toNat * TE.size))) (hh.toNat - l.toNat) (hh.toNat - l.toNat), ?_, b, off, c, (if hh.toNat = l.toNat then a else a.add (l.toNat * TE.size)), hρ, rfl, by omega, fun hpl => ?_⟩
        · by_cases hc : hh.toNat = l.toNat
          · simp [execOp, ho, e1, Instr.sliceAt, Instr.slice, run_underlying hkk, hrun, run_sizeOf' (hT e TE hte), hc]
          · simp [execOp, ho, e1, Instr.sliceAt, Instr.slice, run_underlying hkk, hrun, run_sizeOf' (hT e TE hte), hc]
        · have hap := ha (by omega)
          subst hap
          by_cases hl0 : l.toNat = 0
          · simp [hl0, Addr.add]
          · have hne : hh.toNat ≠ l.toNat := by
              simp only [Bool.or_eq_true, beq_iff_eq, decide_eq_true_eq] at q5
              omega
            rw [if_neg hne, addr_add, q1, Nat.add_mul, Nat.add_assoc]
    · cases h
  · cases h
def lenE : Tv → Option Nat
  | .d (.one (.w (.slice none 0 0))) => some 0
  | .d (.one (.slc _ _ _ n _)) => some n
  | _ => Option.none
theorem pure_len {P : Program} {TT : Tab} (hT : TabOk P TT) {o : Oper} {g : Operand → Tv} {ty : TypeId} {T : Ty} (hty : TT ty = some T) {e : Nat} (hk : T.kind = .slc e) {x : Operand} {c : Call} (ho : o.op = .call c) (hcal : c.callee = .builtin .len) (hargs : c.args.toList = [x]) (hat : c.argTypes.toList = [ty]) {n : Nat} (h : lenE (g x) = some n) : PureOk P o g (wi n) := by
  intro ρ w ev hev
  have hma : c.args = #[x] := by rw [← Array.toArray_toList (xs := c.args), hargs]
  have hmt : c.argTypes = #[ty] := by rw [← Array.toArray_toList (xs := c.argTypes), hat]
  have e1 := hev x (by rw [ho]; simp [Op.operands, Call.operands, hcal, hma])
  have hkk : P.underlying ty = some (.slice e) := by have := (hT ty T hty).kind; rw [hk] at this; exact this
  have hs : ∃ ad cap, ev x = .slice ad n cap := by
    unfold lenE at h
    split at h
    · rename_i hq; rw [hq] at e1; cases h; exact ⟨_, _, w_inv e1⟩
    · rename_i hq; rw [hq] at e1; cases h; obtain ⟨_, _, _, a, _, h2, _⟩ := slc_inv e1; exact ⟨_, _, h2⟩
    · cases h
  obtain ⟨ad, cap, e1⟩ := hs
  exact ⟨.int .i64 n, by simp [execOp, ho, resolve, invoke, hcal, hma, hmt, builtin, e1, Builtin.len_, run_underlying hkk, goInt], ⟨rfl, rfl⟩⟩
theorem pure_capNil {P : Program} {TT : Tab} (hT : TabOk P TT) {o : Oper} {g : Operand → Tv} {ty : TypeId} {T : Ty} (hty : TT ty = some T) {e : Nat} (hk : T.kind = .slc e) {x : Operand} {c : Call} (ho : o.op = .call c) (hcal : c.callee = .builtin .cap) (hargs : c.args.toList = [x]) (hat : c.argTypes.toList = [ty]) (h : g x = wv (.slice none 0 0)) : PureOk P o g (wi 0) := by
  intro ρ w ev hev
  have hma : c.args = #[x] := by rw [← Array.toArray_toList (xs := c.args), hargs]
  have hmt : c.argTypes = #[ty] := by rw [← Array.toArray_toList (xs := c.argTypes), hat]
  have e1 := hev x (by rw [ho]; simp [Op.operands, Call.operands, hcal, hma])
  have hkk : P.underlying ty = some (.slice e) := by have := (hT ty T hty).kind; rw [hk] at this; exact this
  rw [h] at e1
  exact ⟨.int .i64 0, by simp [execOp, ho, resolve, invoke, hcal, hma, hmt, builtin, w_inv e1, Builtin.cap_, run_underlying hkk, goInt], ⟨rfl, rfl⟩⟩
theorem pure_min {P : Program} {o : Oper} {g : Operand → Tv} {x y : Operand} {c : Call} (ho : o.op = .call c) (hargs : c.args.toList = [x, y]) {k k' : IntKind} {a b : Int} (hx : g x = wv (.int k a)) (hy : g y = wv (.int k' b)) :
    (c.callee = .builtin .min → PureOk P o g (wv (.int k (if b < a then b else a)))) ∧ (c.callee = .builtin .max → PureOk P o g (wv (.int k (if a < b then b else a)))) := by
  have hma : c.args = #[x, y] := by rw [← Array.toArray_toList (xs := c.args), hargs]
  constructor
  · intro hcal ρ w ev hev
    have e1 := hev x (by rw [ho]; simp [Op.operands, Call.operands, hcal, hma])
    have e2 := hev y (by rw [ho]; simp [Op.operands, Call.operands, hcal, hma])
    rw [hx] at e1; rw [hy] at e2
    exact ⟨.int k (if b < a then b else a), by simp [execOp, ho, resolve, invoke, hcal, hma, builtin, Builtin.min_, w_inv e1, w_inv e2, Builtin.min2], ⟨rfl, rfl⟩⟩
  · intro hcal ρ w ev hev
    have e1 := hev x (by rw [ho]; simp [Op.operands, Call.operands, hcal, hma])
    have e2 := hev y (by rw [ho]; simp [Op.operands, Call.operands, hcal, hma])
    rw [hx] at e1; rw [hy] at e2
    exact ⟨.int k (if a < b then b else a), by simp [execOp, ho, resolve, invoke, hcal, hma, builtin, Builtin.max_, w_inv e1, w_inv e2, Builtin.max2], ⟨rfl, rfl⟩⟩
def capsE (g : Operand → Tv) : List Operand → Option (List (Nat × Nat))
  | [] => some []
  | x :: r => match g x, capsE g r with
    | .d (.one (.ptr o p)), some l => some ((o, p) :: l)
    | _, _ => Option.none
theorem capsE_ok {ρ : Rho} {ev : Operand → Value} {g : Operand → Tv} : ∀ {l : List Operand} {caps : List (Nat × Nat)}, capsE g l = some caps → (∀ y ∈ l, TvOk ρ (ev y) (g y)) → All2 (PtrV ρ) (l.map ev) caps
  | [], caps, h, _ => by cases h; exact .nil
  | x :: r, caps, h, hev => by
    simp only [capsE] at h
    split at h
    · rename_i ob p l h1 h2
      cases h
      have := hev x (by simp)
      rw [h1] at this
      exact .cons this (capsE_ok h2 (fun y hy => hev y (by simp [hy])))
    · cases h
theorem pure_makeFunc {P : Program} {o : Oper} {g : Operand → Tv} {f : Nat} {first captured : Array Operand} (ho : o.op = .makeFunc (.func f) first captured) (hf : first.toList = []) {caps : List (Nat × Nat)} (h : capsE g captured.toList = some caps) : PureOk P o g (.d (.one (.fn f caps))) := by
  intro ρ w ev hev
  have hfe : first = #[] := by rw [← Array.toArray_toList (xs := first), hf]
  have h1 := capsE_ok (ρ := ρ) (ev := ev) h (fun y hy => hev y (by rw [ho]; simp [Op.operands, hfe]; exact Array.mem_toList_iff.1 hy))
  refine ⟨.func (.func f) #[] (captured.toList.map ev).toArray, ?_, _, rfl, h1⟩
  have e2 : Array.map ev captured = (captured.toList.map ev).toArray := by apply Array.ext'; simp
  simp [execOp, ho, hfe, Instr.makeFunc, e2]

/-! ### objects -/
theorem below_alloc' (w : World) (o : Obj) : Below w.heap.size w (w.alloc o) := (Below.refl _ w).alloc (Nat.le_refl _) o
theorem below_drew_alloc' (w : World) (o : Obj) : Below w.heap.size w (w.drew.alloc o) := (((Below.refl w.heap.size w).drew).alloc (Nat.le_refl _) o)
theorem Rel.newRow {E : Env} {ρ : Rho} {t : Nat → Tv} {m : Nat → Ob} {a : Act} {w w' : World} (h : Rel E ρ t m a w) {o : Nat} (hm : m o = .none) {e : TypeId} {k n c : Nat} {exact' : Bool} {cs : List Ce} {arr : Array Value} (hb : Below w.heap.size w w') (hh : w'.heap[w.heap.size]? = some (.cells arr e (0, 0)))
    (hsz : arr.size = c * k) (hnc : n ≤ c) (hcm : c ≤ maxLen) (he : exact' = true → n = c) (hl : cs.length = n * k) (hcs : ∀ (j : Nat) (x : Ce), cs[j]? = some x → ∃ v, arr[j]? = some v ∧ CeOk ρ v x) :
    Sub ρ (updN ρ o (some (w.heap.size, 0, c))) ∧ Rel E (updN ρ o (some (w.heap.size, 0, c))) t (updN m o (.arr e k n exact' cs)) a w' := by
  have hlt : w.heap.size < w'.heap.size := by
    rcases Nat.lt_or_ge w.heap.size w'.heap.size with h | h
    · exact h
    · rw [Array.getElem?_eq_none h] at hh; cases hh
  have hn : ρ o = none := by have := h.ob o; rw [hm] at this; exact this
  have hs : Sub ρ (updN ρ o (some (w.heap.size, 0, c))) := by
    intro o' q hq
    have : o' ≠ o := by rintro rfl; rw [hn] at hq; cases hq
    rw [updN_ne _ _ this]; exact hq
  exact h.fresh hm hb hlt ⟨_, c, arr, updN_same _ _ _, hh, hsz, hnc, hcm, he, hl, fun j x hx => let ⟨v, h1, h2⟩ := hcs j x hx; ⟨v, h1, h2.sub hs⟩⟩
theorem all2_at {ρ : Rho} {us : List Value} {cs : List Ce} (h : CsOk ρ us cs) (j : Nat) (x : Ce) (hx : cs[j]? = some x) : ∃ v, us.toArray[j]? = some v ∧ CeOk ρ v x := by
  obtain ⟨v, h1, h2⟩ := all2_get h j x hx
  exact ⟨v, by simpa using h1, h2⟩
theorem same_at {rd : List Nat} {m m' : Nat → Ob} (h : Same rd m m') {o : Nat} (ho : o ∈ rd) {x : Ob} (hx : m o = x) : m' o = x := (h o ho).trans hx

theorem step_alloc (C : Cfg) {o : Oper} {t : Nat → Tv} {m : Nat → Ob} {e : TypeId} {T : Ty} (hty : C.TT e = some T) (ho : o.op = .alloc e) {d : Nat} (hm : m d = .none) {z : List Ce} (hz : zeroE T = some z) :
    StepOk C.P o t m (.d (.one (.ptr d 0))) [(d, .arr e T.size 1 true z)] [d] := by
  refine stepOk_mem fun E ρ t' m' a w hP ha hm' hd hR => ?_
  obtain ⟨i, ze, h1, h2, h3, h4, h5, h6⟩ := zeroE_ok (C.hT e T hty) hz ρ
  have hl := all2_length h6
  obtain ⟨k1, k2⟩ := hR.newRow (o := d) (e := e) (k := T.size) (n := 1) (c := 1) (exact' := true) (cs := z) (same_at hm' (by simp) hm) (below_alloc' w (.cells ze.cells e)) (heap_alloc_new' w _) (by simp [h5]) (Nat.le_refl _) (by simp [maxLen]) (fun _ => rfl) (by simp at hl; omega)
    (fun j x hx => by have := all2_at h6 j x hx; simpa using this)
  refine ⟨_, .pointer (some ⟨w.heap.size, 0, none⟩), _, _, ?_, .inl rfl, k2, _, 0, 1, updN_same _ _ _, rfl⟩
  simp [execOp, ho, Instr.alloc, zeroValue, typeInfo, h1, h4, newVar, newRow]
theorem step_box (C : Cfg) {o : Oper} {t : Nat → Tv} {m : Nat → Ob} {e : TypeId} {x : Operand} (ho : o.op = .box e x) {d : Nat} (hm : m d = .none) {l : List Ce} (hl : (opd t x).cells = some l) :
    StepOk C.P o t m (.d (.one (.ptr d 0))) [(d, .arr e l.length 1 true l)] [d] := by
  refine stepOk_mem fun E ρ t' m' a w hP ha hm' hd hR => ?_
  have e1 := opd_ok hR x
  rw [opd_agree ha (by rw [ho]; simp [Op.operands])] at e1
  obtain ⟨us, h1, h2⟩ := cells_inv e1 hl
  have hul := all2_length h2
  obtain ⟨k1, k2⟩ := hR.newRow (o := d) (e := e) (k := l.length) (n := 1) (c := 1) (exact' := true) (cs := l) (same_at hm' (by simp) hm) (below_alloc' w (.cells us.toArray e)) (heap_alloc_new' w _) (by simp [hul]) (Nat.le_refl _) (by simp [maxLen]) (fun _ => rfl) (by simp)
    (fun j x hx => all2_at h2 j x hx)
  refine ⟨_, .pointer (some ⟨w.heap.size, 0, none⟩), _, _, ?_, .inl rfl, k2, _, 0, 1, updN_same _ _ _, rfl⟩
  simp [execOp, ho, Instr.box, Go.newVar, Go.newRow, h1]

theorem Rel.setRow {E : Env} {ρ : Rho} {t : Nat → Tv} {m : Nat → Ob} {a : Act} {w : World} (h : Rel E ρ t m a w) {o : Nat} {e : TypeId} {k n : Nat} {ex : Bool} {cs : List Ce} (hm : m o = .arr e k n ex cs) {us : List Value} {l : List Ce} (hu : CsOk ρ us l) {p : Nat} (hp : p + l.length ≤ cs.length) :
    ∃ b c cur, ρ o = some (b, 0, c) ∧ w.heap[b]? = some (.cells cur e (0, 0)) ∧ p + us.length ≤ cur.size ∧ c * k = cur.size ∧ n ≤ c ∧ c ≤ maxLen ∧ (ex = true → n = c) ∧ Rel E ρ t (updN m o (.arr e k n ex (setC cs p l))) a (w.setRow b (setCells cur.toList p us).toArray) := by
  have hob := h.ob o
  rw [hm] at hob
  obtain ⟨b, c, cur, h1, h2, h3, h4, h5, h6, h7, h8⟩ := hob
  have hul := all2_length hu
  have hle : cs.length ≤ cur.size := by rw [h7, h3]; exact Nat.mul_le_mul_right _ h4
  refine ⟨b, c, cur, h1, h2, by omega, h3.symm, h4, h5, h6, ?_⟩
  refine h.write (by rw [hm]; rfl) h1 rfl rfl rfl (size_setRow ..) (fun k' hk' => setRow_other w b k' _ hk') ⟨b, c, _, h1, setRow_heap w b _ _ e _ h2, by simp [length_setCells, h3], h4, h5, h6, by rw [setC_eq, length_setCells]; exact h7, fun j x hx => ?_⟩ rfl
  rw [setC_eq, getElem?_setCells l cs p hp] at hx
  have hg := getElem?_setCells us cur.toList p (by simp; omega) j
  split at hx
  · rename_i hj
    obtain ⟨v, q1, q2⟩ := all2_get hu _ _ hx
    rw [if_pos (by omega)] at hg
    exact ⟨v, by rw [List.getElem?_toArray, hg]; exact q1, q2⟩
  · rename_i hj
    obtain ⟨v, q1, q2⟩ := h8 j x hx
    rw [if_neg (by omega)] at hg
    exact ⟨v, by rw [List.getElem?_toArray, hg]; simpa using q1, q2⟩
theorem step_store (C : Cfg) {o : Oper} {t : Nat → Tv} {m : Nat → Ob} {ty : TypeId} {T : Ty} (hty : C.TT ty = some T) {x y : Operand} (ho : o.op = .store ty x y) {ob p : Nat} (hx : opd t x = .d (.one (.ptr ob p))) {l : List Ce} (hl : (opd t y).cells = some l) (hlen : l.length = T.size)
    {e : TypeId} {k n : Nat} {ex : Bool} {cs : List Ce} (hm : m ob = .arr e k n ex cs) (hp : p + l.length ≤ cs.length) : StepOk C.P o t m .un [(ob, .arr e k n ex (setC cs p l))] [ob] := by
  refine stepOk_mem fun E ρ t' m' a w hP ha hm' hd hR => ?_
  have e1 := opd_ok hR x
  have e2 := opd_ok hR y
  rw [opd_agree ha (by rw [ho]; simp [Op.operands]), hx] at e1
  rw [opd_agree ha (by rw [ho]; simp [Op.operands])] at e2
  obtain ⟨b, off, c, hρ, e1⟩ := ptr_inv e1
  obtain ⟨us, h1, h2⟩ := cells_inv e2 hl
  have hul := all2_length h2
  obtain ⟨b', c', cur, r1, r2, r3, _, _, _, _, r4⟩ := hR.setRow (same_at hm' (by simp) hm) h2 hp
  rw [hρ] at r1
  cases r1
  rw [Nat.zero_add] at e1
  have hst := run_storeVar' (C.hT ty T hty) w b p cur e r2 _ us h1 (by omega) r3 h2.oneCell
  refine ⟨.skip, Go.undef, _, ρ, ?_, .inr ⟨rfl, rfl⟩, r4, trivial⟩
  simp [execOp, ho, e1, Instr.storeAt, Instr.sureAddr, hst]

def repC : Nat → List Ce → List Ce
  | 0, _ => []
  | n + 1, l => l ++ repC n l
theorem repC_ok {ρ : Rho} {xs : List Value} {cs : List Ce} (h : CsOk ρ xs cs) : ∀ n, CsOk ρ (repeatV n xs) (repC n cs)
  | 0 => .nil
  | n + 1 => all2_append h (repC_ok h n)
theorem length_repC : ∀ (n : Nat) (l : List Ce), (repC n l).length = n * l.length
  | 0, _ => by simp [repC]
  | n + 1, l => by simp [repC, length_repC n, Nat.add_mul, Nat.add_comm]
theorem step_buildSlice (C : Cfg) {o : Oper} {t : Nat → Tv} {m : Nat → Ob} {ty : TypeId} {T : Ty} (hty : C.TT ty = some T) {e : TypeId} (hk : T.kind = .slc e) {TE : Ty} (hte : C.TT e = some TE) {parts : Array (Nat × Operand)} {len : Nat} (ho : o.op = .buildSlice ty len parts) {d : Nat} (hm : m d = .none) {z cs : List Ce} (hz : zeroE TE = some z)
    (hsz : len * TE.size ≤ 65536) (hpos : 0 < TE.size) (hlen : 0 < len) (h : fillE (fun i => some (i * TE.size, TE.size)) (opd t) (repC len z) parts.toList = some cs) :
    StepOk C.P o t m (.d (.one (.slc d TE.size 0 len false))) [(d, .arr e TE.size len true cs)] [d] := by
  refine stepOk_mem fun E ρ t' m' a w hP ha hm' hd hR => ?_
  have hkk : C.P.underlying ty = some (.slice e) := by have := (C.hT ty T hty).kind; rw [hk] at this; exact this
  obtain ⟨ie, ze, g1, g2, g3, g4, g5, hzr⟩ := zeroE_ok (C.hT e TE hte) hz ρ
  have hzl := all2_length hzr
  simp only [Array.length_toList] at hzl
  obtain ⟨ys, hy1, hy2, hy3⟩ := fillE_ok (ρ := ρ) (ev := a.eval) _ parts.toList (repC len z) cs (repeatV len ze.cells.toList) h (fun p hp => by
    rw [← opd_agree ha (parts_mem (by rw [ho]; rfl) p hp)]
    exact opd_ok hR p.2) (repC_ok hzr len)
  rw [length_repC, ← hzl, g5] at hy3
  have hyl := all2_length hy2
  have hmade := made_repeat ze.cells len (by omega)
  rw [g5] at hmade
  have hn0 : len * TE.size ≠ 0 := Nat.ne_of_gt (Nat.mul_pos hlen hpos)
  have hrun : (execOp a.eval o).run C.P w = .ok (.value (.slice (some ⟨w.heap.size, 0, none⟩) len len)) (w.alloc (.cells ys.toArray e)) := by
    have h24 : ¬ (16777216 < len * TE.size) := by omega
    simp [execOp, ho, Instr.buildSlice, run_underlying hkk, run_sizeOf' (C.hT e TE hte), h24, zeroValue, typeInfo, g1, g4, g5, Go.newRow]
    rw [if_neg hn0, hmade, hy1]
    simp
  obtain ⟨k1, k2⟩ := hR.newRow (o := d) (e := e) (k := TE.size) (n := len) (c := len) (exact' := true) (cs := cs) (same_at hm' (by simp) hm) (below_alloc' w (.cells ys.toArray e)) (heap_alloc_new' w _) (by simp; omega) (Nat.le_refl _)
    (by have : len ≤ len * TE.size := Nat.le_mul_of_pos_right _ hpos; simp only [maxLen]; omega) (fun _ => rfl) hy3 (fun j x hx => all2_at hy2 j x hx)
  exact ⟨_, _, _, _, hrun, .inl rfl, k2, _, 0, len, ⟨w.heap.size, 0, none⟩, updN_same _ _ _, by simp, by omega, fun _ => by simp⟩
theorem step_emptySlice (C : Cfg) {o : Oper} {t : Nat → Tv} {m : Nat → Ob} {ty : TypeId} {T : Ty} (hty : C.TT ty = some T) {e : TypeId} (hk : T.kind = .slc e) {TE : Ty} (hte : C.TT e = some TE) {parts : Array (Nat × Operand)} (ho : o.op = .buildSlice ty 0 parts) {d : Nat} (hm : m d = .none) (hp : parts.toList = []) :
    StepOk C.P o t m (.d (.one (.slc d TE.size 0 0 false))) [(d, .arr e TE.size 0 true [])] [d] := by
  have hkk : C.P.underlying ty = some (.slice e) := by have := (C.hT ty T hty).kind; rw [hk] at this; exact this
  have hpe : parts = #[] := by rw [← Array.toArray_toList (xs := parts), hp]
  refine stepOk_mem fun E ρ t' m' a w hP ha hm' hd hR => ?_
  obtain ⟨k1, k2⟩ := hR.newRow (o := d) (e := e) (k := TE.size) (n := 0) (c := 0) (exact' := true) (cs := []) (same_at hm' (by simp) hm) (below_alloc' w (.cells #[] e)) (heap_alloc_new' w _) (by simp) (Nat.le_refl _) (by simp [maxLen]) (fun _ => rfl) (by simp) (fun j x hx => by simp at hx)
  refine ⟨_, .slice (some ⟨w.heap.size, 0, none⟩) 0 0, _, _, ?_, .inl rfl, k2, _, 0, 0, ⟨w.heap.size, 0, none⟩, updN_same _ _ _, rfl, by omega, fun _ => by simp⟩
  simp [execOp, ho, hpe, Instr.buildSlice, run_underlying hkk, run_sizeOf' (C.hT e TE hte), Instr.fill, Go.newRow]
  have h0 : Array.range 0 = #[] := by apply Array.ext'; simp
  rw [h0, Array.map_empty]
theorem step_makeSlice (C : Cfg) {o : Oper} {t : Nat → Tv} {m : Nat → Ob} {ty : TypeId} {T : Ty} (hty : C.TT ty = some T) {e : TypeId} (hk : T.kind = .slc e) {TE : Ty} (hte : C.TT e = some TE) {x y : Operand} (ho : o.op = .makeSlice ty x y) {d : Nat} (hm : m d = .none) {z : List Ce} (hz : zeroE TE = some z)
    {kn kc : IntKind} {n : Int} (hx : opd t x = wv (.int kn n)) (hy : opd t y = wv (.int kc n)) (h0 : 0 < n) (hpos : 0 < TE.size) (h1 : (TE.bytes : Int) * n ≤ 281474976710656) (h2 : n ≤ 65536) :
    StepOk C.P o t m (.d (.one (.slc d TE.size 0 n.toNat false))) [(d, .arr e TE.size n.toNat true (repC n.toNat z))] [d] := by
  refine stepOk_mem fun E ρ t' m' a w hP ha hm' hd hR => ?_
  have hkk : C.P.underlying ty = some (.slice e) := by have := (C.hT ty T hty).kind; rw [hk] at this; exact this
  have e1 := opd_ok hR x
  have e2 := opd_ok hR y
  rw [opd_agree ha (by rw [ho]; simp [Op.operands]), hx] at e1
  rw [opd_agree ha (by rw [ho]; simp [Op.operands]), hy] at e2
  obtain ⟨ie, ze, g1, g2, g3, g4, g5, hzr⟩ := zeroE_ok (C.hT e TE hte) hz ρ
  have hzl := all2_length hzr
  simp only [Array.length_toList] at hzl
  have hrun := run_make (P := C.P) w ty e ie ze hkk g1 g4 kn kc n n (by omega) (Int.le_refl _) (by rw [g3]; exact h1) (by omega)
  have hmade := made_repeat ze.cells n.toNat (by omega)
  have hmc : madeCells ze.cells (n.toNat * ie.size) = (repeatV n.toNat ze.cells.toList).toArray := by rw [← hmade, g5, g2]; simp only [madeCells, g5]
  have hrep := repC_ok hzr n.toNat
  have hrl := all2_length hrep
  rw [length_repeatV, length_repC] at hrl
  obtain ⟨k1, k2⟩ := hR.newRow (o := d) (e := e) (k := TE.size) (n := n.toNat) (c := n.toNat) (exact' := true) (cs := repC n.toNat z) (same_at hm' (by simp) hm) (below_alloc' w (.cells (madeCells ze.cells (n.toNat * ie.size)) e)) (heap_alloc_new' w _) (by rw [size_madeCells, g2]) (Nat.le_refl _)
    (by simp only [maxLen]; omega) (fun _ => rfl) (by rw [length_repC, ← hzl, g5]) (fun j x hx => by rw [hmc]; exact all2_at hrep j x hx)
  refine ⟨_, _, _, _, ?_, .inl rfl, k2, _, 0, n.toNat, ⟨w.heap.size, 0, none⟩, updN_same _ _ _, rfl, by omega, fun _ => by simp⟩
  simp [execOp, ho, w_inv e1, w_inv e2, hrun]
end Go.Cv
namespace Go.Cv
open Go Go.RowKit Go.Vm

def srcE (m : Nat → Ob) (size : Nat) : Tv → Option (Nat × List Ce × List Nat)
  | .d (.one (.w (.slice none 0 0))) => some (0, [], [])
  | .d (.one (.slc o k p n _)) => match (m o).row with
    | some cs => bif Nat.beq k size && Nat.ble ((p + n) * k) cs.length then some (n, (cs.drop (p * k)).take (n * k), [o]) else Option.none
    | Option.none => Option.none
  | _ => Option.none
theorem srcE_ok {m : Nat → Ob} {size : Nat} {x : Tv} {n : Nat} {l : List Ce} {rd : List Nat} (h : srcE m size x = some (n, l, rd)) : l.length = n * size ∧ ∀ {E : Env} {ρ : Rho} {t' : Nat → Tv} {m' : Nat → Ob} {a : Act} {w : World} (v : Value), Same rd m m' → Rel E ρ t' m' a w → TvOk ρ v x →
    ∃ news : List Value, CsOk ρ news l ∧ ((v = .slice none 0 0 ∧ n = 0) ∨ ∃ ad cap, v = .slice (some ad) n cap ∧ (0 < n → ∀ (j : Nat) (u : Value), news[j]? = some u → w.cell? (ad.add j) = some u)) := by
  unfold srcE at h
  split at h
  · cases h
    exact ⟨by simp, fun v _ _ hv => ⟨[], .nil, .inl ⟨w_inv hv, rfl⟩⟩⟩
  · rename_i o k p n' full
    split at h
    · rename_i cs hr
      cases hq : (Nat.beq k size && Nat.ble ((p + n') * k) cs.length) with
      | false => rw [hq] at h; cases h
      | true =>
        rw [hq] at h; cases h
        simp only [Bool.and_eq_true] at hq
        have q1 := Nat.eq_of_beq_eq_true hq.1
        have q2 := Nat.le_of_ble_eq_true hq.2
        rw [Nat.add_mul] at q2
        refine ⟨by rw [← q1]; simp; omega, fun v hs hR hv => ?_⟩
        obtain ⟨b, off, c, a, hρ, e1, hpn, ha⟩ := slc_inv hv
        obtain ⟨b', off', c', hρ', xs, r1, r2⟩ := part_ok (hR.ob o) (by rw [hs o (by simp)]; exact hr) (p * k) (n * k)
        rw [hρ] at hρ'
        cases hρ'
        refine ⟨xs, r1, .inr ⟨a, _, e1, fun hn j u hu => ?_⟩⟩
        rw [ha (.inl (by omega)), addr_add]
        exact r2 j u hu
    · cases h
  · cases h

theorem Rel.kill {E : Env} {ρ : Rho} {t : Nat → Tv} {m : Nat → Ob} {a : Act} {w : World} (h : Rel E ρ t m a w) (o : Nat) : Rel E ρ t (updN m o .dead) a w := by
  refine ⟨h.bx, ?_, ?_, ?_, h.ext, ?_, h.defers, h.size, h.slots⟩
  · intro o' b off c hl hq
    by_cases e : o' = o
    · subst e; rw [updN_same] at hl; cases hl
    · rw [updN_ne _ _ e] at hl; exact h.own _ _ _ _ hl hq
  · intro o' b off c hl hq
    by_cases e : o' = o
    · subst e; rw [updN_same] at hl; cases hl
    · rw [updN_ne _ _ e] at hl; exact h.ros _ _ _ _ hl hq
  · intro o1 o2 b off1 c1 off2 c2 h1 h2 q1 q2
    by_cases e1 : o1 = o
    · subst e1; rw [updN_same] at h1; cases h1
    · by_cases e2 : o2 = o
      · subst e2; rw [updN_same] at h2; cases h2
      · rw [updN_ne _ _ e1] at h1; rw [updN_ne _ _ e2] at h2
        exact h.inj _ _ _ _ _ _ _ h1 h2 q1 q2
  · intro o'
    by_cases e : o' = o
    · subst e; rw [updN_same]; trivial
    · rw [updN_ne _ _ e]; exact h.ob o'
theorem live_there {x : Ob} (h : x.live = true) : x.there = true := by cases x <;> simp [Ob.live, Ob.there] at h ⊢
theorem Rel.reuse {E : Env} {ρ : Rho} {t : Nat → Tv} {m : Nat → Ob} {a : Act} {w w' : World} (h : Rel E ρ t m a w) {o d : Nat} {x : Ob} {b off c : Nat} (hm : (m o).live = true) (hd : m d = .none) (hq : ρ o = some (b, off, c))
    (hos : w'.os = w.os) (htape : w'.tape = w.tape) (hout : w'.output = w.output) (hsz : w'.heap.size = w.heap.size) (hblk : ∀ k, k ≠ b → w'.heap[k]? = w.heap[k]?)
    (hx : ObOk (updN ρ d (some (b, off, c))) w' d x) : Sub ρ (updN ρ d (some (b, off, c))) ∧ Rel E (updN ρ d (some (b, off, c))) t (updN (updN m o .dead) d x) a w' := by
  have hn : ρ d = none := by have := h.ob d; rw [hd] at this; exact this
  have hs : Sub ρ (updN ρ d (some (b, off, c))) := by
    intro o' q hq
    have : o' ≠ d := by rintro rfl; rw [hn] at hq; cases hq
    rw [updN_ne _ _ this]; exact hq
  have hod : o ≠ d := by rintro rfl; rw [hn] at hq; cases hq
  obtain ⟨hXb, hbl⟩ := h.own o b off c hm hq
  -- what lies at d lies where o lay
  have at_ : ∀ o' b' off' c', updN ρ d (some (b, off, c)) o' = some (b', off', c') → (o' = d ∧ b' = b) ∨ (o' ≠ d ∧ ρ o' = some (b', off', c')) := by
    intro o' b' off' c' q
    by_cases e : o' = d
    · subst e; rw [updN_same] at q; simp at q; exact .inl ⟨rfl, q.1.symm⟩
    · rw [updN_ne _ _ e] at q; exact .inr ⟨e, q⟩
  have mem : ∀ o', o' ≠ d → (updN (updN m o .dead) d x o').there = true → o' ≠ o ∧ (updN (updN m o .dead) d x o') = m o' := by
    intro o' e ht
    rw [updN_ne _ _ e] at ht ⊢
    by_cases e2 : o' = o
    · subst e2; rw [updN_same] at ht; cases ht
    · rw [updN_ne _ _ e2]; exact ⟨e2, rfl⟩
  refine ⟨hs, ?_, ?_, ?_, ?_, fun o' q hq => hs _ _ (h.ext o' q hq), ?_, h.defers, h.size, fun i => (h.slots i).sub hs⟩
  · refine ⟨hos.trans h.bx.os, htape.trans h.bx.tape, hout.trans h.bx.output, by rw [hsz]; exact h.bx.size, fun k hk hxx => ?_⟩
    have : k ≠ b := by
      rintro rfl
      rcases hXb with h1 | h1
      · exact hxx h1
      · omega
    exact (hblk k this).trans (h.bx.block k hk hxx)
  · intro o' b' off' c' hl q
    rw [hsz]
    rcases at_ _ _ _ _ q with ⟨rfl, rfl⟩ | ⟨e, q⟩
    · exact ⟨hXb, hbl⟩
    · obtain ⟨e2, e3⟩ := mem o' e (live_there hl)
      rw [e3] at hl
      exact h.own _ _ _ _ hl q
  · intro o' b' off' c' hl q
    rw [hsz]
    rcases at_ _ _ _ _ q with ⟨rfl, rfl⟩ | ⟨e, q⟩
    · exact ⟨hXb.elim .inl (fun h => .inr (.inr h)), hbl⟩
    · obtain ⟨e2, e3⟩ := mem o' e hl
      rw [e3] at hl
      exact h.ros _ _ _ _ hl q
  · intro o1 o2 b' off1 c1 off2 c2 h1 h2 q1 q2
    rcases at_ _ _ _ _ q1 with ⟨e1, f1⟩ | ⟨e1, p1⟩
    · rcases at_ _ _ _ _ q2 with ⟨e2, _⟩ | ⟨e2, p2⟩
      · rw [e1, e2]
      · obtain ⟨e3, e4⟩ := mem o2 e2 h2
        rw [e4] at h2
        rw [f1] at p2
        exact absurd (h.inj _ _ _ _ _ _ _ hm h2 hq p2).symm e3
    · obtain ⟨e3, e4⟩ := mem o1 e1 (live_there h1)
      rw [e4] at h1
      rcases at_ _ _ _ _ q2 with ⟨e2, f2⟩ | ⟨e2, p2⟩
      · rw [f2] at p1
        exact absurd (h.inj _ _ _ _ _ _ _ h1 (live_there hm) p1 hq) e3
      · obtain ⟨e5, e6⟩ := mem o2 e2 h2
        rw [e6] at h2
        exact h.inj _ _ _ _ _ _ _ h1 h2 p1 p2
  · intro o'
    by_cases e : o' = d
    · subst e; rw [updN_same]; exact hx
    · rw [updN_ne _ _ e]
      by_cases e2 : o' = o
      · subst e2; rw [updN_same]; trivial
      · rw [updN_ne _ _ e2]
        refine (h.ob o').carry hs (fun hq => ?_) (fun b' off' c' ht hq' => ?_)
        · rw [updN_ne _ _ e]
          have := h.ob o'; rw [hq] at this; exact this
        · refine hblk b' ?_
          rintro rfl
          exact e2 (h.inj _ _ _ _ _ _ _ hm ht hq hq').symm

theorem run_append_src_empty {P : Program} {w : World} (t ty e : TypeId) (i : TypeInfo) (ht : P.underlying t = some (.slice e)) (hi : P.info? e = some i) (b : Addr) (n cap : Nat) (h : n ≤ cap) (a : Addr) (c : Nat) :
    (Builtin.append_ #[t, t] ty #[.slice (some b) n cap, .slice (some a) 0 c]).run P w = .ok (.slice (some b) n cap) w := by
  simp [Builtin.append_, run_underlying ht, sizeOf, typeInfo, hi, Builtin.lenOf, Builtin.firstCells, loadCells, loadCellsFrom, h, storeCells]

section
variable (C : Cfg) {o : Oper} {t : Nat → Tv} {m : Nat → Ob} {ty ty' : TypeId} {T : Ty} (hty : C.TT ty = some T) {e : TypeId} (hk : T.kind = .slc e) {TE : Ty} (hte : C.TT e = some TE) {s x : Operand} {c : Call} (ho : o.op = .call c) (hcal : c.callee = .builtin .append) (hargs : c.args.toList = [s, x]) (hat : c.argTypes.toList = [ty, ty']) (hsl : ∃ e', C.P.underlying ty' = some (.slice e'))
include hty hk hte ho hcal hargs hat hsl
omit hte in
theorem exec_append (a : Act) (w : World) (r : Value) (w' : World) (hr : (Builtin.append_ #[ty, ty] o.type #[a.eval s, a.eval x]).run C.P w = .ok r w') : (execOp a.eval o).run C.P w = .ok (.value r) w' := by
  obtain ⟨e2, hsl⟩ := hsl
  have hma : c.args = #[s, x] := by rw [← Array.toArray_toList (xs := c.args), hargs]
  have hmt : c.argTypes = #[ty, ty'] := by rw [← Array.toArray_toList (xs := c.argTypes), hat]
  have hkk : C.P.underlying ty = some (.slice e) := by have := (C.hT ty T hty).kind; rw [hk] at this; exact this
  rw [← append_ty hkk hsl] at hr
  simp [execOp, ho, resolve, invoke, hcal, hma, hmt, builtin, hr]
omit hty hk hte hat hsl in
theorem mem_append : s ∈ o.op.operands.toList ∧ x ∈ o.op.operands.toList := by
  have hma : c.args = #[s, x] := by rw [← Array.toArray_toList (xs := c.args), hargs]
  rw [ho]; simp [Op.operands, Call.operands, hcal, hma]

theorem step_append0 {l : List Ce} {rd : List Nat} (hx : srcE m TE.size (opd t x) = some (0, l, rd)) (hs : nilOf (opd t s) ≠ Option.none) : StepOk C.P o t m (opd t s) [] rd := by
  obtain ⟨ie, ze, g1, g2, g3, g4, g5, hzr⟩ := zero_rd (C.hT e TE hte) (fun _ => True) default
  have hkk : C.P.underlying ty = some (.slice e) := by have := (C.hT ty T hty).kind; rw [hk] at this; exact this
  obtain ⟨hms, hmx⟩ := mem_append ho hcal hargs
  obtain ⟨_, hsrc⟩ := srcE_ok hx
  refine stepOk_pure fun E ρ t' m' a w hP ha hm hR => ?_
  have e1 := opd_ok hR s
  have e2 := opd_ok hR x
  rw [opd_agree ha hms] at e1; rw [opd_agree ha hmx] at e2
  obtain ⟨news, _, hv⟩ := hsrc _ hm hR e2
  refine ⟨a.eval s, exec_append C hty hk ho hcal hargs hat hsl a w _ w ?_, e1⟩
  have hsv : a.eval s = .slice none 0 0 ∨ ∃ ad n cap, n ≤ cap ∧ a.eval s = .slice (some ad) n cap := by
    unfold nilOf at hs
    split at hs
    · rename_i hq; rw [hq] at e1; exact .inl (w_inv e1)
    · rename_i hq; rw [hq] at e1; obtain ⟨_, _, _, a', _, h2, h3, _⟩ := slc_inv e1
      refine .inr ⟨a', _, _, ?_, h2⟩
      split <;> omega
    · exact absurd rfl hs
  rcases hsv with hsv | ⟨ad, n, cap, hnc, hsv⟩
  · rw [hsv]
    rcases hv with ⟨hv, _⟩ | ⟨ad', cap', hv, _⟩
    · rw [hv]; exact run_append_none ty o.type e ie hkk g1
    · rw [hv]; exact run_append_empty ty o.type e ie hkk g1 _ _
  · rw [hsv]
    rcases hv with ⟨hv, _⟩ | ⟨ad', cap', hv, _⟩
    · rw [hv]; exact run_append_src_none ty o.type e ie hkk g1 ad n cap hnc
    · rw [hv]; exact run_append_src_empty ty o.type e ie hkk g1 ad n cap hnc _ _
theorem step_appendNil {n : Nat} {l : List Ce} {rd : List Nat} (hx : srcE m TE.size (opd t x) = some (n, l, rd)) (hs : opd t s = wv (.slice none 0 0)) {d : Nat} (hm : m d = .none) (h0 : 0 < n) (h1 : n ≤ 65536) (h2 : n * TE.bytes ≤ 140737488355328) :
    StepOk C.P o t m (.d (.one (.slc d TE.size 0 n false))) [(d, .arr e TE.size n false l)] (d :: rd) := by
  obtain ⟨ie, ze, g1, g2, g3, g4, g5, hzr⟩ := zero_rd (C.hT e TE hte) (fun _ => True) default
  have hkk : C.P.underlying ty = some (.slice e) := by have := (C.hT ty T hty).kind; rw [hk] at this; exact this
  obtain ⟨hms, hmx⟩ := mem_append ho hcal hargs
  obtain ⟨hll, hsrc⟩ := srcE_ok hx
  refine stepOk_mem fun E ρ t' m' a w hP ha hm' hd hR => ?_
  have e1 := opd_ok hR s
  have e2 := opd_ok hR x
  rw [opd_agree ha hms, hs] at e1; rw [opd_agree ha hmx] at e2
  obtain ⟨news, hnl, hv⟩ := hsrc _ (fun b hb => hm' b (by simp [hb])) hR e2
  have hnn := all2_length hnl
  rcases hv with ⟨_, hv⟩ | ⟨ad, cap, hv, hc⟩
  · omega
  · have hrun := run_append_nil (P := C.P) w ty o.type e ie ze hkk g1 g4 ad n cap news (by rw [hnn, hll, g2]) (hc h0) h0 (by omega) (by rw [g3]; omega)
    have hcap := grownCap_ge w n 0 e
    have hcm := grownCap_le_maxLen w n 0 e (by simp only [maxLen]; omega)
    obtain ⟨k1, k2⟩ := hR.newRow (o := d) (e := e) (k := TE.size) (n := n) (c := grownCap w n 0 e) (exact' := false) (cs := l) (same_at hm' (by simp) hm) (below_drew_alloc' w (.cells (news.toArray ++ Builtin.zeroCells ze.cells (grownCap w n 0 e - n)) e)) (heap_alloc_new' w.drew _)
      (by simp only [Array.size_append, List.size_toArray, size_zeroCells', hnn, hll, g5, ← Nat.add_mul]; congr 1; omega) hcap hcm (fun e => by cases e) hll
      (fun j y hy => by
        obtain ⟨v, q1, q2⟩ := all2_get hnl j y hy
        refine ⟨v, ?_, q2⟩
        have hlt : j < news.length := by
          rcases Nat.lt_or_ge j news.length with h | h
          · exact h
          · rw [List.getElem?_eq_none h] at q1; cases q1
        rw [Array.getElem?_append, if_pos (by simpa using hlt)]
        simpa using q1)
    refine ⟨_, _, _, _, exec_append C hty hk ho hcal hargs hat hsl a w _ _ (by rw [w_inv e1, hv]; exact hrun), .inl rfl, k2, _, 0, grownCap w n 0 e, ⟨w.heap.size, 0, none⟩, updN_same _ _ _, by simp, by omega, fun _ => by simp⟩
theorem step_appendIn {n : Nat} {l : List Ce} {rd : List Nat} (hx : srcE m TE.size (opd t x) = some (n, l, rd)) {ob n0 N : Nat} {ex : Bool} {cs : List Ce} (hs : opd t s = .d (.one (.slc ob TE.size 0 n0 false))) (hm : m ob = .arr e TE.size N ex cs) (h0 : 0 < n) (h1 : n0 + n ≤ N) :
    StepOk C.P o t m (.d (.one (.slc ob TE.size 0 (n0 + n) false))) [(ob, .arr e TE.size N ex (setC cs (n0 * TE.size) l))] (ob :: rd) := by
  obtain ⟨ie, ze, g1, g2, g3, g4, g5, hzr⟩ := zero_rd (C.hT e TE hte) (fun _ => True) default
  have hkk : C.P.underlying ty = some (.slice e) := by have := (C.hT ty T hty).kind; rw [hk] at this; exact this
  obtain ⟨hms, hmx⟩ := mem_append ho hcal hargs
  obtain ⟨hll, hsrc⟩ := srcE_ok hx
  refine stepOk_mem fun E ρ t' m' a w hP ha hm' hd hR => ?_
  have e1 := opd_ok hR s
  have e2 := opd_ok hR x
  rw [opd_agree ha hms, hs] at e1; rw [opd_agree ha hmx] at e2
  obtain ⟨news, hnl, hv⟩ := hsrc _ (fun b hb => hm' b (by simp [hb])) hR e2
  have hnn := all2_length hnl
  have hm2 : m' ob = .arr e TE.size N ex cs := same_at hm' (by simp) hm
  have hcl : cs.length = N * TE.size := by
    have := hR.ob ob
    rw [hm2] at this
    obtain ⟨_, _, _, _, _, _, _, _, _, q, _⟩ := this
    exact q
  have hfit : n0 * TE.size + l.length ≤ cs.length := by rw [hll, hcl, ← Nat.add_mul]; exact Nat.mul_le_mul_right _ h1
  obtain ⟨b, c0, cur, r1, r2, r3, r5, r6, _, _, r4⟩ := hR.setRow hm2 hnl hfit
  obtain ⟨b', off', c', ad', hρ, e1, hpn, had⟩ := slc_inv e1
  rw [r1] at hρ
  cases hρ
  obtain rfl := had (.inr rfl)
  rcases hv with ⟨_, hv⟩ | ⟨ad, cap, hv, hc⟩
  · omega
  · have hrun := run_append_room (P := C.P) w ty o.type e ie hkk g1 b n0 c0 cur r2 ad n cap news (by rw [hnn, hll, g2]) (hc h0) hnl.oneCell (by omega) (by rw [g2]; exact r3)
    rw [g2, ← setCells_eq _ _ _ (by simpa using r3)] at hrun
    refine ⟨_, _, _, ρ, exec_append C hty hk ho hcal hargs hat hsl a w _ _ (by rw [e1, hv]; simpa using hrun), .inl rfl, r4, b, 0, c0, ⟨b, 0, none⟩, r1, by simp, by omega, fun _ => by simp⟩
end
end Go.Cv
namespace Go.Cv
open Go Go.RowKit Go.Vm

theorem olds_of (size : Nat) {ρ : Rho} {w : World} {ob : Nat} {x0 : Ob} {cs : List Ce} (h : ObOk ρ w ob x0) (hr : x0.row = some cs) {b off c0 : Nat} (hρ : ρ ob = some (b, off, c0)) (n : Nat) : ∃ olds : List Value, CsOk ρ olds (cs.take (n * size)) ∧ ∀ (j : Nat) (v : Value), olds[j]? = some v → w.cell? ((⟨b, off, none⟩ : Addr).add j) = some v := by
  obtain ⟨b', off', c', hρ', xs, r1, r2⟩ := part_ok h hr 0 (n * size)
  rw [hρ] at hρ'
  cases hρ'
  refine ⟨xs, by simpa using r1, fun j v hv => ?_⟩
  rw [addr_add]
  exact r2 j v hv

section
variable (C : Cfg) {o : Oper} {t : Nat → Tv} {m : Nat → Ob} {ty ty' : TypeId} {T : Ty} (hty : C.TT ty = some T) {e : TypeId} (hk : T.kind = .slc e) {TE : Ty} (hte : C.TT e = some TE) {s x : Operand} {c : Call} (ho : o.op = .call c) (hcal : c.callee = .builtin .append) (hargs : c.args.toList = [s, x]) (hat : c.argTypes.toList = [ty, ty']) (hsl : ∃ e', C.P.underlying ty' = some (.slice e'))
include hty hk hte ho hcal hargs hat hsl
theorem grown {E : Env} {ρ : Rho} {t' : Nat → Tv} {m' : Nat → Ob} {a : Act} {w : World} (hR : Rel E ρ t' m' a w) {d : Nat} (hd : m' d = .none) {olds news : List Value} {lo ln : List Ce} (h1 : CsOk ρ olds lo) (h2 : CsOk ρ news ln) {n n' cap : Nat} (hlo : lo.length = n * TE.size) (hln : ln.length = n' * TE.size)
    {b ad : Addr} {cap2 : Nat} (hs : a.eval s = .slice (some b) n cap) (hx : a.eval x = .slice (some ad) n' cap2) (hol : ∀ (j : Nat) (v : Value), olds[j]? = some v → w.cell? (b.add j) = some v) (hnw : ∀ (j : Nat) (v : Value), news[j]? = some v → w.cell? (ad.add j) = some v) (hg : cap < n + n') (hle : n + n' ≤ 65536) (hb : (n + n') * TE.bytes ≤ 140737488355328) :
    ∃ ρ' w' r, Sub ρ ρ' ∧ (execOp a.eval o).run C.P w = .ok (.value r) w' ∧ Rel E ρ' t' (updN m' d (.arr e TE.size (n + n') false (lo ++ ln))) a w' ∧ TvOk ρ' r (.d (.one (.slc d TE.size 0 (n + n') false))) := by
  obtain ⟨ie, ze, g1, g2, g3, g4, g5, hzr⟩ := zero_rd (C.hT e TE hte) (fun _ => True) default
  have hkk : C.P.underlying ty = some (.slice e) := by have := (C.hT ty T hty).kind; rw [hk] at this; exact this
  have q1 := all2_length h1
  have q2 := all2_length h2
  have hrun := run_append_grow (P := C.P) w ty o.type e ie ze hkk g1 g4 b n cap olds (by rw [q1, hlo, g2]) hol ad n' cap2 news (by rw [q2, hln, g2]) hnw hg (by omega) (by rw [g3]; exact growslice_fits hg hb)
  have hcap := grownCap_ge w (n + n') cap e
  have hcm := grownCap_le_maxLen w (n + n') cap e (by simp only [maxLen]; omega)
  obtain ⟨k1, k2⟩ := hR.newRow (o := d) (e := e) (k := TE.size) (n := n + n') (c := grownCap w (n + n') cap e) (exact' := false) (cs := lo ++ ln) hd (below_drew_alloc' w (.cells (olds.toArray ++ news.toArray ++ Builtin.zeroCells ze.cells (grownCap w (n + n') cap e - (n + n'))) e)) (heap_alloc_new' w.drew _)
    (by simp only [Array.size_append, List.size_toArray, size_zeroCells', q1, q2, hlo, hln, g5, ← Nat.add_mul]; congr 1; omega) hcap hcm (fun e => by cases e) (by rw [List.length_append, hlo, hln, Nat.add_mul])
    (fun j y hy => by
      obtain ⟨v, r1, r2⟩ := all2_get (all2_append h1 h2) j y hy
      refine ⟨v, ?_, r2⟩
      have hlt : j < (olds ++ news).length := by
        rcases Nat.lt_or_ge j (olds ++ news).length with h | h
        · exact h
        · rw [List.getElem?_eq_none h] at r1; cases r1
      rw [show olds.toArray ++ news.toArray = (olds ++ news).toArray by simp, Array.getElem?_append, if_pos (by simpa using hlt)]
      simpa using r1)
  exact ⟨_, _, _, k1, exec_append C hty hk ho hcal hargs hat hsl a w _ _ (by rw [hs, hx]; exact hrun), k2, _, 0, grownCap w (n + n') cap e, ⟨w.heap.size, 0, none⟩, updN_same _ _ _, by simp, by omega, fun _ => by simp⟩
theorem step_appendGrow {n : Nat} {l : List Ce} {rd : List Nat} (hx : srcE m TE.size (opd t x) = some (n, l, rd)) {ob n0 N : Nat} {ex full : Bool} {cs : List Ce} (hs : opd t s = .d (.one (.slc ob TE.size 0 n0 full))) (hm : m ob = .arr e TE.size N ex cs) {d : Nat} (hd : m d = .none) (h0 : 0 < n) (hN : n0 ≤ N)
    (hex : full = true ∨ (ex = true ∧ n0 = N)) (h1 : n0 + n ≤ 65536) (h2 : (n0 + n) * TE.bytes ≤ 140737488355328) :
    StepOk C.P o t m (.d (.one (.slc d TE.size 0 (n0 + n) false))) [(d, .arr e TE.size (n0 + n) false (cs.take (n0 * TE.size) ++ l))] (ob :: d :: rd) := by
  obtain ⟨hms, hmx⟩ := mem_append ho hcal hargs
  obtain ⟨hll, hsrc⟩ := srcE_ok hx
  refine stepOk_mem fun E ρ t' m' a w hP ha hm' hdN hR => ?_
  have e1 := opd_ok hR s
  have e2 := opd_ok hR x
  rw [opd_agree ha hms, hs] at e1; rw [opd_agree ha hmx] at e2
  obtain ⟨news, hnl, hv⟩ := hsrc _ (fun b hb => hm' b (by simp [hb])) hR e2
  have hm2 : m' ob = .arr e TE.size N ex cs := same_at hm' (by simp) hm
  have hob := hR.ob ob
  rw [hm2] at hob
  obtain ⟨b, c0, cur, r1, r2, r3, r4, r5, r6, r7, r8⟩ := id hob
  obtain ⟨b', off', c', ad', hρ, e1, hpn, had⟩ := slc_inv e1
  rw [r1] at hρ
  cases hρ
  obtain rfl := had (.inr rfl)
  have hob2 : ObOk ρ w ob (.arr e TE.size N ex cs) := hob
  obtain ⟨olds, p1, p2⟩ := olds_of TE.size hob2 rfl r1 n0
  rcases hv with ⟨_, hv⟩ | ⟨ad, cap, hv, hc⟩
  · omega
  · have hcapv : (if full then n0 else c0 - 0) = n0 := by
      rcases hex with h | ⟨h, h'⟩
      · rw [h]; rfl
      · have := r6 h
        split <;> omega
    rw [hcapv] at e1
    have htl : (cs.take (n0 * TE.size)).length = n0 * TE.size := by
      rw [List.length_take, r7]
      exact Nat.min_eq_left (Nat.mul_le_mul_right _ hN)
    obtain ⟨ρ', w', r, k1, k2, k3, k4⟩ := grown C hty hk hte ho hcal hargs hat hsl hR (same_at hm' (by simp) hd) p1 hnl htl hll (by rw [e1]) hv (by simpa using p2) (hc h0) (by omega) h1 h2
    exact ⟨_, r, w', ρ', k2, .inl rfl, k3, k4⟩
theorem step_appendNew {n : Nat} {l : List Ce} {rd : List Nat} (hx : srcE m TE.size (opd t x) = some (n, l, rd)) {ob N : Nat} {cs : List Ce} (hs : opd t s = .d (.one (.slc ob TE.size 0 N false))) (hm : m ob = .arr e TE.size N false cs) {d : Nat} (hd : m d = .none) (h0 : 0 < n)
    (h1 : N + n ≤ 65536) (h2 : (N + n) * TE.bytes ≤ 140737488355328) :
    StepOk C.P o t m (.d (.one (.slc d TE.size 0 (N + n) false))) [(ob, .dead), (d, .arr e TE.size (N + n) false (cs ++ l))] (ob :: d :: rd) := by
  obtain ⟨ie, ze, g1, g2, g3, g4, g5, hzr⟩ := zero_rd (C.hT e TE hte) (fun _ => True) default
  have hkk : C.P.underlying ty = some (.slice e) := by have := (C.hT ty T hty).kind; rw [hk] at this; exact this
  obtain ⟨hms, hmx⟩ := mem_append ho hcal hargs
  obtain ⟨hll, hsrc⟩ := srcE_ok hx
  have hne : d ≠ ob := by rintro rfl; rw [hm] at hd; cases hd
  refine stepOk_mem fun E ρ t' m' a w hP ha hm' hdN hR => ?_
  have e1 := opd_ok hR s
  have e2 := opd_ok hR x
  rw [opd_agree ha hms, hs] at e1; rw [opd_agree ha hmx] at e2
  obtain ⟨news, hnl, hv⟩ := hsrc _ (fun b hb => hm' b (by simp [hb])) hR e2
  have hnn := all2_length hnl
  have hm2 : m' ob = .arr e TE.size N false cs := same_at hm' (by simp) hm
  have hob := hR.ob ob
  rw [hm2] at hob
  obtain ⟨b, c0, cur, r1, r2, r3, r4, r5, r6, r7, r8⟩ := id hob
  obtain ⟨b', off', c', ad', hρ, e1, hpn, had⟩ := slc_inv e1
  rw [r1] at hρ
  cases hρ
  obtain rfl := had (.inr rfl)
  have hob2 : ObOk ρ w ob (.arr e TE.size N false cs) := hob
  rcases hv with ⟨_, hv⟩ | ⟨ad, cap, hv, hc⟩
  · omega
  · simp only [Bool.false_eq_true, if_false, Nat.sub_zero, Nat.zero_mul, Nat.add_zero] at e1
    by_cases hroom : N + n ≤ c0
    · have hfit : N * TE.size + news.length ≤ cur.size := by rw [hnn, hll, r3, ← Nat.add_mul]; exact Nat.mul_le_mul_right _ hroom
      have hrun := run_append_room (P := C.P) w ty o.type e ie hkk g1 b N c0 cur r2 ad n cap news (by rw [hnn, hll, g2]) (hc h0) hnl.oneCell hroom (by rw [g2]; exact hfit)
      rw [g2, ← setCells_eq _ _ _ (by simpa using hfit)] at hrun
      have hn : ρ d = none := by have := hR.ob d; rw [same_at hm' (by simp) hd] at this; exact this
      have hs' : Sub ρ (updN ρ d (some (b, 0, c0))) := by
        intro o' q hq
        have : o' ≠ d := by rintro rfl; rw [hn] at hq; cases hq
        rw [updN_ne _ _ this]; exact hq
      obtain ⟨k1, k2⟩ := hR.reuse (o := ob) (d := d) (x := .arr e TE.size (N + n) false (cs ++ l)) (w' := w.setRow b (setCells cur.toList (N * TE.size) news).toArray) (by rw [hm2]; rfl) (same_at hm' (by simp) hd) r1 rfl rfl rfl (size_setRow ..) (fun k' hk' => setRow_other w b k' _ hk')
        ⟨b, c0, _, updN_same _ _ _, setRow_heap w b _ _ e _ r2, by simp [length_setCells, r3], hroom, r5, (fun e => by cases e), by rw [List.length_append, r7, hll, Nat.add_mul], fun j y hy => by
          have hg := getElem?_setCells news cur.toList (N * TE.size) (by simpa using hfit) j
          rw [List.getElem?_append] at hy
          split at hy
          · rename_i hj
            obtain ⟨v, q1, q2⟩ := r8 j y hy
            rw [if_neg (by omega)] at hg
            exact ⟨v, by rw [List.getElem?_toArray, hg]; simpa using q1, q2.sub hs'⟩
          · rename_i hj
            obtain ⟨v, q1, q2⟩ := all2_get hnl _ _ hy
            have hlt : j - cs.length < news.length := by
              rcases Nat.lt_or_ge (j - cs.length) news.length with h | h
              · exact h
              · rw [List.getElem?_eq_none h] at q1; cases q1
            rw [if_pos (by omega), ← r7, q1] at hg
            exact ⟨v, by rw [List.getElem?_toArray, ← r7, hg], q2.sub hs'⟩⟩
      exact ⟨_, _, _, _, exec_append C hty hk ho hcal hargs hat hsl a w _ _ (by rw [e1, hv]; exact hrun), .inl rfl, k2, b, 0, c0, ⟨b, 0, none⟩, updN_same _ _ _, by simp, by omega, fun _ => by simp⟩
    · obtain ⟨olds, p1, p2⟩ := olds_of TE.size hob2 rfl r1 N
      rw [List.take_of_length_le (by omega)] at p1
      obtain ⟨ρ', w', r, k1, k2, k3, k4⟩ := grown C hty hk hte ho hcal hargs hat hsl (hR.kill ob) (d := d) (by rw [updN_ne _ _ hne]; exact same_at hm' (by simp) hd) p1 hnl r7 hll e1 hv p2 (hc h0) (by omega) h1 h2
      exact ⟨_, r, w', ρ', k2, .inl rfl, k3, k4⟩
end

theorem step_appendZ (C : Cfg) {o : Oper} {t : Nat → Tv} {m : Nat → Ob} {ty ty' : TypeId} {T TZ : Ty} (hty : C.TT ty = some T) {e : TypeId} (hk : T.kind = .slc e) {TE : Ty} (hte : C.TT e = some TE) (htz : C.TT ty' = some TZ) (hkz : TZ.kind = .int .i64) {s x : Operand} {c : Call} (ho : o.op = .call c) (hcal : c.callee = .builtin .append) (hargs : c.args.toList = [s, x]) (hat : c.argTypes.toList = [ty, ty'])
    {z : List Ce} (hz : zeroE TE = some z) {d : Nat} (hd : m d = .none) {n : Int} (hs : opd t s = wv (.slice none 0 0)) (hx : opd t x = wi n) (h0 : 0 < n) (h1 : n ≤ 65536) (h2 : n.toNat * TE.bytes ≤ 140737488355328) (hpos : 0 < TE.size) :
    StepOk C.P o t m (.d (.one (.slc d TE.size 0 n.toNat false))) [(d, .arr e TE.size n.toNat false (repC n.toNat z))] [d] := by
  have hma : c.args = #[s, x] := by rw [← Array.toArray_toList (xs := c.args), hargs]
  have hmt : c.argTypes = #[ty, ty'] := by rw [← Array.toArray_toList (xs := c.argTypes), hat]
  have hkk : C.P.underlying ty = some (.slice e) := by have := (C.hT ty T hty).kind; rw [hk] at this; exact this
  have hkz' : C.P.underlying ty' = some (.int .i64) := by have := (C.hT ty' TZ htz).kind; rw [hkz] at this; exact this
  refine stepOk_mem fun E ρ t' m' a w hP ha hm' hdN hR => ?_
  have e1 := opd_ok hR s
  have e2 := opd_ok hR x
  rw [opd_agree ha (by rw [ho]; simp [Op.operands, Call.operands, hcal, hma]), hs] at e1
  rw [opd_agree ha (by rw [ho]; simp [Op.operands, Call.operands, hcal, hma]), hx] at e2
  obtain ⟨ie, ze, g1, g2, g3, g4, g5, hzr⟩ := zeroE_ok (C.hT e TE hte) hz ρ
  have hzl := all2_length hzr
  simp only [Array.length_toList] at hzl
  have hnn : ((n.toNat : Nat) : Int) = n := by omega
  have hrun := run_append_zeros (P := C.P) w ty ty' o.type e ie ze .i64 hkk hkz' g1 g4 (by omega) n.toNat (by omega) (by omega) (by rw [g3]; exact h2)
  rw [hnn] at hrun
  have hcap := grownCap_ge w n.toNat 0 e
  have hcm := grownCap_le_maxLen w n.toNat 0 e (by simp only [maxLen]; omega)
  have hrep := repC_ok hzr n.toNat
  have hrl := all2_length hrep
  have hzc : Builtin.zeroCells ze.cells n.toNat = (repeatV n.toNat ze.cells.toList).toArray := made_repeat ze.cells n.toNat (by omega)
  obtain ⟨k1, k2⟩ := hR.newRow (o := d) (e := e) (k := TE.size) (n := n.toNat) (c := grownCap w n.toNat 0 e) (exact' := false) (cs := repC n.toNat z) (same_at hm' (by simp) hd) (below_drew_alloc' w (.cells (Builtin.zeroCells ze.cells n.toNat ++ Builtin.zeroCells ze.cells (grownCap w n.toNat 0 e - n.toNat)) e)) (heap_alloc_new' w.drew _)
    (by simp only [Array.size_append, size_zeroCells', g5, ← Nat.add_mul]; congr 1; omega) hcap hcm (fun e => by cases e) (by rw [length_repC, ← hzl, g5])
    (fun j y hy => by
      obtain ⟨v, q1, q2⟩ := all2_get hrep j y hy
      refine ⟨v, ?_, q2⟩
      have hlt : j < (repeatV n.toNat ze.cells.toList).length := by
        rcases Nat.lt_or_ge j (repeatV n.toNat ze.cells.toList).length with h | h
        · exact h
        · rw [List.getElem?_eq_none h] at q1; cases q1
      rw [hzc, Array.getElem?_append, if_pos (by simpa using hlt)]
      simpa using q1)
  refine ⟨_, .slice (some ⟨w.heap.size, 0, none⟩) n.toNat (grownCap w n.toNat 0 e), _, _, ?_, .inl rfl, k2, _, 0, grownCap w n.toNat 0 e, ⟨w.heap.size, 0, none⟩, updN_same _ _ _, by simp, by omega, fun _ => by simp⟩
  simp [execOp, ho, resolve, invoke, hcal, hma, hmt, builtin, w_inv e1, w_inv e2, hrun]

section
variable (C : Cfg) {o : Oper} {t : Nat → Tv} {m : Nat → Ob} {ty : TypeId} {T : Ty} (hty : C.TT ty = some T) {e : TypeId} (hk : T.kind = .slc e) {TE : Ty} (hte : C.TT e = some TE) {x : Operand} {c : Call} (ho : o.op = .call c) (hcal : c.callee = .builtin .clear) (hargs : c.args.toList = [x]) (hat : c.argTypes.toList = [ty])
include hty hk ho hcal hargs hat
theorem step_clear0 (h : lenE (opd t x) = some 0) : StepOk C.P o t m (.tup []) [] [] := by
  have hma : c.args = #[x] := by rw [← Array.toArray_toList (xs := c.args), hargs]
  have hmt : c.argTypes = #[ty] := by rw [← Array.toArray_toList (xs := c.argTypes), hat]
  have hkk : C.P.underlying ty = some (.slice e) := by have := (C.hT ty T hty).kind; rw [hk] at this; exact this
  refine stepOk_pure fun E ρ t' m' a w hP ha hm hR => ?_
  have e1 := opd_ok hR x
  rw [opd_agree ha (by rw [ho]; simp [Op.operands, Call.operands, hcal, hma])] at e1
  have hv : ∃ ad cap, a.eval x = .slice ad 0 cap := by
    unfold lenE at h
    split at h
    · rename_i hq; rw [hq] at e1; exact ⟨_, _, w_inv e1⟩
    · rename_i hq; rw [hq] at e1; cases h; obtain ⟨_, _, _, a', _, h2, _⟩ := slc_inv e1; exact ⟨_, _, h2⟩
    · cases h
  obtain ⟨ad, cap, hv⟩ := hv
  refine ⟨.tuple #[], ?_, [], rfl, .nil⟩
  have hr : (Builtin.clear_ #[ty] o.type #[.slice ad 0 cap]).run C.P w = .ok (.tuple #[]) w := by
    cases ad <;> simp [Builtin.clear_, run_underlying hkk]
  simp [execOp, ho, resolve, invoke, hcal, hma, hmt, builtin, hv, hr]
include hte
theorem step_clear {z : List Ce} (hz : zeroE TE = some z) {ob p n N : Nat} {ex full : Bool} {cs : List Ce} (hx : opd t x = .d (.one (.slc ob TE.size p n full))) (hm : m ob = .arr e TE.size N ex cs) (h0 : 0 < n) (hpos : 0 < TE.size) (hle : p + n ≤ N) :
    StepOk C.P o t m (.tup []) [(ob, .arr e TE.size N ex (setC cs (p * TE.size) (repC n z)))] [ob] := by
  have hma : c.args = #[x] := by rw [← Array.toArray_toList (xs := c.args), hargs]
  have hmt : c.argTypes = #[ty] := by rw [← Array.toArray_toList (xs := c.argTypes), hat]
  have hkk : C.P.underlying ty = some (.slice e) := by have := (C.hT ty T hty).kind; rw [hk] at this; exact this
  refine stepOk_mem fun E ρ t' m' a w hP ha hm' hd hR => ?_
  have e1 := opd_ok hR x
  rw [opd_agree ha (by rw [ho]; simp [Op.operands, Call.operands, hcal, hma]), hx] at e1
  obtain ⟨ie, ze, g1, g2, g3, g4, g5, hzr⟩ := zeroE_ok (C.hT e TE hte) hz ρ
  have hzl := all2_length hzr
  simp only [Array.length_toList] at hzl
  have hrep := repC_ok hzr n
  have hm2 : m' ob = .arr e TE.size N ex cs := same_at hm' (by simp) hm
  have hcl : cs.length = N * TE.size := by
    have := hR.ob ob
    rw [hm2] at this
    obtain ⟨_, _, _, _, _, _, _, _, _, q, _⟩ := this
    exact q
  have hfit : p * TE.size + (repC n z).length ≤ cs.length := by
    rw [length_repC, ← hzl, g5, hcl, ← Nat.add_mul]; exact Nat.mul_le_mul_right _ hle
  obtain ⟨b, c0, cur, r1, r2, r3, r5, r6, _, _, r4⟩ := hR.setRow hm2 hrep hfit
  obtain ⟨b', off', c', ad', hρ, e1, hpn, had⟩ := slc_inv e1
  rw [r1] at hρ
  cases hρ
  obtain rfl := had (.inl (by omega))
  rw [Nat.zero_add] at e1
  have hzc : Builtin.zeroCells ze.cells n = (repeatV n ze.cells.toList).toArray := made_repeat ze.cells n (by omega)
  have hst := run_storeCells_at (P := C.P) b (p * TE.size) e (repeatV n ze.cells.toList) 0 cur w r2 (by simpa using r3) hrep.oneCell
  simp only [Nat.add_zero] at hst
  rw [← setCells_eq _ _ _ (by simpa using r3)] at hst
  have hrun : (Builtin.clear_ #[ty] o.type #[a.eval x]).run C.P w = .ok (.tuple #[]) (w.setRow b (setCells cur.toList (p * TE.size) (repeatV n ze.cells.toList)).toArray) := by
    have hn0 : n ≠ 0 := by omega
    rw [e1]
    simp [Builtin.clear_, run_underlying hkk, zeroValue, typeInfo, g1, g4, hzc, hn0, hst]
  refine ⟨_, .tuple #[], _, ρ, ?_, .inl rfl, r4, [], rfl, .nil⟩
  simp [execOp, ho, resolve, invoke, hcal, hma, hmt, builtin, hrun]
end
end Go.Cv
namespace Go.Cv
open Go Go.RowKit Go.Vm

def intsEq : List Int → List Int → Bool
  | [], [] => true
  | a :: l, b :: r => a == b && intsEq l r
  | _, _ => false
theorem intsEq_eq : ∀ (l r : List Int), intsEq l r = decide (l = r)
  | [], [] => rfl
  | [], _ :: _ => by simp [intsEq]
  | _ :: _, [] => by simp [intsEq]
  | a :: l, b :: r => by
    simp only [intsEq, intsEq_eq l r, List.cons.injEq, Bool.decide_and]
    rfl
def findE (n : Nat) (key : List Int) : List (List Ce × Ce) → Option (Option Ce)
  | [] => some none
  | (ks, v) :: r => match intsOf ks with
    | some l => bif Nat.beq l.length n then (bif intsEq key l then some (some v) else findE n key r) else none
    | none => none
theorem keyV_of {ρ : Rho} {ks : List Value} {l : List Int} (h : CsOk ρ ks (l.map fun n => Ce.w (.int .i64 n))) : (Value.agg ks.toArray) = keyV l := by
  have : ks = l.map fun n => Value.int .i64 n := by
    induction l generalizing ks with
    | nil => cases h; rfl
    | cons a l ih =>
      cases h with
      | cons h1 h2 => rw [ih h2, h1.1]; rfl
  rw [this]
theorem findE_run {P : Program} {ty k e : TypeId} {n : Nat} {z : Value} (hM : MapTy P ty k e n z) {ρ : Rho} {key : List Int} (hk : key.length = n) (w : World) : ∀ (ens : List MapEntry) (es : List (List Ce × Ce)) (i : Nat) (r : Option Ce), All2 (EnOk ρ) ens es → findE n key es = some r →
    match r with
    | none => (Instr.findAsking k (keyV key) ens i).run P w = .ok none w
    | some c => ∃ j v, (Instr.findAsking k (keyV key) ens i).run P w = .ok (some (j, v)) w ∧ CeOk ρ v c
  | [], _, i, r, h, hr => by
    cases h
    cases hr
    simp [Instr.findAsking]
  | x :: ens, _, i, r, h, hr => by
    cases h with
    | @cons _ y _ es h1 h2 =>
      obtain ⟨ks, v⟩ := y
      obtain ⟨us, e1, e2, e3⟩ := h1
      simp only [findE] at hr
      cases hl : intsOf ks with
      | none => rw [hl] at hr; cases hr
      | some l =>
        rw [hl] at hr
        simp only at hr
        cases hb : Nat.beq l.length n with
        | false => rw [hb] at hr; cases hr
        | true =>
          rw [hb, cond_true] at hr
          have hkey : x.key = keyV l := by
            rw [e1]
            refine keyV_of (ρ := ρ) ?_
            rw [← intsOf_ok hl]
            exact e2
          have heq := hM.eq key l hk (Nat.eq_of_beq_eq_true hb) w
          rw [← intsEq_eq] at heq
          cases hq : intsEq key l with
          | true =>
            rw [hq] at hr heq
            cases hr
            exact ⟨i, x.val, by simp [Instr.findAsking, hkey, heq], e3⟩
          | false =>
            rw [hq] at hr heq
            have ih := findE_run hM hk w ens es (i + 1) r h2 hr
            cases r with
            | none => simp [Instr.findAsking, hkey, heq]; exact ih
            | some c =>
              obtain ⟨j, u, q1, q2⟩ := ih
              exact ⟨j, u, by simp [Instr.findAsking, hkey, heq]; exact q1, q2⟩
theorem findKey_run {P : Program} {ty k e : TypeId} {n : Nat} {z : Value} (hM : MapTy P ty k e n z) {w : World} {ens : List MapEntry} {key : List Int} {r : Option (Nat × Value)} (h : (Instr.findAsking k (keyV key) ens 0).run P w = .ok r w) : (Instr.findKey k (keyV key) ens).run P w = .ok r w := by
  obtain ⟨len, el, ha⟩ := hM.arr
  cases ens with
  | nil =>
    simp [Instr.findAsking] at h
    subst h
    simp [Instr.findKey, run_underlying ha, Instr.findNow]
  | cons x ens =>
    simp [Instr.findKey, run_underlying ha, Instr.findNow, Instr.sameNow, h]

theorem key_ok {ρ : Rho} {x : Value} {v : Tv} {ks : List Ce} {l : List Int} (h : TvOk ρ x v) (hv : v = .d (.agg ks)) (hl : intsOf ks = some l) : x = keyV l := by
  subst hv
  obtain ⟨xs, rfl, r⟩ := agg_inv h
  rw [intsOf_ok hl] at r
  exact keyV_of r

theorem step_makeMap (C : Cfg) {o : Oper} {t : Nat → Tv} {m : Nat → Ob} {ty : TypeId} (ho : o.op = .makeMap ty Option.none) {d : Nat} (hm : m d = .none) : StepOk C.P o t m (.d (.one (.map d))) [(d, .map [])] [d] := by
  refine stepOk_mem fun E ρ t' m' a w hP ha hm' hd hR => ?_
  have hb := heap_alloc_new' w (.map #[] 0)
  obtain ⟨k1, k2⟩ := hR.fresh (o := d) (x := .map []) (off := 0) (c := 0) (same_at hm' (by simp) hm) (below_alloc' w (.map #[] 0)) (by simp) ⟨_, 0, 0, #[], 0, updN_same _ _ _, hb, .nil⟩
  refine ⟨_, .map (some w.heap.size), _, _, ?_, .inl rfl, k2, _, 0, 0, updN_same _ _ _, rfl⟩
  simp [execOp, ho, Instr.makeMap, newObj, Sem.run]
theorem step_lookup (C : Cfg) {o : Oper} {t : Nat → Tv} {m : Nat → Ob} {ty k e : TypeId} {n : Nat} {z : Value} (hty : C.maps ty = some (k, e, n, z)) {x y : Operand} (ho : o.op = .lookup ty x y false) {ob : Nat} (hx : opd t x = .d (.one (.map ob))) {es : List (List Ce × Ce)} (hm : m ob = .map es)
    {ks : List Ce} (hy : opd t y = .d (.agg ks)) {l : List Int} (hl : intsOf ks = some l) (hn : l.length = n) {r : Option Ce} (hf : findE n l es = some r) : StepOk C.P o t m (.d (.one (r.getD (.w z)))) [] [ob] := by
  have hM := C.hM ty k e n z hty
  refine stepOk_pure fun E ρ t' m' a w hP ha hm' hR => ?_
  have e1 := opd_ok hR x
  have e2 := opd_ok hR y
  rw [opd_agree ha (by rw [ho]; simp [Op.operands]), hx] at e1
  rw [opd_agree ha (by rw [ho]; simp [Op.operands])] at e2
  have e2 := key_ok e2 hy hl
  obtain ⟨b, off, c, hρ, e1⟩ := e1
  have hob := hR.ob ob
  rw [same_at hm' (by simp) hm] at hob
  obtain ⟨b', off', c', ens, clock, hρ', hb, h2⟩ := hob
  rw [hρ] at hρ'
  cases hρ'
  have hfr := findE_run hM hn w ens.toList es 0 r h2 hf
  have hc := hM.check l hn ens.isEmpty w
  cases r with
  | none =>
    have hfk := findKey_run hM hfr
    refine ⟨z, ?_, rfl, hM.one⟩
    simp [execOp, ho, e1, e2, Instr.lookup, run_underlying hM.map, MapKept.run_getObj_map hb, hc, hfk, hM.zero]
  | some v =>
    obtain ⟨j, u, q1, q2⟩ := hfr
    have hfk := findKey_run hM q1
    refine ⟨u, ?_, q2⟩
    simp [execOp, ho, e1, e2, Instr.lookup, run_underlying hM.map, MapKept.run_getObj_map hb, hc, hfk]
theorem step_mapUpdate (C : Cfg) {o : Oper} {t : Nat → Tv} {m : Nat → Ob} {ty k e : TypeId} {n : Nat} {z : Value} (hty : C.maps ty = some (k, e, n, z)) {x y v : Operand} (ho : o.op = .mapUpdate ty x y v) {ob : Nat} (hx : opd t x = .d (.one (.map ob))) {es : List (List Ce × Ce)} (hm : m ob = .map es)
    {ks : List Ce} (hy : opd t y = .d (.agg ks)) {l : List Int} (hl : intsOf ks = some l) (hn : l.length = n) (hf : findE n l es = some none) {c : Ce} (hv : opd t v = .d (.one c)) : StepOk C.P o t m .un [(ob, .map (es ++ [(ks, c)]))] [ob] := by
  have hM := C.hM ty k e n z hty
  refine stepOk_mem fun E ρ t' m' a w hP ha hm' hd hR => ?_
  have e1 := opd_ok hR x
  have e2 := opd_ok hR y
  have e3 := opd_ok hR v
  rw [opd_agree ha (by rw [ho]; simp [Op.operands]), hx] at e1
  rw [opd_agree ha (by rw [ho]; simp [Op.operands])] at e2
  rw [opd_agree ha (by rw [ho]; simp [Op.operands]), hv] at e3
  have e4 := e2
  rw [hy] at e4
  have e2 := key_ok e2 hy hl
  obtain ⟨us, e4, e5⟩ := agg_inv e4
  obtain ⟨b, off, cc, hρ, e1⟩ := e1
  have hm2 := same_at hm' (show ob ∈ [ob] by simp) hm
  have hob := hR.ob ob
  rw [hm2] at hob
  obtain ⟨b', off', c', ens, clock, hρ', hb, h2⟩ := hob
  rw [hρ] at hρ'
  cases hρ'
  have hfr := findE_run hM hn w ens.toList es 0 none h2 hf
  have hfk := findKey_run hM hfr
  have hc := hM.check l hn false w
  have hlt : b < w.heap.size := by
    rcases Nat.lt_or_ge b w.heap.size with h | h
    · exact h
    · rw [Array.getElem?_eq_none h] at hb; cases hb
  have hR' := hR.write (o := ob) (x := .map (es ++ [(ks, c)])) (w' := { w with heap := w.heap.setIfInBounds b (.map (ens.push { key := keyV l, val := a.eval v, born := clock }) (clock + 1)) }) (by rw [hm2]; rfl) hρ rfl rfl rfl (by simp)
    (fun k' hk' => by simp [Array.getElem?_setIfInBounds, Ne.symm hk'])
    ⟨b, off, cc, ens.push { key := keyV l, val := a.eval v, born := clock }, clock + 1, hρ, by simp [Array.getElem?_setIfInBounds, hlt], by
      rw [Array.toList_push]
      exact all2_append h2 (.cons ⟨us, by rw [← e4, ← e2], e5, e3⟩ .nil)⟩ rfl
  refine ⟨.skip, Go.undef, _, ρ, ?_, .inr ⟨rfl, rfl⟩, hR', trivial⟩
  simp [execOp, ho, e1, e2, Instr.mapUpdate, run_underlying hM.map, MapKept.run_getObj_map hb, hc, hfk, MapKept.run_setObj_map _ hb]
end Go.Cv
namespace Go.Cv
open Go Go.RowKit Go.Vm

abbrev Res := Option (Tv × List (Nat × Ob) × List Nat)
abbrev ret (x : Tv) : Res := some (x, [], [])

theorem bif_some {b : Bool} {α : Type} {x : Option α} {y : α} (h : (bif b then x else none) = some y) : b = true ∧ x = some y := by
  cases b with
  | true => exact ⟨rfl, h⟩
  | false => cases h
def pickE (c : Tv) (a b : Tv) : Res := match c with
  | .d (.one (.w (.bool q))) => bif q then ret a else ret b
  | _ => none
def extractE (x : Tv) (i : Nat) : Res := match x with
  | .tup vs => match vs[i]? with
    | some v => ret (.d v)
    | none => none
  | _ => none
def nilCheckE (x : Tv) : Res := match x with
  | .d (.one (.ptr _ _)) => ret x
  | .d (.one (.fn _ _)) => ret x
  | _ => none
def unE (op : UnOp) (x : Tv) : Res := match op, x with
  | .not, .d (.one (.w (.bool b))) => ret (wb (!b))
  | .neg, .d (.one (.w (.int k n))) => ret (wv (.int k (k.wrap (0 - n))))
  | _, _ => none
def isInt : Ty → Option IntKind
  | ⟨_, _, .int k, _⟩ => some k
  | _ => none
def isSlc : Ty → Option TypeId
  | ⟨_, _, .slc e, _⟩ => some e
  | _ => none
theorem isInt_ok {T : Ty} {k : IntKind} (h : isInt T = some k) : T.kind = .int k := by
  unfold isInt at h
  split at h
  · cases h; rfl
  · cases h
theorem isSlc_ok {T : Ty} {e : TypeId} (h : isSlc T = some e) : T.kind = .slc e := by
  unfold isSlc at h
  split at h
  · cases h; rfl
  · cases h
def convE (TT : Tab) (src dst : TypeId) (x : Tv) : Res := match TT dst, TT src, x with
  | some T, some S, .d (.one (.w (.int _ n))) => match isInt T, isInt S with
    | some k, some _ => ret (wv (.int k (k.wrap n)))
    | _, _ => none
  | _, _, _ => none
def isStr : Ty → Option (List (Nat × TypeId × Nat))
  | ⟨_, _, .str fs, _⟩ => some fs
  | _ => none
def isArr : Ty → Option (Nat × TypeId)
  | ⟨_, _, .arr n e, _⟩ => some (n, e)
  | _ => none
theorem isStr_ok {T : Ty} {fs : List (Nat × TypeId × Nat)} (h : isStr T = some fs) : T.kind = .str fs := by
  unfold isStr at h
  split at h
  · cases h; rfl
  · cases h
theorem isArr_ok {T : Ty} {n e : Nat} (h : isArr T = some (n, e)) : T.kind = .arr n e := by
  unfold isArr at h
  split at h
  · cases h; rfl
  · cases h
def fieldAddrE (TT : Tab) (ty : TypeId) (f : Nat) (x : Tv) : Res := match TT ty, x with
  | some T, .d (.one (.ptr o p)) => match isStr T with
    | some fs => match fs[f]? with
      | some (off, _, size) => bif Nat.blt 0 size then ret (.d (.one (.ptr o (p + off)))) else none
      | none => none
    | none => none
  | _, _ => none
def fieldE (TT : Tab) (ty : TypeId) (f : Nat) (x : Tv) : Res := match TT ty, x with
  | some T, .d (.agg cs) => match isStr T with
    | some fs => match fs[f]? with
      | some (off, ft, size) => match TT ft with
        | some TF => bif Nat.beq TF.size size then (match packD TF ((cs.drop off).take size) with
          | some v => ret (.d v)
          | none => none) else none
        | none => none
      | none => none
    | none => none
  | _, _ => none
def indexAddrE (TT : Tab) (ty : TypeId) (x i : Tv) : Res := match TT ty, x, i with
  | some T, .d (.one (.slc o k p n _)), .d (.one (.w (.int _ q))) => match isSlc T with
    | some e => match TT e with
      | some TE => bif Nat.beq k TE.size && leB 0 q && decide (q < n) then ret (.d (.one (.ptr o ((p + q.toNat) * k)))) else none
      | none => none
    | none => none
  | some T, .d (.one (.ptr o p)), .d (.one (.w (.int _ q))) => match isArr T with
    | some (len, e) => match TT e with
      | some TE => bif leB 0 q && decide (q < len) then ret (.d (.one (.ptr o (p + q.toNat * TE.size)))) else none
      | none => none
    | none => none
  | _, _, _ => none
def indexE (TT : Tab) (ty : TypeId) (x i : Tv) : Res := match TT ty, x, i with
  | some T, .d (.agg cs), .d (.one (.w (.int _ q))) => match isArr T with
    | some (len, e) => match TT e with
      | some TE => bif leB 0 q && decide (q < len) && Nat.ble (q.toNat * TE.size + TE.size) cs.length then (match packD TE ((cs.drop (q.toNat * TE.size)).take TE.size) with
        | some v => ret (.d v)
        | none => none) else none
      | none => none
    | none => none
  | _, _, _ => none
def isCell : Ty → Bool
  | ⟨_, _, .cell, _⟩ => true
  | _ => false
def eqNot (op : BinOp) (b : Bool) : Res := match op with
  | .eql => ret (wb b)
  | .neq => ret (wb (!b))
  | _ => none
def binE (C : Cfg) (op : BinOp) (ty : TypeId) (x y : Tv) : Res := match y with
  | .d (.agg ds) => match x with
    | .d (.agg cs) => match C.eqn ty, intsOf cs, intsOf ds with
      | some n, some l, some r => bif Nat.beq l.length n && Nat.beq r.length n then eqNot op (decide (l = r)) else none
      | _, _, _ => none
    | _ => none
  | .d (.one (.w v)) => match v with
    | .slice none 0 0 => match C.TT ty, nilOf x with
      | some T, some b => match isSlc T with
        | some _ => eqNot op b
        | none => none
      | _, _ => none
    | .bool q => match x with
      | .d (.one (.w (.bool p))) => match C.P.underlying ty with
        | some .bool => eqNot op (p == q)
        | _ => none
      | _ => none
    | .int k b => match x with
      | .d (.one (.w u)) => match binV op u (.int k b) with
        | some r => ret (wv r)
        | none => none
      | _ => none
    | _ => none
  | _ => none
def buildE (TT : Tab) (ty : TypeId) (g : Operand → Tv) (parts : List (Nat × Operand)) : Res := match TT ty with
  | some T => match zeroE T with
    | some z => match isStr T with
      | some fs => match fillE (fun i => (fs[i]?).map fun x => (x.1, x.2.2)) g z parts with
        | some cs => ret (.d (.agg cs))
        | none => none
      | none => match isArr T with
        | some (_, e) => match TT e with
          | some TE => match fillE (fun i => some (i * TE.size, TE.size)) g z parts with
            | some cs => ret (.d (.agg cs))
            | none => none
          | none => none
        | none => none
    | none => none
  | none => none
def loadE (TT : Tab) (m : Nat → Ob) (ty : TypeId) (x : Tv) : Res := match TT ty, x with
  | some T, .d (.one (.ptr o p)) => match (m o).row with
    | some cs => match packD T ((cs.drop p).take T.size) with
      | some v => some (.d v, [], [o])
      | none => none
    | none => none
  | _, _ => none
def storeE (TT : Tab) (m : Nat → Ob) (ty : TypeId) (x y : Tv) : Res := match TT ty, x, y.cells with
  | some T, .d (.one (.ptr o p)), some l => match m o with
    | .arr e k n ex cs => bif Nat.beq l.length T.size && Nat.ble (p + l.length) cs.length then some (.un, [(o, .arr e k n ex (setC cs p l))], [o]) else none
    | _ => none
  | _, _, _ => none
def isNone : Ob → Bool
  | .none => true
  | _ => false
theorem isNone_ok {x : Ob} (h : isNone x = true) : x = .none := by cases x <;> simp [isNone] at h ⊢
def allocE (TT : Tab) (m : Nat → Ob) (d : Nat) (e : TypeId) : Res := match TT e with
  | some T => match zeroE T with
    | some z => bif isNone (m d) then some (.d (.one (.ptr d 0)), [(d, .arr e T.size 1 true z)], [d]) else none
    | none => none
  | none => none
def boxE (m : Nat → Ob) (d : Nat) (e : TypeId) (x : Tv) : Res := match x.cells with
  | some l => bif isNone (m d) then some (.d (.one (.ptr d 0)), [(d, .arr e l.length 1 true l)], [d]) else none
  | none => none
def buildSliceE (TT : Tab) (m : Nat → Ob) (d : Nat) (ty : TypeId) (len : Nat) (g : Operand → Tv) (parts : List (Nat × Operand)) : Res := match TT ty with
  | some T => match isSlc T with
    | some e => match TT e with
      | some TE => match len, parts with
       | 0, [] => bif isNone (m d) then some (.d (.one (.slc d TE.size 0 0 false)), [(d, .arr e TE.size 0 true [])], [d]) else none
       | _, _ => match zeroE TE with
        | some z => bif isNone (m d) && Nat.ble (len * TE.size) 65536 && Nat.blt 0 TE.size && Nat.blt 0 len then (match fillE (fun i => some (i * TE.size, TE.size)) g (repC len z) parts with
          | some cs => some (.d (.one (.slc d TE.size 0 len false)), [(d, .arr e TE.size len true cs)], [d])
          | none => none) else none
        | none => none
      | none => none
    | none => none
  | none => none
def makeSliceE (TT : Tab) (m : Nat → Ob) (d : Nat) (ty : TypeId) (x y : Tv) : Res := match TT ty, x, y with
  | some T, .d (.one (.w (.int _ n))), .d (.one (.w (.int _ n'))) => match isSlc T with
    | some e => match TT e with
      | some TE => match zeroE TE with
        | some z => bif isNone (m d) && n == n' && decide (0 < n) && Nat.blt 0 TE.size && leB ((TE.bytes : Int) * n) 281474976710656 && leB n 65536 then some (.d (.one (.slc d TE.size 0 n.toNat false)), [(d, .arr e TE.size n.toNat true (repC n.toNat z))], [d]) else none
        | none => none
      | none => none
    | none => none
  | _, _, _ => none
def sliceOpE (TT : Tab) (ty : TypeId) (x : Tv) (g : Operand → Tv) (lo hi : Option Operand) : Res := match TT ty with
  | some T => match isSlc T with
    | some e => match TT e with
      | some TE => match sliceE TE.size x g lo hi with
        | some r => ret r
        | none => none
      | none => none
    | none => none
  | none => none
def slice3OpE (TT : Tab) (ty : TypeId) (x : Tv) (g : Operand → Tv) (lo : Option Operand) (hi mx : Operand) : Res := match TT ty with
  | some T => match isSlc T with
    | some e => match TT e with
      | some TE => match slice3E TE.size x g lo hi mx with
        | some r => ret r
        | none => none
      | none => none
    | none => none
  | none => none
def appendE (TT : Tab) (m : Nat → Ob) (d : Nat) (ty ty' : TypeId) (s x : Tv) : Res := match TT ty with
  | some T => match isSlc T with
    | some e => match TT e, TT ty' with
      | some TE, some TZ => match isSlc TZ with
        | some _ => match srcE m TE.size x with
          | some (0, _, rd) => (match nilOf s with
            | some _ => some (s, [], rd)
            | none => none)
          | some (n + 1, l, rd) => (match s with
            | .d (.one (.w (.slice none 0 0))) => bif isNone (m d) && Nat.ble (n + 1) 65536 && Nat.ble ((n + 1) * TE.bytes) 140737488355328 then some (.d (.one (.slc d TE.size 0 (n + 1) false)), [(d, .arr e TE.size (n + 1) false l)], d :: rd) else none
            | .d (.one (.slc ob k 0 n0 full)) => match m ob with
              | .arr e' k' N ex cs => bif Nat.beq k TE.size && Nat.beq k' TE.size && Nat.beq e' e then
                  (bif !full && Nat.ble (n0 + (n + 1)) N then some (.d (.one (.slc ob TE.size 0 (n0 + (n + 1)) false)), [(ob, .arr e TE.size N ex (setC cs (n0 * TE.size) l))], ob :: rd) else
                  (bif isNone (m d) && Nat.ble (n0 + (n + 1)) 65536 && Nat.ble ((n0 + (n + 1)) * TE.bytes) 140737488355328 && Nat.ble n0 N then
                    (bif full || (ex && Nat.beq n0 N) then some (.d (.one (.slc d TE.size 0 (n0 + (n + 1)) false)), [(d, .arr e TE.size (n0 + (n + 1)) false (cs.take (n0 * TE.size) ++ l))], ob :: d :: rd) else
                    (bif Nat.beq n0 N && !ex && !full then some (.d (.one (.slc d TE.size 0 (N + (n + 1)) false)), [(ob, .dead), (d, .arr e TE.size (N + (n + 1)) false (cs ++ l))], ob :: d :: rd) else none)) else none)) else none
              | _ => none
            | _ => none)
          | none => none
        | none => match isInt TZ, s, x, zeroE TE with
          | some .i64, .d (.one (.w (.slice none 0 0))), .d (.one (.w (.int .i64 n))), some z => bif isNone (m d) && decide (0 < n) && leB n 65536 && Nat.ble (n.toNat * TE.bytes) 140737488355328 && Nat.blt 0 TE.size then some (.d (.one (.slc d TE.size 0 n.toNat false)), [(d, .arr e TE.size n.toNat false (repC n.toNat z))], [d]) else none
          | _, _, _, _ => none
      | _, _ => none
    | none => none
  | none => none
def clearE (TT : Tab) (m : Nat → Ob) (ty : TypeId) (x : Tv) : Res := match TT ty with
  | some T => match isSlc T with
    | some e => match lenE x with
      | some 0 => some (.tup [], [], [])
      | _ => match TT e, x with
        | some TE, .d (.one (.slc ob k p n _)) => match zeroE TE, m ob with
          | some z, .arr e' k' N ex cs => bif Nat.beq k TE.size && Nat.beq k' TE.size && Nat.beq e' e && Nat.blt 0 n && Nat.blt 0 TE.size && Nat.ble (p + n) N then some (.tup [], [(ob, .arr e TE.size N ex (setC cs (p * TE.size) (repC n z)))], [ob]) else none
          | _, _ => none
        | _, _ => none
    | none => none
  | none => none
def builtinE (TT : Tab) (m : Nat → Ob) (d : Nat) (g : Operand → Tv) (b : Builtin) (args : List Operand) (tys : List TypeId) : Res := match b, args, tys with
  | .len, [x], [ty] => match TT ty, lenE (g x) with
    | some T, some n => match isSlc T with
      | some _ => ret (wi n)
      | none => none
    | _, _ => none
  | .cap, [x], [ty] => match TT ty, g x with
    | some T, .d (.one (.w (.slice none 0 0))) => match isSlc T with
      | some _ => ret (wi 0)
      | none => none
    | _, _ => none
  | .min, [x, y], _ => match g x, g y with
    | .d (.one (.w (.int k a))), .d (.one (.w (.int _ b))) => ret (wv (.int k (if b < a then b else a)))
    | _, _ => none
  | .max, [x, y], _ => match g x, g y with
    | .d (.one (.w (.int k a))), .d (.one (.w (.int _ b))) => ret (wv (.int k (if a < b then b else a)))
    | _, _ => none
  | .append, [s, x], [ty, ty'] => appendE TT m d ty ty' (g s) (g x)
  | .clear, [x], [ty] => clearE TT m ty (g x)
  | _, _, _ => none
def lookupE (C : Cfg) (m : Nat → Ob) (ty : TypeId) (x y : Tv) : Res := match C.maps ty, x, y with
  | some (_, _, n, z), .d (.one (.map ob)), .d (.agg ks) => match m ob, intsOf ks with
    | .map es, some l => bif Nat.beq l.length n then (match findE n l es with
      | some r => some (.d (.one (r.getD (.w z))), [], [ob])
      | none => none) else none
    | _, _ => none
  | _, _, _ => none
def mapUpdateE (C : Cfg) (m : Nat → Ob) (ty : TypeId) (x y v : Tv) : Res := match C.maps ty, x, y, v with
  | some (_, _, n, _), .d (.one (.map ob)), .d (.agg ks), .d (.one c) => match m ob, intsOf ks with
    | .map es, some l => bif Nat.beq l.length n then (match findE n l es with
      | some none => some (.un, [(ob, .map (es ++ [(ks, c)]))], [ob])
      | _ => none) else none
    | _, _ => none
  | _, _, _, _ => none

def opE (C : Cfg) (o : Oper) (t : Nat → Tv) (m : Nat → Ob) (d : Nat) : Res := match o.op with
  | .move x => ret (opd t x)
  | .assign x => ret (opd t x)
  | .pick c a b => pickE (opd t c) (opd t a) (opd t b)
  | .alloc e => allocE C.TT m d e
  | .box e x => boxE m d e (opd t x)
  | .build ty parts => buildE C.TT ty (opd t) parts.toList
  | .buildSlice ty len parts => buildSliceE C.TT m d ty len (opd t) parts.toList
  | .load ty x => loadE C.TT m ty (opd t x)
  | .store ty x y => storeE C.TT m ty (opd t x) (opd t y)
  | .nilCheck x => nilCheckE (opd t x)
  | .binOp op ty x y _ => binE C op ty (opd t x) (opd t y)
  | .unOp op _ x => unE op (opd t x)
  | .convert src dst x => convE C.TT src dst (opd t x)
  | .makeFunc (.func f) first captured => match first.toList, capsE (opd t) captured.toList with
    | [], some caps => ret (.d (.one (.fn f caps)))
    | _, _ => none
  | .makeMap _ none => bif isNone (m d) then some (.d (.one (.map d)), [(d, .map [])], [d]) else none
  | .makeSlice ty x y => makeSliceE C.TT m d ty (opd t x) (opd t y)
  | .slice ty x lo hi none => sliceOpE C.TT ty (opd t x) (opd t) lo hi
  | .slice ty x lo (some hi) (some mx) => slice3OpE C.TT ty (opd t x) (opd t) lo hi mx
  | .fieldAddr ty x f => fieldAddrE C.TT ty f (opd t x)
  | .field ty x f => fieldE C.TT ty f (opd t x)
  | .indexAddr ty x i => indexAddrE C.TT ty (opd t x) (opd t i)
  | .index ty x i => indexE C.TT ty (opd t x) (opd t i)
  | .lookup ty x y false => lookupE C m ty (opd t x) (opd t y)
  | .mapUpdate ty x y v => mapUpdateE C m ty (opd t x) (opd t y) (opd t v)
  | .extract x i => extractE (opd t x) i
  | .call c => match c.callee with
    | .builtin b => builtinE C.TT m d (opd t) b c.args.toList c.argTypes.toList
    | _ => none
  | _ => none
end Go.Cv
namespace Go.Cv
open Go Go.RowKit Go.Vm
noncomputable section

inductive Ex where
  | normal
  | exit (id : Nat)
  | ret
inductive Rs (α : Type) where
  | ok (x : α)
  | err (l : List Nat)

inductive Tr where
  | nil
  | nd (x : Tv) (l r : Tr)
def Tr.get (t : Tr) : Nat → Tv :=
  Tr.rec (motive := fun _ => Nat → Tv) (fun _ => .tup []) (fun x _ _ ihl ihr k => bif Nat.beq k 0 then x else bif Nat.beq (k % 2) 1 then ihl (k / 2) else ihr (k / 2 - 1)) t
def Tr.set (f : Nat) : Tr → Nat → Tv → Tr :=
  Nat.rec (motive := fun _ => Tr → Nat → Tv → Tr) (fun t _ _ => t) (fun _ ih t k v => match t with
    | .nil => bif Nat.beq k 0 then .nd v .nil .nil else bif Nat.beq (k % 2) 1 then .nd (.tup []) (ih .nil (k / 2) v) .nil else .nd (.tup []) .nil (ih .nil (k / 2 - 1) v)
    | .nd x l r => bif Nat.beq k 0 then .nd v l r else bif Nat.beq (k % 2) 1 then .nd x (ih l (k / 2) v) r else .nd x l (ih r (k / 2 - 1) v)) f
abbrev Ml := List (Nat × Ob)
def mg : Ml → Nat → Ob
  | [], _ => .none
  | (k, x) :: r, o => bif Nat.beq k o then x else mg r o
def mset (x : Ob) (o : Nat) : Ml → Ml
  | [] => [(o, x)]
  | (k, y) :: r => bif Nat.beq k o then (k, x) :: r else (k, y) :: mset x o r
def msets : Ml → Ml → Ml
  | M, [] => M
  | M, (o, x) :: r => msets (mset x o M) r

structure St where
  t : Tr
  M : Ml
  nx : Nat

def ceRefs : Ce → List Nat
  | .w _ => []
  | .ptr o _ => [o]
  | .slc o _ _ _ _ => [o]
  | .map o => [o]
  | .fn _ caps => caps.map (·.1)
def csRefs : List Ce → List Nat
  | [] => []
  | c :: r => ceRefs c ++ csRefs r
def dvRefs : Dv → List Nat
  | .one c => ceRefs c
  | .agg cs => csRefs cs
def dsRefs : List Dv → List Nat
  | [] => []
  | c :: r => dvRefs c ++ dsRefs r
def tvRefs : Tv → List Nat
  | .un => []
  | .d v => dvRefs v
  | .tup vs => dsRefs vs
def tsRefs : List Tv → List Nat
  | [] => []
  | c :: r => tvRefs c ++ tsRefs r
def esRefs : List (List Ce × Ce) → List Nat
  | [] => []
  | e :: r => csRefs e.1 ++ (ceRefs e.2 ++ esRefs r)
def obRefs : Ob → List Nat
  | .arr _ _ _ _ cs => csRefs cs
  | .ro cs => csRefs cs
  | .map es => esRefs es
  | _ => []
def memB (o : Nat) : List Nat → Bool
  | [] => false
  | k :: r => Nat.beq k o || memB o r
def reach (M : Ml) (f : Nat) : List Nat → List Nat → List Nat :=
  Nat.rec (motive := fun _ => List Nat → List Nat → List Nat) (fun _ seen => seen) (fun _ ih todo seen => match todo with
    | [] => seen
    | o :: r => bif memB o seen then ih r seen else ih (obRefs (mg M o) ++ r) (o :: seen)) f
def subB : List Nat → List Nat → Bool
  | [], _ => true
  | o :: r, L => memB o L && subB r L
def closedB (M : Ml) (L : List Nat) : List Nat → Bool
  | [] => true
  | o :: r => subB (obRefs (mg M o)) L && closedB M L r
def pickM (M : Ml) : List Nat → Ml
  | [] => []
  | o :: r => (o, mg M o) :: pickM M r
def minus (L : List Nat) : List Nat → List Nat
  | [] => []
  | o :: r => bif memB o L then minus L r else o :: minus L r
def noneB (M : Ml) (L : List Nat) : List Nat → Bool
  | [] => true
  | o :: r => (memB o L || isNone (mg M o)) && noneB M L r
def wSame : Value → Value → Bool
  | .int k a, .int k' b => Nat.beq (kNum k) (kNum k') && a == b
  | .bool a, .bool b => beqB a b
  | .slice none 0 0, .slice none 0 0 => true
  | _, _ => false
def capsSame : List (Nat × Nat) → List (Nat × Nat) → Bool
  | [], [] => true
  | p :: l, q :: r => Nat.beq p.1 q.1 && Nat.beq p.2 q.2 && capsSame l r
  | _, _ => false
def ceSame : Ce → Ce → Bool
  | .w x, .w y => wSame x y
  | .ptr o p, .ptr o' p' => Nat.beq o o' && Nat.beq p p'
  | .slc o k p n f, .slc o' k' p' n' f' => Nat.beq o o' && Nat.beq k k' && Nat.beq p p' && Nat.beq n n' && beqB f f'
  | .map o, .map o' => Nat.beq o o'
  | .fn f c, .fn f' c' => Nat.beq f f' && capsSame c c'
  | _, _ => false
def csSame : List Ce → List Ce → Bool
  | [], [] => true
  | c :: l, d :: r => ceSame c d && csSame l r
  | _, _ => false
def esSame : List (List Ce × Ce) → List (List Ce × Ce) → Bool
  | [], [] => true
  | c :: l, d :: r => csSame c.1 d.1 && ceSame c.2 d.2 && esSame l r
  | _, _ => false
def obSame : Ob → Ob → Bool
  | .none, .none => true
  | .dead, .dead => true
  | .arr e k n x cs, .arr e' k' n' x' cs' => Nat.beq e e' && Nat.beq k k' && Nat.beq n n' && beqB x x' && csSame cs cs'
  | .ro cs, .ro cs' => csSame cs cs'
  | .map es, .map es' => esSame es es'
  | _, _ => false
def changed (M : Ml) : Ml → Ml
  | [] => []
  | (o, x) :: r => bif obSame (mg M o) x then changed M r else (o, x) :: changed M r

abbrev CallF := FuncId → List Tv → Ml → Nat → Rs (Tv × Ml × Nat)
def fuelR : Nat := 1000
def callE (ev : CallF) (draw : Bool) (f : FuncId) (args : List Tv) (M : Ml) (nx : Nat) : Rs (Tv × Ml × List Nat × Nat) :=
  let L := reach M fuelR (tsRefs args) []
  bif subB (tsRefs args) L && closedB M L L then
    (match ev f args (pickM M L) nx with
    | .ok (r, M', nx') =>
      let A := reach M' fuelR (tvRefs r ++ L) []
      bif subB (tvRefs r) A && subB L A && closedB M' A A && noneB M L A then .ok (r, bif draw then changed M (pickM M' A) else pickM M' A, A, nx') else .err [1]
    | .err l => .err l) else .err [2]

def capsT : List (Nat × Nat) → List Tv
  | [] => []
  | p :: r => .d (.one (.ptr p.1 p.2)) :: capsT r
def opdsT (t : Nat → Tv) : List Operand → List Tv
  | [] => []
  | x :: r => opd t x :: opdsT t r
def appT : List Tv → List Tv → List Tv
  | [], l => l
  | x :: r, l => x :: appT r l
def stepE (C : Cfg) (ev : CallF) (draw : Bool) (o : Oper) (s : St) : Rs (Tv × Ml × List Nat × Nat) := match o.op with
  | .call ⟨.value f, args, _⟩ => match opd s.t.get f with
    | .d (.one (.fn g caps)) => callE ev draw g (appT (opdsT s.t.get args.toList) (capsT caps)) s.M s.nx
    | _ => .err [3]
  | _ => match opE C o s.t.get (mg s.M) s.nx with
    | some (x, mo, rd) => .ok (x, mo, rd, s.nx + 1)
    | none => .err [4]
def putS (t : Tr) (d : Option Nat) (x : Tv) : Tr := match d with
  | some k => t.set 12 k x
  | none => t
def wantE (ops : Array Oper) (o : Oper) (s : St) : Option (Bool × List Nat) := match o.guard with
  | none => some (true, [])
  | some (j, w) => match (ops[j]?).bind (·.dst) with
    | some g => match s.t.get g with
      | .d (.one (.w (.bool b))) => some (beqB b w, [g])
      | .tup [] => some (false, [g])
      | _ => none
    | none => none
def oneE (C : Cfg) (ev : CallF) (N : Nat) (ops : Array Oper) (draw : Bool) (o : Oper) (s : St) (tr : Vm.Trace) : Rs (St × Vm.Trace) := bif dstOk N o.dst then (match wantE ops o s with
  | some (true, gs) => match stepE C ev draw o s with
    | .ok (x, mo, rd, nx) => .ok ({ t := putS s.t o.dst x, M := msets s.M mo, nx := nx }, bif draw then (maskS (gs ++ tmpsOf o.op.operands.toList) ||| maskM rd, maskS (dstL o.dst) ||| maskM (mo.map (·.1))) :: tr else tr)
    | .err l => .err l
  | some (false, gs) => .ok ({ s with t := putS s.t o.dst (.tup []) }, bif draw then (maskS gs, maskS (dstL o.dst)) :: tr else tr)
  | none => .err [5]) else .err [15]
def opsE (C : Cfg) (ev : CallF) (N : Nat) (ops : Array Oper) (draw : Bool) (os : List Oper) : St → Vm.Trace → Rs (St × Vm.Trace) :=
  List.rec (motive := fun _ => St → Vm.Trace → Rs (St × Vm.Trace)) (fun s tr => .ok (s, tr)) (fun o _ ih s tr => match oneE C ev N ops draw o s tr with
    | .ok (s, tr) => ih s tr
    | .err l => .err l) os
def loopE (f : St → Rs (Ex × St)) (n : Nat) : St → Rs (Ex × St) :=
  Nat.rec (motive := fun _ => St → Rs (Ex × St)) (fun _ => .err [6]) (fun _ ih s => match f s with
    | .ok (.normal, s) => ih s
    | r => r) n
def codeE (C : Cfg) (ev : CallF) (N : Nat) (c : Code) : St → Rs (Ex × St) :=
  Code.rec (motive := fun _ => St → Rs (Ex × St))
    (fun s => .ok (.normal, s))
    (fun id ops draw s => match opsE C ev N ops draw ops.toList s [] with
      | .ok (s, tr) => bif draw then (bif chk ops.toList tr.reverse then .ok (.normal, s) else .err [id, 16]) else .ok (.normal, s)
      | .err l => .err (id :: l))
    (fun _ _ iha ihb s => match iha s with
      | .ok (.normal, s) => ihb s
      | r => r)
    (fun c _ _ ihx ihy s => match opd s.t.get c with
      | .d (.one (.w (.bool q))) => bif q then ihx s else ihy s
      | _ => .err [7])
    (fun id _ ih s => match ih s with
      | .ok (.exit i, s) => bif Nat.beq i id then .ok (.normal, s) else .ok (.exit i, s)
      | r => r)
    (fun _ ih s => loopE ih 1000 s)
    (fun _ _ _ _ _ _ _ => .err [8])
    (fun id s => .ok (.exit id, s))
    (fun _ ih s => ih s)
    (fun _ s => .ok (.normal, s))
    (fun _ _ => .err [9])
    (fun s => .ok (.ret, s))
    (fun _ _ => .err [10]) c
def resE (C : Cfg) (s : St) : List ResultVar → Option (List Dv)
  | [] => some []
  | .tmp k :: r => match s.t.get k, resE C s r with
    | .d v, some l => some (v :: l)
    | _, _ => none
  | .cell a ty :: r => match loadE C.TT (mg s.M) ty (s.t.get a), resE C s r with
    | some (.d v, _, _), some l => some (v :: l)
    | _, _ => none
def argT : Nat → List Tv → Tr → Tr
  | _, [], t => t
  | k, x :: r, t => argT (k + 1) r (t.set 12 k x)
def tupE : List Dv → Tv
  | [x] => .d x
  | l => .tup l
def lenT : List Tv → Nat
  | [] => 0
  | _ :: r => lenT r + 1
def bodyE (C : Cfg) (ev : CallF) (f : FuncId) (fn : Func) (b : Code) (args : List Tv) (M : Ml) (nx : Nat) : Rs (Tv × Ml × Nat) :=
  bif Nat.ble (lenT args) fn.ntmps && Nat.ble fn.ntmps 4000 then (match codeE C ev fn.ntmps b { t := argT 0 args .nil, M := M, nx := nx } with
  | .ok (.exit _, _) => .err [11]
  | .ok (_, s) => match resE C s fn.results.toList with
    | some l => .ok (tupE l, s.M, s.nx)
    | none => .err [12]
  | .err l => .err (f :: l)) else .err [17]
def fnE (C : Cfg) (bodies : FuncId → Option (Func × Code)) (foreign : FuncId → Option (List Tv → Ml → Nat → Rs (Tv × Ml × Nat))) (n : Nat) : CallF :=
  Nat.rec (motive := fun _ => CallF) (fun _ _ _ _ => .err [13]) (fun _ ih f args M nx => match foreign f with
    | some g => g args M nx
    | none => match bodies f with
      | some (fn, b) => bodyE C ih f fn b args M nx
      | none => .err [14, f]) n
end
end Go.Cv
