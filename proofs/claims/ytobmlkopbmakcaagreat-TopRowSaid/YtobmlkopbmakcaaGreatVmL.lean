/-
  An abstract walk over Go's code: branches, loops, whole functions: the contract of a function by its walk.
-/
import Derived.Test.YtobmlkopbmakcaaGreatVmK
import Derived.RangeFuncNested
import Derived.RangeFuncLeaves
import Derived.TacticsIn
import Derived.OrdersIn
import Derived.Scope
namespace Go.Vm
set_option linter.unusedVariables false
set_option linter.unusedSimpArgs false
open Go Go.RowKit

/-! ### loops over iterators -/
/-- The slots that a round may write. -/
def wrC : Code → List Nat
  | .region _ ops _ => ops.toList.filterMap (·.dst)
  | .seq a b => wrC a ++ wrC b
  | .cond _ a b => wrC a ++ wrC b
  | .block _ c => wrC c
  | .loop c => wrC c
  | _ => []
def notDefer (o : Oper) : Bool := match o.op with
  | .defer _ => false
  | _ => true
/-- What may stand in a round. -/
def roundC : Code → Bool
  | .skip => true
  | .region _ ops _ => ops.toList.all notDefer
  | .seq a b => roundC a && roundC b
  | .cond _ a b => roundC a && roundC b
  | .block _ c => roundC c
  | .loop c => roundC c
  | .exit _ => true
  | .ret => true
  | _ => false
/-- AN ITERATOR's CONTRACT, at its captured values: it hands over vs in order, as long as the rounds go on; it reads what lies in Sx. -/
def IterAt (P : Program) (g : FuncId) (lb vs : List Value) (Sx : Nat → Prop) (w : World) : Prop :=
  ∀ (l : Nat) (J : Nat → World → Prop) (Jx : World → Prop) (W : World), (∀ b, Sx b → W.heap[b]? = w.heap[b]?) →
    (∀ k W1 W2, J k W1 → Below W1.heap.size W1 W2 → J k W2) →
    (∀ k v W1, vs[k]? = some v → J k W1 → YieldAt Fence.wide 0 P l #[v] W1 fun e W' =>
      (e = .returned (.bool true) ∧ J (k + 1) W' ∧ (∀ b, Sx b → W'.heap[b]? = W1.heap[b]?)) ∨ (e = .returned (.bool false) ∧ Jx W')) →
    J 0 W → CallsIn Fence.wide 0 P g (#[.func (.yield l) #[] #[]] ++ lb.toArray) W fun e W' => (∃ v, e = .returned v) ∧ (J vs.length W' ∨ Jx W')
/-- The same at whatever values read as what it has captured. -/
def Iter (P : Program) (g : FuncId) (caps : List SV) (xs : List DV) : Prop :=
  Enters P g ∧ ∀ (w : World) (S : Nat → Prop) (lb : List Value), (∀ b, S b → b < w.heap.size) → RdL S w lb caps → ∃ vs, DRdL S w vs xs ∧ IterAt P g lb vs S w

inductive Ex where
  | normal
  | exit (id : Nat)
  | ret

abbrev Post := Ex → (Nat → TV) → (Id → Mem) → Prop

/-- The state may be read as another one that says less. -/
def Wk (t : Nat → TV) (m : Id → Mem) (t' : Nat → TV) (m' : Id → Mem) : Prop :=
  ∀ (E : Env) (ρ : Id → Option (Nat × Nat)) (a : Act) (w : World), Rel E ρ t m a w → ∃ ρ', Rel E ρ' t' m' a w
def Adj (t : Nat → TV) (m : Id → Mem) (J : (Nat → TV) → (Id → Mem) → Prop) : Prop := ∃ t' m', Wk t m t' m' ∧ J t' m'

structure Cut (t : Nat → TV) (m : Id → Mem) (J : (Nat → TV) → (Id → Mem) → Prop) : Prop where
  h : Adj t m J

structure Loop (body : Post → (Nat → TV) → (Id → Mem) → Prop) (Q : Post) (t : Nat → TV) (m : Id → Mem) : Prop where
  h : ∃ (α : Type) (I J : α → (Nat → TV) → (Id → Mem) → Prop) (μ : α → Nat), Adj t m (fun t m => ∃ x, I x t m) ∧
    (∀ x t m, J x t m → Adj t m fun t m => ∃ y, I y t m ∧ μ y < μ x) ∧
    ∀ x t' m', I x t' m' → body (fun e t'' m'' => match e with
      | .normal => J x t'' m''
      | e => Q e t'' m'') t' m'

def headId : Code → Nat
  | .region id _ _ => id + 1
  | .seq a _ => headId a
  | .block _ c => headId c
  | .loop c => headId c
  | _ => 0

def seqQ (cuts : List Nat) (b : Code) (ihb : Post → (Nat → TV) → (Id → Mem) → Prop) (Q : Post) : Post := fun e t' m' => match e with
  | .normal => bif cuts.any (Nat.beq (headId b)) then Cut t' m' (fun t' m' => ihb Q t' m') else ihb Q t' m'
  | .exit i => Q (.exit i) t' m'
  | .ret => Q .ret t' m'
def blockQ (id : Nat) (Q : Post) : Post := fun e t' m' => match e with
  | .normal => Q .normal t' m'
  | .exit i => bif Nat.beq i id then Q .normal t' m' else Q (.exit i) t' m'
  | .ret => Q .ret t' m'
/-- A slice's comparison with nil: if it has elements it is not nil. -/
structure NilW (n : Nat) (neg : Bool) (K : Bool → Prop) : Prop where
  f : K neg
  t : n = 0 → K (!neg)
def condW (t : Nat → TV) (c : Operand) (K : Bool → Prop) : Prop := match opd t c with
  | .d (.one (.v (.bool b))) => Split b K
  | .nb n neg => NilW n neg K
  | _ => False

def offW (W : List Nat) (t : Nat → TV) : Prop := ∀ i, W.any (Nat.beq i) = true → t i = .any
/-- A LOOP OVER AN ITERATOR: what is kept between the rounds, as a function of their number. -/
structure RangeW (P : Program) (N : Nat) (f : Operand) (ps : Array Tmp) (as bd : Code) (iha ihb : Post → (Nat → TV) → (Id → Mem) → Prop) (Q : Post) (t : Nat → TV) (m : Id → Mem) : Prop where
  h : ∃ (g : FuncId) (n : Nat) (cap : Nat → SV) (xs : List DV) (p : Nat) (T : Nat → Nat → TV) (M : Nat → Id → Mem) (inv : Nat → Prop),
    opd t f = .d (.one (.fn g n cap)) ∧ Iter P g (cells n cap) xs ∧ ps = #[p] ∧ p < N ∧ (roundC as && roundC bd) = true ∧ (∀ k, offW (p :: (wrC as ++ wrC bd)) (T k)) ∧
    Wk t m (T 0) (M 0) ∧ inv 0 ∧
    (∀ k x, xs[k]? = some x → inv k → iha (fun e t1 m1 => match e with
      | .normal => ihb (fun e t2 m2 => match e with
        | .normal => Adj t2 m2 fun t3 m3 => t3 = T (k + 1) ∧ m3 = M (k + 1) ∧ inv (k + 1)
        | .exit i => Adj t2 m2 fun t3 m3 => offW (p :: (wrC as ++ wrC bd)) t3 ∧ Q (.exit i) t3 m3
        | .ret => Adj t2 m2 fun t3 m3 => offW (p :: (wrC as ++ wrC bd)) t3 ∧ Q .ret t3 m3) t1 m1
      | _ => False) (upd (T k) p (.d x)) (M k)) ∧
    (inv xs.length → Q .normal (T xs.length) (M xs.length))

/-- A function's walk, by the code's own recursor. -/
def awp (P : Program) (TT : Tab) (N : Nat) (cuts : List Nat) (c : Code) : Post → (Nat → TV) → (Id → Mem) → Prop :=
  Code.rec (motive := fun _ => Post → (Nat → TV) → (Id → Mem) → Prop)
    (fun Q t m => Q .normal t m)
    (fun _ ops draw Q t m => regW P TT cuts N ops draw ops.toList t m [] fun t' m' tr => bif draw then Need (chk ops.toList tr.reverse = true) (Q .normal t' m') else Q .normal t' m')
    (fun _ b iha ihb Q t m => iha (seqQ cuts b ihb Q) t m)
    (fun c _ _ ihx ihy Q t m => condW t c fun b => bif b then ihx Q t m else ihy Q t m)
    (fun id _ ih Q t m => ih (blockQ id Q) t m)
    (fun _ ih Q t m => Loop ih Q t m)
    (fun f ps as bd iha ihb Q t m => RangeW P N f ps as bd iha ihb Q t m)
    (fun id Q t m => Q (.exit id) t m)
    (fun _ ih Q t m => ih Q t m)
    (fun _ Q t m => Q .normal t m)
    (fun _ _ _ _ => False)
    (fun Q t m => Q .ret t m)
    (fun _ _ _ _ => False) c

/-- What the machine comes to. -/
def PostM (E : Env) (Q : Post) : Exit → Act → World → Prop
  | .normal, a, w => ∃ ρ t m, Q .normal t m ∧ Rel E ρ t m a w
  | .exit id, a, w => ∃ ρ t m, Q (.exit id) t m ∧ Rel E ρ t m a w
  | .ret, a, w => ∃ ρ t m, Q .ret t m ∧ Rel E ρ t m a w
  | _, _, _ => False

theorem least (p : Nat → Prop) (h : ∃ n, p n) : ∃ n, p n ∧ ∀ k, p k → n ≤ k := by
  obtain ⟨n, hn⟩ := h
  induction n using Nat.strongRecOn with
  | _ n ih =>
    by_cases hk : ∃ k, k < n ∧ p k
    · obtain ⟨k, h1, h2⟩ := hk
      exact ih k h1 h2
    · exact ⟨n, hn, fun k hp => Nat.le_of_not_lt fun hl => hk ⟨k, hl, hp⟩⟩

noncomputable def leastOf (p : Nat → Prop) : Nat := Classical.epsilon fun n => p n ∧ ∀ k, p k → n ≤ k
theorem leastOf_spec {p : Nat → Prop} (h : ∃ n, p n) : p (leastOf p) ∧ ∀ k, p k → leastOf p ≤ k := Classical.epsilon_spec (least p h)

/-! ### what no cells lie in may turn: the records of loops over iterators, and the marks that they leave -/
section
variable {S S' : Nat → Prop} {w w' : World}
theorem cell_same {b i : Nat} {v : Value} (h : ∀ o, w.heap[b]? = some o → o.isCells = true → w'.heap[b]? = w.heap[b]?) (hc : w.cell? ⟨b, i, none⟩ = some v) : w'.cell? ⟨b, i, none⟩ = some v := by
  obtain ⟨o, h1, h2⟩ := cells_of_cell hc
  rw [World.cell?_of_block (w := w) (h o h1 h2)]
  exact hc
theorem Rd.mono' (h : ∀ b, S b → S' b ∧ ∀ o, w.heap[b]? = some o → o.isCells = true → w'.heap[b]? = w.heap[b]?) {x : Value} {c : SV} (hr : Rd S w x c) : Rd S' w' x c := by
  induction hr with
  | v h1 => exact .v h1
  | nil k get => exact .nil k get
  | emp a cap k get => exact .emp a cap k get
  | sl xs hS hn hcap hc _ ih => exact .sl xs (h _ hS).1 hn hcap (fun i hi j hj => cell_same (h _ hS).2 (hc i hi j hj)) ih
  | ad xs hS hc _ ih => exact .ad xs (h _ hS).1 (fun j hj => cell_same (h _ hS).2 (hc j hj)) ih
  | fn xs _ ih => exact .fn xs ih
theorem RdL.mono' (h : ∀ b, S b → S' b ∧ ∀ o, w.heap[b]? = some o → o.isCells = true → w'.heap[b]? = w.heap[b]?) {xs : List Value} {cs : List SV} (hr : RdL S w xs cs) : RdL S' w' xs cs := by
  induction hr with
  | nil => exact .nil
  | cons a _ ih => exact .cons (a.mono' h) ih
theorem DRd.mono' (h : ∀ b, S b → S' b ∧ ∀ o, w.heap[b]? = some o → o.isCells = true → w'.heap[b]? = w.heap[b]?) {x : Value} {c : DV} (hr : DRd S w x c) : DRd S' w' x c := by
  cases c with
  | one c => exact Rd.mono' h hr
  | agg cs => obtain ⟨xs, h1, h2⟩ := hr; exact ⟨xs, h1, h2.mono' h⟩
theorem DRdL.mono' (h : ∀ b, S b → S' b ∧ ∀ o, w.heap[b]? = some o → o.isCells = true → w'.heap[b]? = w.heap[b]?) {xs : List Value} {cs : List DV} (hr : DRdL S w xs cs) : DRdL S' w' xs cs := by
  induction hr with
  | nil => exact .nil
  | cons a _ ih => exact .cons (a.mono' h) ih
variable {m : Id → Mem} {ρ : Id → Option (Nat × Nat)}
theorem CRL.mono' (h : ∀ b, S b → S' b ∧ ∀ o, w.heap[b]? = some o → o.isCells = true → w'.heap[b]? = w.heap[b]?) {xs : List Value} {cs : List CR} (hr : CRL S m ρ w xs cs) : CRL S' m ρ w' xs cs := by
  induction hr with
  | nil => exact .nil
  | @cons x c xs cs a _ ih =>
    refine .cons ?_ ih
    cases c with
    | s c => exact Rd.mono' h a
    | ptr o p => exact a
theorem CloOk.mono' (h : ∀ b, S b → S' b ∧ ∀ o, w.heap[b]? = some o → o.isCells = true → w'.heap[b]? = w.heap[b]?) {x : Value} {f : FuncId} {caps : List CR} (hr : CloOk S m ρ w x f caps) : CloOk S' m ρ w' x f caps := by
  obtain ⟨xs, h1, h2⟩ := hr
  exact ⟨xs, h1, h2.mono' h⟩
theorem CVk.mono' (h : ∀ b, S b → S' b ∧ ∀ o, w.heap[b]? = some o → o.isCells = true → w'.heap[b]? = w.heap[b]?) {x : Value} {c : CV} (hr : CVk S m ρ w x c) : CVk S' m ρ w' x c := by
  cases c with
  | s c => exact Rd.mono' h hr
  | ptr o p => exact hr
  | hdl o g => exact hr
  | clo f caps => exact CloOk.mono' h hr
theorem CVL.mono' (h : ∀ b, S b → S' b ∧ ∀ o, w.heap[b]? = some o → o.isCells = true → w'.heap[b]? = w.heap[b]?) {xs : List Value} {cs : List CV} (hr : CVL S m ρ w xs cs) : CVL S' m ρ w' xs cs := by
  induction hr with
  | nil => exact .nil
  | cons a _ ih => exact .cons (a.mono' h) ih
end
theorem Rel.cells {E : Env} {ρ : Id → Option (Nat × Nat)} {t : Nat → TV} {m : Id → Mem} {a a' : Act} {w w' : World} (h : Rel E ρ t m a w) (ht : a'.tmps = a.tmps) (hD : Marks E m ρ w' a'.defers)
    (hb : Bx E.w0.heap.size E.X w w') (hc : ∀ (c : Nat) (o : Obj), w.heap[c]? = some o → o.isCells = true → w'.heap[c]? = w.heap[c]?) : Rel E ρ t m a' w' := by
  have hL : ∀ b, L E m ρ w b → L E m ρ w' b ∧ ∀ o, w.heap[b]? = some o → o.isCells = true → w'.heap[b]? = w.heap[b]? := fun b hl =>
    ⟨⟨hl.1.imp id (fun h1 => h1.imp id (fun h1 => ⟨h1.1, Nat.lt_of_lt_of_le h1.2 hb.size⟩)), hl.2⟩, fun o h1 h2 => hc b o h1 h2⟩
  refine { below := h.below.trans hb, defers := hD, size := by rw [ht]; exact h.size, inj := h.inj, lo := fun o b c l r => ⟨(h.lo o b c l r).1, Nat.lt_of_lt_of_le (h.lo o b c l r).2 hb.size⟩, clean := h.clean, cleanM := h.cleanM, mem := ?_, slots := ?_, carry := h.carry }
  · intro o
    have hm := h.mem o
    generalize m o = v at hm
    cases v with
    | none => trivial
    | dead => trivial
    | ro cs =>
      obtain ⟨b, c, xs, e, h1, h0, h2, h3⟩ := hm
      exact ⟨b, c, xs, e, h1, (hL b h0).1, by rw [hc b _ h2 rfl, h2], h3.mono' hL⟩
    | box cs =>
      obtain ⟨b, c, xs, e, h1, h2, h3⟩ := hm
      exact ⟨b, c, xs, e, h1, by rw [hc b _ h2 rfl, h2], h3.mono' hL⟩
    | bld g n k e get =>
      rcases hm with ⟨h1, h2⟩ | ⟨b, cap, arr, h1, h2, h3, h4, h5, h7⟩
      · exact .inl ⟨h1, h2⟩
      · refine .inr ⟨b, cap, arr, h1, by rw [hc b _ h2 rfl, h2], h3, h4, h5, fun i hi j hj => ?_⟩
        obtain ⟨x, hx, hr⟩ := h7 i hi j hj
        exact ⟨x, hx, hr.mono' hL⟩
    | obj cs =>
      obtain ⟨b, c, xs, e, h1, h2, h3⟩ := hm
      exact ⟨b, c, xs, e, h1, by rw [hc b _ h2 rfl, h2], h3.mono' hL⟩
    | bldc g n k e get =>
      rcases hm with ⟨h1, h2⟩ | ⟨b, cap, arr, h1, h2, h3, h4, h5, h7⟩
      · exact .inl ⟨h1, h2⟩
      · refine .inr ⟨b, cap, arr, h1, by rw [hc b _ h2 rfl, h2], h3, h4, h5, fun i hi j hj => ?_⟩
        obtain ⟨x, hx, hr⟩ := h7 i hi j hj
        exact ⟨x, hx, hr.mono' hL⟩
  · intro i
    have hs := h.slots i
    rw [ht]
    generalize t i = v at hs
    cases v with
    | any => trivial
    | undef => exact hs
    | d v => exact DRd.mono' hL hs
    | tup vs => obtain ⟨xs, h1, h2⟩ := hs; exact ⟨xs, h1, h2.mono' hL⟩
    | ptr o p => exact hs
    | hdl o g => exact hs
    | sub o g lo n => exact hs
    | nb n neg => exact hs
    | ep o g i off => exact hs
    | clo f caps => exact CloOk.mono' hL hs
theorem bx_putObj {B l : Nat} {X : Nat → Prop} (w : World) (o : Obj) (h : B ≤ l) : Bx B X w (w.putObj l o) :=
  ⟨rfl, rfl, rfl, by simp, fun k hk _ => World.putObj_heap_other (by omega)⟩
/-- A mark is taken off. -/
theorem Rel.close {E : Env} (hB : E.w0.heap.size ≤ E.B) {ρ : Id → Option (Nat × Nat)} {t : Nat → TV} {m : Id → Mem} {a : Act} {w : World} (h : Rel E ρ t m a w) {b : Nat} {ds : List Deferred} (hd : a.defers = { target := .collected b, args := #[] } :: ds) :
    w.heap[b]? = some (.deferred (some [])) ∧ Rel E ρ t m { a with defers := ds } (w.putObj b (.deferred none)) := by
  have hM := h.defers
  rw [hd] at hM
  cases hM with
  | cons h0 h1 h2 hn r =>
    refine ⟨h2, h.cells rfl ?_ (bx_putObj w _ (Nat.le_trans hB h0)) (fun c o hc ho => World.putObj_heap_other (fun e => by rw [e, h2] at hc; cases hc; cases ho))⟩
    show Marks E m ρ (w.putObj b (.deferred none)) ds
    clear hd h
    induction r with
    | nil => exact .nil
    | @cons b' ds' g0 g1 g2 gn _ ih =>
      have hne : b' ≠ b := fun e => hn { target := .collected b', args := #[] } (by simp) (by rw [e])
      refine .cons g0 ⟨g1.1.imp id (fun h => h.imp id (fun h => ⟨h.1, by simpa using h.2⟩)), g1.2⟩ ((World.putObj_heap_other hne).trans g2) gn (ih (fun d hd => hn d (by simp [hd])))
theorem leaves_marks {P : Program} {n : Nat} {fn : Func} {R : Ending → World → Prop} {E : Env} (hB : E.w0.heap.size ≤ E.B) {ρ : Id → Option (Nat × Nat)} {t : Nat → TV} {m : Id → Mem} : ∀ (ds : List Deferred) (a : Act) (w : World), a.defers = ds → Rel E ρ t m a w →
    (∀ w', Rel E ρ t m { a with defers := [] } w' → ∃ v, (results fn a.tmps).run P w' = .ok v w' ∧ R (.returned v) w') → LeavesInM Fence.wide n P fn a.tmps R ds .returning w
  | [], a, w, hd, hR, hf => by
    obtain ⟨tmps, ds⟩ := a
    simp only at hd
    subst hd
    exact hf w hR
  | d :: ds, a, w, hd, hR, hf => by
    have hM := hR.defers
    rw [hd] at hM
    cases hM with
    | @cons b _ h0 h1 h2 hn r =>
      obtain ⟨k1, k2⟩ := hR.close hB hd
      exact ⟨by simp, .inl ⟨b, _, rfl, run_takeDeferred k1, leaves_marks hB ds { a with defers := ds } _ rfl k2 hf⟩⟩
/-! ### rounds: the same walk in the frame of a round -/
theorem opIn {P : Program} {o : Oper} {a : Act} {w : World} {K : Act → World → Prop} {Q Q' : Exit → Act → World → Prop} (l n : Nat) (hnd : notDefer o = true) (hp : ∀ ch a w, ¬ Q (.panic ch) a w) (ho : ¬ LetsOut Q)
    (h : o.wp P a w K Q) : o.wpIn (Fence.wide.inRound l) n P a w (fun a' w' => K a' w' ∧ ∃ v, a'.tmps = (a.put o.dst v).tmps) Q' := by
  refine ⟨fun _ _ => trivial, ?_⟩
  have e : o.semAt (Fence.wide.inRound l).round a.eval = execOp a.eval o := Oper.semAt_some l a.eval o (fun c hc => by unfold notDefer at hnd; rw [hc] at hnd; cases hnd)
  rw [e]
  unfold Oper.wp at h
  generalize (execOp a.eval o).run P w = r at h
  unfold Oper.upon at h
  split at h
  · exact ⟨h, _, rfl⟩
  · exact ⟨h, _, rfl⟩
  · refine ⟨h, undef, ?_⟩
    cases hd : o.dst <;> rfl
  · refine ⟨(fun h => by cases h), CallsIn.inRound l ((callsIn_wide (n := n - 1)).2 (h.mono ?_))⟩
    intro e w2 hq
    cases e with
    | returned v => exact ⟨hq, v, rfl⟩
    | panicked ch => exact absurd hq (hp _ _ _)
    | outgrown => exact absurd hq ho
  · refine ⟨(fun h => by cases h), fun c cs hroom => ?_⟩
    obtain ⟨v, w2, hv, hs⟩ := h c cs
    exact ⟨v, w2, ⟨hv, v, rfl⟩, stepsIn_wide.2 hs⟩
  · exact absurd h (hp _ _ _)
  · exact h.elim
def KeepT (W : List Nat) (a a' : Act) : Prop := ∀ i, i ∉ W → a'.tmps.getD i Go.undef = a.tmps.getD i Go.undef
theorem KeepT.refl (W : List Nat) (a : Act) : KeepT W a a := fun _ _ => rfl
theorem KeepT.trans {V W : List Nat} {a b c : Act} (h : KeepT V a b) (k : KeepT W b c) : KeepT (V ++ W) a c := fun i hi => by
  rw [k i (fun h => hi (by simp [h])), h i (fun h => hi (by simp [h]))]
theorem KeepT.mono {V W : List Nat} {a b : Act} (h : KeepT V a b) (hs : ∀ i, i ∈ V → i ∈ W) : KeepT W a b := fun i hi => h i (fun k => hi (hs i k))
theorem keepT_put {a a' : Act} {d : Option Nat} {v : Value} (h : a'.tmps = (a.put d v).tmps) {W : List Nat} (hd : ∀ k, d = some k → k ∈ W) : KeepT W a a' := fun i hi => by
  rw [h]
  cases d with
  | none => rfl
  | some k =>
    have hne : i ≠ k := fun e => hi (by rw [e]; exact hd k rfl)
    simp only [Act.put, Array.getD_eq_getD_getElem?]
    rw [Array.getElem?_setIfInBounds_ne (Ne.symm hne)]
theorem listIn {P : Program} {ops : Array Oper} {Q : Exit → Act → World → Prop} (l n : Nat) (hp : ∀ ch a w, ¬ Q (.panic ch) a w) (ho : ¬ LetsOut Q) : ∀ (os : List Oper) (a : Act) (w : World) (Q' : Exit → Act → World → Prop), os.all notDefer = true →
    (∀ e a' w', Q e a' w' → KeepT (os.filterMap (·.dst)) a a' → Q' e a' w') → wpList P ops Q os a w → wpListIn (Fence.wide.inRound l) n P ops Q' os a w
  | [], a, w, Q', _, hQ, h => hQ _ _ _ h (KeepT.refl _ _)
  | o :: os, a, w, Q', hd, hQ, h => by
    simp only [List.all_cons, Bool.and_eq_true] at hd
    have mem : ∀ k, o.dst = some k → k ∈ (o :: os).filterMap (·.dst) := fun k hk => by simp [hk]
    have sub : ∀ i, i ∈ os.filterMap (·.dst) → i ∈ (o :: os).filterMap (·.dst) := fun i hi => by
      rw [List.filterMap_cons]; split <;> simp [hi]
    have go : ∀ a' w' v, a'.tmps = (a.put o.dst v).tmps → wpList P ops Q os a' w' → wpListIn (Fence.wide.inRound l) n P ops Q' os a' w' := by
      intro a' w' v ht hw
      refine listIn l n hp ho os a' w' Q' hd.2 (fun e a2 w2 hq hk => hQ e a2 w2 hq ?_) hw
      have k1 : KeepT ((o :: os).filterMap (·.dst)) a a' := keepT_put ht mem
      have k2 : KeepT ((o :: os).filterMap (·.dst)) a' a2 := hk.mono sub
      exact (k1.trans k2).mono (fun i hi => by simpa using hi)
    unfold wpList at h
    unfold wpListIn
    split
    · rename_i hw
      rw [if_pos hw] at h
      rcases h with h | ⟨_, h⟩
      · refine Oper.wpIn_mono ?_ (opIn (Q' := Q') l n hd.1 hp ho h)
        rintro a' w' ⟨h1, v, h2⟩
        exact go a' w' v h2 h1
      · exact absurd h ho
    · rename_i hw
      rw [if_neg hw] at h
      exact ⟨fun _ _ => trivial, go _ _ undef rfl h⟩
theorem anyIn {P : Program} {ops : Array Oper} {Q : Exit → Act → World → Prop} (l n : Nat) (hp : ∀ ch a w, ¬ Q (.panic ch) a w) (ho : ¬ LetsOut Q) (hd : ops.toList.all notDefer = true) : ∀ (fuel : Nat) (listed : Array Bool) (a : Act) (w : World) (Q' : Exit → Act → World → Prop),
    (∀ e a' w', Q e a' w' → KeepT (ops.toList.filterMap (·.dst)) a a' → Q' e a' w') → wpAny P .any ops Q fuel listed a w → wpAnyIn (Fence.wide.inRound l) n P .any ops Q' fuel listed a w
  | 0, listed, a, w, Q', hQ, h => ⟨h.1, hQ _ _ _ h.2 (KeepT.refl _ _)⟩
  | fuel + 1, listed, a, w, Q', hQ, h => by
    refine ⟨fun h0 => hQ _ _ _ (h.1 h0) (KeepT.refl _ _), fun i hi => ?_⟩
    have hh := h.2 i hi
    unfold wpOp at hh
    unfold wpOpIn
    cases hio : ops[i]? with
    | none => rw [hio] at hh; exact anyIn l n hp ho hd fuel _ a w Q' hQ hh
    | some o =>
      rw [hio] at hh
      have hmem : o ∈ ops.toList := by
        have := Array.mem_of_getElem? hio
        simpa using this
      have hod : notDefer o = true := List.all_eq_true.1 hd o hmem
      have mem : ∀ k, o.dst = some k → k ∈ ops.toList.filterMap (·.dst) := fun k hk => List.mem_filterMap.2 ⟨o, hmem, hk⟩
      have go : ∀ a' w' v, a'.tmps = (a.put o.dst v).tmps → wpAny P .any ops Q fuel (listed.setIfInBounds i true) a' w' → wpAnyIn (Fence.wide.inRound l) n P .any ops Q' fuel (listed.setIfInBounds i true) a' w' := fun a' w' v ht hw =>
        anyIn l n hp ho hd fuel _ a' w' Q' (fun e a2 w2 hq hk => hQ e a2 w2 hq (((keepT_put ht mem).trans hk).mono (fun i hi => by simpa using hi))) hw
      simp only at hh ⊢
      split
      · rename_i hw
        rw [if_pos hw] at hh
        rcases hh with hh | ⟨_, hh⟩
        · refine Oper.wpIn_mono ?_ (opIn (Q' := Q') l n hod hp ho hh)
          rintro a' w' ⟨h1, v, h2⟩
          exact go a' w' v h2 h1
        · exact absurd hh ho
      · rename_i hw
        rw [if_neg hw] at hh
        exact ⟨fun _ _ => trivial, go _ _ undef rfl hh⟩
theorem postM_panic {E : Env} {Q : Post} : ∀ ch a w, ¬ PostM E Q (.panic ch) a w := fun _ _ _ h => h
theorem postM_out {E : Env} {Q : Post} : ¬ LetsOut (PostM E Q) := fun ⟨_, _, h⟩ => h

theorem drawAny {P : Program} {N : Nat} {ops : Array Oper} {es : List Ent} {t t' : Nat → TV} {m m' : Id → Mem} {Q : Post} (h1 : Ents P N ops ops.toList es t m t' m')
    (hck : chk ops.toList (es.map Ent.mask) = true) (hq : Q .normal t' m') {E : Env} {ρ : Id → Option (Nat × Nat)} {a : Act} {w : World} (hP : E.P = P) (hN : E.N = N) (hR : Rel E ρ t m a w) :
    wpAny P .any ops (PostM E Q) ops.size (Array.replicate ops.size false) a { w with drawn := w.drawn + 1 } := by
  have hfalse : ∀ i, (Array.replicate ops.size false).getD i false = false := by
    intro i
    by_cases hi : i < ops.size
    · simp [Array.getD_eq_getD_getElem?, hi]
    · rw [Array.getD_eq_getD_getElem?, Array.getElem?_eq_none (by simp; omega)]; rfl
  have hS : (fun i => (Array.replicate ops.size false).getD i false) = fun _ => false := funext hfalse
  refine ents_any h1 hck hP hN (fun ρ' a' w' hR' => ⟨ρ', t', m', hq, hR'⟩) ops.size _ ρ a _ (by simp) ?_ ?_ ?_
  · unfold leftN
    have : (List.range ops.size).filter (fun i => !(Array.replicate ops.size false).getD i true) = List.range ops.size := by
      rw [List.filter_eq_self]
      intro i hi
      have : i < ops.size := by simpa using hi
      simp [Array.getD_eq_getD_getElem?, this]
    rw [this]; simp
  · intro i o _ hl
    rw [hfalse] at hl
    simp at hl
  · have e1 : fT es (fun i => (Array.replicate ops.size false).getD i false) 0 t = t := by
      rw [hS]; funext s; exact fT_off _ _ _ _ _ (fun _ _ _ _ => rfl)
    have e2 : fM es (fun i => (Array.replicate ops.size false).getD i false) 0 m = m := by
      rw [hS]; funext s; exact fM_off _ _ _ _ _ (fun _ _ _ _ => rfl)
    rw [e1, e2]
    exact hR.grow ((Below.refl w.heap.size w).drew)
theorem awp_soundIn {P : Program} {TT : Tab} (hT : TabOk P TT) (hmix : P.follows .mixedOrders = true) {N : Nat} {cuts : List Nat} (l n : Nat) : ∀ (c : Code) (Q : Post) (t : Nat → TV) (m : Id → Mem), roundC c = true → awp P TT N cuts c Q t m →
    ∀ (E : Env) (ρ : Id → Option (Nat × Nat)) (a : Act) (w : World), E.P = P → E.N = N → Rel E ρ t m a w → c.wpIn (Fence.wide.inRound l) n P (fun e a' w' => PostM E Q e a' w' ∧ KeepT (wrC c) a a') a w := by
  intro c
  induction c with
  | skip => intro Q t m _ h E ρ a w _ _ hR; exact wpIn_skip ⟨⟨ρ, t, m, h, hR⟩, KeepT.refl _ _⟩
  | region id ops draw =>
    intro Q t m hc h E ρ a w hP hN hR
    obtain ⟨es, t', m', h1, h2, h3⟩ := regW_ents hT ops.toList t m [] _ h
    replace hc : ops.toList.all notDefer = true := hc
    cases draw with
    | false => exact wpIn_region_list (listIn l n postM_panic postM_out ops.toList a w _ hc (fun e a' w' hq hk => ⟨hq, hk⟩) (ents_list h1 E ρ a w hP hN hR (PostM E Q) (fun ρ' a' w' hR' => ⟨ρ', t', m', h2, hR'⟩)))
    | true =>
      obtain ⟨hck, hq⟩ := (show Need _ _ from h2)
      simp only [cond_true, List.append_nil, List.reverse_reverse] at hck
      exact wpIn_region_any hmix (anyIn l n postM_panic postM_out hc _ _ a _ _ (fun e a' w' hq hk => ⟨hq, hk⟩) (drawAny h1 hck hq hP hN hR))
  | seq x y ihx ihy =>
    intro Q t m hc h E ρ a w hP hN hR
    simp only [roundC, Bool.and_eq_true] at hc
    have left : ∀ a', KeepT (wrC x) a a' → KeepT (wrC (x.seq y)) a a' := fun a' hk => hk.mono (fun i hi => by simp [wrC, hi])
    refine wpIn_seq (wpIn_mono (ihx _ t m hc.1 h E ρ a w hP hN hR) ?_)
    rintro e a' w' ⟨hq, hk⟩
    cases e with
    | normal =>
      obtain ⟨ρ', t', m', hq, hR'⟩ := hq
      have go : ∀ ρ2 t2 m2, awp P TT N cuts y Q t2 m2 → Rel E ρ2 t2 m2 a' w' → y.wpIn (Fence.wide.inRound l) n P (fun e a2 w2 => PostM E Q e a2 w2 ∧ KeepT (wrC (x.seq y)) a a2) a' w' := fun ρ2 t2 m2 hq2 hR2 =>
        wpIn_mono (ihy Q t2 m2 hc.2 hq2 E ρ2 a' w' hP hN hR2) (fun e a2 w2 hh => ⟨hh.1, hk.trans hh.2⟩)
      show y.wpIn _ n P _ a' w'
      replace hq : bif cuts.any (Nat.beq (headId y)) then Cut t' m' (fun t' m' => awp P TT N cuts y Q t' m') else awp P TT N cuts y Q t' m' := hq
      cases hcut : cuts.any (Nat.beq (headId y)) with
      | false => rw [hcut] at hq; exact go ρ' t' m' hq hR'
      | true =>
        rw [hcut] at hq
        obtain ⟨t2, m2, hwk, hq⟩ := (show Cut _ _ _ from hq).h
        obtain ⟨ρ2, hR2⟩ := hwk E ρ' a' w' hR'
        exact go ρ2 t2 m2 hq hR2
    | exit i => exact ⟨hq, left a' hk⟩
    | ret => exact ⟨hq, left a' hk⟩
    | goto l => exact hq.elim
    | panic ch => exact hq.elim
    | outgrown => exact hq.elim
  | cond c x y ihx ihy =>
    intro Q t m hc h E ρ a w hP hN hR
    simp only [roundC, Bool.and_eq_true] at hc
    have gx : awp P TT N cuts x Q t m → x.wpIn (Fence.wide.inRound l) n P (fun e a2 w2 => PostM E Q e a2 w2 ∧ KeepT (wrC (.cond c x y)) a a2) a w := fun hq =>
      wpIn_mono (ihx Q t m hc.1 hq E ρ a w hP hN hR) (fun e a2 w2 hh => ⟨hh.1, hh.2.mono (fun i hi => by simp [wrC, hi])⟩)
    have gy : awp P TT N cuts y Q t m → y.wpIn (Fence.wide.inRound l) n P (fun e a2 w2 => PostM E Q e a2 w2 ∧ KeepT (wrC (.cond c x y)) a a2) a w := fun hq =>
      wpIn_mono (ihy Q t m hc.2 hq E ρ a w hP hN hR) (fun e a2 w2 hh => ⟨hh.1, hh.2.mono (fun i hi => by simp [wrC, hi])⟩)
    replace h : condW t c fun b => bif b then awp P TT N cuts x Q t m else awp P TT N cuts y Q t m := h
    unfold condW at h
    split at h
    · rename_i b hb
      have hv := (opd_ok hR c).1
      rw [hb] at hv
      have e1 := (Rd.inv_v (show Rd _ _ _ _ from hv)).1
      have h := h.elim
      refine wpIn_cond (t := b) e1 ?_
      cases b with
      | true => exact gx h
      | false => exact gy h
    · rename_i n' neg hb
      have hv := (opd_ok hR c).1
      rw [hb] at hv
      obtain ⟨b, e1, e2⟩ := hv
      refine wpIn_cond (t := (b != neg)) e1 ?_
      have hk : (bif (b != neg) then awp P TT N cuts x Q t m else awp P TT N cuts y Q t m) := by
        cases b with
        | false => have := h.f; rwa [show (false != neg) = neg by cases neg <;> rfl]
        | true => have := h.t (e2 rfl); rwa [show (true != neg) = !neg by cases neg <;> rfl]
      revert hk
      cases hq : (b != neg) with
      | true => intro hk; exact gx hk
      | false => intro hk; exact gy hk
    · exact h.elim
  | block id x ihx =>
    intro Q t m hc h E ρ a w hP hN hR
    simp only [roundC] at hc
    refine wpIn_block (wpIn_mono (ihx _ t m hc h E ρ a w hP hN hR) ?_)
    rintro e a' w' ⟨hq, hk⟩
    replace hk : KeepT (wrC (.block id x)) a a' := hk
    cases e with
    | normal => exact ⟨hq, hk⟩
    | exit i =>
      obtain ⟨ρ', t', m', hq, hR'⟩ := hq
      show (if i = id then (PostM E Q .normal a' w' ∧ KeepT (wrC (.block id x)) a a') else (PostM E Q (.exit i) a' w' ∧ KeepT (wrC (.block id x)) a a'))
      replace hq : bif Nat.beq i id then Q .normal t' m' else Q (.exit i) t' m' := hq
      by_cases hi : i = id
      · subst hi
        rw [if_pos rfl]
        have : Nat.beq i i = true := Nat.beq_refl i
        simp only [this, cond_true] at hq
        exact ⟨⟨ρ', t', m', hq, hR'⟩, hk⟩
      · rw [if_neg hi]
        simp only [beq_f hi, cond_false] at hq
        exact ⟨⟨ρ', t', m', hq, hR'⟩, hk⟩
    | ret => exact ⟨hq, hk⟩
    | goto l => exact hq.elim
    | panic ch => exact hq.elim
    | outgrown => exact hq.elim
  | loop x ihx =>
    intro Q t m hc h E ρ a w hP hN hR
    simp only [roundC] at hc
    obtain ⟨α, I, J, μ, ⟨t0, m0, hwk, x0, hI⟩, hJ, hround⟩ := (show Loop _ _ _ _ from h).h
    obtain ⟨ρ0, hR0⟩ := hwk E ρ a w hR
    let rank : Act → World → Nat → Prop := fun a w n => ∃ ρ t m x, I x t m ∧ Rel E ρ t m a w ∧ μ x = n
    refine wpIn_loop (fun a' w => (∃ n, rank a' w n) ∧ KeepT (wrC (.loop x)) a a') (fun a w => leastOf (rank a w)) ⟨⟨_, ρ0, t0, m0, x0, hI, hR0, rfl⟩, KeepT.refl _ _⟩ ?_
    rintro a' w' ⟨hex, hk0⟩
    obtain ⟨hl, _⟩ := leastOf_spec hex
    obtain ⟨ρ1, t1, m1, x1, hI1, hR1, hμ1⟩ := hl
    refine wpIn_mono (ihx _ t1 m1 hc (hround x1 t1 m1 hI1) E ρ1 a' w' hP hN hR1) ?_
    rintro e a2 w2 ⟨hq, hk⟩
    replace hk : KeepT (wrC (.loop x)) a a2 := (hk0.trans hk).mono (fun i hi => by rcases List.mem_append.1 hi with h | h <;> exact h)
    cases e with
    | normal =>
      obtain ⟨ρ2, t2, m2, hj, hR2⟩ := hq
      obtain ⟨t3, m3, hwk3, y, hI3, hlt⟩ := hJ _ _ _ hj
      obtain ⟨ρ3, hR3⟩ := hwk3 E ρ2 a2 w2 hR2
      have hr3 : rank a2 w2 (μ y) := ⟨ρ3, t3, m3, y, hI3, hR3, rfl⟩
      refine ⟨⟨⟨_, hr3⟩, hk⟩, ?_⟩
      have := (leastOf_spec (p := rank a2 w2) ⟨_, hr3⟩).2 _ hr3
      show leastOf (rank a2 w2) < leastOf (rank a' w')
      omega
    | exit i => exact ⟨hq, hk⟩
    | ret => exact ⟨hq, hk⟩
    | goto l => exact hq.elim
    | panic ch => exact hq.elim
    | outgrown => exact hq.elim
  | exit id => intro Q t m _ h E ρ a w _ _ hR; exact wpIn_exit ⟨⟨ρ, t, m, h, hR⟩, KeepT.refl _ _⟩
  | ret => intro Q t m _ h E ρ a w _ _ hR; exact wpIn_ret ⟨⟨ρ, t, m, h, hR⟩, KeepT.refl _ _⟩
  | rangeFunc f ps as bd _ _ => intro Q t m hc; cases hc
  | scope bd _ => intro Q t m hc; cases hc
  | label l => intro Q t m hc; cases hc
  | goto l => intro Q t m hc; cases hc
  | refuse why => intro Q t m hc; cases hc

/-! ### the same state, told from a later world on -/
def Env.re (E : Env) (ρ : Id → Option (Nat × Nat)) (m : Id → Mem) (w : World) : Env :=
  { E with
    w0 := w
    S0 := fun b => b < w.heap.size ∧ (E.S0 b ∨ E.X b ∨ E.w0.heap.size ≤ b)
    hS := fun _ h => h.1
    X := fun b => b < w.heap.size ∧ ∃ o c, (m o).live ∧ ρ o = some (b, c)
    hX := fun _ h => h.1 }
section
variable {E : Env} {ρ ρ' : Id → Option (Nat × Nat)} {t t' : Nat → TV} {m m' : Id → Mem} {a a' : Act} {w w' : World}
theorem re_L (h : Rel E ρ t m a w) (hw : w.heap.size ≤ w'.heap.size) (m' : Id → Mem) (ρ' : Id → Option (Nat × Nat)) : L (E.re ρ m w) m' ρ' w' = L E m' ρ' w' := by
  funext b
  have h0 := h.below.size
  apply propext
  unfold L Env.re
  simp only
  constructor
  · rintro ⟨h1, h2⟩
    refine ⟨?_, h2⟩
    rcases h1 with ⟨h3, h1⟩ | ⟨h3, o, c, l, r⟩ | ⟨h1, h3⟩
    · exact h1.imp id (fun h1 => h1.imp id (fun h1 => ⟨h1, Nat.lt_of_lt_of_le h3 hw⟩))
    · rcases (h.lo o b c l r).1 with k | k
      · exact .inr (.inl k)
      · exact .inr (.inr ⟨k, Nat.lt_of_lt_of_le h3 hw⟩)
    · exact .inr (.inr ⟨Nat.le_trans h0 h1, h3⟩)
  · rintro ⟨h1, h2⟩
    refine ⟨?_, h2⟩
    rcases h1 with h1 | h1 | ⟨h1, h3⟩
    · exact .inl ⟨Nat.lt_of_lt_of_le (E.hS b h1) h0, .inl h1⟩
    · exact .inl ⟨Nat.lt_of_lt_of_le (E.hX b h1) h0, .inr (.inl h1)⟩
    · by_cases k : b < w.heap.size
      · exact .inl ⟨k, .inr (.inr h1)⟩
      · exact .inr (.inr ⟨Nat.le_of_not_lt k, h3⟩)
theorem memOk_L {E E' : Env} (hL : L E m ρ w = L E' m ρ w) (o : Id) (v : Mem) (h : MemOk E m ρ w o v) : MemOk E' m ρ w o v := by
  cases v <;> simp only [MemOk, hL] at h ⊢ <;> exact h
theorem tOk_L {E E' : Env} (hL : L E m ρ w = L E' m ρ w) (x : Value) (v : TV) (h : TOk E m ρ w x v) : TOk E' m ρ w x v := by
  cases v <;> simp only [TOk, hL] at h ⊢ <;> exact h
theorem marks_L {E E' : Env} (hL : ∀ b, L E m ρ w b → L E' m ρ w b) (hB : E'.B = E.B) {ds : List Deferred} (hd : Marks E m ρ w ds) : Marks E' m ρ w ds := by
  induction hd with
  | nil => exact .nil
  | cons h0 h1 h2 hn _ ih => exact .cons (by rw [hB]; exact h0) (hL _ h1) h2 hn ih
theorem Rel.re (h : Rel E ρ t m a w) : Rel (E.re ρ m w) ρ t m a w := by
  have hL := re_L h (Nat.le_refl _) m ρ
  exact { below := Bx.refl _ _ _, defers := marks_L (E := E) (E' := E.re ρ m w) (fun b hb => by rw [hL]; exact hb) rfl h.defers, size := h.size, inj := h.inj, lo := fun o b c l r => ⟨.inl ⟨(h.lo o b c l r).2, o, c, l, r⟩, (h.lo o b c l r).2⟩, clean := h.clean, cleanM := h.cleanM, mem := fun o => memOk_L hL.symm o _ (h.mem o), slots := fun i => tOk_L hL.symm _ _ (h.slots i), carry := h.carry }
theorem Rel.unre (h : Rel E ρ t m a w) (k : Rel (E.re ρ m w) ρ' t' m' a' w') : Rel E ρ' t' m' a' w' := by
  have hL := re_L h k.below.size m' ρ'
  refine { below := h.below.trans (k.below.mono h.below.size (fun b hb ⟨_, o, c, l, r⟩ => ((h.lo o b c l r).1).resolve_right (fun q => absurd hb (Nat.not_lt.2 q)))), defers := marks_L (E := E.re ρ m w) (E' := E) (fun b hb => by rw [hL] at hb; exact hb) rfl k.defers, size := k.size, inj := k.inj, lo := fun o b c l r => ⟨?_, (k.lo o b c l r).2⟩, clean := k.clean, cleanM := k.cleanM, mem := fun o => memOk_L hL o _ (k.mem o), slots := fun i => tOk_L hL _ _ (k.slots i), carry := k.carry }
  rcases (k.lo o b c l r).1 with ⟨_, o', c', l', r'⟩ | q
  · exact (h.lo o' b c' l' r').1
  · exact .inr (Nat.le_trans h.below.size q)
/-- What is no object of the call's own lies as it lay. -/
theorem re_same (h : Rel E ρ t m a w) (k : Rel (E.re ρ m w) ρ' t' m' a' w') {b : Nat} (hb : b < w.heap.size) (ho : ∀ o c, (m o).live → ρ o ≠ some (b, c)) : w'.heap[b]? = w.heap[b]? ∧ ∀ o c, (m' o).live → ρ' o ≠ some (b, c) := by
  refine ⟨k.below.block b hb (fun ⟨_, o, c, l, r⟩ => ho o c l r), fun o c l r => ?_⟩
  rcases (k.lo o b c l r).1 with ⟨_, o', c', l', r'⟩ | q
  · exact ho o' c' l' r'
  · exact absurd hb (Nat.not_lt.2 q)
/-- An object of the call's own is cells. -/
theorem Rel.own_cells (h : Rel E ρ t m a w) {o : Id} {b c : Nat} (l : (m o).live) (r : ρ o = some (b, c)) : ∃ ob : Obj, w.heap[b]? = some ob ∧ ob.isCells = true := by
  have hm := h.mem o
  generalize m o = v at hm l
  cases v with
  | none => exact l.elim
  | dead => exact l.elim
  | ro cs => exact l.elim
  | box cs => obtain ⟨b', c', xs, e, h1, h2, _⟩ := hm; rw [r] at h1; cases h1; exact ⟨_, h2, rfl⟩
  | bld g n k e get =>
    rcases hm with ⟨h1, _⟩ | ⟨b', cap, arr, h1, h2, _⟩
    · rw [r] at h1; cases h1
    · rw [r] at h1; cases h1; exact ⟨_, h2, rfl⟩
  | obj cs => obtain ⟨b', c', xs, e, h1, h2, _⟩ := hm; rw [r] at h1; cases h1; exact ⟨_, h2, rfl⟩
  | bldc g n k e get =>
    rcases hm with ⟨h1, _⟩ | ⟨b', cap, arr, h1, h2, _⟩
    · rw [r] at h1; cases h1
    · rw [r] at h1; cases h1; exact ⟨_, h2, rfl⟩
theorem Rel.not_own (h : Rel E ρ t m a w) {b : Nat} {ob : Obj} (hb : w.heap[b]? = some ob) (hc : ob.isCells = false) : ∀ o c, (m o).live → ρ o ≠ some (b, c) := fun o c l r => by
  obtain ⟨ob', h1, h2⟩ := h.own_cells l r
  rw [hb] at h1; cases h1; rw [hc] at h2; cases h2
theorem re_obj (h : Rel E ρ t m a w) (k : Rel (E.re ρ m w) ρ' t' m' a' w') {b : Nat} {ob : Obj} (hb : w.heap[b]? = some ob) (hc : ob.isCells = false) : w'.heap[b]? = some ob :=
  (re_same h k (Array.getElem?_eq_some_iff.1 hb).1 (h.not_own hb hc)).1.trans hb
theorem Marks.later (h : Rel E ρ t m a w) (k : Rel (E.re ρ m w) ρ' t' m' a' w') {ds : List Deferred} (hd : Marks E m ρ w ds) : Marks E m' ρ' w' ds := by
  induction hd with
  | nil => exact .nil
  | @cons b ds h0 h1 h2 hn _ ih =>
    obtain ⟨q1, q2⟩ := re_same h k (Array.getElem?_eq_some_iff.1 h2).1 h1.2
    exact .cons h0 ⟨h1.1.imp id (fun h => h.imp id (fun h => ⟨h.1, Nat.lt_of_lt_of_le h.2 k.below.size⟩)), q2⟩ (q1.trans h2) hn ih
theorem Marks.lt {ds : List Deferred} (hd : Marks E m ρ w ds) {D : Nat} (hD : w.heap.size ≤ D) : ∀ d ∈ ds, d.target ≠ .collected D := by
  induction hd with
  | nil => intro d hd; simp at hd
  | @cons b ds h0 h1 h2 hn _ ih =>
    intro d hd
    rcases List.mem_cons.1 hd with rfl | hd
    · intro e
      have := (Array.getElem?_eq_some_iff.1 h2).1
      simp only [Target.collected.injEq] at e
      omega
    · exact ih d hd
theorem Rel.other (h : Rel E ρ t m a w) {W : List Nat} (ho : offW W t) {a2 : Act} (hs : a2.tmps.size = E.N) (hd : Marks E m ρ w a2.defers) (hk : ∀ i, i ∉ W → a2.tmps.getD i Go.undef = a.tmps.getD i Go.undef) : Rel E ρ t m a2 w := by
  refine { h with defers := hd, size := hs, clean := h.clean, slots := fun i => ?_ }
  by_cases hi : i ∈ W
  · rw [ho i (List.any_eq_true.2 ⟨i, hi, Nat.beq_refl i⟩)]; trivial
  · rw [hk i hi]; exact h.slots i
end

theorem opd_offW {E : Env} {ρ : Id → Option (Nat × Nat)} {t : Nat → TV} {m : Id → Mem} {a : Act} {w : World} (hR : Rel E ρ t m a w) {f : Operand} {g n : Nat} {cap : Nat → SV} (h : opd t f = .d (.one (.fn g n cap))) :
    ∃ xs : Nat → Value, a.eval f = .func (.func g) #[] ((List.range n).map xs).toArray ∧ ∀ j, j < n → Rd (L E m ρ w) w (xs j) (cap j) := by
  have hv := (opd_ok hR f).1
  rw [h] at hv
  exact Rd.inv_fn hv
theorem DRdL.get' {S : Nat → Prop} {w : World} {xs : List Value} {cs : List DV} (hr : DRdL S w xs cs) : ∀ (j : Nat) (x : Value), xs[j]? = some x → ∃ c, cs[j]? = some c ∧ DRd S w x c := by
  induction hr with
  | nil => intro j x h; simp at h
  | @cons x c xs cs h1 _ ih =>
    intro j y h
    cases j with
    | zero => simp at h; subst h; exact ⟨c, by simp, h1⟩
    | succ j => simpa using ih j y (by simpa using h)
theorem range_sound {P : Program} {TT : Tab} (hT : TabOk P TT) (hmix : P.follows .mixedOrders = true) {N : Nat} {cuts : List Nat} {f : Operand} {ps : Array Tmp} {as bd : Code} {Q : Post} {t : Nat → TV} {m : Id → Mem}
    (h : RangeW P N f ps as bd (awp P TT N cuts as) (awp P TT N cuts bd) Q t m) (E : Env) (ρ : Id → Option (Nat × Nat)) (a : Act) (w : World) (hP : E.P = P) (hB : E.B ≤ E.w0.heap.size) (hN : E.N = N) (hR : Rel E ρ t m a w) :
    (Code.rangeFunc f ps as bd).wp P (PostM E Q) a w := by
  obtain ⟨g, nc, cap, xs, p, T, M, inv, hf, hit, rfl, hp, hrd, hoff, hwk, hinv0, hround, hend⟩ := h.h
  simp only [Bool.and_eq_true] at hrd
  obtain ⟨hra, hrb⟩ := hrd
  obtain ⟨lbf, hev, hcap⟩ := opd_offW hR hf
  obtain ⟨lb, hlb⟩ : ∃ lb, lb = (List.range nc).map lbf := ⟨_, rfl⟩
  rw [← hlb] at hev
  have hSlt : ∀ b, L E m ρ w b → b < w.heap.size := fun b hb => L_lt hR hb
  obtain ⟨vs, hvs, hat⟩ := hit.2 w (L E m ρ w) lb hSlt (by rw [hlb]; exact RdL_cells nc cap lbf hcap)
  obtain ⟨a0, ha0⟩ : ∃ a0 : Act, a0 = { tmps := a.tmps, defers := [] } := ⟨_, rfl⟩
  have hR2 : Rel (E.re ρ m w) ρ t m a0 w := by
    rw [ha0]
    exact { hR.re with defers := .nil, size := hR.size, clean := hR.clean, slots := hR.re.slots }
  obtain ⟨ρ0, hR0⟩ := hwk (E.re ρ m w) ρ _ w hR2
  generalize hE2 : E.re ρ m w = E2 at *
  have hw2 : E2.w0 = w := by rw [← hE2]; rfl
  have hN2 : E2.N = N := by rw [← hE2]; exact hN
  have hP2 : E2.P = P := by rw [← hE2]; exact hP
  have keepS : ∀ {ρ' t' m' a' w'}, Rel E2 ρ' t' m' a' w' → ∀ b, L E m ρ w b → L E2 m' ρ' w' b ∧ w'.heap[b]? = w.heap[b]? := by
    intro ρ' t' m' a' w' k b hb
    rw [← hE2] at k ⊢
    obtain ⟨q1, q2⟩ := re_same hR k (hSlt b hb) hb.2
    rw [re_L hR k.below.size m' ρ']
    refine ⟨⟨hb.1.imp id (fun h => h.imp id (fun h => ⟨h.1, Nat.lt_of_lt_of_le h.2 k.below.size⟩)), q2⟩, q1⟩
  obtain ⟨l, hl⟩ : ∃ l, l = w.heap.size + 1 := ⟨_, rfl⟩
  obtain ⟨D, hD⟩ : ∃ D, D = w.heap.size := ⟨_, rfl⟩
  refine wpIn_wide.1 (wpIn_rangeFunc (F := Fence.wide) (n := 0) ?_)
  intro fn _
  obtain ⟨rec, hrec⟩ : ∃ rec : LoopState → Option Code → Go.Loop, rec = fun st pe => { state := st, pending := pe, fn, tmps := a.tmps, params := #[p], assign := as, body := bd, defers := w.heap.size } := ⟨_, rfl⟩
  obtain ⟨W1, hW1⟩ : ∃ W1, (w.alloc (.deferred (some []))).alloc (.loop (rec .ready none)) = W1 := ⟨_, rfl⟩
  have hL1 : W1.heap[l]? = some (.loop (rec .ready none)) := by
    rw [← hW1, hl]; have := World.alloc_heap_new (w.alloc (.deferred (some []))) (.loop (rec .ready none)); rwa [World.size_alloc] at this
  have hK1 : W1.heap[D]? = some (.deferred (some [])) := by
    rw [← hW1, hD]; exact (Below.heap_alloc _ _ _ (by simp)).trans (World.alloc_heap_new w _)
  have hb1 : Below w.heap.size w W1 := by
    rw [← hW1]; exact ((Below.refl _ w).alloc (Nat.le_refl _) _).alloc (by simp) _
  have hDl : D ≠ l := by omega
  have hR1 : Rel E2 ρ0 (T 0) (M 0) a0 W1 := hR0.grow hb1
  -- a record's turn
  have put2 : ∀ {ρ' t' m'} {a' : Act} {W : World} (r : Go.Loop) (o : Obj), Rel E2 ρ' t' m' a' W → W.heap[l]? = some (.loop r) → Rel E2 ρ' t' m' a' (W.putObj l o) := by
    intro ρ' t' m' a' W r o k h1
    have other : ∀ c (ob : Obj), W.heap[c]? = some ob → (∀ r', ob ≠ .loop r') → (W.putObj l o).heap[c]? = W.heap[c]? := fun c ob hc hne => World.putObj_heap_other (fun e => by
      rw [e, h1] at hc; cases hc; exact hne r rfl)
    refine k.cells rfl ?_ (bx_putObj W o (by rw [hw2]; omega)) (fun c ob hc ho => other c ob hc (fun r' e => by rw [e] at ho; cases ho))
    have kd := k.defers
    generalize a'.defers = ds at kd
    induction kd with
    | nil => exact .nil
    | @cons b ds h0 hL h hn _ ih => exact .cons h0 ⟨hL.1.imp id (fun h => h.imp id (fun h => ⟨h.1, by simpa using h.2⟩)), hL.2⟩ ((other b _ h (fun r' e => by cases e)).trans h) hn ih
  let J : Nat → World → Prop := fun k W => inv k ∧ (∃ ρk, Rel E2 ρk (T k) (M k) a0 W) ∧ W.heap[l]? = some (.loop (rec .ready none)) ∧ W.heap[D]? = some (.deferred (some []))
  let Jx : World → Prop := fun W => ∃ c, (∃ ρk t3 m3, Rel E2 ρk t3 m3 a0 W ∧ ((c = .ret ∧ Q .ret t3 m3) ∨ ∃ i, c = .exit i ∧ Q (.exit i) t3 m3)) ∧ W.heap[l]? = some (.loop (rec .done (some c))) ∧ W.heap[D]? = some (.deferred (some []))
  refine ⟨l, [{ target := .collected D, args := #[] }], W1, { target := .fn (.func g) lb.toArray, args := #[.func (.yield l) #[] #[]] }, W1, g, #[.func (.yield l) #[] #[]] ++ lb.toArray, W1, ?_, ?_, fun _ _ => trivial, ?_, (fun h => by cases h), ?_⟩
  · rw [← hW1, hrec, hl, hD]; exact run_enterLoop_outer _ _ _ _ _
  · simp only [resolve, hev]
    simp [go_sem]
  · simp [invoke, go_sem, callFunc_enters hit.1]
  refine (hat l J Jx W1 (fun b hb => hb1.block b (hSlt b hb)) ?_ ?_ ⟨hinv0, ⟨ρ0, hR1⟩, hL1, hK1⟩).mono ?_
  · rintro k A B ⟨hi, ⟨ρk, hk⟩, h1, h2⟩ hb
    exact ⟨hi, ⟨ρk, hk.grow hb⟩, (hb.block l (Array.getElem?_eq_some_iff.1 h1).1).trans h1, (hb.block D (Array.getElem?_eq_some_iff.1 h2).1).trans h2⟩
  · -- one round
    rintro k v W hv ⟨hik, ⟨ρk, hk⟩, hl0, hD0⟩
    obtain ⟨x, hx, hvx⟩ := hvs.get' k v hv
    have hy := run_yield (P := P) (args := #[v]) hl0 (by rw [hrec]; rfl)
    rw [hrec] at hy
    refine ⟨fn, _, as, bd, hy, roundIn_of_wpIn (F := Fence.wide) trivial ?_⟩
    have hk3 := hk.re
    have hvx3 : TOk (E2.re ρk (M k) W) (M k) ρk W v (.d x) := by
      show DRd (L (E2.re ρk (M k) W) (M k) ρk W) W v x
      rw [re_L hk (Nat.le_refl _)]
      exact hvx.mono (fun b hb => keepS hk b hb)
    have hput := hk3.put (d := some p) (fun q hq => by cases hq; show p < E2.N; rw [hN2]; exact hp) (v := v) (x := .d x) hvx3 (fun _ hr => hr.elim)
    have hact : (a0.put (some p) v) = { tmps := ((#[p] : Array Tmp).zip #[v]).foldl (fun t (x : Tmp × Value) => t.setIfInBounds x.1 x.2) a.tmps, defers := [] } := by rw [ha0]; simp [Act.put]
    have kt0 : KeepT [p] a0 (a0.put (some p) v) := keepT_put (d := some p) rfl (fun q hq => by cases hq; simp)
    have wa := awp_soundIn hT hmix l 0 as _ _ _ hra (hround k x hx hik) (E2.re ρk (M k) W) ρk _ W hP2 hN2 hput
    rw [hact] at wa kt0
    refine wpIn_mono wa ?_
    rintro e a1 w1 ⟨hq, kt1⟩
    cases e with
    | normal =>
      obtain ⟨ρ1, t1, m1, hq1, hr1⟩ := hq
      have hl1 := re_obj hk hr1 hl0 rfl
      have hD1 := re_obj hk hr1 hD0 rfl
      have hu1 := hk.unre hr1
      refine ⟨_, run_beginRound hl1 (by rw [hrec]), ?_⟩
      obtain ⟨w2, hw2'⟩ : ∃ w2, w2 = w1.putObj l (.loop { rec .ready none with state := .busy }) := ⟨_, rfl⟩
      have hlt1 := (Array.getElem?_eq_some_iff.1 hl1).1
      have hl2 : w2.heap[l]? = some (.loop { rec .ready none with state := .busy }) := by rw [hw2']; exact World.putObj_heap_same hlt1
      have hD2 : w2.heap[D]? = some (.deferred (some [])) := by rw [hw2']; exact (World.putObj_heap_other hDl).trans hD1
      have hu2 : Rel E2 ρ1 t1 m1 a1 w2 := by rw [hw2']; exact put2 _ _ hu1 hl1
      rw [← hw2']
      have wb := awp_soundIn hT hmix l 0 bd _ _ _ hrb hq1 (E2.re ρ1 m1 w2) ρ1 a1 w2 hP2 hN2 hu2.re
      refine wpIn_mono wb ?_
      rintro e a2 w3 ⟨hq, kt2⟩
      have ktall : ∀ i, i ∉ p :: (wrC as ++ wrC bd) → a0.tmps.getD i Go.undef = a2.tmps.getD i Go.undef := fun i hi => by
        have := ((kt0.trans kt1).trans kt2) i (fun h => hi (by simpa [or_assoc] using h))
        exact this.symm
      have fin : ∀ {ρ2 t2 m2 ρ3 t3 m3}, Rel (E2.re ρ1 m1 w2) ρ2 t2 m2 a2 w3 → Rel E2 ρ3 t3 m3 a2 w3 → offW (p :: (wrC as ++ wrC bd)) t3 → ∀ jump : Option Code,
          (Instr.endRound l jump).run P w3 = .ok (.bool jump.isNone) (w3.putObj l (.loop (rec (if jump.isNone then .ready else .done) jump))) ∧
          Rel E2 ρ3 t3 m3 a0 (w3.putObj l (.loop (rec (if jump.isNone then .ready else .done) jump))) ∧
          (w3.putObj l (.loop (rec (if jump.isNone then .ready else .done) jump))).heap[l]? = some (.loop (rec (if jump.isNone then .ready else .done) jump)) ∧
          (w3.putObj l (.loop (rec (if jump.isNone then .ready else .done) jump))).heap[D]? = some (.deferred (some [])) := by
        intro ρ2 t2 m2 ρ3 t3 m3 h2 h3 ho jump
        have hl3 := re_obj hu2 h2 hl2 rfl
        have hD3 := re_obj hu2 h2 hD2 rfl
        have hh := run_endRound (P := P) jump hl3
        have hout : Rel E2 ρ3 t3 m3 a0 w3 := h3.other ho (by rw [ha0, hN2, ← hN]; exact hR.size) (by rw [ha0]; exact .nil) ktall
        refine ⟨?_, put2 _ _ hout hl3, World.putObj_heap_same (Array.getElem?_eq_some_iff.1 hl3).1, (World.putObj_heap_other hDl).trans hD3⟩
        rw [hrec] at hh ⊢
        exact hh
      cases e with
      | normal =>
        obtain ⟨ρ2, t2, m2, ⟨t3, m3, hwk2, rfl, rfl, hik2⟩, hr2⟩ := hq
        obtain ⟨ρ3, hr3⟩ := hwk2 E2 ρ2 a2 w3 (hu2.unre hr2)
        obtain ⟨f1, f2, f3, f4⟩ := fin hr2 hr3 (hoff _) none
        exact ⟨_, _, f1, .inl ⟨rfl, ⟨hik2, ⟨ρ3, f2⟩, f3, f4⟩, fun b hb => ((keepS f2 b hb).2).trans ((keepS hk b hb).2).symm⟩⟩
      | ret =>
        obtain ⟨ρ2, t2, m2, ⟨t3, m3, hwk2, ho3, hq3⟩, hr2⟩ := hq
        obtain ⟨ρ3, hr3⟩ := hwk2 E2 ρ2 a2 w3 (hu2.unre hr2)
        obtain ⟨f1, f2, f3, f4⟩ := fin hr2 hr3 ho3 (some .ret)
        exact ⟨_, _, f1, .inr ⟨rfl, .ret, ⟨ρ3, t3, m3, f2, .inl ⟨rfl, hq3⟩⟩, f3, f4⟩⟩
      | exit i =>
        obtain ⟨ρ2, t2, m2, ⟨t3, m3, hwk2, ho3, hq3⟩, hr2⟩ := hq
        obtain ⟨ρ3, hr3⟩ := hwk2 E2 ρ2 a2 w3 (hu2.unre hr2)
        obtain ⟨f1, f2, f3, f4⟩ := fin hr2 hr3 ho3 (some (.exit i))
        exact ⟨_, _, f1, .inr ⟨rfl, .exit i, ⟨ρ3, t3, m3, f2, .inr ⟨i, rfl, hq3⟩⟩, f3, f4⟩⟩
      | goto t => exact hq.elim
      | panic ch => exact hq.elim
      | outgrown => exact hq.elim
    | exit i => obtain ⟨_, _, _, hq, _⟩ := hq; exact hq.elim
    | ret => obtain ⟨_, _, _, hq, _⟩ := hq; exact hq.elim
    | goto t => exact hq.elim
    | panic ch => exact hq.elim
    | outgrown => exact hq.elim
  · -- behind the iterator
    have outer : ∀ {ρ' t' m'} {W : World}, Rel E2 ρ' t' m' a0 W → W.heap[D]? = some (.deferred (some [])) → Rel E ρ' t' m' { a with defers := [{ target := .collected D, args := #[] }] ++ a.defers } W := by
      intro ρ' t' m' W k hk
      rw [← hE2] at k
      have ku := hR.unre k
      refine { ku with defers := ?_, size := hR.size, clean := ku.clean, slots := fun i => by have := ku.slots i; rw [ha0] at this; exact this }
      exact .cons (by rw [hD]; exact Nat.le_trans hB hR.below.size) ⟨.inr (.inr ⟨by rw [hD]; exact hR.below.size, (Array.getElem?_eq_some_iff.1 hk).1⟩), ku.not_own hk rfl⟩ hk (hR.defers.lt (by omega)) (Marks.later hR k hR.defers)
    rintro e W2 ⟨⟨v, rfl⟩, hj⟩
    rcases hj with ⟨hin, ⟨ρk, hk⟩, h1, h2⟩ | ⟨c, ⟨ρk, t3, m3, hk, hc⟩, h1, h2⟩
    · have he := run_endLoop (P := P) h1 (by rw [hrec]; simp)
      refine ⟨none, W2.putObj l (.loop { rec .ready none with state := .exhausted }), by rw [hrec] at he ⊢; exact he, ?_⟩
      rw [hvs.length] at hk hin
      exact ⟨ρk, _, _, hend hin, outer (put2 _ _ hk h1) ((World.putObj_heap_other hDl).trans h2)⟩
    · have he := run_endLoop (P := P) h1 (by rw [hrec]; simp)
      refine ⟨some c, W2.putObj l (.loop { rec .done (some c) with state := .exhausted }), by rw [hrec] at he ⊢; exact he, ?_⟩
      have hk' := outer (put2 (rec .done (some c)) (.loop { rec .done (some c) with state := .exhausted }) hk h1) ((World.putObj_heap_other hDl).trans h2)
      rcases hc with ⟨rfl, hq⟩ | ⟨i, rfl, hq⟩
      · exact wpIn_ret ⟨ρk, t3, m3, hq, hk'⟩
      · exact wpIn_exit ⟨ρk, t3, m3, hq, hk'⟩
theorem awp_sound {P : Program} {TT : Tab} (hT : TabOk P TT) (hmix : P.follows .mixedOrders = true) {N : Nat} {cuts : List Nat} : ∀ (c : Code) (Q : Post) (t : Nat → TV) (m : Id → Mem), awp P TT N cuts c Q t m →
    ∀ (E : Env) (ρ : Id → Option (Nat × Nat)) (a : Act) (w : World), E.P = P ∧ E.B ≤ E.w0.heap.size → E.N = N → Rel E ρ t m a w → c.wp P (PostM E Q) a w := by
  intro c
  induction c with
  | skip => intro Q t m h E ρ a w _ _ hR; exact wp_skip ⟨ρ, t, m, h, hR⟩
  | region id ops draw =>
    intro Q t m h E ρ a w hP hN hR
    obtain ⟨es, t', m', h1, h2, h3⟩ := regW_ents hT ops.toList t m [] _ h
    cases draw with
    | false =>
      refine wp_region_list (ents_list h1 E ρ a w hP.1 hN hR _ (fun ρ' a' w' hR' => ⟨ρ', t', m', h2, hR'⟩))
    | true =>
      obtain ⟨hck, hq⟩ := (show Need _ _ from h2)
      simp only [cond_true, List.append_nil, List.reverse_reverse] at hck
      exact wp_region_any hmix (drawAny h1 hck hq hP.1 hN hR)
  | seq x y ihx ihy =>
    intro Q t m h E ρ a w hP hN hR
    refine wp_seq (wp_mono (ihx _ t m h E ρ a w hP hN hR) ?_)
    intro e a' w' hq
    cases e with
    | normal =>
      obtain ⟨ρ', t', m', hq, hR'⟩ := hq
      show y.wp P (PostM E Q) a' w'
      replace hq : bif cuts.any (Nat.beq (headId y)) then Cut t' m' (fun t' m' => awp P TT N cuts y Q t' m') else awp P TT N cuts y Q t' m' := hq
      cases hcut : cuts.any (Nat.beq (headId y)) with
      | false => rw [hcut] at hq; exact ihy Q t' m' hq E ρ' a' w' hP hN hR'
      | true =>
        rw [hcut] at hq
        obtain ⟨t2, m2, hwk, hq⟩ := (show Cut _ _ _ from hq).h
        obtain ⟨ρ2, hR2⟩ := hwk E ρ' a' w' hR'
        exact ihy Q t2 m2 hq E ρ2 a' w' hP hN hR2
    | exit i => exact hq
    | ret => exact hq
    | goto l => exact hq.elim
    | panic ch => exact hq.elim
    | outgrown => exact hq.elim
  | cond c x y ihx ihy =>
    intro Q t m h E ρ a w hP hN hR
    replace h : condW t c fun b => bif b then awp P TT N cuts x Q t m else awp P TT N cuts y Q t m := h
    unfold condW at h
    split at h
    · rename_i b hb
      have hv := (opd_ok hR c).1
      rw [hb] at hv
      have e1 := (Rd.inv_v (show Rd _ _ _ _ from hv)).1
      have h := h.elim
      refine wp_cond (t := b) e1 ?_
      cases b with
      | true => exact ihx Q t m h E ρ a w hP hN hR
      | false => exact ihy Q t m h E ρ a w hP hN hR
    · rename_i n neg hb
      have hv := (opd_ok hR c).1
      rw [hb] at hv
      obtain ⟨b, e1, e2⟩ := hv
      refine wp_cond (t := (b != neg)) e1 ?_
      have hk : (bif (b != neg) then awp P TT N cuts x Q t m else awp P TT N cuts y Q t m) := by
        cases b with
        | false => have := h.f; rwa [show (false != neg) = neg by cases neg <;> rfl]
        | true => have := h.t (e2 rfl); rwa [show (true != neg) = !neg by cases neg <;> rfl]
      revert hk
      cases hq : (b != neg) with
      | true => intro hk; exact ihx Q t m hk E ρ a w hP hN hR
      | false => intro hk; exact ihy Q t m hk E ρ a w hP hN hR
    · exact h.elim
  | block id x ihx =>
    intro Q t m h E ρ a w hP hN hR
    refine wp_block (wp_mono (ihx _ t m h E ρ a w hP hN hR) ?_)
    intro e a' w' hq
    cases e with
    | normal => exact hq
    | exit i =>
      obtain ⟨ρ', t', m', hq, hR'⟩ := hq
      show (if i = id then PostM E Q .normal a' w' else PostM E Q (.exit i) a' w')
      replace hq : bif Nat.beq i id then Q .normal t' m' else Q (.exit i) t' m' := hq
      by_cases hi : i = id
      · subst hi
        rw [if_pos rfl]
        have : Nat.beq i i = true := Nat.beq_refl i
        simp only [this, cond_true] at hq
        exact ⟨ρ', t', m', hq, hR'⟩
      · rw [if_neg hi]
        simp only [beq_f hi, cond_false] at hq
        exact ⟨ρ', t', m', hq, hR'⟩
    | ret => exact hq
    | goto l => exact hq.elim
    | panic ch => exact hq.elim
    | outgrown => exact hq.elim
  | loop x ihx =>
    intro Q t m h E ρ a w hP hN hR
    obtain ⟨α, I, J, μ, ⟨t0, m0, hwk, x0, hI⟩, hJ, hround⟩ := (show Loop _ _ _ _ from h).h
    obtain ⟨ρ0, hR0⟩ := hwk E ρ a w hR
    let rank : Act → World → Nat → Prop := fun a w n => ∃ ρ t m x, I x t m ∧ Rel E ρ t m a w ∧ μ x = n
    refine wp_loop (fun a w => ∃ n, rank a w n) (fun a w => leastOf (rank a w)) ⟨_, ρ0, t0, m0, x0, hI, hR0, rfl⟩ ?_
    intro a' w' hex
    obtain ⟨hl, _⟩ := leastOf_spec hex
    obtain ⟨ρ1, t1, m1, x1, hI1, hR1, hμ1⟩ := hl
    refine wp_mono (ihx _ t1 m1 (hround x1 t1 m1 hI1) E ρ1 a' w' hP hN hR1) ?_
    intro e a2 w2 hq
    cases e with
    | normal =>
      obtain ⟨ρ2, t2, m2, hj, hR2⟩ := hq
      obtain ⟨t3, m3, hwk3, y, hI3, hlt⟩ := hJ _ _ _ hj
      obtain ⟨ρ3, hR3⟩ := hwk3 E ρ2 a2 w2 hR2
      have hr3 : rank a2 w2 (μ y) := ⟨ρ3, t3, m3, y, hI3, hR3, rfl⟩
      refine ⟨⟨_, hr3⟩, ?_⟩
      have := (leastOf_spec (p := rank a2 w2) ⟨_, hr3⟩).2 _ hr3
      show leastOf (rank a2 w2) < leastOf (rank a' w')
      omega
    | exit i => exact hq
    | ret => exact hq
    | goto l => exact hq.elim
    | panic ch => exact hq.elim
    | outgrown => exact hq.elim
  | exit id => intro Q t m h E ρ a w _ _ hR; exact wp_exit ⟨ρ, t, m, h, hR⟩
  | ret => intro Q t m h E ρ a w _ _ hR; exact wp_ret ⟨ρ, t, m, h, hR⟩
  | rangeFunc f ps as bd _ _ => intro Q t m h E ρ a w hP hN hR; exact range_sound hT hmix h E ρ a w hP.1 hP.2 hN hR
  | scope bd ih =>
    intro Q t m h E ρ a w hP hN hR
    refine wp_scope_straight (wp_mono (ih Q t m h E ρ a w hP hN hR) ?_)
    intro e a' w' hq
    cases e with
    | goto l => exact hq.elim
    | panic ch => exact hq.elim
    | outgrown => exact hq.elim
    | _ => exact hq
  | label l => intro Q t m h E ρ a w _ _ hR; exact wp_label ⟨ρ, t, m, h, hR⟩
  | goto l => intro Q t m h; exact h.elim
  | refuse why => intro Q t m h; exact h.elim

/-! ### whole functions -/
def resW (TT : Tab) (t : Nat → TV) (m : Id → Mem) : List ResultVar → (List DV → Prop) → Prop
  | [], K => K []
  | .tmp s :: r, K => argW m (t s) fun v _ _ _ => resW TT t m r fun l => K (v :: l)
  | .cell a ty :: r, K => match TT ty with
    | some T => loadW T m (t a) fun x _ _ => match x with
      | .d v => resW TT t m r fun l => K (v :: l)
      | _ => False
    | none => False

/-- What the walk has come to is read as the result that the contract says. -/
structure Fin (x r : TV) : Prop where
  h : ∀ (S : Nat → Prop) (w : World) (v : Value), ROk S w v x → ROk S w v r

def finW (r : TV) (l : List DV) : Prop :=
  match l with
  | [x] => Fin (.d x) r
  | l => Fin (.tup l) r

def initT (args : List DV) : Nat → TV := fun i => match args[i]? with
  | some v => .d v
  | none => .undef

def resF (tmps : Array Value) : ResultVar → Sem Value
  | .tmp s => pure (tmps.getD s Go.undef)
  | .cell ad ty => do loadVar ty (← asAddr (tmps.getD ad Go.undef))

theorem load_res {P : Program} {TT : Tab} (hT : TabOk P TT) {t : Nat → TV} {m : Id → Mem} {ty : TypeId} {T : Ty} (hty : TT ty = some T) {ad : Nat} {K : Kont} (h : loadW T m (t ad) K) :
    ∃ x rd, K x [] rd ∧ ∀ (E : Env) (ρ : Id → Option (Nat × Nat)) (a : Act) (w : World), E.P = P → Rel E ρ t m a w → ∃ u, (resF a.tmps (.cell ad ty)).run P w = .ok u w ∧ TOk E m ρ w u x ∧ ∀ b, x.refs b → m b ≠ .none := by
  let o : Oper := ⟨none, .load ty (.tmp ad), 0, "", #[], none⟩
  obtain ⟨y, rd, h, hok⟩ := load_pure (P := P) (o := o) (t := t) hT hty rfl h
  refine ⟨y, rd, h, fun E ρ a w hP hR => ?_⟩
  obtain ⟨u, hr, hu, hc⟩ := hok E ρ t m a w hP (fun _ _ => rfl) (fun _ _ => rfl) hR
  refine ⟨u, ?_, hu, hc⟩
  have hr' : ((do let v ← Instr.loadAt ty (a.tmps.getD ad Go.undef); pure (Next.value v) : Sem Next)).run P w = .ok (.value u) w := hr
  show (do loadVar ty (← asAddr (a.tmps.getD ad Go.undef)) : Sem Value).run P w = .ok u w
  revert hr'
  generalize a.tmps.getD ad Go.undef = z
  intro hr'
  have hz : ∃ p, z = .pointer (some p) := by
    cases z with
    | pointer p =>
      cases p with
      | some p => exact ⟨p, rfl⟩
      | none => simp [Instr.loadAt, Instr.sureAddr] at hr'
    | _ => simp [Instr.loadAt, Instr.sureAddr] at hr'
  obtain ⟨p, rfl⟩ := hz
  simp only [Instr.loadAt, Instr.sureAddr, asAddr, Sem.run_bind, Sem.run_pure, Result.andThen_ok] at hr' ⊢
  cases hq : (loadVar ty p).run P w with
  | ok v w' =>
    rw [hq] at hr'
    simp only [Result.andThen_ok, Result.ok.injEq, Next.value.injEq] at hr'
    rw [hr'.1, hr'.2]
  | halt x w' => rw [hq] at hr'; simp [Result.andThen] at hr'

theorem resW_ok {P : Program} {TT : Tab} (hT : TabOk P TT) {t : Nat → TV} {m : Id → Mem} {E : Env} {ρ : Id → Option (Nat × Nat)} {a : Act} {w : World} (hR : Rel E ρ t m a w) (hP : E.P = P) :
    ∀ (rs : List ResultVar) (K : List DV → Prop), resW TT t m rs K → ∃ l vs, K l ∧ DRdL (fun b => E.S0 b ∨ E.X b ∨ (E.w0.heap.size ≤ b ∧ b < w.heap.size)) w vs l ∧
      (rs.mapM (resF a.tmps)).run P w = .ok vs w
  | [], K, h => ⟨[], [], h, .nil, rfl⟩
  | .tmp s :: r, K, h => by
    simp only [resW] at h
    have hself : Agree (⟨none, .move (.tmp s), 0, "", #[], none⟩ : Oper) t t := fun _ _ => rfl
    obtain ⟨v, hs, rd, ft, h, _, hbld, hread⟩ := argW_ok (o := (⟨none, .move (.tmp s), 0, "", #[], none⟩ : Oper)) (t := t) (x := .tmp s) (by simp [Op.operands]) h
    obtain ⟨l, vs, hK, hl, hrun⟩ := resW_ok hT hR hP r _ h
    have h1 := hread E ρ t m a w hself (fun _ _ => rfl) hR
    refine ⟨v :: l, a.tmps.getD s Go.undef :: vs, hK, .cons (DRd.mono (fun b hb => ⟨?_, rfl⟩) h1) hl, ?_⟩
    · rcases hb with hb | ⟨o, _, l, c, r⟩
      · exact hb.1
      · obtain ⟨q1, q2⟩ := hR.lo o b c l r
        exact .inr (q1.imp id (fun q1 => ⟨q1, q2⟩))
    · simp only [List.mapM_cons, resF, Sem.run_bind, Sem.run_pure, Result.andThen_ok]
      rw [show (List.mapM (resF a.tmps) r).run P w = _ from hrun]
      rfl
  | .cell ad ty :: r, K, h => by
    simp only [resW] at h
    split at h
    · rename_i T hty
      obtain ⟨y, rd, h, hok⟩ := load_res (P := P) hT hty h
      split at h
      · rename_i v
        obtain ⟨l, vs, hK, hl, hrun⟩ := resW_ok hT hR hP r _ h
        obtain ⟨u, hload, hu, _⟩ := hok E ρ a w hP hR
        refine ⟨v :: l, u :: vs, hK, .cons (DRd.mono (fun b hb => ⟨hb.1, rfl⟩) hu) hl, ?_⟩
        rw [List.mapM_cons, Sem.run_bind, hload, Result.andThen_ok, Sem.run_bind, hrun]
        rfl
      · exact h.elim
    · exact h.elim

theorem results_run {P : Program} {w : World} {fn : Func} {tmps : Array Value} {vs : List Value} (hrun : (fn.results.toList.mapM (resF tmps)).run P w = .ok vs w) :
    (results fn tmps).run P w = .ok (if h : vs.toArray.size = 1 then vs.toArray[0] else .tuple vs.toArray) w := by
  have hrun' : (fn.results.mapM (resF tmps)).run P w = .ok vs.toArray w := by
    rw [Array.mapM_eq_mapM_toList, Sem.run_map]
    simp [hrun]
  have hres : (results fn tmps).run P w = ((fn.results.mapM (resF tmps)).run P w).andThen fun vs w => .ok (if h : vs.size = 1 then vs[0] else .tuple vs) w := by
    unfold results
    rw [Sem.run_bind]
    rfl
  rw [hres, hrun', Result.andThen_ok]

/-- A FUNCTION's CONTRACT BY ITS WALK. -/
theorem det_of_awp {P : Program} {TT : Tab} (hT : TabOk P TT) (hmix : P.follows .mixedOrders = true) {f : FuncId} {fn : Func} {c : Code} (hf : P.funcs[f]? = some fn) (hb : fn.body = some c) (hname : (fn.name == "runtime.NumGoroutine") = false)
    (cuts : List Nat) {args : List DV} (hlen : args.length ≤ fn.ntmps) {r : TV}
    (h : awp P TT fn.ntmps cuts c (fun e t m => match e with
      | .exit _ => False
      | .normal => resW TT t m fn.results.toList (finW r)
      | .ret => resW TT t m fn.results.toList (finW r)) (initT args) (fun _ => .none)) : Det P f args r := by
  refine ⟨⟨fn, hf, hname, by rw [hb]; rfl⟩, fun w S vs hS hvs => ?_⟩
  refine callsIn_wide.1 (callsIn_of_wp_marks (F := Fence.wide) (n := 0) hf hb trivial (wpIn_wide.2 ?_))
  let E : Env := ⟨P, fn.ntmps, w, S, hS, fun _ => False, fun _ h => h.elim, fun _ => .none, fun _ => none, fun _ _ => rfl, fun _ _ => rfl, fun _ _ => rfl, w.heap.size⟩
  have hvl := hvs.length
  have hR : Rel E (fun _ => none) (initT args) (fun _ => .none) { tmps := vs.toArray ++ Array.replicate (fn.ntmps - vs.toArray.size) Go.undef, defers := [] } w := by
    refine { below := Bx.refl _ _ _, defers := .nil, size := ?_, inj := fun _ _ _ _ _ l => l.elim, lo := fun _ _ _ l => l.elim, clean := ?_, cleanM := fun _ _ h => h.elim, mem := fun _ => trivial, slots := ?_, carry := fun _ h => absurd rfl h }
    · show (vs.toArray ++ Array.replicate (fn.ntmps - vs.toArray.size) Go.undef).size = fn.ntmps
      simp; omega
    · intro i o hr
      unfold initT at hr
      split at hr <;> exact hr.elim
    · intro i
      unfold initT
      split
      · rename_i v hv
        obtain ⟨x, hx, hxr⟩ := hvs.get i v hv
        have hlt := (List.getElem?_eq_some_iff.1 hx).1
        have e1 : (vs.toArray ++ Array.replicate (fn.ntmps - vs.toArray.size) Go.undef).getD i Go.undef = x := by
          rw [Array.getD_eq_getD_getElem?, Array.getElem?_append, if_pos (by simpa using hlt)]
          simp [hx]
        rw [e1]
        exact DRd.mono (fun b hb => ⟨⟨.inl hb, fun _ _ l => l.elim⟩, rfl⟩) hxr
      · rename_i hv
        have hge : args.length ≤ i := List.getElem?_eq_none_iff.1 hv
        show _ = Go.undef
        rw [Array.getD_eq_getD_getElem?, Array.getElem?_append, if_neg (by simp; omega)]
        by_cases hi : i - vs.toArray.size < fn.ntmps - vs.toArray.size
        · rw [Array.getElem?_eq_getElem (by simpa using hi)]; simp
        · rw [Array.getElem?_eq_none (by simpa using hi)]; rfl
  have hwp := awp_sound hT hmix c _ _ _ h E (fun _ => none) _ w ⟨rfl, Nat.le_refl _⟩ rfl hR
  refine wp_mono hwp ?_
  intro e a' w' hq
  have fin : ∀ ρ t m, resW TT t m fn.results.toList (finW r) → Rel E ρ t m a' w' → LeavesInM Fence.wide 0 P fn a'.tmps (fun e w' => ∃ v, e = .returned v ∧ Below w.heap.size w w' ∧ ROk (fun b => S b ∨ (w.heap.size ≤ b ∧ b < w'.heap.size)) w' v r) a'.defers .returning w' := by
    intro ρ t m hq hR0
    refine leaves_marks (Nat.le_refl _) _ a' w' rfl hR0 (fun w' hR' => ?_)
    clear hR0
    obtain ⟨l, vs', hK, hl, hrun⟩ := resW_ok hT hR' rfl fn.results.toList _ hq
    replace hl : DRdL (fun b => S b ∨ (w.heap.size ≤ b ∧ b < w'.heap.size)) w' vs' l := hl.mono (fun b hb => ⟨hb.imp id (fun h => h.resolve_left id), rfl⟩)
    have hll := hl.length
    have hfin : ∃ v', (results fn a'.tmps).run P w' = .ok v' w' ∧ ROk (fun b => S b ∨ (w.heap.size ≤ b ∧ b < w'.heap.size)) w' v' r := by
      rw [results_run hrun]
      match l, vs', hK, hl, hll with
      | [x], [v], hK, hl, _ =>
        cases hl with
        | cons h1 _ => exact ⟨v, by simp, (show Fin _ _ from hK).h _ _ _ h1⟩
      | [], [], hK, hl, _ => exact ⟨.tuple #[], by simp, (show Fin _ _ from hK).h _ _ _ ⟨[], rfl, hl⟩⟩
      | x :: y :: l, v :: v2 :: vs', hK, hl, _ =>
        exact ⟨.tuple (v :: v2 :: vs').toArray, by simp, (show Fin _ _ from hK).h _ _ _ ⟨_, rfl, hl⟩⟩
    obtain ⟨v', h1, h2⟩ := hfin
    exact ⟨v', h1, v', rfl, hR'.below.below (fun _ h => h), h2⟩
  cases e with
  | normal => obtain ⟨ρ, t, m, hq, hR'⟩ := hq; exact fin ρ t m hq hR'
  | ret => obtain ⟨ρ, t, m, hq, hR'⟩ := hq; exact fin ρ t m hq hR'
  | exit id => obtain ⟨ρ, t, m, hq, hR'⟩ := hq; exact hq.elim
  | goto l => exact hq.elim
  | panic ch => exact hq.elim
  | outgrown => exact hq.elim

/-! ### functions that turn what they are given -/
def resM (TT : Tab) (t : Nat → TV) (m : Id → Mem) : List ResultVar → (List TV → Prop) → Prop
  | [], K => K []
  | .tmp s :: r, K => resM TT t m r fun l => K (t s :: l)
  | .cell a ty :: r, K => match TT ty with
    | some T => loadW T m (t a) fun x _ _ => resM TT t m r fun l => K (x :: l)
    | none => False

theorem resM_ok {P : Program} {TT : Tab} (hT : TabOk P TT) {t : Nat → TV} {m : Id → Mem} {E : Env} {ρ : Id → Option (Nat × Nat)} {a : Act} {w : World} (hR : Rel E ρ t m a w) (hP : E.P = P) :
    ∀ (rs : List ResultVar) (K : List TV → Prop), resM TT t m rs K → ∃ l vs, K l ∧ TOkL E m ρ w vs l ∧ (rs.mapM (resF a.tmps)).run P w = .ok vs w
  | [], K, h => ⟨[], [], h, .nil, rfl⟩
  | .tmp s :: r, K, h => by
    simp only [resM] at h
    obtain ⟨l, vs, hK, hl, hrun⟩ := resM_ok hT hR hP r _ h
    refine ⟨_, a.tmps.getD s Go.undef :: vs, hK, .cons (hR.slots s) hl, ?_⟩
    simp only [List.mapM_cons, resF, Sem.run_bind, Sem.run_pure, Result.andThen_ok]
    rw [show (List.mapM (resF a.tmps) r).run P w = _ from hrun]
    rfl
  | .cell ad ty :: r, K, h => by
    simp only [resM] at h
    split at h
    · rename_i T hty
      obtain ⟨y, rd, h, hok⟩ := load_res (P := P) hT hty h
      obtain ⟨l, vs, hK, hl, hrun⟩ := resM_ok hT hR hP r _ h
      obtain ⟨u, hload, hu, _⟩ := hok E ρ a w hP hR
      refine ⟨_, u :: vs, hK, .cons hu hl, ?_⟩
      rw [List.mapM_cons, Sem.run_bind, hload, Result.andThen_ok, Sem.run_bind, hrun]
      rfl
    · exact h.elim

/-! the walk's end beside what the contract says: d is the object that the contract calls 3000 -/
def renE (d : Id) : Id → Id
  | .n k => bif Nat.beq k 3000 then d else .n k
  | .s k i => .s k i
inductive CREnd (d : Id) : CR → CR → Prop where
  | s {c c' : SV} (h : SLe c c') : CREnd d (.s c) (.s c')
  | ptr {o o' : Id} {p : Nat} (h : o = renE d o') : CREnd d (.ptr o p) (.ptr o' p)
inductive CREnds (d : Id) : List CR → List CR → Prop where
  | nil : CREnds d [] []
  | cons {c c' : CR} {l l' : List CR} (h : CREnd d c c') (r : CREnds d l l') : CREnds d (c :: l) (c' :: l')
inductive CVEnd (m m2 : Id → Mem) (d : Id) : CV → CV → Prop where
  | s {c c' : SV} (h : SLe c c') : CVEnd m m2 d (.s c) (.s c')
  | ptr {o o' : Id} {p : Nat} (h : o = renE d o') : CVEnd m m2 d (.ptr o p) (.ptr o' p)
  | hdl {o o' : Id} {g g' : Nat} (h : o = renE d o') (hg : g = (m o).gen) (hg' : g' = (m2 o').gen) : CVEnd m m2 d (.hdl o g) (.hdl o' g')
  | clo {f : FuncId} {c c' : List CR} (h : CREnds d c c') : CVEnd m m2 d (.clo f c) (.clo f c')
inductive CVEnds (m m2 : Id → Mem) (d : Id) : List CV → List CV → Prop where
  | nil : CVEnds m m2 d [] []
  | cons {c c' : CV} {l l' : List CV} (h : CVEnd m m2 d c c') (r : CVEnds m m2 d l l') : CVEnds m m2 d (c :: l) (c' :: l')
inductive MEnd (m m2 : Id → Mem) (d : Id) : Mem → Mem → Prop where
  | dead (x : Mem) : MEnd m m2 d x .dead
  | ro {l l' : List SV} (h : LLe l l') : MEnd m m2 d (.ro l) (.ro l')
  | box {l l' : List SV} (h : LLe l l') : MEnd m m2 d (.box l) (.box l')
  | boxObj {l : List SV} {l' : List CV} (h : CVEnds m m2 d (l.map .s) l') : MEnd m m2 d (.box l) (.obj l')
  | obj {l l' : List CV} (h : CVEnds m m2 d l l') : MEnd m m2 d (.obj l) (.obj l')
  | bld {g g' n k : Nat} {e : TypeId} {get get' : Nat → Nat → SV} (hg : g' = 1 → g = 1) (h : ∀ i, i < n → ∀ j, j < k → SLe (get i j) (get' i j)) : MEnd m m2 d (.bld g n k e get) (.bld g' n k e get')
  | bldc {g g' n k : Nat} {e : TypeId} {get get' : Nat → Nat → CV} (hg : g' = 1 → g = 1) (h : ∀ i, i < n → ∀ j, j < k → CVEnd m m2 d (get i j) (get' i j)) : MEnd m m2 d (.bldc g n k e get) (.bldc g' n k e get')
inductive MEnds (m m2 : Id → Mem) (d : Id) : Nat → List Mem → Prop where
  | nil (k : Nat) : MEnds m m2 d k []
  | cons {k : Nat} {x : Mem} {l : List Mem} (h : MEnd m m2 d (m (.n k)) x) (t : MEnds m m2 d (k + 1) l) : MEnds m m2 d k (x :: l)
inductive TEnd (m m2 : Id → Mem) (d : Id) : TV → TV → Prop where
  | d {v v' : DV} (h : DLe v v') : TEnd m m2 d (.d v) (.d v')
  | ptr {o o' : Id} {p : Nat} (h : o = renE d o') : TEnd m m2 d (.ptr o p) (.ptr o' p)
  | hdl {o o' : Id} {g g' : Nat} (h : o = renE d o') (hg : g = (m o).gen) (hg' : g' = (m2 o').gen) : TEnd m m2 d (.hdl o g) (.hdl o' g')
  | clo {f : FuncId} {c c' : List CR} (h : CREnds d c c') : TEnd m m2 d (.clo f c) (.clo f c')
inductive DsEnd : List TV → List DV → Prop where
  | nil : DsEnd [] []
  | cons {v v' : DV} {l : List TV} {l' : List DV} (h : DLe v v') (r : DsEnd l l') : DsEnd (.d v :: l) (v' :: l')
inductive RsEnd (m m2 : Id → Mem) (d : Id) : List TV → TV → Prop where
  | one {x r : TV} (h : TEnd m m2 d x r) : RsEnd m m2 d [x] r
  | none : RsEnd m m2 d [] (.tup [])
  | two {x y : TV} {l : List TV} {v v' : DV} {l' : List DV} (h : DsEnd (x :: y :: l) (v :: v' :: l')) : RsEnd m m2 d (x :: y :: l) (.tup (v :: v' :: l'))
structure EndM (m : Id → Mem) (ms' : List Mem) (r : TV) (fr : Mem) (l : List TV) : Prop where
  h : ∃ d, RsEnd m (memR ms' fr) d l r ∧ MEnds m (memR ms' fr) d 2000 ms' ∧ (fr = .none ∨ (MEnd m (memR ms' fr) d (m d) fr ∧ Nat.blt d.key 2000 = true))

/-- What a contract must hold of itself. -/
structure SigM (args : List TV) (ms : List Mem) (r : TV) (ms' : List Mem) (fr : Mem) : Prop where
  few : Nat.ble ms.length 1000 = true
  kin : kinB ms ms' = true
  cur : r.cur (memR ms' fr)
  curM : ∀ o, (memR ms' fr o).cur (memR ms' fr)
  closed : ∀ o o', (memL 2000 ms o).refs o' → memL 2000 ms o' ≠ .none
  closedA : ∀ x ∈ args, ∀ o', x.refs o' → memL 2000 ms o' ≠ .none
  clean : ∀ o, r.refs o → memR ms' fr o ≠ .none
  closed2 : ∀ o o', (memR ms' fr o).refs o' → memR ms' fr o' ≠ .none

def initM (args : List TV) : Nat → TV := fun i => match args[i]? with
  | some v => v
  | none => .undef

theorem TOkL.length {E : Env} {m : Id → Mem} {ρ : Id → Option (Nat × Nat)} {w : World} {xs : List Value} {ts : List TV} (h : TOkL E m ρ w xs ts) : xs.length = ts.length := by
  induction h with
  | nil => rfl
  | cons _ _ ih => simp [ih]
theorem TOkL.get {E : Env} {m : Id → Mem} {ρ : Id → Option (Nat × Nat)} {w : World} {xs : List Value} {ts : List TV} (h : TOkL E m ρ w xs ts) : ∀ (j : Nat) (c : TV), ts[j]? = some c → ∃ x, xs[j]? = some x ∧ TOk E m ρ w x c := by
  induction h with
  | nil => intro j c h; simp at h
  | @cons x c xs cs h1 _ ih =>
    intro j c' h
    cases j with
    | zero => simp at h; subst h; exact ⟨x, by simp, h1⟩
    | succ j => simpa using ih j c' (by simpa using h)
theorem MEnds.at {m m2 : Id → Mem} {d : Id} {k : Nat} {l : List Mem} (h : MEnds m m2 d k l) : ∀ (j : Nat) (x : Mem), l[j]? = some x → MEnd m m2 d (m (.n (k + j))) x := by
  induction h with
  | nil k => intro j x h; simp at h
  | @cons k x l a _ ih =>
    intro j y h
    cases j with
    | zero => simp at h; subst h; exact a
    | succ j => have := ih j y (by simpa using h); rwa [show k + 1 + j = k + (j + 1) by omega] at this
theorem CREnds.rd {S S' : Nat → Prop} {m m2 : Id → Mem} {ρ ρ3 : Id → Option (Nat × Nat)} {w : World} {d : Id} (hL : ∀ b, S b → S' b) : ∀ {cs cs' : List CR} (_ : CREnds d cs cs') {xs : List Value} (_ : CRL S m ρ w xs cs),
    (∀ o p x, (∃ c ∈ cs', c.refs o) → PtrOk m ρ x (renE d o) p → PtrOk m2 ρ3 x o p) → CRL S' m2 ρ3 w xs cs' := by
  intro cs cs' hf
  induction hf with
  | nil => intro xs h _; cases h; exact .nil
  | @cons c c' l l' h _ ih =>
    intro xs hx hp
    cases hx with
    | cons a b =>
      refine .cons ?_ (ih b (fun o p x ⟨c', hc, hr⟩ => hp o p x ⟨c', by simp [hc], hr⟩))
      cases h with
      | s h => exact h _ _ _ (Rd.mono (fun b hb => ⟨hL b hb, rfl⟩) a)
      | @ptr o o' p h => subst h; exact hp o' p _ ⟨.ptr o' p, by simp, rfl⟩ a
theorem CVEnd.rd {S S' : Nat → Prop} {m m2 : Id → Mem} {ρ ρ3 : Id → Option (Nat × Nat)} {w : World} {d : Id} (hL : ∀ b, S b → S' b) {c c' : CV} (hf : CVEnd m m2 d c c') {x : Value} (h : CVk S m ρ w x c)
    (hp : ∀ o p x, c'.refs o → PtrOk m ρ x (renE d o) p → PtrOk m2 ρ3 x o p) (hh : ∀ o x, c'.refs o → HdlOk m ρ x (renE d o) (m (renE d o)).gen → HdlOk m2 ρ3 x o (m2 o).gen) : CVk S' m2 ρ3 w x c' := by
  cases hf with
  | s hs => exact hs _ _ _ (Rd.mono (fun b hb => ⟨hL b hb, rfl⟩) h)
  | @ptr o o' p he => subst he; exact hp o' p _ rfl h
  | @hdl o o' g g' he hg hg' => subst he hg hg'; exact hh o' _ rfl h
  | @clo f c c' hc => obtain ⟨us, e1, r1⟩ := h; exact ⟨us, e1, CREnds.rd hL hc r1 hp⟩
theorem CVEnds.rd {S S' : Nat → Prop} {m m2 : Id → Mem} {ρ ρ3 : Id → Option (Nat × Nat)} {w : World} {d : Id} (hL : ∀ b, S b → S' b) : ∀ {cs cs' : List CV} (_ : CVEnds m m2 d cs cs') {xs : List Value} (_ : CVL S m ρ w xs cs),
    (∀ o p x, (∃ c ∈ cs', c.refs o) → PtrOk m ρ x (renE d o) p → PtrOk m2 ρ3 x o p) → (∀ o x, (∃ c ∈ cs', c.refs o) → HdlOk m ρ x (renE d o) (m (renE d o)).gen → HdlOk m2 ρ3 x o (m2 o).gen) → CVL S' m2 ρ3 w xs cs' := by
  intro cs cs' hf
  induction hf with
  | nil => intro xs h _ _; cases h; exact .nil
  | @cons c c' l l' h _ ih =>
    intro xs hx hp hh
    cases hx with
    | cons a b =>
      exact .cons (CVEnd.rd hL h a (fun o p x hr => hp o p x ⟨c', by simp, hr⟩) (fun o x hr => hh o x ⟨c', by simp, hr⟩))
        (ih b (fun o p x ⟨c', hc, hr⟩ => hp o p x ⟨c', by simp [hc], hr⟩) (fun o x ⟨c', hc, hr⟩ => hh o x ⟨c', by simp [hc], hr⟩))
theorem DsEnd.rd {E : Env} {m : Id → Mem} {ρ : Id → Option (Nat × Nat)} {w : World} {l : List TV} {l' : List DV} (h : DsEnd l l') : ∀ {vs : List Value}, TOkL E m ρ w vs l → DRdL (L E m ρ w) w vs l' := by
  induction h with
  | nil => intro vs hv; cases hv; exact .nil
  | cons a _ ih => intro vs hv; cases hv with | cons b c => exact .cons (a _ _ _ b) (ih c)
theorem MEnd.live {m m2 : Id → Mem} {d : Id} {x y : Mem} (h : MEnd m m2 d x y) : y.live → x.live := by cases h <;> first | exact id | exact fun h => h.elim
theorem MEnd.ne {m m2 : Id → Mem} {d : Id} {x y : Mem} (h : MEnd m m2 d x y) : y ≠ .none := by cases h <;> simp
theorem MEnd.shape {m m2 : Id → Mem} {d : Id} {x y : Mem} (h : MEnd m m2 d x y) : y = .dead ∨ (x.boxy = true ∧ y.boxy = true) ∨ ∃ g g' n k, x.bldy = some (g, n, k) ∧ y.bldy = some (g', n, k) ∧ (g' = 1 → g = 1) := by
  cases h with
  | dead x => exact .inl rfl
  | bld hg _ => exact .inr (.inr ⟨_, _, _, _, rfl, rfl, hg⟩)
  | bldc hg _ => exact .inr (.inr ⟨_, _, _, _, rfl, rfl, hg⟩)
  | _ => exact .inr (.inl ⟨rfl, rfl⟩)

section
open Classical
/-- The contract's objects as they lie at the end. -/
noncomputable def rho3 (ρ : Id → Option (Nat × Nat)) (m2 : Id → Mem) (d : Id) (o : Id) : Option (Nat × Nat) := if m2 o = .none then none else ρ (renE d o)
theorem rho3_at {ρ : Id → Option (Nat × Nat)} {m2 : Id → Mem} {d : Id} {o : Id} (h : m2 o ≠ .none) : rho3 ρ m2 d o = ρ (renE d o) := if_neg h
theorem rho3_out {ρ : Id → Option (Nat × Nat)} {m2 : Id → Mem} {d : Id} {o : Id} (h : m2 o = .none) : rho3 ρ m2 d o = none := if_pos h
end

set_option maxHeartbeats 1000000 in
/-- What the walk has come to, by the contract's names. -/
theorem own_end {E : Env} {ρ : Id → Option (Nat × Nat)} {m : Id → Mem} {w : World} (hO : Own E ρ m w) {args : List TV} {ms : List Mem} {r : TV} {ms' : List Mem} {fr : Mem} (hs : SigM args ms r ms' fr) (hm0 : E.m0 = memL 2000 ms) {l : List TV} (he : EndM m ms' r fr l) :
    ∃ ρ3, Own E ρ3 (memR ms' fr) w ∧ ∀ vs, TOkL E m ρ w vs l → TOk E (memR ms' fr) ρ3 w (if h : vs.toArray.size = 1 then vs.toArray[0] else .tuple vs.toArray) r := by
  obtain ⟨d, hres, hmems, hfr⟩ := he.h
  obtain ⟨hlen', hkin⟩ := kinB_at _ _ hs.kin
  have hfew := Nat.le_of_ble_eq_true hs.few
  generalize hm2 : memR ms' fr = m2 at *
  have hcurM : ∀ o, (m2 o).cur m2 := by have := hs.curM; rwa [hm2] at this
  have hclo2 : ∀ o o', (m2 o).refs o' → m2 o' ≠ .none := by have := hs.closed2; rwa [hm2] at this
  have hend : ∀ o', m2 o' ≠ .none → MEnd m m2 d (m (renE d o')) (m2 o') ∧ ((o' = .n 3000 ∧ d.key < 2000) ∨ ∃ j, o' = .n (2000 + j) ∧ j < 1000 ∧ j < ms'.length ∧ renE d o' = o') := by
    intro o' hn
    have hn' := hn
    rw [← hm2] at hn'
    rcases memR_inv hn' with ⟨rfl, hn'⟩ | ⟨j, y, h1, rfl⟩
    · have h2 := hfr.resolve_left hn'
      have e : m2 (.n 3000) = fr := by rw [← hm2, memR_fr]
      exact ⟨by rw [e]; exact h2.1, .inl ⟨rfl, lt_of_blt h2.2⟩⟩
    · have hj := (List.getElem?_eq_some_iff.1 h1).1
      have hren : renE d (.n (2000 + j)) = .n (2000 + j) := by
        simp only [renE, beq_f (show 2000 + j ≠ 3000 by omega), cond_false]
      have e : m2 (.n (2000 + j)) = y := by rw [← hm2, memR_at (by omega) h1]
      exact ⟨by rw [hren, e]; exact hmems.at j y h1, .inr ⟨j, rfl, by omega, hj, hren⟩⟩
  have hinj : ∀ o1 o2, m2 o1 ≠ .none → m2 o2 ≠ .none → renE d o1 = renE d o2 → o1 = o2 := by
    intro o1 o2 h1 h2 e
    rcases (hend o1 h1).2 with ⟨rfl, k1⟩ | ⟨j1, rfl, q1, _, r1⟩ <;> rcases (hend o2 h2).2 with ⟨rfl, k2⟩ | ⟨j2, rfl, q2, _, r2⟩
    · rfl
    · rw [r2] at e
      have : d = .n (2000 + j2) := e
      rw [this] at k1
      simp only [Id.key] at k1
      omega
    · rw [r1] at e
      have : .n (2000 + j1) = d := e
      rw [← this] at k2
      simp only [Id.key] at k2
      omega
    · rw [r1, r2] at e; exact e
  let ρ3 := rho3 ρ m2 d
  have hlv : ∀ o', (m2 o').live → m2 o' ≠ .none := fun o' l e => by rw [e] at l; exact l
  have hlive : ∀ o' b c, (m2 o').live → ρ3 o' = some (b, c) → (m (renE d o')).live ∧ ρ (renE d o') = some (b, c) := fun o' b c l hr =>
    ⟨(hend o' (hlv o' l)).1.live l, by have := hr; rwa [show ρ3 o' = _ from rho3_at (hlv o' l)] at this⟩
  have hL : ∀ b, L E m ρ w b → L E m2 ρ3 w b := fun b hb => ⟨hb.1, fun o' c l hr => by
    obtain ⟨h1, h2⟩ := hlive o' b c l hr
    exact hb.2 _ c h1 h2⟩
  have hptr : ∀ o' p x, m2 o' ≠ .none → PtrOk m ρ x (renE d o') p → PtrOk m2 ρ3 x o' p := by
    intro o' p x hn hp
    rcases (hend o' hn).1.shape with h | ⟨h1, h2⟩ | ⟨g, g', n, k, h1, _, _⟩
    · simp only [PtrOk, h]; exact hp.oneCell
    · rw [ptrOk_boxy h2]
      have := (ptrOk_boxy h1).1 hp
      rwa [← rho3_at (ρ := ρ) hn] at this
    · exact absurd hp (ptrOk_bldy h1)
  have hhdl : ∀ o' x g, m2 o' ≠ .none → g = (m (renE d o')).gen → HdlOk m ρ x (renE d o') g → HdlOk m2 ρ3 x o' (m2 o').gen := by
    intro o' x g hn hg hp
    rcases (hend o' hn).1.shape with h | ⟨h1, h2⟩ | ⟨g0, g', n, k, h1, h2, _⟩
    · simp only [HdlOk, h]; exact ⟨hp.1, trivial⟩
    · rw [hdlOk_boxy h2]; exact hp.1
    · rw [gen_bldy h1] at hg
      subst hg
      rw [hdlOk_bldy h2, gen_bldy h2]
      obtain ⟨a1, _, a3⟩ := (hdlOk_bldy h1).1 hp
      refine ⟨a1, Nat.le_refl _, fun _ => ?_⟩
      have := a3 rfl
      simp only [HdlAt] at this ⊢
      rw [show ρ3 o' = _ from rho3_at hn]
      exact this
  refine ⟨ρ3, { below := hO.below, inj := ?_, lo := ?_, cleanM := hclo2, mem := ?_, carry := ?_ }, ?_⟩
  · intro o1 o2 b c c' l1 l2 r1 r2
    obtain ⟨a1, a2⟩ := hlive o1 b c l1 r1
    obtain ⟨b1, b2⟩ := hlive o2 b c' l2 r2
    exact hinj o1 o2 (hlv o1 l1) (hlv o2 l2) (hO.inj _ _ b c c' a1 b1 a2 b2)
  · intro o' b c l hr
    obtain ⟨a1, a2⟩ := hlive o' b c l hr
    exact hO.lo _ b c a1 a2
  · intro o'
    by_cases hn : m2 o' = .none
    · rw [hn]; trivial
    have hmem := hO.mem (renE d o')
    have hE := (hend o' hn).1
    have hcl : ∀ o'', (m2 o').refs o'' → m2 o'' ≠ .none := hclo2 o'
    have hρ : ρ3 o' = ρ (renE d o') := rho3_at hn
    have h0 := hn
    revert hmem hE hcl h0
    generalize m2 o' = y
    generalize m (renE d o') = x
    intro hmem hE hcl _
    have hp2 : ∀ o'' p x, y.refs o'' → PtrOk m ρ x (renE d o'') p → PtrOk m2 ρ3 x o'' p := fun o'' p x hr => hptr o'' p x (hcl o'' hr)
    have hh2 : ∀ o'' x, y.refs o'' → HdlOk m ρ x (renE d o'') (m (renE d o'')).gen → HdlOk m2 ρ3 x o'' (m2 o'').gen := fun o'' x hr => hhdl o'' x _ (hcl o'' hr) rfl
    cases hE with
    | dead => trivial
    | ro hl =>
      obtain ⟨b, c, us, e, h1, h0, h2, h3⟩ := hmem
      exact ⟨b, c, us, e, by rw [hρ, h1], hL b h0, h2, hl.rdL (h3.mono (fun b hb => ⟨hL b hb, rfl⟩))⟩
    | box hl =>
      obtain ⟨b, c, us, e, h1, h2, h3⟩ := hmem
      exact ⟨b, c, us, e, by rw [hρ, h1], h2, hl.rdL (h3.mono (fun b hb => ⟨hL b hb, rfl⟩))⟩
    | @boxObj l l' hl =>
      obtain ⟨b, c, us, e, h1, h2, h3⟩ := hmem
      exact ⟨b, c, us, e, by rw [hρ, h1], h2, CVEnds.rd (S := L E m ρ w) (m := m) (ρ := ρ) hL hl (CVL.ofRd h3) (fun o'' p x hr => hp2 o'' p x hr) (fun o'' x hr => hh2 o'' x hr)⟩
    | @obj l l' hl =>
      obtain ⟨b, c, us, e, h1, h2, h3⟩ := hmem
      exact ⟨b, c, us, e, by rw [hρ, h1], h2, CVEnds.rd hL hl h3 (fun o'' p x hr => hp2 o'' p x hr) (fun o'' x hr => hh2 o'' x hr)⟩
    | @bld g g' n k e get get' hg hl =>
      rcases hmem with ⟨h1, h2⟩ | ⟨b, cap, arr, h1, h2, h3, h4, h5, h7⟩
      · exact .inl ⟨by rw [hρ, h1], h2⟩
      · refine .inr ⟨b, cap, arr, by rw [hρ, h1], h2, h3, h4, h5, fun i hi q hq => ?_⟩
        obtain ⟨x, hx, hr⟩ := h7 i hi q hq
        exact ⟨x, hx, hl i hi q hq _ _ _ (hr.mono (fun b hb => ⟨hL b hb, rfl⟩))⟩
    | @bldc g g' n k e get get' hg hl =>
      rcases hmem with ⟨h1, h2⟩ | ⟨b, cap, arr, h1, h2, h3, h4, h5, h7⟩
      · exact .inl ⟨by rw [hρ, h1], h2⟩
      · refine .inr ⟨b, cap, arr, by rw [hρ, h1], h2, h3, h4, h5, fun i hi q hq => ?_⟩
        obtain ⟨x, hx, hr⟩ := h7 i hi q hq
        exact ⟨x, hx, CVEnd.rd hL (hl i hi q hq) hr (fun o'' p x hr => hp2 o'' p x ⟨i, q, hi, hq, hr⟩) (fun o'' x hr => hh2 o'' x ⟨i, q, hi, hq, hr⟩)⟩
  · intro o hn
    have hcar := hO.carry o hn
    rw [hm0] at hn
    obtain ⟨j, x, i1, rfl⟩ := memL_inv ms 2000 o hn
    have hj := (List.getElem?_eq_some_iff.1 i1).1
    have hjy : ms'[j]? = some (ms'[j]'(by omega)) := List.getElem?_eq_getElem (by omega)
    have hyn : m2 (.n (2000 + j)) ≠ .none := by
      rw [← hm2, memR_at (by omega) hjy]
      exact (hmems.at j _ hjy).ne
    obtain ⟨hE, h2⟩ := hend _ hyn
    have hren : renE d (.n (2000 + j)) = .n (2000 + j) := by
      simp only [renE, beq_f (show 2000 + j ≠ 3000 by omega), cond_false]
    rw [hren] at hE
    refine ⟨fun x p hp => hptr _ p x hyn (by rw [hren]; exact hcar.ptr x p hp), fun x hg hp => ?_⟩
    rcases hE.shape with h | ⟨_, h2⟩ | ⟨g0, g', n, k, h1, h2, h3⟩
    · rw [h] at hg; simp [Mem.gen] at hg
    · rw [gen_boxy h2] at hg; omega
    · have hg' := hg
      rw [gen_bldy h2] at hg'
      have h4 := hcar.hdl x (by rw [gen_bldy h1]; exact h3 hg') hp
      have := hhdl (.n (2000 + j)) x 1 hyn (by rw [hren, gen_bldy h1]; exact (h3 hg').symm) (by rw [hren]; exact h4)
      rwa [hg] at this
  · intro vs hv
    have hclean : ∀ o, r.refs o → m2 o ≠ .none := by have := hs.clean; rwa [hm2] at this
    cases hres with
    | none => cases hv; exact ⟨[], rfl, .nil⟩
    | two hd =>
      have hl := hd.rd hv
      cases hv with
      | cons a b => cases b with
        | cons c e => exact ⟨_, by simp, hl.mono (fun b hb => ⟨hL b hb, rfl⟩)⟩
    | one ht =>
      cases hv with
      | @cons v _ _ _ a b =>
        cases b
        show TOk E m2 ρ3 w v r
        cases ht with
        | d h => exact h _ _ _ (DRd.mono (fun b hb => ⟨hL b hb, rfl⟩) a)
        | @ptr o o' p h => subst h; exact hptr o' p v (hclean o' rfl) a
        | @hdl o o' g g' h hg hg' => subst h hg'; exact hhdl o' v g (hclean o' rfl) hg a
        | @clo f c c' h => obtain ⟨us, e1, r1⟩ := a; exact ⟨us, e1, CREnds.rd hL h r1 (fun o' p x hr => hptr o' p x (hclean o' hr))⟩

/-- A FUNCTION's MEMORY CONTRACT BY ITS WALK. -/
theorem detM_of_awp {P : Program} {TT : Tab} (hT : TabOk P TT) (hmix : P.follows .mixedOrders = true) {f : FuncId} {fn : Func} {c : Code} (hf : P.funcs[f]? = some fn) (hb : fn.body = some c) (hname : (fn.name == "runtime.NumGoroutine") = false)
    (cuts : List Nat) {args : List TV} (hlen : args.length ≤ fn.ntmps) (hN : fn.ntmps < 2000) {ms : List Mem} {r : TV} {ms' : List Mem} {fr : Mem} (hs : SigM args ms r ms' fr)
    (h : awp P TT fn.ntmps cuts c (fun e t m => match e with
      | .exit _ => False
      | .normal => resM TT t m fn.results.toList (EndM m ms' r fr)
      | .ret => resM TT t m fn.results.toList (EndM m ms' r fr)) (initM args) (memL 2000 ms)) : DetM P f args ms r ms' fr := by
  refine ⟨⟨fn, hf, hname, by rw [hb]; rfl⟩, hs.kin, hs.cur, hs.curM, hs.closed, hs.closedA, hs.clean, fun E0 vs hP hm0 hO hvs => ?_⟩
  refine callsIn_wide.1 (callsIn_of_wp_marks (F := Fence.wide) (n := 0) hf hb trivial (wpIn_wide.2 ?_))
  let E : Env := { E0 with N := fn.ntmps, B := E0.w0.heap.size, hm0 := fun k hk => by rw [hm0]; exact memL_out _ _ _ (.inl (by omega)) }
  have hO' : Own E E.ρ0 E.m0 E.w0 := { below := hO.below, inj := hO.inj, lo := hO.lo, cleanM := hO.cleanM, mem := hO.mem, carry := hO.carry }
  have hvl := hvs.length
  have hR : Rel E E.ρ0 (initM args) E.m0 { tmps := vs.toArray ++ Array.replicate (fn.ntmps - vs.toArray.size) Go.undef, defers := [] } E.w0 := by
    refine { hO' with defers := .nil, size := ?_, clean := ?_, slots := ?_ }
    · show (vs.toArray ++ Array.replicate (fn.ntmps - vs.toArray.size) Go.undef).size = fn.ntmps
      simp; omega
    · intro i o hr
      unfold initM at hr
      split at hr
      · rename_i v hv
        rw [show E.m0 = _ from hm0]
        exact hs.closedA v (List.mem_of_getElem? hv) o hr
      · exact hr.elim
    · intro i
      unfold initM
      split
      · rename_i v hv
        obtain ⟨x, hx, hxr⟩ := hvs.get i v hv
        have hlt := (List.getElem?_eq_some_iff.1 hx).1
        have e1 : (vs.toArray ++ Array.replicate (fn.ntmps - vs.toArray.size) Go.undef).getD i Go.undef = x := by
          rw [Array.getD_eq_getD_getElem?, Array.getElem?_append, if_pos (by simpa using hlt)]
          simp [hx]
        rw [e1]
        cases v <;> exact hxr
      · rename_i hv
        have hge : args.length ≤ i := List.getElem?_eq_none_iff.1 hv
        show _ = Go.undef
        rw [Array.getD_eq_getD_getElem?, Array.getElem?_append, if_neg (by simp; omega)]
        by_cases hi : i - vs.toArray.size < fn.ntmps - vs.toArray.size
        · rw [Array.getElem?_eq_getElem (by simpa using hi)]; simp
        · rw [Array.getElem?_eq_none (by simpa using hi)]; rfl
  have hwp := awp_sound hT hmix c _ _ _ h E E.ρ0 _ E.w0 ⟨hP, Nat.le_refl _⟩ rfl (by rw [← hm0]; exact hR)
  rw [← hP] at hwp ⊢
  refine wp_mono hwp ?_
  intro e a' w' hq
  have fin : ∀ ρ t m, resM TT t m fn.results.toList (EndM m ms' r fr) → Rel E ρ t m a' w' → LeavesInM Fence.wide 0 E0.P fn a'.tmps (fun e w' => ∃ v ρ', e = .returned v ∧ Own E0 ρ' (memR ms' fr) w' ∧ TOk E0 (memR ms' fr) ρ' w' v r) a'.defers .returning w' := by
    intro ρ t m hq hR0
    refine leaves_marks (Nat.le_refl _) _ a' w' rfl hR0 (fun w' hR' => ?_)
    clear hR0
    obtain ⟨l, vs', hK, hl, hrun⟩ := resM_ok hT hR' hP fn.results.toList _ hq
    obtain ⟨ρ3, hO3, hres⟩ := own_end hR'.toOwn hs hm0 hK
    refine ⟨_, by rw [hP]; exact results_run hrun, _, ρ3, rfl, { below := hO3.below, inj := hO3.inj, lo := hO3.lo, cleanM := hO3.cleanM, mem := hO3.mem, carry := hO3.carry }, ?_⟩
    have := hres vs' hl
    cases r <;> exact this
  cases e with
  | normal => obtain ⟨ρ, t, m, hq, hR'⟩ := hq; exact fin ρ t m hq hR'
  | ret => obtain ⟨ρ, t, m, hq, hR'⟩ := hq; exact fin ρ t m hq hR'
  | exit id => obtain ⟨ρ, t, m, hq, hR'⟩ := hq; exact hq.elim
  | goto l => exact hq.elim
  | panic ch => exact hq.elim
  | outgrown => exact hq.elim
end Go.Vm
