/-
  An abstract walk over Go's code: branches, loops, whole functions: the contract of a function by its walk.
-/
import Derived.Test.YtbhjhbmdgdnbeaaVmK
namespace Go.Vm
open Go Go.RowKit

inductive Ex where
  | normal
  | exit (id : Nat)
  | ret

abbrev Post := Ex → (Nat → TV) → (Nat → Mem) → Prop

/-- The state may be read as another one that says less. -/
def Wk (t : Nat → TV) (m : Nat → Mem) (t' : Nat → TV) (m' : Nat → Mem) : Prop :=
  ∀ (E : Env) (ρ : Nat → Option (Nat × Nat)) (a : Act) (w : World), Rel E ρ t m a w → ∃ ρ', Rel E ρ' t' m' a w
def Adj (t : Nat → TV) (m : Nat → Mem) (J : (Nat → TV) → (Nat → Mem) → Prop) : Prop := ∃ t' m', Wk t m t' m' ∧ J t' m'

structure Cut (t : Nat → TV) (m : Nat → Mem) (J : (Nat → TV) → (Nat → Mem) → Prop) : Prop where
  h : Adj t m J

structure Loop (body : Post → (Nat → TV) → (Nat → Mem) → Prop) (Q : Post) (t : Nat → TV) (m : Nat → Mem) : Prop where
  h : ∃ (α : Type) (I J : α → (Nat → TV) → (Nat → Mem) → Prop) (μ : α → Nat), Adj t m (fun t m => ∃ x, I x t m) ∧
    (∀ x t m, J x t m → Adj t m fun t m => ∃ y, I y t m ∧ μ y < μ x) ∧
    ∀ x t' m', I x t' m' → body (fun e t'' m'' => match e with
      | .normal => J x t'' m''
      | e => Q e t'' m'') t' m'

def headId : Code → Nat
  | .region id _ _ => id + 1
  | .seq a _ => headId a
  | .block _ c => headId c
  | .loop c => headId c
  | _ => 0

def seqQ (cuts : List Nat) (b : Code) (ihb : Post → (Nat → TV) → (Nat → Mem) → Prop) (Q : Post) : Post := fun e t' m' => match e with
  | .normal => bif cuts.any (Nat.beq (headId b)) then Cut t' m' (fun t' m' => ihb Q t' m') else ihb Q t' m'
  | .exit i => Q (.exit i) t' m'
  | .ret => Q .ret t' m'
def blockQ (id : Nat) (Q : Post) : Post := fun e t' m' => match e with
  | .normal => Q .normal t' m'
  | .exit i => bif Nat.beq i id then Q .normal t' m' else Q (.exit i) t' m'
  | .ret => Q .ret t' m'
def condW (t : Nat → TV) (c : Operand) (K : Bool → Prop) : Prop := match opd t c with
  | .d (.one (.v (.bool b))) => Split b K
  | _ => False

/-- A function's walk, by the code's own recursor. -/
def awp (P : Program) (TT : Tab) (N : Nat) (cuts : List Nat) (c : Code) : Post → (Nat → TV) → (Nat → Mem) → Prop :=
  Code.rec (motive := fun _ => Post → (Nat → TV) → (Nat → Mem) → Prop)
    (fun Q t m => Q .normal t m)
    (fun _ ops draw Q t m => regW P TT N ops draw ops.toList t m [] fun t' m' tr => bif draw then Need (chk ops.toList tr.reverse = true) (Q .normal t' m') else Q .normal t' m')
    (fun _ b iha ihb Q t m => iha (seqQ cuts b ihb Q) t m)
    (fun c _ _ ihx ihy Q t m => condW t c fun b => bif b then ihx Q t m else ihy Q t m)
    (fun id _ ih Q t m => ih (blockQ id Q) t m)
    (fun _ ih Q t m => Loop ih Q t m)
    (fun _ _ _ _ _ _ _ _ _ => False)
    (fun id Q t m => Q (.exit id) t m)
    (fun _ _ _ _ _ => False)
    (fun _ _ _ _ => False)
    (fun _ _ _ _ => False)
    (fun Q t m => Q .ret t m)
    (fun _ _ _ _ => False) c

/-- What the machine comes to. -/
def PostM (E : Env) (Q : Post) : Exit → Act → World → Prop
  | .normal, a, w => ∃ ρ t m, Q .normal t m ∧ Rel E ρ t m a w
  | .exit id, a, w => ∃ ρ t m, Q (.exit id) t m ∧ Rel E ρ t m a w
  | .ret, a, w => ∃ ρ t m, Q .ret t m ∧ Rel E ρ t m a w
  | _, _, _ => False

theorem least (p : Nat → Prop) (h : ∃ n, p n) : ∃ n, p n ∧ ∀ k, p k → n ≤ k := by
  obtain ⟨n, hn⟩ := h
  induction n using Nat.strongRecOn with
  | _ n ih =>
    by_cases hk : ∃ k, k < n ∧ p k
    · obtain ⟨k, h1, h2⟩ := hk
      exact ih k h1 h2
    · exact ⟨n, hn, fun k hp => Nat.le_of_not_lt fun hl => hk ⟨k, hl, hp⟩⟩

noncomputable def leastOf (p : Nat → Prop) : Nat := Classical.epsilon fun n => p n ∧ ∀ k, p k → n ≤ k
theorem leastOf_spec {p : Nat → Prop} (h : ∃ n, p n) : p (leastOf p) ∧ ∀ k, p k → leastOf p ≤ k := Classical.epsilon_spec (least p h)

theorem awp_sound {P : Program} {TT : Tab} (hT : TabOk P TT) (hmix : P.follows .mixedOrders = true) {N : Nat} {cuts : List Nat} : ∀ (c : Code) (Q : Post) (t : Nat → TV) (m : Nat → Mem), awp P TT N cuts c Q t m →
    ∀ (E : Env) (ρ : Nat → Option (Nat × Nat)) (a : Act) (w : World), E.P = P → E.N = N → Rel E ρ t m a w → c.wp P (PostM E Q) a w := by
  intro c
  induction c with
  | skip => intro Q t m h E ρ a w _ _ hR; exact wp_skip ⟨ρ, t, m, h, hR⟩
  | region id ops draw =>
    intro Q t m h E ρ a w hP hN hR
    obtain ⟨es, t', m', h1, h2, h3⟩ := regW_ents hT ops.toList t m [] _ h
    cases draw with
    | false =>
      refine wp_region_list (ents_list h1 E ρ a w hP hN hR _ (fun ρ' a' w' hR' => ⟨ρ', t', m', h2, hR'⟩))
    | true =>
      obtain ⟨hck, hq⟩ := (show Need _ _ from h2)
      simp only [cond_true, List.append_nil, List.reverse_reverse] at hck
      refine wp_region_any hmix ?_
      have hfalse : ∀ i, (Array.replicate ops.size false).getD i false = false := by
        intro i
        by_cases hi : i < ops.size
        · simp [Array.getD_eq_getD_getElem?, hi]
        · rw [Array.getD_eq_getD_getElem?, Array.getElem?_eq_none (by simp; omega)]; rfl
      have hS : (fun i => (Array.replicate ops.size false).getD i false) = fun _ => false := funext hfalse
      refine ents_any h1 hck hP hN (fun ρ' a' w' hR' => ⟨ρ', t', m', hq, hR'⟩) ops.size _ ρ a _ (by simp) ?_ ?_ ?_
      · unfold leftN
        have : (List.range ops.size).filter (fun i => !(Array.replicate ops.size false).getD i true) = List.range ops.size := by
          rw [List.filter_eq_self]
          intro i hi
          have : i < ops.size := by simpa using hi
          simp [Array.getD_eq_getD_getElem?, this]
        rw [this]; simp
      · intro i o _ hl
        rw [hfalse] at hl
        simp at hl
      · have e1 : fT es (fun i => (Array.replicate ops.size false).getD i false) 0 t = t := by
          rw [hS]; funext s; exact fT_off _ _ _ _ _ (fun _ _ _ _ => rfl)
        have e2 : fM es (fun i => (Array.replicate ops.size false).getD i false) 0 m = m := by
          rw [hS]; funext s; exact fM_off _ _ _ _ _ (fun _ _ _ _ => rfl)
        rw [e1, e2]
        exact hR.grow ((Below.refl w.heap.size w).drew)
  | seq x y ihx ihy =>
    intro Q t m h E ρ a w hP hN hR
    refine wp_seq (wp_mono (ihx _ t m h E ρ a w hP hN hR) ?_)
    intro e a' w' hq
    cases e with
    | normal =>
      obtain ⟨ρ', t', m', hq, hR'⟩ := hq
      show y.wp P (PostM E Q) a' w'
      replace hq : bif cuts.any (Nat.beq (headId y)) then Cut t' m' (fun t' m' => awp P TT N cuts y Q t' m') else awp P TT N cuts y Q t' m' := hq
      cases hcut : cuts.any (Nat.beq (headId y)) with
      | false => rw [hcut] at hq; exact ihy Q t' m' hq E ρ' a' w' hP hN hR'
      | true =>
        rw [hcut] at hq
        obtain ⟨t2, m2, hwk, hq⟩ := (show Cut _ _ _ from hq).h
        obtain ⟨ρ2, hR2⟩ := hwk E ρ' a' w' hR'
        exact ihy Q t2 m2 hq E ρ2 a' w' hP hN hR2
    | exit i => exact hq
    | ret => exact hq
    | goto l => exact hq.elim
    | panic ch => exact hq.elim
    | outgrown => exact hq.elim
  | cond c x y ihx ihy =>
    intro Q t m h E ρ a w hP hN hR
    replace h : condW t c fun b => bif b then awp P TT N cuts x Q t m else awp P TT N cuts y Q t m := h
    unfold condW at h
    split at h
    · rename_i b hb
      have hv := (opd_ok hR c).1
      rw [hb] at hv
      have e1 := (Rd.inv_v (show Rd _ _ _ _ from hv)).1
      have h := h.elim
      refine wp_cond (t := b) e1 ?_
      cases b with
      | true => exact ihx Q t m h E ρ a w hP hN hR
      | false => exact ihy Q t m h E ρ a w hP hN hR
    · exact h.elim
  | block id x ihx =>
    intro Q t m h E ρ a w hP hN hR
    refine wp_block (wp_mono (ihx _ t m h E ρ a w hP hN hR) ?_)
    intro e a' w' hq
    cases e with
    | normal => exact hq
    | exit i =>
      obtain ⟨ρ', t', m', hq, hR'⟩ := hq
      show (if i = id then PostM E Q .normal a' w' else PostM E Q (.exit i) a' w')
      replace hq : bif Nat.beq i id then Q .normal t' m' else Q (.exit i) t' m' := hq
      by_cases hi : i = id
      · subst hi
        rw [if_pos rfl]
        have : Nat.beq i i = true := Nat.beq_refl i
        simp only [this, cond_true] at hq
        exact ⟨ρ', t', m', hq, hR'⟩
      · rw [if_neg hi]
        simp only [beq_f hi, cond_false] at hq
        exact ⟨ρ', t', m', hq, hR'⟩
    | ret => exact hq
    | goto l => exact hq.elim
    | panic ch => exact hq.elim
    | outgrown => exact hq.elim
  | loop x ihx =>
    intro Q t m h E ρ a w hP hN hR
    obtain ⟨α, I, J, μ, ⟨t0, m0, hwk, x0, hI⟩, hJ, hround⟩ := (show Loop _ _ _ _ from h).h
    obtain ⟨ρ0, hR0⟩ := hwk E ρ a w hR
    let rank : Act → World → Nat → Prop := fun a w n => ∃ ρ t m x, I x t m ∧ Rel E ρ t m a w ∧ μ x = n
    refine wp_loop (fun a w => ∃ n, rank a w n) (fun a w => leastOf (rank a w)) ⟨_, ρ0, t0, m0, x0, hI, hR0, rfl⟩ ?_
    intro a' w' hex
    obtain ⟨hl, _⟩ := leastOf_spec hex
    obtain ⟨ρ1, t1, m1, x1, hI1, hR1, hμ1⟩ := hl
    refine wp_mono (ihx _ t1 m1 (hround x1 t1 m1 hI1) E ρ1 a' w' hP hN hR1) ?_
    intro e a2 w2 hq
    cases e with
    | normal =>
      obtain ⟨ρ2, t2, m2, hj, hR2⟩ := hq
      obtain ⟨t3, m3, hwk3, y, hI3, hlt⟩ := hJ _ _ _ hj
      obtain ⟨ρ3, hR3⟩ := hwk3 E ρ2 a2 w2 hR2
      have hr3 : rank a2 w2 (μ y) := ⟨ρ3, t3, m3, y, hI3, hR3, rfl⟩
      refine ⟨⟨_, hr3⟩, ?_⟩
      have := (leastOf_spec (p := rank a2 w2) ⟨_, hr3⟩).2 _ hr3
      show leastOf (rank a2 w2) < leastOf (rank a' w')
      omega
    | exit i => exact hq
    | ret => exact hq
    | goto l => exact hq.elim
    | panic ch => exact hq.elim
    | outgrown => exact hq.elim
  | exit id => intro Q t m h E ρ a w _ _ hR; exact wp_exit ⟨ρ, t, m, h, hR⟩
  | ret => intro Q t m h E ρ a w _ _ hR; exact wp_ret ⟨ρ, t, m, h, hR⟩
  | rangeFunc f ps as bd _ _ => intro Q t m h; exact h.elim
  | scope bd _ => intro Q t m h; exact h.elim
  | label l => intro Q t m h; exact h.elim
  | goto l => intro Q t m h; exact h.elim
  | refuse why => intro Q t m h; exact h.elim

/-! ### whole functions -/
def resW (TT : Tab) (t : Nat → TV) (m : Nat → Mem) : List ResultVar → (List DV → Prop) → Prop
  | [], K => K []
  | .tmp s :: r, K => argW m (t s) fun v _ _ => resW TT t m r fun l => K (v :: l)
  | .cell a ty :: r, K => match TT ty with
    | some T => loadW T m (t a) fun x _ _ => match x with
      | .d v => resW TT t m r fun l => K (v :: l)
      | _ => False
    | none => False

/-- What the walk has come to is read as the result that the contract says. -/
structure Fin (x r : TV) : Prop where
  h : ∀ (S : Nat → Prop) (w : World) (v : Value), ROk S w v x → ROk S w v r

def finW (r : TV) (l : List DV) : Prop :=
  match l with
  | [x] => Fin (.d x) r
  | l => Fin (.tup l) r

def initT (args : List DV) : Nat → TV := fun i => match args[i]? with
  | some v => .d v
  | none => .undef

def resF (tmps : Array Value) : ResultVar → Sem Value
  | .tmp s => pure (tmps.getD s Go.undef)
  | .cell ad ty => do loadVar ty (← asAddr (tmps.getD ad Go.undef))

theorem resW_ok {P : Program} {TT : Tab} (hT : TabOk P TT) {t : Nat → TV} {m : Nat → Mem} {E : Env} {ρ : Nat → Option (Nat × Nat)} {a : Act} {w : World} (hR : Rel E ρ t m a w) (hP : E.P = P) :
    ∀ (rs : List ResultVar) (K : List DV → Prop), resW TT t m rs K → ∃ l vs, K l ∧ DRdL (fun b => E.S0 b ∨ (E.w0.heap.size ≤ b ∧ b < w.heap.size)) w vs l ∧
      (rs.mapM (resF a.tmps)).run P w = .ok vs w
  | [], K, h => ⟨[], [], h, .nil, rfl⟩
  | .tmp s :: r, K, h => by
    simp only [resW] at h
    have hself : Agree (⟨none, .move (.tmp s), 0, "", #[], none⟩ : Oper) t t := fun _ _ => rfl
    obtain ⟨v, hs, rd, h, _, hbld, hread⟩ := argW_ok (o := (⟨none, .move (.tmp s), 0, "", #[], none⟩ : Oper)) (t := t) (x := .tmp s) (by simp [Op.operands]) h
    obtain ⟨l, vs, hK, hl, hrun⟩ := resW_ok hT hR hP r _ h
    have h1 := hread E ρ t m a w hself (fun _ _ => rfl) hR
    refine ⟨v :: l, a.tmps.getD s Go.undef :: vs, hK, .cons (DRd.mono (fun b hb => ⟨?_, rfl⟩) h1) hl, ?_⟩
    · rcases hb with hb | ⟨o, _, l, c, r⟩
      · exact hb.1
      · exact .inr (hR.lo o b c l r)
    · simp only [List.mapM_cons, resF, Sem.run_bind, Sem.run_pure, Result.andThen_ok]
      rw [show (List.mapM (resF a.tmps) r).run P w = _ from hrun]
      rfl
  | .cell ad ty :: r, K, h => by
    simp only [resW] at h
    split at h
    · rename_i T hty
      let o : Oper := ⟨none, .load ty (.tmp ad), 0, "", #[], none⟩
      obtain ⟨y, rd, h, hok⟩ := load_pure (P := P) (o := o) (t := t) hT hty rfl h
      split at h
      · rename_i v
        obtain ⟨l, vs, hK, hl, hrun⟩ := resW_ok hT hR hP r _ h
        obtain ⟨u, hr, hu, _⟩ := hok E ρ t m a w hP (fun _ _ => rfl) (fun _ _ => rfl) hR
        have hload : (do loadVar ty (← asAddr (a.tmps.getD ad Go.undef)) : Sem Value).run P w = .ok u w := by
          have hr' : ((do let v ← Instr.loadAt ty (a.tmps.getD ad Go.undef); pure (Next.value v) : Sem Next)).run P w = .ok (.value u) w := hr
          revert hr'
          generalize a.tmps.getD ad Go.undef = z
          intro hr'
          have hz : ∃ p, z = .pointer (some p) := by
            cases z with
            | pointer p =>
              cases p with
              | some p => exact ⟨p, rfl⟩
              | none => simp [Instr.loadAt, Instr.sureAddr] at hr'
            | _ => simp [Instr.loadAt, Instr.sureAddr] at hr'
          obtain ⟨p, rfl⟩ := hz
          simp only [Instr.loadAt, Instr.sureAddr, asAddr, Sem.run_bind, Sem.run_pure, Result.andThen_ok] at hr' ⊢
          cases hq : (loadVar ty p).run P w with
          | ok v w' =>
            rw [hq] at hr'
            simp only [Result.andThen_ok, Result.ok.injEq, Next.value.injEq] at hr'
            rw [hr'.1, hr'.2]
          | halt x w' => rw [hq] at hr'; simp [Result.andThen] at hr'
        refine ⟨v :: l, u :: vs, hK, .cons (DRd.mono (fun b hb => ⟨hb.1, rfl⟩) hu) hl, ?_⟩
        rw [List.mapM_cons, Sem.run_bind, show (resF a.tmps (.cell ad ty)).run P w = _ from hload, Result.andThen_ok, Sem.run_bind, hrun]
        rfl
      · exact h.elim
    · exact h.elim

/-- A FUNCTION's CONTRACT BY ITS WALK. -/
theorem det_of_awp {P : Program} {TT : Tab} (hT : TabOk P TT) (hmix : P.follows .mixedOrders = true) {f : FuncId} {fn : Func} {c : Code} (hf : P.funcs[f]? = some fn) (hb : fn.body = some c) (hname : (fn.name == "runtime.NumGoroutine") = false)
    (cuts : List Nat) {args : List DV} (hlen : args.length ≤ fn.ntmps) {r : TV}
    (h : awp P TT fn.ntmps cuts c (fun e t m => match e with
      | .exit _ => False
      | .normal => resW TT t m fn.results.toList (finW r)
      | .ret => resW TT t m fn.results.toList (finW r)) (initT args) (fun _ => .none)) : Det P f args r := by
  refine ⟨⟨fn, hf, hname, by rw [hb]; rfl⟩, fun w S vs hS hvs => ?_⟩
  refine calls_of_wp hf hb ?_
  let E : Env := ⟨P, fn.ntmps, w, S, hS⟩
  have hvl := hvs.length
  have hR : Rel E (fun _ => none) (initT args) (fun _ => .none) { tmps := vs.toArray ++ Array.replicate (fn.ntmps - vs.toArray.size) Go.undef, defers := [] } w := by
    refine { below := Below.refl _ _, defers := rfl, size := ?_, inj := fun _ _ _ _ _ l => l.elim, lo := fun _ _ _ l => l.elim, clean := ?_, mem := fun _ => trivial, slots := ?_ }
    · show (vs.toArray ++ Array.replicate (fn.ntmps - vs.toArray.size) Go.undef).size = fn.ntmps
      simp; omega
    · intro i o hr
      unfold initT at hr
      split at hr <;> exact hr.elim
    · intro i
      unfold initT
      split
      · rename_i v hv
        obtain ⟨x, hx, hxr⟩ := hvs.get i v hv
        have hlt := (List.getElem?_eq_some_iff.1 hx).1
        have e1 : (vs.toArray ++ Array.replicate (fn.ntmps - vs.toArray.size) Go.undef).getD i Go.undef = x := by
          rw [Array.getD_eq_getD_getElem?, Array.getElem?_append, if_pos (by simpa using hlt)]
          simp [hx]
        rw [e1]
        exact DRd.mono (fun b hb => ⟨⟨.inl hb, fun _ _ l => l.elim⟩, rfl⟩) hxr
      · rename_i hv
        have hge : args.length ≤ i := List.getElem?_eq_none_iff.1 hv
        show _ = Go.undef
        rw [Array.getD_eq_getD_getElem?, Array.getElem?_append, if_neg (by simp; omega)]
        by_cases hi : i - vs.toArray.size < fn.ntmps - vs.toArray.size
        · rw [Array.getElem?_eq_getElem (by simpa using hi)]; simp
        · rw [Array.getElem?_eq_none (by simpa using hi)]; rfl
  have hwp := awp_sound hT hmix c _ _ _ h E (fun _ => none) _ w rfl rfl hR
  refine wp_mono hwp ?_
  intro e a' w' hq
  have fin : ∀ ρ t m, resW TT t m fn.results.toList (finW r) → Rel E ρ t m a' w' → a'.defers = [] ∧ ∃ v, (results fn a'.tmps).run P w' = .ok v w' ∧ ∃ v', Ending.returned v = .returned v' ∧ Below w.heap.size w w' ∧ ROk (fun b => S b ∨ (w.heap.size ≤ b ∧ b < w'.heap.size)) w' v' r := by
    intro ρ t m hq hR'
    obtain ⟨l, vs', hK, hl, hrun⟩ := resW_ok hT hR' rfl fn.results.toList _ hq
    refine ⟨hR'.defers, ?_⟩
    have hrun' : (fn.results.mapM (resF a'.tmps)).run P w' = .ok vs'.toArray w' := by
      rw [Array.mapM_eq_mapM_toList, Sem.run_map]
      simp [hrun]
    have hll := hl.length
    have hfin : ∃ v', (results fn a'.tmps).run P w' = .ok v' w' ∧ ROk (fun b => S b ∨ (w.heap.size ≤ b ∧ b < w'.heap.size)) w' v' r := by
      have hres : (results fn a'.tmps).run P w' = ((fn.results.mapM (resF a'.tmps)).run P w').andThen fun vs w => .ok (if h : vs.size = 1 then vs[0] else .tuple vs) w := by
        unfold results
        rw [Sem.run_bind]
        rfl
      rw [hres, hrun', Result.andThen_ok]
      match l, vs', hK, hl, hll with
      | [x], [v], hK, hl, _ =>
        cases hl with
        | cons h1 _ => exact ⟨v, by simp, (show Fin _ _ from hK).h _ _ _ h1⟩
      | [], [], hK, hl, _ => exact ⟨.tuple #[], by simp, (show Fin _ _ from hK).h _ _ _ ⟨[], rfl, hl⟩⟩
      | x :: y :: l, v :: v2 :: vs', hK, hl, _ =>
        exact ⟨.tuple (v :: v2 :: vs').toArray, by simp, (show Fin _ _ from hK).h _ _ _ ⟨_, rfl, hl⟩⟩
    obtain ⟨v', h1, h2⟩ := hfin
    exact ⟨v', h1, v', rfl, hR'.below, h2⟩
  cases e with
  | normal => obtain ⟨ρ, t, m, hq, hR'⟩ := hq; exact fin ρ t m hq hR'
  | ret => obtain ⟨ρ, t, m, hq, hR'⟩ := hq; exact fin ρ t m hq hR'
  | exit id => obtain ⟨ρ, t, m, hq, hR'⟩ := hq; exact hq.elim
  | goto l => exact hq.elim
  | panic ch => exact hq.elim
  | outgrown => exact hq.elim
end Go.Vm
