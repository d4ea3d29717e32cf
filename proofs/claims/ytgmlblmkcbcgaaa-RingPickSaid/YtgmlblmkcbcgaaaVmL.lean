/-
  An abstract walk over Go's code: branches, loops, whole functions: the contract of a function by its walk.
-/
import Derived.Test.YtgmlblmkcbcgaaaVmK
namespace Go.Vm
set_option linter.unusedVariables false
set_option linter.unusedSimpArgs false
open Go Go.RowKit

inductive Ex where
  | normal
  | exit (id : Nat)
  | ret

abbrev Post := Ex → (Nat → TV) → (Id → Mem) → Prop

/-- The state may be read as another one that says less. -/
def Wk (t : Nat → TV) (m : Id → Mem) (t' : Nat → TV) (m' : Id → Mem) : Prop :=
  ∀ (E : Env) (ρ : Id → Option (Nat × Nat)) (a : Act) (w : World), Rel E ρ t m a w → ∃ ρ', Rel E ρ' t' m' a w
def Adj (t : Nat → TV) (m : Id → Mem) (J : (Nat → TV) → (Id → Mem) → Prop) : Prop := ∃ t' m', Wk t m t' m' ∧ J t' m'

structure Cut (t : Nat → TV) (m : Id → Mem) (J : (Nat → TV) → (Id → Mem) → Prop) : Prop where
  h : Adj t m J

structure Loop (body : Post → (Nat → TV) → (Id → Mem) → Prop) (Q : Post) (t : Nat → TV) (m : Id → Mem) : Prop where
  h : ∃ (α : Type) (I J : α → (Nat → TV) → (Id → Mem) → Prop) (μ : α → Nat), Adj t m (fun t m => ∃ x, I x t m) ∧
    (∀ x t m, J x t m → Adj t m fun t m => ∃ y, I y t m ∧ μ y < μ x) ∧
    ∀ x t' m', I x t' m' → body (fun e t'' m'' => match e with
      | .normal => J x t'' m''
      | e => Q e t'' m'') t' m'

def headId : Code → Nat
  | .region id _ _ => id + 1
  | .seq a _ => headId a
  | .block _ c => headId c
  | .loop c => headId c
  | _ => 0

def seqQ (cuts : List Nat) (b : Code) (ihb : Post → (Nat → TV) → (Id → Mem) → Prop) (Q : Post) : Post := fun e t' m' => match e with
  | .normal => bif cuts.any (Nat.beq (headId b)) then Cut t' m' (fun t' m' => ihb Q t' m') else ihb Q t' m'
  | .exit i => Q (.exit i) t' m'
  | .ret => Q .ret t' m'
def blockQ (id : Nat) (Q : Post) : Post := fun e t' m' => match e with
  | .normal => Q .normal t' m'
  | .exit i => bif Nat.beq i id then Q .normal t' m' else Q (.exit i) t' m'
  | .ret => Q .ret t' m'
/-- A slice's comparison with nil: if it has elements it is not nil. -/
structure NilW (n : Nat) (neg : Bool) (K : Bool → Prop) : Prop where
  f : K neg
  t : n = 0 → K (!neg)
def condW (t : Nat → TV) (c : Operand) (K : Bool → Prop) : Prop := match opd t c with
  | .d (.one (.v (.bool b))) => Split b K
  | .nb n neg => NilW n neg K
  | _ => False

/-- A function's walk, by the code's own recursor. -/
def awp (P : Program) (TT : Tab) (N : Nat) (cuts : List Nat) (c : Code) : Post → (Nat → TV) → (Id → Mem) → Prop :=
  Code.rec (motive := fun _ => Post → (Nat → TV) → (Id → Mem) → Prop)
    (fun Q t m => Q .normal t m)
    (fun _ ops draw Q t m => regW P TT cuts N ops draw ops.toList t m [] fun t' m' tr => bif draw then Need (chk ops.toList tr.reverse = true) (Q .normal t' m') else Q .normal t' m')
    (fun _ b iha ihb Q t m => iha (seqQ cuts b ihb Q) t m)
    (fun c _ _ ihx ihy Q t m => condW t c fun b => bif b then ihx Q t m else ihy Q t m)
    (fun id _ ih Q t m => ih (blockQ id Q) t m)
    (fun _ ih Q t m => Loop ih Q t m)
    (fun _ _ _ _ _ _ _ _ _ => False)
    (fun id Q t m => Q (.exit id) t m)
    (fun _ _ _ _ _ => False)
    (fun _ _ _ _ => False)
    (fun _ _ _ _ => False)
    (fun Q t m => Q .ret t m)
    (fun _ _ _ _ => False) c

/-- What the machine comes to. -/
def PostM (E : Env) (Q : Post) : Exit → Act → World → Prop
  | .normal, a, w => ∃ ρ t m, Q .normal t m ∧ Rel E ρ t m a w
  | .exit id, a, w => ∃ ρ t m, Q (.exit id) t m ∧ Rel E ρ t m a w
  | .ret, a, w => ∃ ρ t m, Q .ret t m ∧ Rel E ρ t m a w
  | _, _, _ => False

theorem least (p : Nat → Prop) (h : ∃ n, p n) : ∃ n, p n ∧ ∀ k, p k → n ≤ k := by
  obtain ⟨n, hn⟩ := h
  induction n using Nat.strongRecOn with
  | _ n ih =>
    by_cases hk : ∃ k, k < n ∧ p k
    · obtain ⟨k, h1, h2⟩ := hk
      exact ih k h1 h2
    · exact ⟨n, hn, fun k hp => Nat.le_of_not_lt fun hl => hk ⟨k, hl, hp⟩⟩

noncomputable def leastOf (p : Nat → Prop) : Nat := Classical.epsilon fun n => p n ∧ ∀ k, p k → n ≤ k
theorem leastOf_spec {p : Nat → Prop} (h : ∃ n, p n) : p (leastOf p) ∧ ∀ k, p k → leastOf p ≤ k := Classical.epsilon_spec (least p h)

theorem awp_sound {P : Program} {TT : Tab} (hT : TabOk P TT) (hmix : P.follows .mixedOrders = true) {N : Nat} {cuts : List Nat} : ∀ (c : Code) (Q : Post) (t : Nat → TV) (m : Id → Mem), awp P TT N cuts c Q t m →
    ∀ (E : Env) (ρ : Id → Option (Nat × Nat)) (a : Act) (w : World), E.P = P → E.N = N → Rel E ρ t m a w → c.wp P (PostM E Q) a w := by
  intro c
  induction c with
  | skip => intro Q t m h E ρ a w _ _ hR; exact wp_skip ⟨ρ, t, m, h, hR⟩
  | region id ops draw =>
    intro Q t m h E ρ a w hP hN hR
    obtain ⟨es, t', m', h1, h2, h3⟩ := regW_ents hT ops.toList t m [] _ h
    cases draw with
    | false =>
      refine wp_region_list (ents_list h1 E ρ a w hP hN hR _ (fun ρ' a' w' hR' => ⟨ρ', t', m', h2, hR'⟩))
    | true =>
      obtain ⟨hck, hq⟩ := (show Need _ _ from h2)
      simp only [cond_true, List.append_nil, List.reverse_reverse] at hck
      refine wp_region_any hmix ?_
      have hfalse : ∀ i, (Array.replicate ops.size false).getD i false = false := by
        intro i
        by_cases hi : i < ops.size
        · simp [Array.getD_eq_getD_getElem?, hi]
        · rw [Array.getD_eq_getD_getElem?, Array.getElem?_eq_none (by simp; omega)]; rfl
      have hS : (fun i => (Array.replicate ops.size false).getD i false) = fun _ => false := funext hfalse
      refine ents_any h1 hck hP hN (fun ρ' a' w' hR' => ⟨ρ', t', m', hq, hR'⟩) ops.size _ ρ a _ (by simp) ?_ ?_ ?_
      · unfold leftN
        have : (List.range ops.size).filter (fun i => !(Array.replicate ops.size false).getD i true) = List.range ops.size := by
          rw [List.filter_eq_self]
          intro i hi
          have : i < ops.size := by simpa using hi
          simp [Array.getD_eq_getD_getElem?, this]
        rw [this]; simp
      · intro i o _ hl
        rw [hfalse] at hl
        simp at hl
      · have e1 : fT es (fun i => (Array.replicate ops.size false).getD i false) 0 t = t := by
          rw [hS]; funext s; exact fT_off _ _ _ _ _ (fun _ _ _ _ => rfl)
        have e2 : fM es (fun i => (Array.replicate ops.size false).getD i false) 0 m = m := by
          rw [hS]; funext s; exact fM_off _ _ _ _ _ (fun _ _ _ _ => rfl)
        rw [e1, e2]
        exact hR.grow ((Below.refl w.heap.size w).drew)
  | seq x y ihx ihy =>
    intro Q t m h E ρ a w hP hN hR
    refine wp_seq (wp_mono (ihx _ t m h E ρ a w hP hN hR) ?_)
    intro e a' w' hq
    cases e with
    | normal =>
      obtain ⟨ρ', t', m', hq, hR'⟩ := hq
      show y.wp P (PostM E Q) a' w'
      replace hq : bif cuts.any (Nat.beq (headId y)) then Cut t' m' (fun t' m' => awp P TT N cuts y Q t' m') else awp P TT N cuts y Q t' m' := hq
      cases hcut : cuts.any (Nat.beq (headId y)) with
      | false => rw [hcut] at hq; exact ihy Q t' m' hq E ρ' a' w' hP hN hR'
      | true =>
        rw [hcut] at hq
        obtain ⟨t2, m2, hwk, hq⟩ := (show Cut _ _ _ from hq).h
        obtain ⟨ρ2, hR2⟩ := hwk E ρ' a' w' hR'
        exact ihy Q t2 m2 hq E ρ2 a' w' hP hN hR2
    | exit i => exact hq
    | ret => exact hq
    | goto l => exact hq.elim
    | panic ch => exact hq.elim
    | outgrown => exact hq.elim
  | cond c x y ihx ihy =>
    intro Q t m h E ρ a w hP hN hR
    replace h : condW t c fun b => bif b then awp P TT N cuts x Q t m else awp P TT N cuts y Q t m := h
    unfold condW at h
    split at h
    · rename_i b hb
      have hv := (opd_ok hR c).1
      rw [hb] at hv
      have e1 := (Rd.inv_v (show Rd _ _ _ _ from hv)).1
      have h := h.elim
      refine wp_cond (t := b) e1 ?_
      cases b with
      | true => exact ihx Q t m h E ρ a w hP hN hR
      | false => exact ihy Q t m h E ρ a w hP hN hR
    · rename_i n neg hb
      have hv := (opd_ok hR c).1
      rw [hb] at hv
      obtain ⟨b, e1, e2⟩ := hv
      refine wp_cond (t := (b != neg)) e1 ?_
      have hk : (bif (b != neg) then awp P TT N cuts x Q t m else awp P TT N cuts y Q t m) := by
        cases b with
        | false => have := h.f; rwa [show (false != neg) = neg by cases neg <;> rfl]
        | true => have := h.t (e2 rfl); rwa [show (true != neg) = !neg by cases neg <;> rfl]
      revert hk
      cases hq : (b != neg) with
      | true => intro hk; exact ihx Q t m hk E ρ a w hP hN hR
      | false => intro hk; exact ihy Q t m hk E ρ a w hP hN hR
    · exact h.elim
  | block id x ihx =>
    intro Q t m h E ρ a w hP hN hR
    refine wp_block (wp_mono (ihx _ t m h E ρ a w hP hN hR) ?_)
    intro e a' w' hq
    cases e with
    | normal => exact hq
    | exit i =>
      obtain ⟨ρ', t', m', hq, hR'⟩ := hq
      show (if i = id then PostM E Q .normal a' w' else PostM E Q (.exit i) a' w')
      replace hq : bif Nat.beq i id then Q .normal t' m' else Q (.exit i) t' m' := hq
      by_cases hi : i = id
      · subst hi
        rw [if_pos rfl]
        have : Nat.beq i i = true := Nat.beq_refl i
        simp only [this, cond_true] at hq
        exact ⟨ρ', t', m', hq, hR'⟩
      · rw [if_neg hi]
        simp only [beq_f hi, cond_false] at hq
        exact ⟨ρ', t', m', hq, hR'⟩
    | ret => exact hq
    | goto l => exact hq.elim
    | panic ch => exact hq.elim
    | outgrown => exact hq.elim
  | loop x ihx =>
    intro Q t m h E ρ a w hP hN hR
    obtain ⟨α, I, J, μ, ⟨t0, m0, hwk, x0, hI⟩, hJ, hround⟩ := (show Loop _ _ _ _ from h).h
    obtain ⟨ρ0, hR0⟩ := hwk E ρ a w hR
    let rank : Act → World → Nat → Prop := fun a w n => ∃ ρ t m x, I x t m ∧ Rel E ρ t m a w ∧ μ x = n
    refine wp_loop (fun a w => ∃ n, rank a w n) (fun a w => leastOf (rank a w)) ⟨_, ρ0, t0, m0, x0, hI, hR0, rfl⟩ ?_
    intro a' w' hex
    obtain ⟨hl, _⟩ := leastOf_spec hex
    obtain ⟨ρ1, t1, m1, x1, hI1, hR1, hμ1⟩ := hl
    refine wp_mono (ihx _ t1 m1 (hround x1 t1 m1 hI1) E ρ1 a' w' hP hN hR1) ?_
    intro e a2 w2 hq
    cases e with
    | normal =>
      obtain ⟨ρ2, t2, m2, hj, hR2⟩ := hq
      obtain ⟨t3, m3, hwk3, y, hI3, hlt⟩ := hJ _ _ _ hj
      obtain ⟨ρ3, hR3⟩ := hwk3 E ρ2 a2 w2 hR2
      have hr3 : rank a2 w2 (μ y) := ⟨ρ3, t3, m3, y, hI3, hR3, rfl⟩
      refine ⟨⟨_, hr3⟩, ?_⟩
      have := (leastOf_spec (p := rank a2 w2) ⟨_, hr3⟩).2 _ hr3
      show leastOf (rank a2 w2) < leastOf (rank a' w')
      omega
    | exit i => exact hq
    | ret => exact hq
    | goto l => exact hq.elim
    | panic ch => exact hq.elim
    | outgrown => exact hq.elim
  | exit id => intro Q t m h E ρ a w _ _ hR; exact wp_exit ⟨ρ, t, m, h, hR⟩
  | ret => intro Q t m h E ρ a w _ _ hR; exact wp_ret ⟨ρ, t, m, h, hR⟩
  | rangeFunc f ps as bd _ _ => intro Q t m h; exact h.elim
  | scope bd _ => intro Q t m h; exact h.elim
  | label l => intro Q t m h; exact h.elim
  | goto l => intro Q t m h; exact h.elim
  | refuse why => intro Q t m h; exact h.elim

/-! ### whole functions -/
def resW (TT : Tab) (t : Nat → TV) (m : Id → Mem) : List ResultVar → (List DV → Prop) → Prop
  | [], K => K []
  | .tmp s :: r, K => argW m (t s) fun v _ _ _ => resW TT t m r fun l => K (v :: l)
  | .cell a ty :: r, K => match TT ty with
    | some T => loadW T m (t a) fun x _ _ => match x with
      | .d v => resW TT t m r fun l => K (v :: l)
      | _ => False
    | none => False

/-- What the walk has come to is read as the result that the contract says. -/
structure Fin (x r : TV) : Prop where
  h : ∀ (S : Nat → Prop) (w : World) (v : Value), ROk S w v x → ROk S w v r

def finW (r : TV) (l : List DV) : Prop :=
  match l with
  | [x] => Fin (.d x) r
  | l => Fin (.tup l) r

def initT (args : List DV) : Nat → TV := fun i => match args[i]? with
  | some v => .d v
  | none => .undef

def resF (tmps : Array Value) : ResultVar → Sem Value
  | .tmp s => pure (tmps.getD s Go.undef)
  | .cell ad ty => do loadVar ty (← asAddr (tmps.getD ad Go.undef))

theorem load_res {P : Program} {TT : Tab} (hT : TabOk P TT) {t : Nat → TV} {m : Id → Mem} {ty : TypeId} {T : Ty} (hty : TT ty = some T) {ad : Nat} {K : Kont} (h : loadW T m (t ad) K) :
    ∃ x rd, K x [] rd ∧ ∀ (E : Env) (ρ : Id → Option (Nat × Nat)) (a : Act) (w : World), E.P = P → Rel E ρ t m a w → ∃ u, (resF a.tmps (.cell ad ty)).run P w = .ok u w ∧ TOk E m ρ w u x ∧ ∀ b, x.refs b → m b ≠ .none := by
  let o : Oper := ⟨none, .load ty (.tmp ad), 0, "", #[], none⟩
  obtain ⟨y, rd, h, hok⟩ := load_pure (P := P) (o := o) (t := t) hT hty rfl h
  refine ⟨y, rd, h, fun E ρ a w hP hR => ?_⟩
  obtain ⟨u, hr, hu, hc⟩ := hok E ρ t m a w hP (fun _ _ => rfl) (fun _ _ => rfl) hR
  refine ⟨u, ?_, hu, hc⟩
  have hr' : ((do let v ← Instr.loadAt ty (a.tmps.getD ad Go.undef); pure (Next.value v) : Sem Next)).run P w = .ok (.value u) w := hr
  show (do loadVar ty (← asAddr (a.tmps.getD ad Go.undef)) : Sem Value).run P w = .ok u w
  revert hr'
  generalize a.tmps.getD ad Go.undef = z
  intro hr'
  have hz : ∃ p, z = .pointer (some p) := by
    cases z with
    | pointer p =>
      cases p with
      | some p => exact ⟨p, rfl⟩
      | none => simp [Instr.loadAt, Instr.sureAddr] at hr'
    | _ => simp [Instr.loadAt, Instr.sureAddr] at hr'
  obtain ⟨p, rfl⟩ := hz
  simp only [Instr.loadAt, Instr.sureAddr, asAddr, Sem.run_bind, Sem.run_pure, Result.andThen_ok] at hr' ⊢
  cases hq : (loadVar ty p).run P w with
  | ok v w' =>
    rw [hq] at hr'
    simp only [Result.andThen_ok, Result.ok.injEq, Next.value.injEq] at hr'
    rw [hr'.1, hr'.2]
  | halt x w' => rw [hq] at hr'; simp [Result.andThen] at hr'

theorem resW_ok {P : Program} {TT : Tab} (hT : TabOk P TT) {t : Nat → TV} {m : Id → Mem} {E : Env} {ρ : Id → Option (Nat × Nat)} {a : Act} {w : World} (hR : Rel E ρ t m a w) (hP : E.P = P) :
    ∀ (rs : List ResultVar) (K : List DV → Prop), resW TT t m rs K → ∃ l vs, K l ∧ DRdL (fun b => E.S0 b ∨ E.X b ∨ (E.w0.heap.size ≤ b ∧ b < w.heap.size)) w vs l ∧
      (rs.mapM (resF a.tmps)).run P w = .ok vs w
  | [], K, h => ⟨[], [], h, .nil, rfl⟩
  | .tmp s :: r, K, h => by
    simp only [resW] at h
    have hself : Agree (⟨none, .move (.tmp s), 0, "", #[], none⟩ : Oper) t t := fun _ _ => rfl
    obtain ⟨v, hs, rd, ft, h, _, hbld, hread⟩ := argW_ok (o := (⟨none, .move (.tmp s), 0, "", #[], none⟩ : Oper)) (t := t) (x := .tmp s) (by simp [Op.operands]) h
    obtain ⟨l, vs, hK, hl, hrun⟩ := resW_ok hT hR hP r _ h
    have h1 := hread E ρ t m a w hself (fun _ _ => rfl) hR
    refine ⟨v :: l, a.tmps.getD s Go.undef :: vs, hK, .cons (DRd.mono (fun b hb => ⟨?_, rfl⟩) h1) hl, ?_⟩
    · rcases hb with hb | ⟨o, _, l, c, r⟩
      · exact hb.1
      · obtain ⟨q1, q2⟩ := hR.lo o b c l r
        exact .inr (q1.imp id (fun q1 => ⟨q1, q2⟩))
    · simp only [List.mapM_cons, resF, Sem.run_bind, Sem.run_pure, Result.andThen_ok]
      rw [show (List.mapM (resF a.tmps) r).run P w = _ from hrun]
      rfl
  | .cell ad ty :: r, K, h => by
    simp only [resW] at h
    split at h
    · rename_i T hty
      obtain ⟨y, rd, h, hok⟩ := load_res (P := P) hT hty h
      split at h
      · rename_i v
        obtain ⟨l, vs, hK, hl, hrun⟩ := resW_ok hT hR hP r _ h
        obtain ⟨u, hload, hu, _⟩ := hok E ρ a w hP hR
        refine ⟨v :: l, u :: vs, hK, .cons (DRd.mono (fun b hb => ⟨hb.1, rfl⟩) hu) hl, ?_⟩
        rw [List.mapM_cons, Sem.run_bind, hload, Result.andThen_ok, Sem.run_bind, hrun]
        rfl
      · exact h.elim
    · exact h.elim

theorem results_run {P : Program} {w : World} {fn : Func} {tmps : Array Value} {vs : List Value} (hrun : (fn.results.toList.mapM (resF tmps)).run P w = .ok vs w) :
    (results fn tmps).run P w = .ok (if h : vs.toArray.size = 1 then vs.toArray[0] else .tuple vs.toArray) w := by
  have hrun' : (fn.results.mapM (resF tmps)).run P w = .ok vs.toArray w := by
    rw [Array.mapM_eq_mapM_toList, Sem.run_map]
    simp [hrun]
  have hres : (results fn tmps).run P w = ((fn.results.mapM (resF tmps)).run P w).andThen fun vs w => .ok (if h : vs.size = 1 then vs[0] else .tuple vs) w := by
    unfold results
    rw [Sem.run_bind]
    rfl
  rw [hres, hrun', Result.andThen_ok]

/-- A FUNCTION's CONTRACT BY ITS WALK. -/
theorem det_of_awp {P : Program} {TT : Tab} (hT : TabOk P TT) (hmix : P.follows .mixedOrders = true) {f : FuncId} {fn : Func} {c : Code} (hf : P.funcs[f]? = some fn) (hb : fn.body = some c) (hname : (fn.name == "runtime.NumGoroutine") = false)
    (cuts : List Nat) {args : List DV} (hlen : args.length ≤ fn.ntmps) {r : TV}
    (h : awp P TT fn.ntmps cuts c (fun e t m => match e with
      | .exit _ => False
      | .normal => resW TT t m fn.results.toList (finW r)
      | .ret => resW TT t m fn.results.toList (finW r)) (initT args) (fun _ => .none)) : Det P f args r := by
  refine ⟨⟨fn, hf, hname, by rw [hb]; rfl⟩, fun w S vs hS hvs => ?_⟩
  refine calls_of_wp hf hb ?_
  let E : Env := ⟨P, fn.ntmps, w, S, hS, fun _ => False, fun _ h => h.elim, fun _ => .none, fun _ => none, fun _ _ => rfl, fun _ _ => rfl, fun _ _ => rfl⟩
  have hvl := hvs.length
  have hR : Rel E (fun _ => none) (initT args) (fun _ => .none) { tmps := vs.toArray ++ Array.replicate (fn.ntmps - vs.toArray.size) Go.undef, defers := [] } w := by
    refine { below := Bx.refl _ _ _, defers := rfl, size := ?_, inj := fun _ _ _ _ _ l => l.elim, lo := fun _ _ _ l => l.elim, clean := ?_, cleanM := fun _ _ h => h.elim, mem := fun _ => trivial, slots := ?_, carry := fun _ h => absurd rfl h }
    · show (vs.toArray ++ Array.replicate (fn.ntmps - vs.toArray.size) Go.undef).size = fn.ntmps
      simp; omega
    · intro i o hr
      unfold initT at hr
      split at hr <;> exact hr.elim
    · intro i
      unfold initT
      split
      · rename_i v hv
        obtain ⟨x, hx, hxr⟩ := hvs.get i v hv
        have hlt := (List.getElem?_eq_some_iff.1 hx).1
        have e1 : (vs.toArray ++ Array.replicate (fn.ntmps - vs.toArray.size) Go.undef).getD i Go.undef = x := by
          rw [Array.getD_eq_getD_getElem?, Array.getElem?_append, if_pos (by simpa using hlt)]
          simp [hx]
        rw [e1]
        exact DRd.mono (fun b hb => ⟨⟨.inl hb, fun _ _ l => l.elim⟩, rfl⟩) hxr
      · rename_i hv
        have hge : args.length ≤ i := List.getElem?_eq_none_iff.1 hv
        show _ = Go.undef
        rw [Array.getD_eq_getD_getElem?, Array.getElem?_append, if_neg (by simp; omega)]
        by_cases hi : i - vs.toArray.size < fn.ntmps - vs.toArray.size
        · rw [Array.getElem?_eq_getElem (by simpa using hi)]; simp
        · rw [Array.getElem?_eq_none (by simpa using hi)]; rfl
  have hwp := awp_sound hT hmix c _ _ _ h E (fun _ => none) _ w rfl rfl hR
  refine wp_mono hwp ?_
  intro e a' w' hq
  have fin : ∀ ρ t m, resW TT t m fn.results.toList (finW r) → Rel E ρ t m a' w' → a'.defers = [] ∧ ∃ v, (results fn a'.tmps).run P w' = .ok v w' ∧ ∃ v', Ending.returned v = .returned v' ∧ Below w.heap.size w w' ∧ ROk (fun b => S b ∨ (w.heap.size ≤ b ∧ b < w'.heap.size)) w' v' r := by
    intro ρ t m hq hR'
    obtain ⟨l, vs', hK, hl, hrun⟩ := resW_ok hT hR' rfl fn.results.toList _ hq
    replace hl : DRdL (fun b => S b ∨ (w.heap.size ≤ b ∧ b < w'.heap.size)) w' vs' l := hl.mono (fun b hb => ⟨hb.imp id (fun h => h.resolve_left id), rfl⟩)
    refine ⟨hR'.defers, ?_⟩
    have hll := hl.length
    have hfin : ∃ v', (results fn a'.tmps).run P w' = .ok v' w' ∧ ROk (fun b => S b ∨ (w.heap.size ≤ b ∧ b < w'.heap.size)) w' v' r := by
      rw [results_run hrun]
      match l, vs', hK, hl, hll with
      | [x], [v], hK, hl, _ =>
        cases hl with
        | cons h1 _ => exact ⟨v, by simp, (show Fin _ _ from hK).h _ _ _ h1⟩
      | [], [], hK, hl, _ => exact ⟨.tuple #[], by simp, (show Fin _ _ from hK).h _ _ _ ⟨[], rfl, hl⟩⟩
      | x :: y :: l, v :: v2 :: vs', hK, hl, _ =>
        exact ⟨.tuple (v :: v2 :: vs').toArray, by simp, (show Fin _ _ from hK).h _ _ _ ⟨_, rfl, hl⟩⟩
    obtain ⟨v', h1, h2⟩ := hfin
    exact ⟨v', h1, v', rfl, hR'.below.below (fun _ h => h), h2⟩
  cases e with
  | normal => obtain ⟨ρ, t, m, hq, hR'⟩ := hq; exact fin ρ t m hq hR'
  | ret => obtain ⟨ρ, t, m, hq, hR'⟩ := hq; exact fin ρ t m hq hR'
  | exit id => obtain ⟨ρ, t, m, hq, hR'⟩ := hq; exact hq.elim
  | goto l => exact hq.elim
  | panic ch => exact hq.elim
  | outgrown => exact hq.elim

/-! ### functions that turn what they are given -/
def resM (TT : Tab) (t : Nat → TV) (m : Id → Mem) : List ResultVar → (List TV → Prop) → Prop
  | [], K => K []
  | .tmp s :: r, K => resM TT t m r fun l => K (t s :: l)
  | .cell a ty :: r, K => match TT ty with
    | some T => loadW T m (t a) fun x _ _ => resM TT t m r fun l => K (x :: l)
    | none => False

theorem resM_ok {P : Program} {TT : Tab} (hT : TabOk P TT) {t : Nat → TV} {m : Id → Mem} {E : Env} {ρ : Id → Option (Nat × Nat)} {a : Act} {w : World} (hR : Rel E ρ t m a w) (hP : E.P = P) :
    ∀ (rs : List ResultVar) (K : List TV → Prop), resM TT t m rs K → ∃ l vs, K l ∧ TOkL E m ρ w vs l ∧ (rs.mapM (resF a.tmps)).run P w = .ok vs w
  | [], K, h => ⟨[], [], h, .nil, rfl⟩
  | .tmp s :: r, K, h => by
    simp only [resM] at h
    obtain ⟨l, vs, hK, hl, hrun⟩ := resM_ok hT hR hP r _ h
    refine ⟨_, a.tmps.getD s Go.undef :: vs, hK, .cons (hR.slots s) hl, ?_⟩
    simp only [List.mapM_cons, resF, Sem.run_bind, Sem.run_pure, Result.andThen_ok]
    rw [show (List.mapM (resF a.tmps) r).run P w = _ from hrun]
    rfl
  | .cell ad ty :: r, K, h => by
    simp only [resM] at h
    split at h
    · rename_i T hty
      obtain ⟨y, rd, h, hok⟩ := load_res (P := P) hT hty h
      obtain ⟨l, vs, hK, hl, hrun⟩ := resM_ok hT hR hP r _ h
      obtain ⟨u, hload, hu, _⟩ := hok E ρ a w hP hR
      refine ⟨_, u :: vs, hK, .cons hu hl, ?_⟩
      rw [List.mapM_cons, Sem.run_bind, hload, Result.andThen_ok, Sem.run_bind, hrun]
      rfl
    · exact h.elim

/-! the walk's end beside what the contract says: d is the object that the contract calls 3000 -/
def renE (d : Id) : Id → Id
  | .n k => bif Nat.beq k 3000 then d else .n k
  | .s k i => .s k i
inductive CREnd (d : Id) : CR → CR → Prop where
  | s {c c' : SV} (h : SLe c c') : CREnd d (.s c) (.s c')
  | ptr {o o' : Id} {p : Nat} (h : o = renE d o') : CREnd d (.ptr o p) (.ptr o' p)
inductive CREnds (d : Id) : List CR → List CR → Prop where
  | nil : CREnds d [] []
  | cons {c c' : CR} {l l' : List CR} (h : CREnd d c c') (r : CREnds d l l') : CREnds d (c :: l) (c' :: l')
inductive CVEnd (m m2 : Id → Mem) (d : Id) : CV → CV → Prop where
  | s {c c' : SV} (h : SLe c c') : CVEnd m m2 d (.s c) (.s c')
  | ptr {o o' : Id} {p : Nat} (h : o = renE d o') : CVEnd m m2 d (.ptr o p) (.ptr o' p)
  | hdl {o o' : Id} {g g' : Nat} (h : o = renE d o') (hg : g = (m o).gen) (hg' : g' = (m2 o').gen) : CVEnd m m2 d (.hdl o g) (.hdl o' g')
  | clo {f : FuncId} {c c' : List CR} (h : CREnds d c c') : CVEnd m m2 d (.clo f c) (.clo f c')
inductive CVEnds (m m2 : Id → Mem) (d : Id) : List CV → List CV → Prop where
  | nil : CVEnds m m2 d [] []
  | cons {c c' : CV} {l l' : List CV} (h : CVEnd m m2 d c c') (r : CVEnds m m2 d l l') : CVEnds m m2 d (c :: l) (c' :: l')
inductive MEnd (m m2 : Id → Mem) (d : Id) : Mem → Mem → Prop where
  | dead (x : Mem) : MEnd m m2 d x .dead
  | ro {l l' : List SV} (h : LLe l l') : MEnd m m2 d (.ro l) (.ro l')
  | box {l l' : List SV} (h : LLe l l') : MEnd m m2 d (.box l) (.box l')
  | boxObj {l : List SV} {l' : List CV} (h : CVEnds m m2 d (l.map .s) l') : MEnd m m2 d (.box l) (.obj l')
  | obj {l l' : List CV} (h : CVEnds m m2 d l l') : MEnd m m2 d (.obj l) (.obj l')
  | bld {g g' n k : Nat} {e : TypeId} {get get' : Nat → Nat → SV} (hg : g' = 1 → g = 1) (h : ∀ i, i < n → ∀ j, j < k → SLe (get i j) (get' i j)) : MEnd m m2 d (.bld g n k e get) (.bld g' n k e get')
  | bldc {g g' n k : Nat} {e : TypeId} {get get' : Nat → Nat → CV} (hg : g' = 1 → g = 1) (h : ∀ i, i < n → ∀ j, j < k → CVEnd m m2 d (get i j) (get' i j)) : MEnd m m2 d (.bldc g n k e get) (.bldc g' n k e get')
inductive MEnds (m m2 : Id → Mem) (d : Id) : Nat → List Mem → Prop where
  | nil (k : Nat) : MEnds m m2 d k []
  | cons {k : Nat} {x : Mem} {l : List Mem} (h : MEnd m m2 d (m (.n k)) x) (t : MEnds m m2 d (k + 1) l) : MEnds m m2 d k (x :: l)
inductive TEnd (m m2 : Id → Mem) (d : Id) : TV → TV → Prop where
  | d {v v' : DV} (h : DLe v v') : TEnd m m2 d (.d v) (.d v')
  | ptr {o o' : Id} {p : Nat} (h : o = renE d o') : TEnd m m2 d (.ptr o p) (.ptr o' p)
  | hdl {o o' : Id} {g g' : Nat} (h : o = renE d o') (hg : g = (m o).gen) (hg' : g' = (m2 o').gen) : TEnd m m2 d (.hdl o g) (.hdl o' g')
  | clo {f : FuncId} {c c' : List CR} (h : CREnds d c c') : TEnd m m2 d (.clo f c) (.clo f c')
inductive DsEnd : List TV → List DV → Prop where
  | nil : DsEnd [] []
  | cons {v v' : DV} {l : List TV} {l' : List DV} (h : DLe v v') (r : DsEnd l l') : DsEnd (.d v :: l) (v' :: l')
inductive RsEnd (m m2 : Id → Mem) (d : Id) : List TV → TV → Prop where
  | one {x r : TV} (h : TEnd m m2 d x r) : RsEnd m m2 d [x] r
  | none : RsEnd m m2 d [] (.tup [])
  | two {x y : TV} {l : List TV} {v v' : DV} {l' : List DV} (h : DsEnd (x :: y :: l) (v :: v' :: l')) : RsEnd m m2 d (x :: y :: l) (.tup (v :: v' :: l'))
structure EndM (m : Id → Mem) (ms' : List Mem) (r : TV) (fr : Mem) (l : List TV) : Prop where
  h : ∃ d, RsEnd m (memR ms' fr) d l r ∧ MEnds m (memR ms' fr) d 2000 ms' ∧ (fr = .none ∨ (MEnd m (memR ms' fr) d (m d) fr ∧ Nat.blt d.key 2000 = true))

/-- What a contract must hold of itself. -/
structure SigM (args : List TV) (ms : List Mem) (r : TV) (ms' : List Mem) (fr : Mem) : Prop where
  few : Nat.ble ms.length 1000 = true
  kin : kinB ms ms' = true
  cur : r.cur (memR ms' fr)
  curM : ∀ o, (memR ms' fr o).cur (memR ms' fr)
  closed : ∀ o o', (memL 2000 ms o).refs o' → memL 2000 ms o' ≠ .none
  closedA : ∀ x ∈ args, ∀ o', x.refs o' → memL 2000 ms o' ≠ .none
  clean : ∀ o, r.refs o → memR ms' fr o ≠ .none
  closed2 : ∀ o o', (memR ms' fr o).refs o' → memR ms' fr o' ≠ .none

def initM (args : List TV) : Nat → TV := fun i => match args[i]? with
  | some v => v
  | none => .undef

theorem TOkL.length {E : Env} {m : Id → Mem} {ρ : Id → Option (Nat × Nat)} {w : World} {xs : List Value} {ts : List TV} (h : TOkL E m ρ w xs ts) : xs.length = ts.length := by
  induction h with
  | nil => rfl
  | cons _ _ ih => simp [ih]
theorem TOkL.get {E : Env} {m : Id → Mem} {ρ : Id → Option (Nat × Nat)} {w : World} {xs : List Value} {ts : List TV} (h : TOkL E m ρ w xs ts) : ∀ (j : Nat) (c : TV), ts[j]? = some c → ∃ x, xs[j]? = some x ∧ TOk E m ρ w x c := by
  induction h with
  | nil => intro j c h; simp at h
  | @cons x c xs cs h1 _ ih =>
    intro j c' h
    cases j with
    | zero => simp at h; subst h; exact ⟨x, by simp, h1⟩
    | succ j => simpa using ih j c' (by simpa using h)
theorem MEnds.at {m m2 : Id → Mem} {d : Id} {k : Nat} {l : List Mem} (h : MEnds m m2 d k l) : ∀ (j : Nat) (x : Mem), l[j]? = some x → MEnd m m2 d (m (.n (k + j))) x := by
  induction h with
  | nil k => intro j x h; simp at h
  | @cons k x l a _ ih =>
    intro j y h
    cases j with
    | zero => simp at h; subst h; exact a
    | succ j => have := ih j y (by simpa using h); rwa [show k + 1 + j = k + (j + 1) by omega] at this
theorem CREnds.rd {S S' : Nat → Prop} {m m2 : Id → Mem} {ρ ρ3 : Id → Option (Nat × Nat)} {w : World} {d : Id} (hL : ∀ b, S b → S' b) : ∀ {cs cs' : List CR} (_ : CREnds d cs cs') {xs : List Value} (_ : CRL S m ρ w xs cs),
    (∀ o p x, (∃ c ∈ cs', c.refs o) → PtrOk m ρ x (renE d o) p → PtrOk m2 ρ3 x o p) → CRL S' m2 ρ3 w xs cs' := by
  intro cs cs' hf
  induction hf with
  | nil => intro xs h _; cases h; exact .nil
  | @cons c c' l l' h _ ih =>
    intro xs hx hp
    cases hx with
    | cons a b =>
      refine .cons ?_ (ih b (fun o p x ⟨c', hc, hr⟩ => hp o p x ⟨c', by simp [hc], hr⟩))
      cases h with
      | s h => exact h _ _ _ (Rd.mono (fun b hb => ⟨hL b hb, rfl⟩) a)
      | @ptr o o' p h => subst h; exact hp o' p _ ⟨.ptr o' p, by simp, rfl⟩ a
theorem CVEnd.rd {S S' : Nat → Prop} {m m2 : Id → Mem} {ρ ρ3 : Id → Option (Nat × Nat)} {w : World} {d : Id} (hL : ∀ b, S b → S' b) {c c' : CV} (hf : CVEnd m m2 d c c') {x : Value} (h : CVk S m ρ w x c)
    (hp : ∀ o p x, c'.refs o → PtrOk m ρ x (renE d o) p → PtrOk m2 ρ3 x o p) (hh : ∀ o x, c'.refs o → HdlOk m ρ x (renE d o) (m (renE d o)).gen → HdlOk m2 ρ3 x o (m2 o).gen) : CVk S' m2 ρ3 w x c' := by
  cases hf with
  | s hs => exact hs _ _ _ (Rd.mono (fun b hb => ⟨hL b hb, rfl⟩) h)
  | @ptr o o' p he => subst he; exact hp o' p _ rfl h
  | @hdl o o' g g' he hg hg' => subst he hg hg'; exact hh o' _ rfl h
  | @clo f c c' hc => obtain ⟨us, e1, r1⟩ := h; exact ⟨us, e1, CREnds.rd hL hc r1 hp⟩
theorem CVEnds.rd {S S' : Nat → Prop} {m m2 : Id → Mem} {ρ ρ3 : Id → Option (Nat × Nat)} {w : World} {d : Id} (hL : ∀ b, S b → S' b) : ∀ {cs cs' : List CV} (_ : CVEnds m m2 d cs cs') {xs : List Value} (_ : CVL S m ρ w xs cs),
    (∀ o p x, (∃ c ∈ cs', c.refs o) → PtrOk m ρ x (renE d o) p → PtrOk m2 ρ3 x o p) → (∀ o x, (∃ c ∈ cs', c.refs o) → HdlOk m ρ x (renE d o) (m (renE d o)).gen → HdlOk m2 ρ3 x o (m2 o).gen) → CVL S' m2 ρ3 w xs cs' := by
  intro cs cs' hf
  induction hf with
  | nil => intro xs h _ _; cases h; exact .nil
  | @cons c c' l l' h _ ih =>
    intro xs hx hp hh
    cases hx with
    | cons a b =>
      exact .cons (CVEnd.rd hL h a (fun o p x hr => hp o p x ⟨c', by simp, hr⟩) (fun o x hr => hh o x ⟨c', by simp, hr⟩))
        (ih b (fun o p x ⟨c', hc, hr⟩ => hp o p x ⟨c', by simp [hc], hr⟩) (fun o x ⟨c', hc, hr⟩ => hh o x ⟨c', by simp [hc], hr⟩))
theorem DsEnd.rd {E : Env} {m : Id → Mem} {ρ : Id → Option (Nat × Nat)} {w : World} {l : List TV} {l' : List DV} (h : DsEnd l l') : ∀ {vs : List Value}, TOkL E m ρ w vs l → DRdL (L E m ρ w) w vs l' := by
  induction h with
  | nil => intro vs hv; cases hv; exact .nil
  | cons a _ ih => intro vs hv; cases hv with | cons b c => exact .cons (a _ _ _ b) (ih c)
theorem MEnd.live {m m2 : Id → Mem} {d : Id} {x y : Mem} (h : MEnd m m2 d x y) : y.live → x.live := by cases h <;> first | exact id | exact fun h => h.elim
theorem MEnd.ne {m m2 : Id → Mem} {d : Id} {x y : Mem} (h : MEnd m m2 d x y) : y ≠ .none := by cases h <;> simp
theorem MEnd.shape {m m2 : Id → Mem} {d : Id} {x y : Mem} (h : MEnd m m2 d x y) : y = .dead ∨ (x.boxy = true ∧ y.boxy = true) ∨ ∃ g g' n k, x.bldy = some (g, n, k) ∧ y.bldy = some (g', n, k) ∧ (g' = 1 → g = 1) := by
  cases h with
  | dead x => exact .inl rfl
  | bld hg _ => exact .inr (.inr ⟨_, _, _, _, rfl, rfl, hg⟩)
  | bldc hg _ => exact .inr (.inr ⟨_, _, _, _, rfl, rfl, hg⟩)
  | _ => exact .inr (.inl ⟨rfl, rfl⟩)

section
open Classical
/-- The contract's objects as they lie at the end. -/
noncomputable def rho3 (ρ : Id → Option (Nat × Nat)) (m2 : Id → Mem) (d : Id) (o : Id) : Option (Nat × Nat) := if m2 o = .none then none else ρ (renE d o)
theorem rho3_at {ρ : Id → Option (Nat × Nat)} {m2 : Id → Mem} {d : Id} {o : Id} (h : m2 o ≠ .none) : rho3 ρ m2 d o = ρ (renE d o) := if_neg h
theorem rho3_out {ρ : Id → Option (Nat × Nat)} {m2 : Id → Mem} {d : Id} {o : Id} (h : m2 o = .none) : rho3 ρ m2 d o = none := if_pos h
end

set_option maxHeartbeats 1000000 in
/-- What the walk has come to, by the contract's names. -/
theorem own_end {E : Env} {ρ : Id → Option (Nat × Nat)} {m : Id → Mem} {w : World} (hO : Own E ρ m w) {args : List TV} {ms : List Mem} {r : TV} {ms' : List Mem} {fr : Mem} (hs : SigM args ms r ms' fr) (hm0 : E.m0 = memL 2000 ms) {l : List TV} (he : EndM m ms' r fr l) :
    ∃ ρ3, Own E ρ3 (memR ms' fr) w ∧ ∀ vs, TOkL E m ρ w vs l → TOk E (memR ms' fr) ρ3 w (if h : vs.toArray.size = 1 then vs.toArray[0] else .tuple vs.toArray) r := by
  obtain ⟨d, hres, hmems, hfr⟩ := he.h
  obtain ⟨hlen', hkin⟩ := kinB_at _ _ hs.kin
  have hfew := Nat.le_of_ble_eq_true hs.few
  generalize hm2 : memR ms' fr = m2 at *
  have hcurM : ∀ o, (m2 o).cur m2 := by have := hs.curM; rwa [hm2] at this
  have hclo2 : ∀ o o', (m2 o).refs o' → m2 o' ≠ .none := by have := hs.closed2; rwa [hm2] at this
  have hend : ∀ o', m2 o' ≠ .none → MEnd m m2 d (m (renE d o')) (m2 o') ∧ ((o' = .n 3000 ∧ d.key < 2000) ∨ ∃ j, o' = .n (2000 + j) ∧ j < 1000 ∧ j < ms'.length ∧ renE d o' = o') := by
    intro o' hn
    have hn' := hn
    rw [← hm2] at hn'
    rcases memR_inv hn' with ⟨rfl, hn'⟩ | ⟨j, y, h1, rfl⟩
    · have h2 := hfr.resolve_left hn'
      have e : m2 (.n 3000) = fr := by rw [← hm2, memR_fr]
      exact ⟨by rw [e]; exact h2.1, .inl ⟨rfl, lt_of_blt h2.2⟩⟩
    · have hj := (List.getElem?_eq_some_iff.1 h1).1
      have hren : renE d (.n (2000 + j)) = .n (2000 + j) := by
        simp only [renE, beq_f (show 2000 + j ≠ 3000 by omega), cond_false]
      have e : m2 (.n (2000 + j)) = y := by rw [← hm2, memR_at (by omega) h1]
      exact ⟨by rw [hren, e]; exact hmems.at j y h1, .inr ⟨j, rfl, by omega, hj, hren⟩⟩
  have hinj : ∀ o1 o2, m2 o1 ≠ .none → m2 o2 ≠ .none → renE d o1 = renE d o2 → o1 = o2 := by
    intro o1 o2 h1 h2 e
    rcases (hend o1 h1).2 with ⟨rfl, k1⟩ | ⟨j1, rfl, q1, _, r1⟩ <;> rcases (hend o2 h2).2 with ⟨rfl, k2⟩ | ⟨j2, rfl, q2, _, r2⟩
    · rfl
    · rw [r2] at e
      have : d = .n (2000 + j2) := e
      rw [this] at k1
      simp only [Id.key] at k1
      omega
    · rw [r1] at e
      have : .n (2000 + j1) = d := e
      rw [← this] at k2
      simp only [Id.key] at k2
      omega
    · rw [r1, r2] at e; exact e
  let ρ3 := rho3 ρ m2 d
  have hlv : ∀ o', (m2 o').live → m2 o' ≠ .none := fun o' l e => by rw [e] at l; exact l
  have hlive : ∀ o' b c, (m2 o').live → ρ3 o' = some (b, c) → (m (renE d o')).live ∧ ρ (renE d o') = some (b, c) := fun o' b c l hr =>
    ⟨(hend o' (hlv o' l)).1.live l, by have := hr; rwa [show ρ3 o' = _ from rho3_at (hlv o' l)] at this⟩
  have hL : ∀ b, L E m ρ w b → L E m2 ρ3 w b := fun b hb => ⟨hb.1, fun o' c l hr => by
    obtain ⟨h1, h2⟩ := hlive o' b c l hr
    exact hb.2 _ c h1 h2⟩
  have hptr : ∀ o' p x, m2 o' ≠ .none → PtrOk m ρ x (renE d o') p → PtrOk m2 ρ3 x o' p := by
    intro o' p x hn hp
    rcases (hend o' hn).1.shape with h | ⟨h1, h2⟩ | ⟨g, g', n, k, h1, _, _⟩
    · simp only [PtrOk, h]; exact hp.oneCell
    · rw [ptrOk_boxy h2]
      have := (ptrOk_boxy h1).1 hp
      rwa [← rho3_at (ρ := ρ) hn] at this
    · exact absurd hp (ptrOk_bldy h1)
  have hhdl : ∀ o' x g, m2 o' ≠ .none → g = (m (renE d o')).gen → HdlOk m ρ x (renE d o') g → HdlOk m2 ρ3 x o' (m2 o').gen := by
    intro o' x g hn hg hp
    rcases (hend o' hn).1.shape with h | ⟨h1, h2⟩ | ⟨g0, g', n, k, h1, h2, _⟩
    · simp only [HdlOk, h]; exact ⟨hp.1, trivial⟩
    · rw [hdlOk_boxy h2]; exact hp.1
    · rw [gen_bldy h1] at hg
      subst hg
      rw [hdlOk_bldy h2, gen_bldy h2]
      obtain ⟨a1, _, a3⟩ := (hdlOk_bldy h1).1 hp
      refine ⟨a1, Nat.le_refl _, fun _ => ?_⟩
      have := a3 rfl
      simp only [HdlAt] at this ⊢
      rw [show ρ3 o' = _ from rho3_at hn]
      exact this
  refine ⟨ρ3, { below := hO.below, inj := ?_, lo := ?_, cleanM := hclo2, mem := ?_, carry := ?_ }, ?_⟩
  · intro o1 o2 b c c' l1 l2 r1 r2
    obtain ⟨a1, a2⟩ := hlive o1 b c l1 r1
    obtain ⟨b1, b2⟩ := hlive o2 b c' l2 r2
    exact hinj o1 o2 (hlv o1 l1) (hlv o2 l2) (hO.inj _ _ b c c' a1 b1 a2 b2)
  · intro o' b c l hr
    obtain ⟨a1, a2⟩ := hlive o' b c l hr
    exact hO.lo _ b c a1 a2
  · intro o'
    by_cases hn : m2 o' = .none
    · rw [hn]; trivial
    have hmem := hO.mem (renE d o')
    have hE := (hend o' hn).1
    have hcl : ∀ o'', (m2 o').refs o'' → m2 o'' ≠ .none := hclo2 o'
    have hρ : ρ3 o' = ρ (renE d o') := rho3_at hn
    have h0 := hn
    revert hmem hE hcl h0
    generalize m2 o' = y
    generalize m (renE d o') = x
    intro hmem hE hcl _
    have hp2 : ∀ o'' p x, y.refs o'' → PtrOk m ρ x (renE d o'') p → PtrOk m2 ρ3 x o'' p := fun o'' p x hr => hptr o'' p x (hcl o'' hr)
    have hh2 : ∀ o'' x, y.refs o'' → HdlOk m ρ x (renE d o'') (m (renE d o'')).gen → HdlOk m2 ρ3 x o'' (m2 o'').gen := fun o'' x hr => hhdl o'' x _ (hcl o'' hr) rfl
    cases hE with
    | dead => trivial
    | ro hl =>
      obtain ⟨b, c, us, e, h1, h0, h2, h3⟩ := hmem
      exact ⟨b, c, us, e, by rw [hρ, h1], hL b h0, h2, hl.rdL (h3.mono (fun b hb => ⟨hL b hb, rfl⟩))⟩
    | box hl =>
      obtain ⟨b, c, us, e, h1, h2, h3⟩ := hmem
      exact ⟨b, c, us, e, by rw [hρ, h1], h2, hl.rdL (h3.mono (fun b hb => ⟨hL b hb, rfl⟩))⟩
    | @boxObj l l' hl =>
      obtain ⟨b, c, us, e, h1, h2, h3⟩ := hmem
      exact ⟨b, c, us, e, by rw [hρ, h1], h2, CVEnds.rd (S := L E m ρ w) (m := m) (ρ := ρ) hL hl (CVL.ofRd h3) (fun o'' p x hr => hp2 o'' p x hr) (fun o'' x hr => hh2 o'' x hr)⟩
    | @obj l l' hl =>
      obtain ⟨b, c, us, e, h1, h2, h3⟩ := hmem
      exact ⟨b, c, us, e, by rw [hρ, h1], h2, CVEnds.rd hL hl h3 (fun o'' p x hr => hp2 o'' p x hr) (fun o'' x hr => hh2 o'' x hr)⟩
    | @bld g g' n k e get get' hg hl =>
      rcases hmem with ⟨h1, h2⟩ | ⟨b, cap, arr, h1, h2, h3, h4, h5, h7⟩
      · exact .inl ⟨by rw [hρ, h1], h2⟩
      · refine .inr ⟨b, cap, arr, by rw [hρ, h1], h2, h3, h4, h5, fun i hi q hq => ?_⟩
        obtain ⟨x, hx, hr⟩ := h7 i hi q hq
        exact ⟨x, hx, hl i hi q hq _ _ _ (hr.mono (fun b hb => ⟨hL b hb, rfl⟩))⟩
    | @bldc g g' n k e get get' hg hl =>
      rcases hmem with ⟨h1, h2⟩ | ⟨b, cap, arr, h1, h2, h3, h4, h5, h7⟩
      · exact .inl ⟨by rw [hρ, h1], h2⟩
      · refine .inr ⟨b, cap, arr, by rw [hρ, h1], h2, h3, h4, h5, fun i hi q hq => ?_⟩
        obtain ⟨x, hx, hr⟩ := h7 i hi q hq
        exact ⟨x, hx, CVEnd.rd hL (hl i hi q hq) hr (fun o'' p x hr => hp2 o'' p x ⟨i, q, hi, hq, hr⟩) (fun o'' x hr => hh2 o'' x ⟨i, q, hi, hq, hr⟩)⟩
  · intro o hn
    have hcar := hO.carry o hn
    rw [hm0] at hn
    obtain ⟨j, x, i1, rfl⟩ := memL_inv ms 2000 o hn
    have hj := (List.getElem?_eq_some_iff.1 i1).1
    have hjy : ms'[j]? = some (ms'[j]'(by omega)) := List.getElem?_eq_getElem (by omega)
    have hyn : m2 (.n (2000 + j)) ≠ .none := by
      rw [← hm2, memR_at (by omega) hjy]
      exact (hmems.at j _ hjy).ne
    obtain ⟨hE, h2⟩ := hend _ hyn
    have hren : renE d (.n (2000 + j)) = .n (2000 + j) := by
      simp only [renE, beq_f (show 2000 + j ≠ 3000 by omega), cond_false]
    rw [hren] at hE
    refine ⟨fun x p hp => hptr _ p x hyn (by rw [hren]; exact hcar.ptr x p hp), fun x hg hp => ?_⟩
    rcases hE.shape with h | ⟨_, h2⟩ | ⟨g0, g', n, k, h1, h2, h3⟩
    · rw [h] at hg; simp [Mem.gen] at hg
    · rw [gen_boxy h2] at hg; omega
    · have hg' := hg
      rw [gen_bldy h2] at hg'
      have h4 := hcar.hdl x (by rw [gen_bldy h1]; exact h3 hg') hp
      have := hhdl (.n (2000 + j)) x 1 hyn (by rw [hren, gen_bldy h1]; exact (h3 hg').symm) (by rw [hren]; exact h4)
      rwa [hg] at this
  · intro vs hv
    have hclean : ∀ o, r.refs o → m2 o ≠ .none := by have := hs.clean; rwa [hm2] at this
    cases hres with
    | none => cases hv; exact ⟨[], rfl, .nil⟩
    | two hd =>
      have hl := hd.rd hv
      cases hv with
      | cons a b => cases b with
        | cons c e => exact ⟨_, by simp, hl.mono (fun b hb => ⟨hL b hb, rfl⟩)⟩
    | one ht =>
      cases hv with
      | @cons v _ _ _ a b =>
        cases b
        show TOk E m2 ρ3 w v r
        cases ht with
        | d h => exact h _ _ _ (DRd.mono (fun b hb => ⟨hL b hb, rfl⟩) a)
        | @ptr o o' p h => subst h; exact hptr o' p v (hclean o' rfl) a
        | @hdl o o' g g' h hg hg' => subst h hg'; exact hhdl o' v g (hclean o' rfl) hg a
        | @clo f c c' h => obtain ⟨us, e1, r1⟩ := a; exact ⟨us, e1, CREnds.rd hL h r1 (fun o' p x hr => hptr o' p x (hclean o' hr))⟩

/-- A FUNCTION's MEMORY CONTRACT BY ITS WALK. -/
theorem detM_of_awp {P : Program} {TT : Tab} (hT : TabOk P TT) (hmix : P.follows .mixedOrders = true) {f : FuncId} {fn : Func} {c : Code} (hf : P.funcs[f]? = some fn) (hb : fn.body = some c) (hname : (fn.name == "runtime.NumGoroutine") = false)
    (cuts : List Nat) {args : List TV} (hlen : args.length ≤ fn.ntmps) (hN : fn.ntmps < 2000) {ms : List Mem} {r : TV} {ms' : List Mem} {fr : Mem} (hs : SigM args ms r ms' fr)
    (h : awp P TT fn.ntmps cuts c (fun e t m => match e with
      | .exit _ => False
      | .normal => resM TT t m fn.results.toList (EndM m ms' r fr)
      | .ret => resM TT t m fn.results.toList (EndM m ms' r fr)) (initM args) (memL 2000 ms)) : DetM P f args ms r ms' fr := by
  refine ⟨⟨fn, hf, hname, by rw [hb]; rfl⟩, hs.kin, hs.cur, hs.curM, hs.closed, hs.closedA, hs.clean, fun E0 vs hP hm0 hO hvs => ?_⟩
  refine calls_of_wp hf hb ?_
  let E : Env := { E0 with N := fn.ntmps, hm0 := fun k hk => by rw [hm0]; exact memL_out _ _ _ (.inl (by omega)) }
  have hO' : Own E E.ρ0 E.m0 E.w0 := { below := hO.below, inj := hO.inj, lo := hO.lo, cleanM := hO.cleanM, mem := hO.mem, carry := hO.carry }
  have hvl := hvs.length
  have hR : Rel E E.ρ0 (initM args) E.m0 { tmps := vs.toArray ++ Array.replicate (fn.ntmps - vs.toArray.size) Go.undef, defers := [] } E.w0 := by
    refine { hO' with defers := rfl, size := ?_, clean := ?_, slots := ?_ }
    · show (vs.toArray ++ Array.replicate (fn.ntmps - vs.toArray.size) Go.undef).size = fn.ntmps
      simp; omega
    · intro i o hr
      unfold initM at hr
      split at hr
      · rename_i v hv
        rw [show E.m0 = _ from hm0]
        exact hs.closedA v (List.mem_of_getElem? hv) o hr
      · exact hr.elim
    · intro i
      unfold initM
      split
      · rename_i v hv
        obtain ⟨x, hx, hxr⟩ := hvs.get i v hv
        have hlt := (List.getElem?_eq_some_iff.1 hx).1
        have e1 : (vs.toArray ++ Array.replicate (fn.ntmps - vs.toArray.size) Go.undef).getD i Go.undef = x := by
          rw [Array.getD_eq_getD_getElem?, Array.getElem?_append, if_pos (by simpa using hlt)]
          simp [hx]
        rw [e1]
        cases v <;> exact hxr
      · rename_i hv
        have hge : args.length ≤ i := List.getElem?_eq_none_iff.1 hv
        show _ = Go.undef
        rw [Array.getD_eq_getD_getElem?, Array.getElem?_append, if_neg (by simp; omega)]
        by_cases hi : i - vs.toArray.size < fn.ntmps - vs.toArray.size
        · rw [Array.getElem?_eq_getElem (by simpa using hi)]; simp
        · rw [Array.getElem?_eq_none (by simpa using hi)]; rfl
  have hwp := awp_sound hT hmix c _ _ _ h E E.ρ0 _ E.w0 hP rfl (by rw [← hm0]; exact hR)
  rw [← hP] at hwp ⊢
  refine wp_mono hwp ?_
  intro e a' w' hq
  have fin : ∀ ρ t m, resM TT t m fn.results.toList (EndM m ms' r fr) → Rel E ρ t m a' w' → a'.defers = [] ∧ ∃ v, (results fn a'.tmps).run E0.P w' = .ok v w' ∧ ∃ v' ρ', Ending.returned v = .returned v' ∧ Own E0 ρ' (memR ms' fr) w' ∧ TOk E0 (memR ms' fr) ρ' w' v' r := by
    intro ρ t m hq hR'
    obtain ⟨l, vs', hK, hl, hrun⟩ := resM_ok hT hR' hP fn.results.toList _ hq
    obtain ⟨ρ3, hO3, hres⟩ := own_end hR'.toOwn hs hm0 hK
    refine ⟨hR'.defers, _, by rw [hP]; exact results_run hrun, _, ρ3, rfl, { below := hO3.below, inj := hO3.inj, lo := hO3.lo, cleanM := hO3.cleanM, mem := hO3.mem, carry := hO3.carry }, ?_⟩
    have := hres vs' hl
    cases r <;> exact this
  cases e with
  | normal => obtain ⟨ρ, t, m, hq, hR'⟩ := hq; exact fin ρ t m hq hR'
  | ret => obtain ⟨ρ, t, m, hq, hR'⟩ := hq; exact fin ρ t m hq hR'
  | exit id => obtain ⟨ρ, t, m, hq, hR'⟩ := hq; exact hq.elim
  | goto l => exact hq.elim
  | panic ch => exact hq.elim
  | outgrown => exact hq.elim
end Go.Vm
