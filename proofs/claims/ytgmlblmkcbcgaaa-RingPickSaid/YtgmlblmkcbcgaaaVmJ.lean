/-
  An abstract walk over Go's code: regions in whatever order, branches, loops, whole functions.
-/
import Derived.Test.YtgmlblmkcbcgaaaVmI
namespace Go.Vm
set_option linter.unusedVariables false
set_option linter.unusedSimpArgs false
open Go Go.RowKit

/-! ### regions -/
def tmpsOf : List Operand → List Nat
  | [] => []
  | .tmp s :: r => s :: tmpsOf r
  | _ :: r => tmpsOf r

def maskS : List Nat → Nat
  | [] => 0
  | s :: r => 2 ^ (2 * s) ||| maskS r
def maskM : List Nat → Nat
  | [] => 0
  | s :: r => 2 ^ (2 * s + 1) ||| maskM r

def dstL : Option Nat → List Nat
  | some d => [d]
  | none => []

def dstOk (N : Nat) : Option Nat → Bool
  | some d => Nat.blt d N
  | none => true

def beqB : Bool → Bool → Bool
  | true, true => true
  | false, false => true
  | _, _ => false

abbrev Trace := List (Nat × Nat)
abbrev Stop := (Nat → TV) → (Id → Mem) → Prop

def DV.deep (v : DV) (K : DV → Prop) : Prop :=
  match v with
  | .one c => c.deep fun c => K (.one c)
  | .agg l => deepL l fun l => K (.agg l)
theorem DV.deep_iff {v : DV} {K : DV → Prop} : v.deep K ↔ K v := by
  cases v with
  | one c => exact SV.deep_iff (K := fun c => K (.one c))
  | agg l => exact deepL_iff (K := fun c => K (.agg c))
def deepDL : List DV → (List DV → Prop) → Prop
  | [], K => K []
  | c :: r, K => c.deep fun c => deepDL r fun r => K (c :: r)
theorem deepDL_iff : ∀ {l : List DV} {K : List DV → Prop}, deepDL l K ↔ K l
  | [], _ => Iff.rfl
  | c :: r, K => by simp only [deepDL]; rw [DV.deep_iff, deepDL_iff]
def TV.deep (x : TV) (K : TV → Prop) : Prop :=
  match x with
  | .d v => v.deep fun v => K (.d v)
  | .tup l => deepDL l fun l => K (.tup l)
  | .any => K .any
  | .undef => K .undef
  | .ptr o p => K (.ptr o p)
  | .hdl o g => K (.hdl o g)
  | .ep o g i f => K (.ep o g i f)
  | .sub o g lo n => K (.sub o g lo n)
  | .nb n neg => K (.nb n neg)
  | .clo f c => K (.clo f c)
theorem TV.deep_iff {x : TV} {K : TV → Prop} : x.deep K ↔ K x := by
  cases x with
  | d v => exact DV.deep_iff (K := fun c => K (.d c))
  | tup l => exact deepDL_iff (K := fun c => K (.tup c))
  | _ => exact Iff.rfl
def CV.deep (c : CV) (K : CV → Prop) : Prop :=
  match c with
  | .s c => c.deep fun c => K (.s c)
  | .ptr o p => K (.ptr o p)
  | .hdl o g => K (.hdl o g)
  | .clo f caps => K (.clo f caps)
theorem CV.deep_iff {c : CV} {K : CV → Prop} : c.deep K ↔ K c := by
  cases c with
  | s c => exact SV.deep_iff (K := fun c => K (.s c))
  | _ => exact Iff.rfl
/-- The first n cells are laid open. -/
def deepCL : Nat → List CV → (List CV → Prop) → Prop
  | 0, l, K => K l
  | _ + 1, [], K => K []
  | n + 1, c :: r, K => c.deep fun c => deepCL n r fun r => K (c :: r)
theorem deepCL_iff : ∀ {n : Nat} {l : List CV} {K : List CV → Prop}, deepCL n l K ↔ K l
  | 0, _, _ => Iff.rfl
  | _ + 1, [], _ => Iff.rfl
  | n + 1, c :: r, K => by simp only [deepCL]; rw [CV.deep_iff, deepCL_iff]
def Mem.deep (x : Mem) (K : Mem → Prop) : Prop :=
  match x with
  | .none => K .none
  | .dead => K .dead
  | .ro l => deepL l fun l => K (.ro l)
  | .box l => deepL l fun l => K (.box l)
  | .bld g n k e get => K (.bld g n k e get)
  | .obj l => deepCL 2 l fun l => K (.obj l)
  | .bldc g n k e get => K (.bldc g n k e get)
theorem Mem.deep_iff {x : Mem} {K : Mem → Prop} : x.deep K ↔ K x := by
  cases x with
  | ro l => exact deepL_iff (K := fun c => K (.ro c))
  | box l => exact deepL_iff (K := fun c => K (.box c))
  | obj l => exact deepCL_iff (K := fun c => K (.obj c))
  | _ => exact Iff.rfl

def putTW (t : Nat → TV) (d : Option Nat) (x : TV) (K : (Nat → TV) → Prop) : Prop :=
  x.deep fun x => match d with
  | some k => K (upd t k x)
  | none => K t

theorem putTW_iff {t : Nat → TV} {d : Option Nat} {x : TV} {K : (Nat → TV) → Prop} : putTW t d x K ↔ K (putT t d x) := by
  unfold putTW
  rw [TV.deep_iff]
  cases d <;> exact Iff.rfl

def putMW (m : Id → Mem) (ms : List (Id × Mem)) (K : (Id → Mem) → Prop) : Prop :=
  match ms with
  | [] => K m
  | p :: r => match p with
    | (o, x) => x.deep fun x => putMW (upd m o x) r K

theorem putMW_iff : ∀ {ms : List (Id × Mem)} {m : Id → Mem} {K : (Id → Mem) → Prop}, putMW m ms K ↔ K (putM m ms)
  | [], _, _ => Iff.rfl
  | (o, x) :: r, m, K => by simp only [putMW, putM]; rw [Mem.deep_iff]; exact putMW_iff

def entryW (draw : Bool) (o : Oper) (gs : List Nat) (mo : List (Id × Mem)) (rd : List Nat) (tr : Trace) (K : Trace → Prop) : Prop :=
  match draw with
  | true => K ((maskS (gs ++ tmpsOf o.op.operands.toList) ||| maskM rd, maskS (dstL o.dst) ||| maskM (mo.map fun p => p.1.key)) :: tr)
  | false => K tr

def entry (draw : Bool) (o : Oper) (gs : List Nat) (mo : List (Id × Mem)) (rd : List Nat) (tr : Trace) : Trace :=
  bif draw then (maskS (gs ++ tmpsOf o.op.operands.toList) ||| maskM rd, maskS (dstL o.dst) ||| maskM (mo.map fun p => p.1.key)) :: tr else tr

theorem entryW_iff {draw : Bool} {o : Oper} {gs : List Nat} {mo : List (Id × Mem)} {rd : List Nat} {tr : Trace} {K : Trace → Prop} : entryW draw o gs mo rd tr K ↔ K (entry draw o gs mo rd tr) := by
  cases draw <;> exact Iff.rfl

def opStep (P : Program) (TT : Tab) (fl : List Nat) (N : Nat) (ops : Array Oper) (draw : Bool) (o : Oper) (ih : (Nat → TV) → (Id → Mem) → Trace → ((Nat → TV) → (Id → Mem) → Trace → Prop) → Prop) (t : Nat → TV) (m : Id → Mem) (tr : Trace) (K : (Nat → TV) → (Id → Mem) → Trace → Prop) : Prop :=
  bif dstOk N o.dst then
      match o.guard with
      | none => opW P TT fl o t m fun x mo rd => putTW t o.dst x fun t' => putMW m mo fun m' => entryW draw o [] mo rd tr fun tr => ih t' m' tr K
      | some (j, want) => match (ops[j]?).bind (·.dst) with
        | some g => match t g with
          | .d (.one (.v (.bool b))) => Split b fun b => bif beqB b want then
                opW P TT fl o (upd t g (tbool b)) m fun x mo rd => putTW (upd t g (tbool b)) o.dst x fun t' => putMW m mo fun m' => entryW draw o [g] mo rd tr fun tr => ih t' m' tr K
              else putTW (upd t g (tbool b)) o.dst .undef fun t' => entryW draw o [g] [] [] tr fun tr => ih t' m tr K
          | .undef => putTW t o.dst .undef fun t' => entryW draw o [g] [] [] tr fun tr => ih t' m tr K
          | _ => False
        | none => False
    else False
/-- A region's walk, by the list's own recursor: the kernel then meets the same terms as the elaborator. -/
def regW (P : Program) (TT : Tab) (fl : List Nat) (N : Nat) (ops : Array Oper) (draw : Bool) (os : List Oper) : (Nat → TV) → (Id → Mem) → Trace → ((Nat → TV) → (Id → Mem) → Trace → Prop) → Prop :=
  List.rec (motive := fun _ => (Nat → TV) → (Id → Mem) → Trace → ((Nat → TV) → (Id → Mem) → Trace → Prop) → Prop) (fun t m tr K => K t m tr) (fun o _ ih => opStep P TT fl N ops draw o ih) os
theorem regW_cons {P : Program} {TT : Tab} {fl : List Nat} {N : Nat} {ops : Array Oper} {draw : Bool} {o : Oper} {r : List Oper} {t : Nat → TV} {m : Id → Mem} {tr : Trace} {K : (Nat → TV) → (Id → Mem) → Trace → Prop} :
    regW P TT fl N ops draw (o :: r) t m tr K = opStep P TT fl N ops draw o (regW P TT fl N ops draw r) t m tr K := rfl

structure Ent where
  dst : Option Nat
  x : TV
  mo : List (Id × Mem)
  rdS : List Nat
  rdM : List Nat

def Ent.mask (e : Ent) : Nat × Nat := (maskS e.rdS ||| maskM e.rdM, maskS (dstL e.dst) ||| maskM (e.mo.map fun p => p.1.key))

/-- One operation of a region, run or passed over: true wherever what it looks at is as it was. -/
def EntOk (P : Program) (N : Nat) (ops : Array Oper) (o : Oper) (e : Ent) (t : Nat → TV) (m : Id → Mem) : Prop :=
  ∀ (E : Env) (ρ : Id → Option (Nat × Nat)) (t' : Nat → TV) (m' : Id → Mem) (a : Act) (w : World), E.P = P → E.N = N → (∀ s ∈ e.rdS, t' s = t s) → Same e.rdM m m' → Rel E ρ t' m' a w →
    ∀ (K : Act → World → Prop) (Q : Exit → Act → World → Prop), (∀ ρ' a' w', Rel E ρ' (putT t' e.dst e.x) (putM m' e.mo) a' w' → K a' w') →
      if Region.wanted o (yielded ops a.tmps) then o.wp P a w K Q else K (a.put o.dst Go.undef) w

inductive Ents (P : Program) (N : Nat) (ops : Array Oper) : List Oper → List Ent → (Nat → TV) → (Id → Mem) → (Nat → TV) → (Id → Mem) → Prop where
  | nil (t : Nat → TV) (m : Id → Mem) : Ents P N ops [] [] t m t m
  | cons {o : Oper} {e : Ent} {os : List Oper} {es : List Ent} {t t' : Nat → TV} {m m' : Id → Mem} (h : EntOk P N ops o e t m) (hr : Ents P N ops os es (putT t e.dst e.x) (putM m e.mo) t' m') : Ents P N ops (o :: os) (e :: es) t m t' m'

theorem bif_true {p q : Prop} (h : bif true then p else q) : p := h
theorem bif_false {p q : Prop} (h : bif false then p else q) : q := h

theorem mem_tmpsOf : ∀ {l : List Operand} {s : Nat}, Operand.tmp s ∈ l → s ∈ tmpsOf l
  | [], _, h => by simp at h
  | x :: r, s, h => by
    rcases List.mem_cons.1 h with rfl | h
    · simp [tmpsOf]
    · have := mem_tmpsOf h
      cases x <;> simp [tmpsOf, this]

theorem yielded_eq {ops : Array Oper} {tmps : Array Value} {j g : Nat} (h : (ops[j]?).bind (·.dst) = some g) :
    (∀ b, tmps.getD g Go.undef = .bool b → yielded ops tmps j = some b) ∧ (tmps.getD g Go.undef = Go.undef → yielded ops tmps j = none) := by
  unfold yielded
  rw [h]
  simp only [Option.bind_some, Array.getD_eq_getD_getElem?]
  cases hq : tmps[g]? with
  | none => exact ⟨fun b hb => by simp [Go.undef] at hb, fun _ => rfl⟩
  | some v =>
    simp only [Option.getD_some]
    exact ⟨fun b hb => by rw [hb], fun hb => by rw [hb]; rfl⟩

theorem regW_ents {P : Program} {TT : Tab} (hT : TabOk P TT) {fl : List Nat} {N : Nat} {ops : Array Oper} {draw : Bool} : ∀ (os : List Oper) (t : Nat → TV) (m : Id → Mem) (tr : Trace) (K : (Nat → TV) → (Id → Mem) → Trace → Prop), regW P TT fl N ops draw os t m tr K →
    ∃ es t' m', Ents P N ops os es t m t' m' ∧ K t' m' (bif draw then (es.map Ent.mask).reverse ++ tr else tr) ∧ (∀ (i : Nat) (o : Oper) (e : Ent), os[i]? = some o → es[i]? = some e → e.dst = o.dst)
  | [], t, m, tr, K, h => ⟨[], t, m, .nil t m, by cases draw <;> exact h, by simp⟩
  | o :: r, t, m, tr, K, h => by
    rw [regW_cons] at h
    unfold opStep at h
    replace h := bif_and h; obtain ⟨hd, h⟩ := h
    have hdst : ∀ k, o.dst = some k → k < N := by
      intro k hk
      rw [hk] at hd
      exact lt_of_blt hd
    have fin : ∀ (e : Ent) (gs : List Nat) (rd : List Nat), EntOk P N ops o e t m → e.dst = o.dst → e.rdS = gs ++ tmpsOf o.op.operands.toList → e.rdM = rd →
        regW P TT fl N ops draw r (putT t e.dst e.x) (putM m e.mo) (entry draw o gs e.mo rd tr) K →
        ∃ es t' m', Ents P N ops (o :: r) es t m t' m' ∧ K t' m' (bif draw then (es.map Ent.mask).reverse ++ tr else tr) ∧ (∀ (i : Nat) (o' : Oper) (e : Ent), (o :: r)[i]? = some o' → es[i]? = some e → e.dst = o'.dst) := by
      intro e gs rd he hed hS hM hr
      obtain ⟨es, t', m', h1, h2, h3⟩ := regW_ents hT r _ _ _ K hr
      refine ⟨e :: es, t', m', .cons he h1, ?_, ?_⟩
      · have hmask : e.mask = (maskS (gs ++ tmpsOf o.op.operands.toList) ||| maskM rd, maskS (dstL o.dst) ||| maskM (e.mo.map fun p => p.1.key)) := by
          unfold Ent.mask
          rw [hS, hM, hed]
        cases draw with
        | false => exact h2
        | true =>
          simp only [entry, cond_true] at h2 ⊢
          rw [← hmask] at h2
          simpa using h2
      · intro i o' e' hi he'
        cases i with
        | zero => simp at hi he'; subst hi; subst he'; exact hed
        | succ i => exact h3 i o' e' (by simpa using hi) (by simpa using he')
    cases hg : o.guard with
    | none =>
      simp only [hg] at h
      obtain ⟨x, mo, rd, h, hok⟩ := opW_ok hT h
      rw [putTW_iff, putMW_iff, entryW_iff] at h
      refine fin ⟨o.dst, x, mo, tmpsOf o.op.operands.toList, rd⟩ [] rd ?_ rfl rfl rfl h
      intro E ρ t' m' a w hP hN hS hM hR K Q hK
      rw [if_pos (by simp [Region.wanted, hg])]
      exact hok E ρ t' m' a w hP (fun s hs => hS s (mem_tmpsOf hs)) hM (fun k hk => by rw [hN]; exact hdst k hk) hR K Q hK
    | some gd =>
      obtain ⟨j, want⟩ := gd
      simp only [hg] at h
      cases hj : (ops[j]?).bind (·.dst) with
      | none => simp only [hj] at h
      | some g =>
        simp only [hj] at h
        split at h
        · rename_i b hb
          have h := h.elim
          have hb' : t g = tbool b := hb
          have hu : upd t g (tbool b) = t := by rw [← hb']; exact upd_self t g
          rw [hu] at h
          cases hw : beqB b want with
          | true =>
            rw [hw] at h
            have hbw : b = want := by revert hw; cases b <;> cases want <;> simp [beqB]
            obtain ⟨x, mo, rd, h, hok⟩ := opW_ok hT (bif_true h)
            rw [putTW_iff, putMW_iff, entryW_iff] at h
            refine fin ⟨o.dst, x, mo, [g] ++ tmpsOf o.op.operands.toList, rd⟩ [g] rd ?_ rfl rfl rfl h
            intro E ρ t' m' a w hP hN hS hM hR K Q hK
            have hs := hR.slots g
            rw [hS g (by simp), hb] at hs
            have hv := (Rd.inv_v (show Rd _ _ _ _ from hs)).1
            rw [if_pos (by simp [Region.wanted, hg, (yielded_eq hj).1 b hv, hbw])]
            exact hok E ρ t' m' a w hP (fun s hs => hS s (by simp [mem_tmpsOf hs])) hM (fun k hk => by rw [hN]; exact hdst k hk) hR K Q hK
          | false =>
            rw [hw] at h
            have hbw : b ≠ want := by revert hw; cases b <;> cases want <;> simp [beqB]
            have h := (putTW_iff (t := t) (d := o.dst) (x := .undef)).1 (bif_false h)
            rw [entryW_iff] at h
            refine fin ⟨o.dst, .undef, [], [g] ++ tmpsOf o.op.operands.toList, []⟩ [g] [] ?_ rfl rfl rfl h
            intro E ρ t' m' a w hP hN hS hM hR K Q hK
            have hs := hR.slots g
            rw [hS g (by simp), hb] at hs
            have hv := (Rd.inv_v (show Rd _ _ _ _ from hs)).1
            rw [if_neg (by simp [Region.wanted, hg, (yielded_eq hj).1 b hv, hbw])]
            exact hK ρ _ w (hR.put (fun k hk => by rw [hN]; exact hdst k hk) rfl (fun _ h => h.elim))
        · rename_i hb
          have h := (putTW_iff (t := t) (d := o.dst) (x := .undef)).1 h
          rw [entryW_iff] at h
          refine fin ⟨o.dst, .undef, [], [g] ++ tmpsOf o.op.operands.toList, []⟩ [g] [] ?_ rfl rfl rfl h
          intro E ρ t' m' a w hP hN hS hM hR K Q hK
          have hs := hR.slots g
          rw [hS g (by simp), hb] at hs
          rw [if_neg (by simp [Region.wanted, hg, (yielded_eq hj).2 hs])]
          exact hK ρ _ w (hR.put (fun k hk => by rw [hN]; exact hdst k hk) rfl (fun _ h => h.elim))
        · exact h.elim

/-- A region in the order of its text. -/
theorem ents_list {P : Program} {N : Nat} {ops : Array Oper} {os : List Oper} {es : List Ent} {t t' : Nat → TV} {m m' : Id → Mem} (h : Ents P N ops os es t m t' m') :
    ∀ (E : Env) (ρ : Id → Option (Nat × Nat)) (a : Act) (w : World), E.P = P → E.N = N → Rel E ρ t m a w → ∀ (Q : Exit → Act → World → Prop), (∀ ρ' a' w', Rel E ρ' t' m' a' w' → Q .normal a' w') → wpList P ops Q os a w := by
  induction h with
  | nil t m => intro E ρ a w _ _ hR Q hQ; exact hQ ρ a w hR
  | @cons o e os es t t' m m' he hr ih =>
    intro E ρ a w hP hN hR Q hQ
    have h1 := he E ρ t m a w hP hN (fun _ _ => rfl) (fun _ _ => rfl) hR (wpList P ops Q os) Q (fun ρ' a' w' hR' => ih E ρ' a' w' hP hN hR' Q hQ)
    unfold wpList
    split
    · rename_i hw; rw [if_pos hw] at h1; exact .inl h1
    · rename_i hw; rw [if_neg hw] at h1; exact h1

/-! ### whatever order the edges allow -/
def befMask (acc : List Nat) (o : Oper) : Nat :=
  o.after.toList.foldl (fun s e => bif Region.binds .any e then s ||| 2 ^ e.on ||| acc.getD e.on 0 else s) 0
def befs : List Oper → List Nat → List Nat
  | [], acc => acc
  | o :: os, acc => befs os (acc ++ [befMask acc o])

def conf (a b : Nat × Nat) : Bool := !(((a.2 &&& (b.1 ||| b.2)) ||| (a.1 &&& b.2)) == 0)

def chk (ops : List Oper) (tr : Trace) : Bool :=
  let bs := befs ops []
  (List.range ops.length).all fun j =>
    ((ops[j]?).map fun o => o.after.toList.all fun e => !Region.binds .any e || Nat.blt e.on j).getD false &&
    (List.range j).all fun i => !(conf (tr.getD i (0, 0)) (tr.getD j (0, 0))) || (bs.getD j 0).testBit i

theorem testBit_maskS : ∀ {l : List Nat} {s : Nat}, s ∈ l → (maskS l).testBit (2 * s) = true
  | [], _, h => by simp at h
  | x :: r, s, h => by
    simp only [maskS, Nat.testBit_or]
    rcases List.mem_cons.1 h with rfl | h
    · simp [Nat.testBit_two_pow_self]
    · simp [testBit_maskS h]
theorem testBit_maskM : ∀ {l : List Nat} {s : Nat}, s ∈ l → (maskM l).testBit (2 * s + 1) = true
  | [], _, h => by simp at h
  | x :: r, s, h => by
    simp only [maskM, Nat.testBit_or]
    rcases List.mem_cons.1 h with rfl | h
    · simp [Nat.testBit_two_pow_self]
    · simp [testBit_maskM h]

theorem conf_of {a b : Nat × Nat} (p : Nat) (h : (a.2.testBit p = true ∧ (b.1.testBit p = true ∨ b.2.testBit p = true)) ∨ (a.1.testBit p = true ∧ b.2.testBit p = true)) : conf a b = true := by
  unfold conf
  cases hq : ((a.2 &&& (b.1 ||| b.2)) ||| (a.1 &&& b.2)) == 0 with
  | false => rfl
  | true =>
    have h0 : ((a.2 &&& (b.1 ||| b.2)) ||| (a.1 &&& b.2)) = 0 := by simpa using hq
    have h1 := congrArg (fun n => Nat.testBit n p) h0
    simp only [Nat.testBit_or, Nat.testBit_and, Nat.zero_testBit] at h1
    rcases h with ⟨h2, h3⟩ | ⟨h2, h3⟩
    · rcases h3 with h3 | h3 <;> simp [h2, h3] at h1
    · simp [h2, h3] at h1

def wS (e : Ent) (s : Nat) : Prop := e.dst = some s
def wM (e : Ent) (o : Id) : Prop := o ∈ e.mo.map (·.1)

theorem conf_slot {a b : Ent} {s : Nat} (h : wS a s ∧ (s ∈ b.rdS ∨ wS b s) ∨ s ∈ a.rdS ∧ wS b s) : conf a.mask b.mask = true := by
  have hw : ∀ e : Ent, wS e s → e.mask.2.testBit (2 * s) = true := fun e he => by
    unfold wS at he
    simp only [Ent.mask, he, dstL, Nat.testBit_or]
    simp [testBit_maskS (l := [s]) (s := s) (by simp)]
  have hr : ∀ e : Ent, s ∈ e.rdS → e.mask.1.testBit (2 * s) = true := fun e he => by
    simp only [Ent.mask, Nat.testBit_or, testBit_maskS he, Bool.true_or]
  refine conf_of (2 * s) ?_
  rcases h with ⟨h1, h2 | h2⟩ | ⟨h1, h2⟩
  · exact .inl ⟨hw a h1, .inl (hr b h2)⟩
  · exact .inl ⟨hw a h1, .inr (hw b h2)⟩
  · exact .inr ⟨hr a h1, hw b h2⟩

theorem conf_obj {a b : Ent} {s : Id} (h : wM a s ∧ (s.key ∈ b.rdM ∨ wM b s) ∨ s.key ∈ a.rdM ∧ wM b s) : conf a.mask b.mask = true := by
  have hw : ∀ e : Ent, wM e s → e.mask.2.testBit (2 * s.key + 1) = true := fun e he => by
    unfold wM at he
    obtain ⟨p, hp, rfl⟩ := List.mem_map.1 he
    simp only [Ent.mask, Nat.testBit_or, testBit_maskM (List.mem_map.2 ⟨p, hp, rfl⟩), Bool.or_true]
  have hr : ∀ e : Ent, s.key ∈ e.rdM → e.mask.1.testBit (2 * s.key + 1) = true := fun e he => by
    simp only [Ent.mask, Nat.testBit_or, testBit_maskM he, Bool.or_true]
  refine conf_of (2 * s.key + 1) ?_
  rcases h with ⟨h1, h2 | h2⟩ | ⟨h1, h2⟩
  · exact .inl ⟨hw a h1, .inl (hr b h2)⟩
  · exact .inl ⟨hw a h1, .inr (hw b h2)⟩
  · exact .inr ⟨hr a h1, hw b h2⟩

/-- The walk's state when just the operations of S are done. -/
def fT : List Ent → (Nat → Bool) → Nat → (Nat → TV) → Nat → TV
  | [], _, _, t => t
  | e :: es, S, k, t => fT es S (k + 1) (if S k then putT t e.dst e.x else t)
def fM : List Ent → (Nat → Bool) → Nat → (Id → Mem) → Id → Mem
  | [], _, _, m => m
  | e :: es, S, k, m => fM es S (k + 1) (if S k then putM m e.mo else m)

theorem putT_ne {t : Nat → TV} {d : Option Nat} {x : TV} {s : Nat} (h : d ≠ some s) : putT t d x s = t s := by
  cases d with
  | none => rfl
  | some k => exact upd_ne _ _ _ (fun e => h (by rw [e]))
theorem putT_eq {t : Nat → TV} {d : Option Nat} {x : TV} {s : Nat} (h : d = some s) : putT t d x s = x := by
  subst h; exact upd_same _ _ _
theorem putM_ne : ∀ {mo : List (Id × Mem)} {m : Id → Mem} {o : Id}, o ∉ mo.map (·.1) → putM m mo o = m o
  | [], _, _, _ => rfl
  | (o', x) :: r, m, o, h => by
    simp only [List.map_cons, List.mem_cons, not_or] at h
    simp only [putM]
    rw [putM_ne h.2, upd_ne _ _ _ h.1]
theorem putM_eq : ∀ {mo : List (Id × Mem)} {m m' : Id → Mem} {o : Id}, o ∈ mo.map (·.1) → putM m mo o = putM m' mo o
  | [], _, _, _, h => by simp at h
  | (o', x) :: r, m, m', o, h => by
    simp only [putM]
    by_cases hr : o ∈ r.map (·.1)
    · exact putM_eq hr
    · rw [putM_ne hr, putM_ne hr]
      have e : o = o' := by
        simp only [List.map_cons, List.mem_cons] at h
        rcases h with h | h
        · exact h
        · exact absurd h hr
      subst e
      rw [upd_same, upd_same]

theorem fT_agree : ∀ (es : List Ent) (S S' : Nat → Bool) (k : Nat) (t t' : Nat → TV) (s : Nat), t s = t' s → (∀ i e, es[i]? = some e → wS e s → S (k + i) = S' (k + i)) → fT es S k t s = fT es S' k t' s
  | [], _, _, _, _, _, _, h, _ => h
  | e :: es, S, S', k, t, t', s, h, hw => by
    simp only [fT]
    refine fT_agree es S S' (k + 1) _ _ s ?_ (fun i e' hi hws => by
      have := hw (i + 1) e' (by simpa using hi) hws
      rwa [show k + (i + 1) = k + 1 + i by omega] at this)
    by_cases hws : wS e s
    · have h0 := hw 0 e rfl hws
      simp only [Nat.add_zero] at h0
      rw [h0]
      split
      · rw [putT_eq hws, putT_eq hws]
      · exact h
    · have hne : e.dst ≠ some s := hws
      have e1 : (if S k = true then putT t e.dst e.x else t) s = t s := by split; exact putT_ne hne; rfl
      have e2 : (if S' k = true then putT t' e.dst e.x else t') s = t' s := by split; exact putT_ne hne; rfl
      rw [e1, e2, h]

theorem fM_agree : ∀ (es : List Ent) (S S' : Nat → Bool) (k : Nat) (m m' : Id → Mem) (o : Id), m o = m' o → (∀ i e, es[i]? = some e → wM e o → S (k + i) = S' (k + i)) → fM es S k m o = fM es S' k m' o
  | [], _, _, _, _, _, _, h, _ => h
  | e :: es, S, S', k, m, m', o, h, hw => by
    simp only [fM]
    refine fM_agree es S S' (k + 1) _ _ o ?_ (fun i e' hi hws => by
      have := hw (i + 1) e' (by simpa using hi) hws
      rwa [show k + (i + 1) = k + 1 + i by omega] at this)
    by_cases hws : wM e o
    · have h0 := hw 0 e rfl hws
      simp only [Nat.add_zero] at h0
      rw [h0]
      split
      · exact putM_eq hws
      · exact h
    · have hne : o ∉ e.mo.map (·.1) := hws
      have e1 : (if S k = true then putM m e.mo else m) o = m o := by split; exact putM_ne hne; rfl
      have e2 : (if S' k = true then putM m' e.mo else m') o = m' o := by split; exact putM_ne hne; rfl
      rw [e1, e2, h]

theorem fT_off (es : List Ent) (S : Nat → Bool) (k : Nat) (t : Nat → TV) (s : Nat) (h : ∀ i e, es[i]? = some e → wS e s → S (k + i) = false) : fT es S k t s = t s := by
  induction es generalizing k t with
  | nil => rfl
  | cons e es ih =>
    simp only [fT]
    rw [ih (k + 1) _ (fun i e' hi hws => by
      have := h (i + 1) e' (by simpa using hi) hws
      rwa [show k + (i + 1) = k + 1 + i by omega] at this)]
    by_cases hws : wS e s
    · have h0 := h 0 e rfl hws
      simp only [Nat.add_zero] at h0
      rw [h0]; rfl
    · split
      · exact putT_ne hws
      · rfl
theorem fM_off (es : List Ent) (S : Nat → Bool) (k : Nat) (m : Id → Mem) (o : Id) (h : ∀ i e, es[i]? = some e → wM e o → S (k + i) = false) : fM es S k m o = m o := by
  induction es generalizing k m with
  | nil => rfl
  | cons e es ih =>
    simp only [fM]
    rw [ih (k + 1) _ (fun i e' hi hws => by
      have := h (i + 1) e' (by simpa using hi) hws
      rwa [show k + (i + 1) = k + 1 + i by omega] at this)]
    by_cases hws : wM e o
    · have h0 := h 0 e rfl hws
      simp only [Nat.add_zero] at h0
      rw [h0]; rfl
    · split
      · exact putM_ne hws
      · rfl

/-- The last writer's word stands. -/
theorem fT_last : ∀ (es : List Ent) (S : Nat → Bool) (k : Nat) (t : Nat → TV) (s : Nat) (i : Nat) (e : Ent), es[i]? = some e → wS e s → S (k + i) = true → (∀ j e', es[j]? = some e' → i < j → wS e' s → S (k + j) = false) → fT es S k t s = e.x
  | [], _, _, _, _, i, e, h, _, _, _ => by simp at h
  | e0 :: es, S, k, t, s, 0, e, h, hw, hs, hl => by
    simp at h; subst h
    simp only [fT]
    rw [fT_off es S (k + 1) _ s (fun j e' hj hws => by
      have := hl (j + 1) e' (by simpa using hj) (by omega) hws
      rwa [show k + (j + 1) = k + 1 + j by omega] at this)]
    simp only [Nat.add_zero] at hs
    rw [hs]
    exact putT_eq hw
  | e0 :: es, S, k, t, s, i + 1, e, h, hw, hs, hl => by
    simp only [fT]
    exact fT_last es S (k + 1) _ s i e (by simpa using h) hw (by rwa [show k + (i + 1) = k + 1 + i by omega] at hs) (fun j e' hj hij hws => by
      have := hl (j + 1) e' (by simpa using hj) (by omega) hws
      rwa [show k + (j + 1) = k + 1 + j by omega] at this)
theorem fM_last : ∀ (es : List Ent) (S : Nat → Bool) (k : Nat) (m m' : Id → Mem) (o : Id) (i : Nat) (e : Ent), es[i]? = some e → wM e o → S (k + i) = true → (∀ j e', es[j]? = some e' → i < j → wM e' o → S (k + j) = false) → fM es S k m o = putM m' e.mo o
  | [], _, _, _, _, _, i, e, h, _, _, _ => by simp at h
  | e0 :: es, S, k, m, m', o, 0, e, h, hw, hs, hl => by
    simp at h; subst h
    simp only [fM]
    rw [fM_off es S (k + 1) _ o (fun j e' hj hws => by
      have := hl (j + 1) e' (by simpa using hj) (by omega) hws
      rwa [show k + (j + 1) = k + 1 + j by omega] at this)]
    simp only [Nat.add_zero] at hs
    rw [hs]
    exact putM_eq hw
  | e0 :: es, S, k, m, m', o, i + 1, e, h, hw, hs, hl => by
    simp only [fM]
    exact fM_last es S (k + 1) _ m' o i e (by simpa using h) hw (by rwa [show k + (i + 1) = k + 1 + i by omega] at hs) (fun j e' hj hij hws => by
      have := hl (j + 1) e' (by simpa using hj) (by omega) hws
      rwa [show k + (j + 1) = k + 1 + j by omega] at this)

theorem Ents.length {P : Program} {N : Nat} {ops : Array Oper} {os : List Oper} {es : List Ent} {t t' : Nat → TV} {m m' : Id → Mem} (h : Ents P N ops os es t m t' m') : es.length = os.length := by
  induction h with
  | nil => rfl
  | cons _ _ ih => simp [ih]

theorem Ents.final {P : Program} {N : Nat} {ops : Array Oper} {os : List Oper} {es : List Ent} {t t' : Nat → TV} {m m' : Id → Mem} (h : Ents P N ops os es t m t' m') : ∀ (S : Nat → Bool) (k : Nat), (∀ i, i < es.length → S (k + i) = true) → fT es S k t = t' ∧ fM es S k m = m' := by
  induction h with
  | nil => intro S k _; exact ⟨rfl, rfl⟩
  | @cons o e os es t t' m m' he hr ih =>
    intro S k hS
    have h0 := hS 0 (by simp)
    simp only [Nat.add_zero] at h0
    simp only [fT, fM, h0, if_true]
    exact ih S (k + 1) (fun i hi => by
      have := hS (i + 1) (by simpa using hi)
      rwa [show k + (i + 1) = k + 1 + i by omega] at this)

theorem Ents.at {P : Program} {N : Nat} {ops : Array Oper} {os : List Oper} {es : List Ent} {t t' : Nat → TV} {m m' : Id → Mem} (h : Ents P N ops os es t m t' m') : ∀ (k i : Nat) (o : Oper) (e : Ent), os[i]? = some o → es[i]? = some e →
    EntOk P N ops o e (fT es (fun j => decide (j < k + i)) k t) (fM es (fun j => decide (j < k + i)) k m) := by
  induction h with
  | nil => intro k i o e h; simp at h
  | @cons o0 e0 os es t t' m m' he hr ih =>
    intro k i o e ho hi
    cases i with
    | zero =>
      simp at ho hi
      subst ho; subst hi
      have h1 : fT (e0 :: es) (fun j => decide (j < k + 0)) k t = t := by
        funext s
        exact fT_off _ _ _ _ _ (fun i _ _ _ => by simp)
      have h2 : fM (e0 :: es) (fun j => decide (j < k + 0)) k m = m := by
        funext s
        exact fM_off _ _ _ _ _ (fun i _ _ _ => by simp)
      rw [h1, h2]
      exact he
    | succ i =>
      have := ih (k + 1) i o e (by simpa using ho) (by simpa using hi)
      simp only [fT, fM, show k < k + (i + 1) from by omega, decide_true, if_true]
      rwa [show k + 1 + i = k + (i + 1) by omega] at this
end Go.Vm
