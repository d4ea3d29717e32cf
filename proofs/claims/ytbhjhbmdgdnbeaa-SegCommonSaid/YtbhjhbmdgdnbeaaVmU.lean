/-
  What a walk is typed with: branches, calls, ends, loops.
-/
import Derived.Test.YtbhjhbmdgdnbeaaVmR
namespace Go.Vm
open Go Go.RowKit

/-! ### tables of types -/
def tabL : List (TypeId × Ty) → Tab
  | [] => fun _ => none
  | p :: r => fun t => bif Nat.beq t p.1 then some p.2 else tabL r t
inductive TyAll (P : Program) : List (TypeId × Ty) → Prop where
  | nil : TyAll P []
  | cons {t : TypeId} {T : Ty} {r : List (TypeId × Ty)} (h : TyOk P t T) (hr : TyAll P r) : TyAll P ((t, T) :: r)
theorem tabL_ok {P : Program} {l : List (TypeId × Ty)} (h : TyAll P l) : TabOk P (tabL l) := by
  induction h with
  | nil => intro t T h; simp [tabL] at h
  | @cons t0 T0 r h _ ih =>
    intro t T ht
    simp only [tabL] at ht
    cases hb : Nat.beq t t0 with
    | true =>
      rw [hb] at ht
      simp only [cond_true, Option.some.injEq] at ht
      obtain rfl := Nat.eq_of_beq_eq_true hb
      subst ht
      exact h
    | false => rw [hb] at ht; exact ih t T ht

/-! ### branches -/
theorem Split.t {K : Bool → Prop} (h : K true) : Split true K := ⟨fun _ => h, fun h => by cases h⟩
theorem Split.f {K : Bool → Prop} (h : K false) : Split false K := ⟨fun h => (by cases h), fun _ => h⟩
theorem Split.isT {b : Bool} {K : Bool → Prop} (hb : b = true) (h : K true) : Split b K := ⟨fun _ => h, fun h' => by rw [hb] at h'; cases h'⟩
theorem Split.isF {b : Bool} {K : Bool → Prop} (hb : b = false) (h : K false) : Split b K := ⟨fun h' => (by rw [hb] at h'; cases h'), fun _ => h⟩

/-! ### what says less -/
def SLe (c c' : SV) : Prop := ∀ (S : Nat → Prop) (w : World) (x : Value), Rd S w x c → Rd S w x c'
theorem SLe.refl (c : SV) : SLe c c := fun _ _ _ h => h
theorem SLe.trans {a b c : SV} (h : SLe a b) (k : SLe b c) : SLe a c := fun S w x r => k S w x (h S w x r)
theorem SLe.of_eq {a b : SV} (h : a = b) : SLe a b := h ▸ SLe.refl a
theorem SLe.nil (k : Nat) (get : Nat → Nat → SV) : SLe (.v (.slice none 0 0)) (.sl 0 k get) := fun S w x r => by
  rw [(Rd.inv_v r).1]; exact .nil k get
theorem SLe.sl {n k : Nat} {g g' : Nat → Nat → SV} (h : ∀ i, i < n → ∀ j, j < k → SLe (g i j) (g' i j)) : SLe (.sl n k g) (.sl n k g') := fun S w x r => by
  rcases Rd.inv_sl r with ⟨rfl, rfl⟩ | ⟨a, cap, rfl, rfl⟩ | ⟨b, off, cap, xs, rfl, h1, h2, h3, h4, h5⟩
  · exact .nil _ _
  · exact .emp _ _ _ _
  · exact .sl xs h1 h2 h3 h4 (fun i hi j hj => h i hi j hj S w _ (h5 i hi j hj))
theorem SLe.sl0 {k k' : Nat} {g g' : Nat → Nat → SV} : SLe (.sl 0 k g) (.sl 0 k' g') := fun S w x r => by
  rcases Rd.inv_sl r with ⟨rfl, _⟩ | ⟨a, cap, rfl, _⟩ | ⟨b, off, cap, xs, rfl, h1, h2, h3, h4, h5⟩
  · exact .nil _ _
  · exact .emp _ _ _ _
  · exact .emp _ _ _ _

inductive LLe : List SV → List SV → Prop where
  | nil : LLe [] []
  | cons {c c' : SV} {l l' : List SV} (h : SLe c c') (r : LLe l l') : LLe (c :: l) (c' :: l')
theorem LLe.refl : ∀ (l : List SV), LLe l l
  | [] => .nil
  | c :: l => .cons (SLe.refl c) (LLe.refl l)
theorem LLe.rd {l l' : List SV} (h : LLe l l') {S : Nat → Prop} {w : World} {xs : List Value} (r : RdL S w xs l) : RdL S w xs l' := by
  induction h generalizing xs with
  | nil => exact r
  | cons h _ ih =>
    cases r with
    | cons a b => exact .cons (h S w _ a) (ih b)
theorem LLe.of_eq {a b : List SV} (h : a = b) : LLe a b := h ▸ LLe.refl a

def DLe (v v' : DV) : Prop := ∀ (S : Nat → Prop) (w : World) (x : Value), DRd S w x v → DRd S w x v'
theorem DLe.refl (v : DV) : DLe v v := fun _ _ _ h => h
theorem DLe.of_eq {a b : DV} (h : a = b) : DLe a b := h ▸ DLe.refl a
theorem DLe.one {c c' : SV} (h : SLe c c') : DLe (.one c) (.one c') := fun S w x r => h S w x r
theorem DLe.agg {l l' : List SV} (h : LLe l l') : DLe (.agg l) (.agg l') := fun S w x r => by
  obtain ⟨xs, h1, h2⟩ := r
  exact ⟨xs, h1, h.rd h2⟩

inductive DsLe : List DV → List DV → Prop where
  | nil : DsLe [] []
  | cons {c c' : DV} {l l' : List DV} (h : DLe c c') (r : DsLe l l') : DsLe (c :: l) (c' :: l')
theorem DsLe.rd {l l' : List DV} (h : DsLe l l') {S : Nat → Prop} {w : World} {xs : List Value} (r : DRdL S w xs l) : DRdL S w xs l' := by
  induction h generalizing xs with
  | nil => exact r
  | cons h _ ih =>
    cases r with
    | cons a b => exact .cons (h S w _ a) (ih b)

/-! ### calls and ends -/
theorem CallW.mk' {P : Program} {f : FuncId} {args : List DV} {K : TV → Prop} {r : TV} (h : Det P f args r) (k : K r) : CallW P f args K := ⟨r, h, k⟩
/-- A contract serves at arguments that say more. -/
theorem Det.le {P : Program} {f : FuncId} {args args' : List DV} {r : TV} (hl : DsLe args args') (h : Det P f args' r) : Det P f args r :=
  ⟨h.1, fun w S vs hS hv => h.2 w S vs hS (hl.rd hv)⟩
theorem CallW.le {P : Program} {f : FuncId} {args args' : List DV} {K : TV → Prop} {r : TV} (h : Det P f args' r) (hl : DsLe args args') (k : K r) : CallW P f args K := ⟨r, h.le hl, k⟩
theorem Det.to {P : Program} {f : FuncId} {args : List DV} {r r' : TV} (h : Det P f args r) (hr : ∀ (S : Nat → Prop) (w : World) (v : Value), ROk S w v r → ROk S w v r') : Det P f args r' :=
  ⟨h.1, fun w S vs hS hv => (h.2 w S vs hS hv).mono fun _ _ ⟨v, h1, h2, h3⟩ => ⟨v, h1, h2, hr _ _ _ h3⟩⟩
theorem Det.eq {P : Program} {f : FuncId} {args : List DV} {r r' : TV} (h : Det P f args r) (e : r = r') : Det P f args r' := e ▸ h

/-! a call's result under a letter of its own: the walk goes on with the letter -/
theorem CallW.int {P : Program} {f : FuncId} {args : List DV} {K : TV → Prop} {k : IntKind} {e : Int} (h : Det P f args (.d (.one (.v (.int k e))))) (kk : ∀ n, n = e → K (.d (.one (.v (.int k n))))) : CallW P f args K := ⟨_, h, kk e rfl⟩
theorem CallW.bool {P : Program} {f : FuncId} {args : List DV} {K : TV → Prop} {e : Bool} (h : Det P f args (tbool e)) (kk : ∀ b, b = e → K (tbool b)) : CallW P f args K := ⟨_, h, kk e rfl⟩
theorem CallW.two {P : Program} {f : FuncId} {args : List DV} {K : TV → Prop} {a b : Int} (h : Det P f args (.d (.agg [i64 a, i64 b]))) (kk : ∀ p q, p = a → q = b → K (.d (.agg [i64 p, i64 q]))) : CallW P f args K := ⟨_, h, kk a b rfl rfl⟩
theorem EqW.b {P : Program} {T : TypeId} {xs ys : List SV} {K : Bool → Prop} {e : Bool} (h : EqFact P T xs ys e) (k : ∀ b, b = e → K b) : EqW P T xs ys K := ⟨e, h, k e rfl⟩

theorem Fin.rfl' {x : TV} : Fin x x := ⟨fun _ _ _ h => h⟩
theorem Fin.eq {x r : TV} (h : x = r) : Fin x r := h ▸ Fin.rfl'
theorem Fin.d {x r : DV} (h : DLe x r) : Fin (.d x) (.d r) := ⟨fun S w v k => h S w v k⟩
theorem Fin.bool {b b' : Bool} (h : b = b') : Fin (tbool b) (tbool b') := h ▸ Fin.rfl'
theorem Fin.int {k : IntKind} {n n' : Int} (h : n = n') : Fin (.d (.one (.v (.int k n)))) (.d (.one (.v (.int k n')))) := h ▸ Fin.rfl'
theorem Fin.agg {l l' : List SV} (h : LLe l l') : Fin (.d (.agg l)) (.d (.agg l')) := Fin.d (DLe.agg h)
theorem Fin.one {c c' : SV} (h : SLe c c') : Fin (.d (.one c)) (.d (.one c')) := Fin.d (DLe.one h)
theorem Fin.tup {l l' : List DV} (h : DsLe l l') : Fin (.tup l) (.tup l') := ⟨fun _ _ _ ⟨xs, h1, h2⟩ => ⟨xs, h1, h.rd h2⟩⟩

/-! ### loops and cuts: what is kept -/
def slotsOf : List (Nat × TV) → Nat → TV
  | [] => fun _ => .any
  | p :: r => match p with
    | (k, x) => upd (slotsOf r) k x
def memsOf : List (Nat × Mem) → Nat → Mem
  | [] => fun _ => .none
  | p :: r => match p with
    | (k, x) => upd (memsOf r) k x
def hasKey (o : Nat) : List (Nat × Mem) → Bool
  | [] => false
  | p :: r => match p with
    | (k, _) => Nat.beq o k || hasKey o r

inductive MemLe : Mem → Mem → Prop where
  | box {l l' : List SV} (h : LLe l l') : MemLe (.box l) (.box l')
  | ro {l l' : List SV} (h : LLe l l') : MemLe (.ro l) (.ro l')
  | bld {g g' n k : Nat} {e : TypeId} {get get' : Nat → Nat → SV} (h : ∀ i, i < n → ∀ j, j < k → SLe (get i j) (get' i j)) : MemLe (.bld g n k e get) (.bld g' n k e get')

inductive KeepM (m : Nat → Mem) : List (Nat × Mem) → Prop where
  | nil : KeepM m []
  | cons {o : Nat} {x : Mem} {r : List (Nat × Mem)} (h : MemLe (m o) x) (hr : KeepM m r) : KeepM m ((o, x) :: r)

/-- A slot's value says as much as what is kept of it. -/
inductive SlotLe (m : Nat → Mem) (m' : Nat → Mem) : TV → TV → Prop where
  | any (x : TV) : SlotLe m m' x .any
  | undef : SlotLe m m' .undef .undef
  | data {v v' : DV} (h : DLe v v') : SlotLe m m' (.d v) (.d v')
  | box {o p : Nat} {l l' : List SV} (h : m o = .box l) (h' : m' o = .box l') : SlotLe m m' (.ptr o p) (.ptr o p)
  | ro {o p : Nat} {l l' : List SV} (h : m o = .ro l) (h' : m' o = .ro l') : SlotLe m m' (.ptr o p) (.ptr o p)
  | hdl {o g g' n k n' k' : Nat} {e e' : TypeId} {get get' : Nat → Nat → SV} (h : m o = .bld g n k e get) (h' : m' o = .bld g' n' k' e' get') : SlotLe m m' (.hdl o g) (.hdl o g')

theorem SlotLe.int {m m' : Nat → Mem} {k : IntKind} {n n' : Int} (h : n = n') : SlotLe m m' (.d (.one (.v (.int k n)))) (.d (.one (.v (.int k n')))) := h ▸ .data (DLe.refl _)
theorem SlotLe.same {m m' : Nat → Mem} {v : DV} : SlotLe m m' (.d v) (.d v) := .data (DLe.refl _)

inductive KeepS (t : Nat → TV) (m m' : Nat → Mem) : List (Nat × TV) → Prop where
  | nil : KeepS t m m' []
  | cons {s : Nat} {x : TV} {r : List (Nat × TV)} (h : SlotLe m m' (t s) x) (hr : KeepS t m m' r) : KeepS t m m' ((s, x) :: r)

theorem KeepM.at {m : Nat → Mem} {ms : List (Nat × Mem)} (h : KeepM m ms) (o : Nat) : memsOf ms o = .none ∨ MemLe (m o) (memsOf ms o) := by
  induction h with
  | nil => exact .inl rfl
  | @cons k x r h _ ih =>
    by_cases e : o = k
    · subst e; right; simp only [memsOf, upd_same]; exact h
    · simp only [memsOf, upd_ne _ _ _ e]; exact ih
theorem KeepS.at {t : Nat → TV} {m m' : Nat → Mem} {ks : List (Nat × TV)} (h : KeepS t m m' ks) (s : Nat) : SlotLe m m' (t s) (slotsOf ks s) := by
  induction h with
  | nil => exact .any _
  | @cons k x r h _ ih =>
    by_cases e : s = k
    · subst e; simp only [slotsOf, upd_same]; exact h
    · simp only [slotsOf, upd_ne _ _ _ e]; exact ih

theorem MemLe.live {x y : Mem} (h : MemLe x y) : (y.live ↔ x.live) ∧ y ≠ .none := by
  cases h <;> exact ⟨Iff.rfl, by simp⟩

theorem wk_keep {t : Nat → TV} {m : Nat → Mem} {ks : List (Nat × TV)} {ms : List (Nat × Mem)} (hm : KeepM m ms) (hk : KeepS t m (memsOf ms) ks) : Wk t m (slotsOf ks) (memsOf ms) := by
  intro E ρ a w hR
  have hlive : ∀ o, (memsOf ms o).live → (m o).live := fun o l => by
    rcases hm.at o with h | h
    · rw [h] at l; exact l.elim
    · exact h.live.1.1 l
  have hL : ∀ b, L E m ρ w b → L E (memsOf ms) ρ w b ∧ w.heap[b]? = w.heap[b]? := fun b hl => ⟨⟨hl.1, fun o c l r => hl.2 o c (hlive o l) r⟩, rfl⟩
  refine ⟨ρ, { below := hR.below, defers := hR.defers, size := hR.size, inj := fun o o' b c c' l l' => hR.inj o o' b c c' (hlive o l) (hlive o' l'), lo := fun o b c l => hR.lo o b c (hlive o l), clean := ?_, mem := ?_, slots := ?_ }⟩
  · intro s o hr
    have h := hk.at s
    generalize slotsOf ks s = y at h hr
    generalize t s = x at h
    cases h <;> first | exact hr.elim | (cases hr; rename_i h'; rw [h']; simp)
  · intro o
    rcases hm.at o with h | h
    · rw [h]; trivial
    · have hmo := hR.mem o
      revert hmo h
      generalize m o = x
      generalize memsOf ms o = y
      intro h hmo
      cases h with
      | box h =>
        obtain ⟨b, c, xs, e, h1, h2, h3⟩ := hmo
        exact ⟨b, c, xs, e, h1, h2, h.rd (h3.mono hL)⟩
      | ro h =>
        obtain ⟨b, c, xs, e, h1, h0, h2, h3⟩ := hmo
        exact ⟨b, c, xs, e, h1, (hL b h0).1, h2, h.rd (h3.mono hL)⟩
      | bld h =>
        rcases hmo with h1 | ⟨b, cap, arr, h1, h2, h3, h4, h5, h6⟩
        · exact .inl h1
        · refine .inr ⟨b, cap, arr, h1, h2, h3, h4, h5, fun i hi j hj => ?_⟩
          obtain ⟨x, hx, hr⟩ := h6 i hi j hj
          exact ⟨x, hx, h i hi j hj _ _ _ (hr.mono hL)⟩
  · intro s
    have hs := hR.slots s
    have h := hk.at s
    generalize slotsOf ks s = y at h
    generalize t s = x at h hs
    cases h with
    | any => trivial
    | undef => exact hs
    | data h => exact h _ _ _ (DRd.mono hL hs)
    | box h h' => simp only [TOk, h, h'] at hs ⊢; exact hs
    | ro h h' => simp only [TOk, h, h'] at hs ⊢; exact hs
    | @hdl o g g' n k n' k' e e' get get' h h' =>
      simp only [TOk, h, h'] at hs ⊢
      refine ⟨Nat.le_refl _, fun _ => ?_⟩
      have hn : n = n' := by
        rcases hm.at o with hq | hq
        · rw [hq] at h'; simp at h'
        · rw [h, h'] at hq
          cases hq with
          | bld _ => rfl
      subst hn
      exact hs.2 trivial

theorem Adj.keep {t : Nat → TV} {m : Nat → Mem} {J : (Nat → TV) → (Nat → Mem) → Prop} (ks : List (Nat × TV)) (ms : List (Nat × Mem)) (hm : KeepM m ms) (hk : KeepS t m (memsOf ms) ks) (h : J (slotsOf ks) (memsOf ms)) : Adj t m J :=
  ⟨_, _, wk_keep hm hk, h⟩

/-- A slice that is nil is one that is being made, and empty. -/
theorem Adj.nil {t : Nat → TV} {m : Nat → Mem} {J : (Nat → TV) → (Nat → Mem) → Prop} (s o k : Nat) (e : TypeId) (get : Nat → Nat → SV) (hs : t s = .d (.one (.v (.slice none 0 0)))) (hm : m o = .none)
    (h : Adj (upd t s (.hdl o 0)) (upd m o (.bld 0 0 k e get)) J) : Adj t m J := by
  obtain ⟨t', m', hwk, hJ⟩ := h
  refine ⟨t', m', fun E ρ a w hR => ?_, hJ⟩
  obtain ⟨k1, k2⟩ := hR.nilBld o 0 k e get (slots_fresh hR hm 0)
  refine hwk E (upd ρ o none) a w { below := k1.below, defers := k1.defers, size := k1.size, inj := k1.inj, lo := k1.lo, clean := ?_, mem := k1.mem, slots := ?_ }
  · intro i o' hr
    by_cases hi : i = s
    · subst hi; rw [upd_same] at hr; cases hr; rw [upd_same]; simp
    · rw [upd_ne _ _ _ hi] at hr; exact k1.clean i o' hr
  · intro i
    by_cases hi : i = s
    · subst hi
      rw [upd_same]
      have h1 := k1.slots i
      rw [hs] at h1
      have e1 := (Rd.inv_v (show Rd _ _ _ _ from h1)).1
      rw [e1]
      exact k2
    · rw [upd_ne _ _ _ hi]; exact k1.slots i

/-- What is kept at a loop's head, at a letter of one's own. -/
def Kept {α : Type} (ks : α → List (Nat × TV)) (ms : α → List (Nat × Mem)) (inv : α → Prop) (x : α) (t : Nat → TV) (m : Nat → Mem) : Prop := inv x ∧ t = slotsOf (ks x) ∧ m = memsOf (ms x)

theorem Adj.at {α : Type} {t : Nat → TV} {m : Nat → Mem} {ks : α → List (Nat × TV)} {ms : α → List (Nat × Mem)} {inv : α → Prop} (y : α) (hi : inv y) (hm : KeepM m (ms y)) (hk : KeepS t m (memsOf (ms y)) (ks y)) :
    Adj t m (fun t m => ∃ x, Kept ks ms inv x t m) := ⟨_, _, wk_keep hm hk, y, hi, rfl, rfl⟩
theorem Adj.back {α : Type} {t : Nat → TV} {m : Nat → Mem} {ks : α → List (Nat × TV)} {ms : α → List (Nat × Mem)} {inv : α → Prop} {rank : α → Nat} {x : α} (y : α) (hi : inv y) (hlt : rank y < rank x) (hm : KeepM m (ms y)) (hk : KeepS t m (memsOf (ms y)) (ks y)) :
    Adj t m (fun t3 m3 => ∃ y, Kept ks ms inv y t3 m3 ∧ rank y < rank x) := ⟨_, _, wk_keep hm hk, y, ⟨hi, rfl, rfl⟩, hlt⟩

/-- A LOOP BY A LETTER: what is kept at each round's head, as a function of a state of one's own; that state goes down. -/
theorem Loop.by {α : Type} {body : Post → (Nat → TV) → (Nat → Mem) → Prop} {Q : Post} {t : Nat → TV} {m : Nat → Mem} (ks : α → List (Nat × TV)) (ms : α → List (Nat × Mem)) (inv : α → Prop) (rank : α → Nat) (h0 : Adj t m fun t m => ∃ x, Kept ks ms inv x t m)
    (hr : ∀ x, inv x → body (fun e t'' m'' => match e with
      | .normal => Adj t'' m'' fun t3 m3 => ∃ y, Kept ks ms inv y t3 m3 ∧ rank y < rank x
      | e => Q e t'' m'') (slotsOf (ks x)) (memsOf (ms x))) : Loop body Q t m :=
  ⟨α, Kept ks ms inv, fun x t m => Adj t m fun t3 m3 => ∃ y, Kept ks ms inv y t3 m3 ∧ rank y < rank x, rank, h0, fun _ _ _ h => h, fun x t' m' ⟨hi, h1, h2⟩ => by subst h1 h2; exact hr x hi⟩

/-- A LOOP ROUND BY ROUND. -/
def LoopN (body : Post → (Nat → TV) → (Nat → Mem) → Prop) (Q : Post) : Nat → (Nat → TV) → (Nat → Mem) → Prop
  | 0, _, _ => False
  | n + 1, t, m => body (fun e t m => match e with
      | .normal => LoopN body Q n t m
      | e => Q e t m) t m
theorem Wk.refl (t : Nat → TV) (m : Nat → Mem) : Wk t m t m := fun _ ρ _ _ h => ⟨ρ, h⟩
theorem Loop.unroll {body : Post → (Nat → TV) → (Nat → Mem) → Prop} {Q : Post} {t : Nat → TV} {m : Nat → Mem} (n : Nat) (h : LoopN body Q n t m) : Loop body Q t m := by
  refine ⟨Nat, LoopN body Q, fun x t m => match x with | 0 => False | k + 1 => LoopN body Q k t m, id, ⟨t, m, Wk.refl t m, n, h⟩, fun x t m hj => ?_, fun x t' m' hi => ?_⟩
  · cases x with
    | zero => exact hj.elim
    | succ k => exact ⟨t, m, Wk.refl t m, k, hj, Nat.lt_succ_self k⟩
  · cases x with
    | zero => exact hi.elim
    | succ k => exact hi
end Go.Vm
