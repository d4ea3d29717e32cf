/-
  What a walk is typed with: branches, calls, ends, loops.
-/
import Derived.Test.YtgmlblmkcbcgaaaVmR
namespace Go.Vm
set_option linter.unusedVariables false
set_option linter.unusedSimpArgs false
open Go Go.RowKit

/-! ### tables of types -/
def tabL : List (TypeId × Ty) → Tab
  | [] => fun _ => none
  | p :: r => fun t => bif Nat.beq t p.1 then some p.2 else tabL r t
inductive TyAll (P : Program) : List (TypeId × Ty) → Prop where
  | nil : TyAll P []
  | cons {t : TypeId} {T : Ty} {r : List (TypeId × Ty)} (h : TyOk P t T) (hr : TyAll P r) : TyAll P ((t, T) :: r)
theorem tabL_ok {P : Program} {l : List (TypeId × Ty)} (h : TyAll P l) : TabOk P (tabL l) := by
  induction h with
  | nil => intro t T h; simp [tabL] at h
  | @cons t0 T0 r h _ ih =>
    intro t T ht
    simp only [tabL] at ht
    cases hb : Nat.beq t t0 with
    | true =>
      rw [hb] at ht
      simp only [cond_true, Option.some.injEq] at ht
      obtain rfl := Nat.eq_of_beq_eq_true hb
      subst ht
      exact h
    | false => rw [hb] at ht; exact ih t T ht

/-! ### branches -/
theorem Split.t {K : Bool → Prop} (h : K true) : Split true K := ⟨fun _ => h, fun h => by cases h⟩
theorem Split.f {K : Bool → Prop} (h : K false) : Split false K := ⟨fun h => (by cases h), fun _ => h⟩
theorem Split.isT {b : Bool} {K : Bool → Prop} (hb : b = true) (h : K true) : Split b K := ⟨fun _ => h, fun h' => by rw [hb] at h'; cases h'⟩
theorem Split.isF {b : Bool} {K : Bool → Prop} (hb : b = false) (h : K false) : Split b K := ⟨fun h' => (by rw [hb] at h'; cases h'), fun _ => h⟩

/-! ### what says less -/
theorem SLe.trans {a b c : SV} (h : SLe a b) (k : SLe b c) : SLe a c := fun S w x r => k S w x (h S w x r)
theorem SLe.of_eq {a b : SV} (h : a = b) : SLe a b := h ▸ SLe.refl a
theorem SLe.nil (k : Nat) (get : Nat → Nat → SV) : SLe (.v (.slice none 0 0)) (.sl 0 k get) := fun S w x r => by
  rw [(Rd.inv_v r).1]; exact .nil k get
theorem SLe.sl {n k : Nat} {g g' : Nat → Nat → SV} (h : ∀ i, i < n → ∀ j, j < k → SLe (g i j) (g' i j)) : SLe (.sl n k g) (.sl n k g') := fun S w x r => by
  rcases Rd.inv_sl r with ⟨rfl, rfl⟩ | ⟨a, cap, rfl, rfl⟩ | ⟨b, off, cap, xs, rfl, h1, h2, h3, h4, h5⟩
  · exact .nil _ _
  · exact .emp _ _ _ _
  · exact .sl xs h1 h2 h3 h4 (fun i hi j hj => h i hi j hj S w _ (h5 i hi j hj))
theorem SLe.sl0 {k k' : Nat} {g g' : Nat → Nat → SV} : SLe (.sl 0 k g) (.sl 0 k' g') := fun S w x r => by
  rcases Rd.inv_sl r with ⟨rfl, _⟩ | ⟨a, cap, rfl, _⟩ | ⟨b, off, cap, xs, rfl, h1, h2, h3, h4, h5⟩
  · exact .nil _ _
  · exact .emp _ _ _ _
  · exact .emp _ _ _ _

theorem LLe.refl : ∀ (l : List SV), LLe l l
  | [] => .nil
  | c :: l => .cons (SLe.refl c) (LLe.refl l)
theorem LLe.rd {l l' : List SV} (h : LLe l l') {S : Nat → Prop} {w : World} {xs : List Value} (r : RdL S w xs l) : RdL S w xs l' := by
  induction h generalizing xs with
  | nil => exact r
  | cons h _ ih =>
    cases r with
    | cons a b => exact .cons (h S w _ a) (ih b)
theorem LLe.of_eq {a b : List SV} (h : a = b) : LLe a b := h ▸ LLe.refl a

theorem DLe.refl (v : DV) : DLe v v := fun _ _ _ h => h
theorem DLe.of_eq {a b : DV} (h : a = b) : DLe a b := h ▸ DLe.refl a
theorem DLe.one {c c' : SV} (h : SLe c c') : DLe (.one c) (.one c') := fun S w x r => h S w x r
theorem DLe.agg {l l' : List SV} (h : LLe l l') : DLe (.agg l) (.agg l') := fun S w x r => by
  obtain ⟨xs, h1, h2⟩ := r
  exact ⟨xs, h1, h.rd h2⟩

theorem DsLe.rd {l l' : List DV} (h : DsLe l l') {S : Nat → Prop} {w : World} {xs : List Value} (r : DRdL S w xs l) : DRdL S w xs l' := by
  induction h generalizing xs with
  | nil => exact r
  | cons h _ ih =>
    cases r with
    | cons a b => exact .cons (h S w _ a) (ih b)

/-! ### calls and ends -/
theorem CallW.mk' {P : Program} {f : FuncId} {args : List DV} {K : TV → Prop} {r : TV} (h : Det P f args r) (k : K r) : CallW P f args K := ⟨r, h, k⟩
/-- A contract serves at arguments that say more. -/
theorem Det.le {P : Program} {f : FuncId} {args args' : List DV} {r : TV} (hl : DsLe args args') (h : Det P f args' r) : Det P f args r :=
  ⟨h.1, fun w S vs hS hv => h.2 w S vs hS (hl.rd hv)⟩
theorem CallW.le {P : Program} {f : FuncId} {args args' : List DV} {K : TV → Prop} {r : TV} (h : Det P f args' r) (hl : DsLe args args') (k : K r) : CallW P f args K := ⟨r, h.le hl, k⟩
theorem Det.to {P : Program} {f : FuncId} {args : List DV} {r r' : TV} (h : Det P f args r) (hr : ∀ (S : Nat → Prop) (w : World) (v : Value), ROk S w v r → ROk S w v r') : Det P f args r' :=
  ⟨h.1, fun w S vs hS hv => (h.2 w S vs hS hv).mono fun _ _ ⟨v, h1, h2, h3⟩ => ⟨v, h1, h2, hr _ _ _ h3⟩⟩
theorem Det.eq {P : Program} {f : FuncId} {args : List DV} {r r' : TV} (h : Det P f args r) (e : r = r') : Det P f args r' := e ▸ h

/-! a call's result under a letter of its own: the walk goes on with the letter -/
theorem CallW.int {P : Program} {f : FuncId} {args : List DV} {K : TV → Prop} {k : IntKind} {e : Int} (h : Det P f args (.d (.one (.v (.int k e))))) (kk : ∀ n, n = e → K (.d (.one (.v (.int k n))))) : CallW P f args K := ⟨_, h, kk e rfl⟩
theorem CallW.bool {P : Program} {f : FuncId} {args : List DV} {K : TV → Prop} {e : Bool} (h : Det P f args (tbool e)) (kk : ∀ b, b = e → K (tbool b)) : CallW P f args K := ⟨_, h, kk e rfl⟩
theorem CallW.two {P : Program} {f : FuncId} {args : List DV} {K : TV → Prop} {a b : Int} (h : Det P f args (.d (.agg [i64 a, i64 b]))) (kk : ∀ p q, p = a → q = b → K (.d (.agg [i64 p, i64 q]))) : CallW P f args K := ⟨_, h, kk a b rfl rfl⟩
theorem EqW.b {P : Program} {T : TypeId} {xs ys : List SV} {K : Bool → Prop} {e : Bool} (h : EqFact P T xs ys e) (k : ∀ b, b = e → K b) : EqW P T xs ys K := ⟨e, h, k e rfl⟩

theorem Fin.rfl' {x : TV} : Fin x x := ⟨fun _ _ _ h => h⟩
theorem Fin.eq {x r : TV} (h : x = r) : Fin x r := h ▸ Fin.rfl'
theorem Fin.d {x r : DV} (h : DLe x r) : Fin (.d x) (.d r) := ⟨fun S w v k => h S w v k⟩
theorem Fin.bool {b b' : Bool} (h : b = b') : Fin (tbool b) (tbool b') := h ▸ Fin.rfl'
theorem Fin.int {k : IntKind} {n n' : Int} (h : n = n') : Fin (.d (.one (.v (.int k n)))) (.d (.one (.v (.int k n')))) := h ▸ Fin.rfl'
theorem Fin.agg {l l' : List SV} (h : LLe l l') : Fin (.d (.agg l)) (.d (.agg l')) := Fin.d (DLe.agg h)
theorem Fin.one {c c' : SV} (h : SLe c c') : Fin (.d (.one c)) (.d (.one c')) := Fin.d (DLe.one h)
theorem Fin.tup {l l' : List DV} (h : DsLe l l') : Fin (.tup l) (.tup l') := ⟨fun _ _ _ ⟨xs, h1, h2⟩ => ⟨xs, h1, h.rd h2⟩⟩

/-! ### loops and cuts: what is kept -/
def slotsOf : List (Nat × TV) → Nat → TV
  | [] => fun _ => .any
  | p :: r => match p with
    | (k, x) => upd (slotsOf r) k x
def memsOf : List (Id × Mem) → Id → Mem
  | [] => fun _ => .none
  | p :: r => match p with
    | (k, x) => upd (memsOf r) k x

inductive CRLe (m' : Id → Mem) : CR → CR → Prop where
  | s {c c' : SV} (h : SLe c c') : CRLe m' (.s c) (.s c')
  | ptr {o : Id} {p : Nat} (h : m' o ≠ .none) : CRLe m' (.ptr o p) (.ptr o p)
inductive CRsLe (m' : Id → Mem) : List CR → List CR → Prop where
  | nil : CRsLe m' [] []
  | cons {c c' : CR} {l l' : List CR} (h : CRLe m' c c') (r : CRsLe m' l l') : CRsLe m' (c :: l) (c' :: l')
inductive CVLe (m m' : Id → Mem) : CV → CV → Prop where
  | s {c c' : SV} (h : SLe c c') : CVLe m m' (.s c) (.s c')
  | ptr {o : Id} {p : Nat} (h : m' o ≠ .none) : CVLe m m' (.ptr o p) (.ptr o p)
  | hdl {o : Id} {g g' : Nat} (h : m' o ≠ .none) (hg : g = (m o).gen) (hg' : g' = (m' o).gen) : CVLe m m' (.hdl o g) (.hdl o g')
  | clo {f : FuncId} {c c' : List CR} (h : CRsLe m' c c') : CVLe m m' (.clo f c) (.clo f c')
inductive CVsLe (m m' : Id → Mem) : List CV → List CV → Prop where
  | nil : CVsLe m m' [] []
  | cons {c c' : CV} {l l' : List CV} (h : CVLe m m' c c') (r : CVsLe m m' l l') : CVsLe m m' (c :: l) (c' :: l')
inductive MemLe (m m' : Id → Mem) : Mem → Mem → Prop where
  | dead (x : Mem) : MemLe m m' x .dead
  | box {l l' : List SV} (h : LLe l l') : MemLe m m' (.box l) (.box l')
  | ro {l l' : List SV} (h : LLe l l') : MemLe m m' (.ro l) (.ro l')
  | boxObj {l : List SV} {l' : List CV} (h : CVsLe m m' (l.map .s) l') : MemLe m m' (.box l) (.obj l')
  | obj {l l' : List CV} (h : CVsLe m m' l l') : MemLe m m' (.obj l) (.obj l')
  | bld {g g' n k : Nat} {e : TypeId} {get get' : Nat → Nat → SV} (h : ∀ i, i < n → ∀ j, j < k → SLe (get i j) (get' i j)) (hg : g' = 1 → g = 1 := by first | exact fun h => h | exact fun h => absurd h (by decide)) : MemLe m m' (.bld g n k e get) (.bld g' n k e get')
  | bldObj {g g' n k : Nat} {e : TypeId} {get : Nat → Nat → SV} {get' : Nat → Nat → CV} (h : ∀ i, i < n → ∀ j, j < k → CVLe m m' (.s (get i j)) (get' i j)) (hg : g' = 1 → g = 1 := by first | exact fun h => h | exact fun h => absurd h (by decide)) : MemLe m m' (.bld g n k e get) (.bldc g' n k e get')
  | bldc {g g' n k : Nat} {e : TypeId} {get get' : Nat → Nat → CV} (h : ∀ i, i < n → ∀ j, j < k → CVLe m m' (get i j) (get' i j)) (hg : g' = 1 → g = 1 := by first | exact fun h => h | exact fun h => absurd h (by decide)) : MemLe m m' (.bldc g n k e get) (.bldc g' n k e get')
theorem MemLe.bldN {m m' : Id → Mem} {g g' n n' k : Nat} {e : TypeId} {get get' : Nat → Nat → SV} (hn : n = n') (h : ∀ i, i < n → ∀ j, j < k → SLe (get i j) (get' i j)) (hg : g' = 1 → g = 1 := by first | exact fun h => h | exact fun h => absurd h (by decide)) : MemLe m m' (.bld g n k e get) (.bld g' n' k e get') := by
  subst hn; exact .bld h hg

inductive KeepM (m m' : Id → Mem) : List (Id × Mem) → Prop where
  | nil : KeepM m m' []
  | cons {o : Id} {x : Mem} {r : List (Id × Mem)} (h : MemLe m m' (m o) x) (hr : KeepM m m' r) : KeepM m m' ((o, x) :: r)
  | none {o : Id} {r : List (Id × Mem)} (hr : KeepM m m' r) : KeepM m m' ((o, .none) :: r)

/-- A slot's value says as much as what is kept of it. -/
inductive SlotLe (m : Id → Mem) (m' : Id → Mem) : TV → TV → Prop where
  | any (x : TV) : SlotLe m m' x .any
  | undef : SlotLe m m' .undef .undef
  | data {v v' : DV} (h : DLe v v') : SlotLe m m' (.d v) (.d v')
  | box {o : Id} {p : Nat} {l l' : List SV} (h : m o = .box l) (h' : m' o = .box l') : SlotLe m m' (.ptr o p) (.ptr o p)
  | ro {o : Id} {p : Nat} {l l' : List SV} (h : m o = .ro l) (h' : m' o = .ro l') : SlotLe m m' (.ptr o p) (.ptr o p)
  | ptr {o : Id} {p : Nat} (h : m' o ≠ .none) : SlotLe m m' (.ptr o p) (.ptr o p)
  | hdl {o : Id} {g g' n k n' k' : Nat} (h : (m o).bldy = some (g, n, k)) (h' : (m' o).bldy = some (g', n', k')) : SlotLe m m' (.hdl o g) (.hdl o g')
  | sub {o : Id} {g g' lo c n k n' k' : Nat} (h : (m o).bldy = some (g, n, k)) (h' : (m' o).bldy = some (g', n', k')) : SlotLe m m' (.sub o g lo c) (.sub o g' lo c)
  | ep {o : Id} {g g' i off n k n' k' : Nat} (h : (m o).bldy = some (g, n, k)) (h' : (m' o).bldy = some (g', n', k')) : SlotLe m m' (.ep o g i off) (.ep o g' i off)
  | clo {f : FuncId} {c c' : List CR} (h : CRsLe m' c c') : SlotLe m m' (.clo f c) (.clo f c')

theorem SlotLe.int {m m' : Id → Mem} {k : IntKind} {n n' : Int} (h : n = n') : SlotLe m m' (.d (.one (.v (.int k n)))) (.d (.one (.v (.int k n')))) := h ▸ .data (DLe.refl _)
theorem SlotLe.same {m m' : Id → Mem} {v : DV} : SlotLe m m' (.d v) (.d v) := .data (DLe.refl _)

inductive KeepS (t : Nat → TV) (m m' : Id → Mem) : List (Nat × TV) → Prop where
  | nil : KeepS t m m' []
  | cons {s : Nat} {x : TV} {r : List (Nat × TV)} (h : SlotLe m m' (t s) x) (hr : KeepS t m m' r) : KeepS t m m' ((s, x) :: r)

theorem KeepM.at {m m' : Id → Mem} {ms : List (Id × Mem)} (h : KeepM m m' ms) (o : Id) : memsOf ms o = .none ∨ MemLe m m' (m o) (memsOf ms o) := by
  induction h with
  | nil => exact .inl rfl
  | @cons k x r h _ ih =>
    by_cases e : o = k
    · subst e; right; simp only [memsOf, upd_same]; exact h
    · simp only [memsOf, upd_ne _ _ _ e]; exact ih
  | @none k r _ ih =>
    by_cases e : o = k
    · subst e; left; simp only [memsOf, upd_same]
    · simp only [memsOf, upd_ne _ _ _ e]; exact ih
theorem KeepS.at {t : Nat → TV} {m m' : Id → Mem} {ks : List (Nat × TV)} (h : KeepS t m m' ks) (s : Nat) : SlotLe m m' (t s) (slotsOf ks s) := by
  induction h with
  | nil => exact .any _
  | @cons k x r h _ ih =>
    by_cases e : s = k
    · subst e; simp only [slotsOf, upd_same]; exact h
    · simp only [slotsOf, upd_ne _ _ _ e]; exact ih

theorem MemLe.live {m m' : Id → Mem} {x y : Mem} (h : MemLe m m' x y) : y.live → x.live := by cases h <;> first | exact id | exact fun h => h.elim
theorem MemLe.ne {m m' : Id → Mem} {x y : Mem} (h : MemLe m m' x y) : y ≠ .none := by cases h <;> simp
theorem MemLe.shape {m m' : Id → Mem} {x y : Mem} (h : MemLe m m' x y) : y = .dead ∨ (x.boxy = true ∧ y.boxy = true) ∨ ∃ g g' n k, x.bldy = some (g, n, k) ∧ y.bldy = some (g', n, k) ∧ (g' = 1 → g = 1) := by
  cases h with
  | dead x => exact .inl rfl
  | bld _ hg => exact .inr (.inr ⟨_, _, _, _, rfl, rfl, hg⟩)
  | bldObj _ hg => exact .inr (.inr ⟨_, _, _, _, rfl, rfl, hg⟩)
  | bldc _ hg => exact .inr (.inr ⟨_, _, _, _, rfl, rfl, hg⟩)
  | _ => exact .inr (.inl ⟨rfl, rfl⟩)

theorem CRsLe.refs {m' : Id → Mem} {c c' : List CR} (h : CRsLe m' c c') : ∀ o, (∃ x ∈ c', x.refs o) → m' o ≠ .none := by
  induction h with
  | nil => rintro o ⟨x, hx, _⟩; simp at hx
  | cons a _ ih =>
    rintro o ⟨x, hx, hr⟩
    rcases List.mem_cons.1 hx with rfl | hx
    · cases a with
      | s h => exact hr.elim
      | ptr h => cases hr; exact h
    · exact ih o ⟨x, hx, hr⟩
theorem CVLe.refs {m m' : Id → Mem} {c c' : CV} (h : CVLe m m' c c') : ∀ o, c'.refs o → m' o ≠ .none := by
  intro o hr
  cases h with
  | s h => exact hr.elim
  | ptr h => cases hr; exact h
  | hdl h _ _ => cases hr; exact h
  | clo h => exact h.refs o hr
theorem CVsLe.refs {m m' : Id → Mem} {c c' : List CV} (h : CVsLe m m' c c') : ∀ o, (∃ x ∈ c', x.refs o) → m' o ≠ .none := by
  induction h with
  | nil => rintro o ⟨x, hx, _⟩; simp at hx
  | cons a _ ih =>
    rintro o ⟨x, hx, hr⟩
    rcases List.mem_cons.1 hx with rfl | hx
    · exact a.refs o hr
    · exact ih o ⟨x, hx, hr⟩
theorem MemLe.refs {m m' : Id → Mem} {x y : Mem} (h : MemLe m m' x y) : ∀ o, y.refs o → m' o ≠ .none := by
  intro o hr
  cases h with
  | boxObj h => exact h.refs o hr
  | obj h => exact h.refs o hr
  | bldObj h _ => obtain ⟨i, j, hi, hj, hr⟩ := hr; exact (h i hi j hj).refs o hr
  | bldc h _ => obtain ⟨i, j, hi, hj, hr⟩ := hr; exact (h i hi j hj).refs o hr
  | _ => exact hr.elim

section
variable {S S' : Nat → Prop} {m m' : Id → Mem} {ρ : Id → Option (Nat × Nat)} {w : World}
theorem CRsLe.rd (hL : ∀ b, S b → S' b) (hp : ∀ o p x, m' o ≠ .none → PtrOk m ρ x o p → PtrOk m' ρ x o p) {c c' : List CR} (h : CRsLe m' c c') : ∀ {xs : List Value}, CRL S m ρ w xs c → CRL S' m' ρ w xs c' := by
  induction h with
  | nil => intro xs hx; cases hx; exact .nil
  | cons a _ ih =>
    intro xs hx
    cases hx with
    | cons p q =>
      refine .cons ?_ (ih q)
      cases a with
      | s h => exact h _ _ _ (Rd.mono (fun b hb => ⟨hL b hb, rfl⟩) p)
      | ptr h => exact hp _ _ _ h p
theorem CVLe.rd (hL : ∀ b, S b → S' b) (hp : ∀ o p x, m' o ≠ .none → PtrOk m ρ x o p → PtrOk m' ρ x o p) (hh : ∀ o x, m' o ≠ .none → HdlOk m ρ x o (m o).gen → HdlOk m' ρ x o (m' o).gen) {c c' : CV} (h : CVLe m m' c c') {x : Value} (hx : CVk S m ρ w x c) : CVk S' m' ρ w x c' := by
  cases h with
  | s h => exact h _ _ _ (Rd.mono (fun b hb => ⟨hL b hb, rfl⟩) hx)
  | ptr h => exact hp _ _ _ h hx
  | hdl h hg hg' => subst hg hg'; exact hh _ _ h hx
  | clo h => obtain ⟨us, e1, r1⟩ := hx; exact ⟨us, e1, h.rd hL hp r1⟩
theorem CVsLe.rd (hL : ∀ b, S b → S' b) (hp : ∀ o p x, m' o ≠ .none → PtrOk m ρ x o p → PtrOk m' ρ x o p) (hh : ∀ o x, m' o ≠ .none → HdlOk m ρ x o (m o).gen → HdlOk m' ρ x o (m' o).gen) {c c' : List CV} (h : CVsLe m m' c c') : ∀ {xs : List Value}, CVL S m ρ w xs c → CVL S' m' ρ w xs c' := by
  induction h with
  | nil => intro xs hx; cases hx; exact .nil
  | cons a _ ih =>
    intro xs hx
    cases hx with
    | cons p q => exact .cons (a.rd hL hp hh p) (ih q)
end

theorem wk_keep {t : Nat → TV} {m : Id → Mem} {ks : List (Nat × TV)} {ms : List (Id × Mem)} (hm : KeepM m (memsOf ms) ms) (hk : KeepS t m (memsOf ms) ks) : Wk t m (slotsOf ks) (memsOf ms) := by
  intro E ρ a w hR
  generalize hm' : memsOf ms = m' at *
  have hat : ∀ o, m' o = .none ∨ MemLe m m' (m o) (m' o) := fun o => by have := hm.at o; rwa [hm'] at this
  have hle : ∀ o, m' o ≠ .none → MemLe m m' (m o) (m' o) := fun o hn => (hat o).resolve_left hn
  have hlive : ∀ o, (m' o).live → (m o).live := fun o l => by
    rcases hat o with h | h
    · rw [h] at l; exact l.elim
    · exact h.live l
  have hL : ∀ b, L E m ρ w b → L E m' ρ w b := fun b hl => ⟨hl.1, fun o c l r => hl.2 o c (hlive o l) r⟩
  have hp : ∀ o p x, m' o ≠ .none → PtrOk m ρ x o p → PtrOk m' ρ x o p := by
    intro o p x hn h
    rcases (hle o hn).shape with e | ⟨h1, h2⟩ | ⟨g, g', n, k, h1, _, _⟩
    · simp only [PtrOk, e]; exact h.oneCell
    · exact (ptrOk_boxy h2).2 ((ptrOk_boxy h1).1 h)
    · exact absurd h (ptrOk_bldy h1)
  have hh : ∀ o x, m' o ≠ .none → HdlOk m ρ x o (m o).gen → HdlOk m' ρ x o (m' o).gen := by
    intro o x hn h
    rcases (hle o hn).shape with e | ⟨h1, h2⟩ | ⟨g, g', n, k, h1, h2, _⟩
    · simp only [HdlOk, e]; exact ⟨h.1, trivial⟩
    · exact (hdlOk_boxy h2).2 h.1
    · rw [gen_bldy h1, hdlOk_bldy h1] at h
      rw [gen_bldy h2, hdlOk_bldy h2]
      exact ⟨h.1, Nat.le_refl _, fun _ => h.2.2 rfl⟩
  have hsame : ∀ o g n k g' n' k', (m o).bldy = some (g, n, k) → (m' o).bldy = some (g', n', k') → n = n' ∧ k = k' := by
    intro o g n k g' n' k' h h'
    rcases (hle o (live_bldy h').2).shape with e | ⟨h1, h2⟩ | ⟨q, q', n1, k1, h1, h2, _⟩
    · rw [e] at h'; simp [Mem.bldy] at h'
    · exfalso; revert h1 h; cases m o <;> simp [Mem.boxy, Mem.bldy]
    · rw [h] at h1; rw [h'] at h2
      simp at h1 h2
      exact ⟨h1.2.1.trans h2.2.1.symm, h1.2.2.trans h2.2.2.symm⟩
  refine ⟨ρ, { below := hR.below, defers := hR.defers, size := hR.size, inj := fun o o' b c c' l l' => hR.inj o o' b c c' (hlive o l) (hlive o' l'), lo := fun o b c l => hR.lo o b c (hlive o l), clean := ?clean, cleanM := ?cleanM, mem := ?mem, slots := ?slots, carry := ?carry }⟩
  case clean =>
    intro s o hr
    have h := hk.at s
    generalize slotsOf ks s = y at h hr
    generalize t s = x at h
    cases h with
    | box h h' => cases hr; rw [h']; simp
    | ro h h' => cases hr; rw [h']; simp
    | ptr h => cases hr; exact h
    | hdl h h' => cases hr; exact (live_bldy h').2
    | sub h h' => cases hr; exact (live_bldy h').2
    | ep h h' => cases hr; exact (live_bldy h').2
    | clo h => exact h.refs o hr
    | _ => exact hr.elim
  case cleanM =>
    intro o o' hr
    rcases hat o with h | h
    · rw [h] at hr; exact hr.elim
    · exact h.refs o' hr
  case mem =>
    intro o
    rcases hat o with h | h
    · rw [h]; trivial
    · have hmo := hR.mem o
      revert hmo h
      generalize m o = x
      generalize m' o = y
      intro h hmo
      cases h with
      | dead => trivial
      | box h =>
        obtain ⟨b, c, xs, e, h1, h2, h3⟩ := hmo
        exact ⟨b, c, xs, e, h1, h2, h.rd (h3.mono (fun b hb => ⟨hL b hb, rfl⟩))⟩
      | ro h =>
        obtain ⟨b, c, xs, e, h1, h0, h2, h3⟩ := hmo
        exact ⟨b, c, xs, e, h1, hL b h0, h2, h.rd (h3.mono (fun b hb => ⟨hL b hb, rfl⟩))⟩
      | boxObj h =>
        obtain ⟨b, c, xs, e, h1, h2, h3⟩ := hmo
        exact ⟨b, c, xs, e, h1, h2, h.rd (S := L E m ρ w) hL hp hh (CVL.ofRd h3)⟩
      | obj h =>
        obtain ⟨b, c, xs, e, h1, h2, h3⟩ := hmo
        exact ⟨b, c, xs, e, h1, h2, h.rd hL hp hh h3⟩
      | bld h _ =>
        rcases hmo with h1 | ⟨b, cap, arr, h1, h2, h3, h4, h5, h6⟩
        · exact .inl h1
        · refine .inr ⟨b, cap, arr, h1, h2, h3, h4, h5, fun i hi j hj => ?_⟩
          obtain ⟨x, hx, hr⟩ := h6 i hi j hj
          exact ⟨x, hx, h i hi j hj _ _ _ (hr.mono (fun b hb => ⟨hL b hb, rfl⟩))⟩
      | bldObj h _ =>
        rcases hmo with h1 | ⟨b, cap, arr, h1, h2, h3, h4, h5, h6⟩
        · exact .inl h1
        · refine .inr ⟨b, cap, arr, h1, h2, h3, h4, h5, fun i hi j hj => ?_⟩
          obtain ⟨x, hx, hr⟩ := h6 i hi j hj
          exact ⟨x, hx, (h i hi j hj).rd (S := L E m ρ w) hL hp hh hr⟩
      | bldc h _ =>
        rcases hmo with h1 | ⟨b, cap, arr, h1, h2, h3, h4, h5, h6⟩
        · exact .inl h1
        · refine .inr ⟨b, cap, arr, h1, h2, h3, h4, h5, fun i hi j hj => ?_⟩
          obtain ⟨x, hx, hr⟩ := h6 i hi j hj
          exact ⟨x, hx, (h i hi j hj).rd hL hp hh hr⟩
  case slots =>
    intro s
    have hs := hR.slots s
    have h := hk.at s
    generalize slotsOf ks s = y at h
    generalize t s = x at h hs
    cases h with
    | any => trivial
    | undef => exact hs
    | data h => exact h _ _ _ (DRd.mono (fun b hb => ⟨hL b hb, rfl⟩) hs)
    | box h h' => exact hp _ _ _ (by rw [h']; simp) hs
    | ro h h' => exact hp _ _ _ (by rw [h']; simp) hs
    | ptr h => exact hp _ _ _ h hs
    | @hdl o g g' n k n' k' h h' =>
      have := hh o _ (live_bldy h').2 (by rw [gen_bldy h]; exact hs)
      rw [gen_bldy h'] at this
      exact this
    | @sub o g g' lo c n k n' k' h h' =>
      obtain ⟨rfl, rfl⟩ := hsame o _ _ _ _ _ _ h h'
      obtain ⟨a1, _, a2⟩ := (subOk_bldy h).1 hs
      exact (subOk_bldy h').2 ⟨a1, Nat.le_refl _, fun _ => a2 rfl⟩
    | @ep o g g' i off n k n' k' h h' =>
      obtain ⟨rfl, rfl⟩ := hsame o _ _ _ _ _ _ h h'
      obtain ⟨_, a2⟩ := (epOk_bldy h).1 hs
      exact (epOk_bldy h').2 ⟨Nat.le_refl _, fun _ => a2 rfl⟩
    | clo h => obtain ⟨us, e1, r1⟩ := hs; exact ⟨us, e1, h.rd hL hp r1⟩
  case carry =>
    intro o hn
    have hc := hR.carry o hn
    rcases hat o with h | h
    · refine ⟨fun x p hq => ?_, fun x hg hq => ?_⟩
      · have := (hc.ptr x p hq).oneCell
        simp only [PtrOk, h]; exact this
      · rw [h] at hg; simp [Mem.gen] at hg
    · refine ⟨fun x p hq => hp o p x h.ne (hc.ptr x p hq), fun x hg hq => ?_⟩
      have hgm : (m o).gen = 1 := by
        rcases h.shape with e | ⟨h1, h2⟩ | ⟨g, g', n, k, h1, h2, h3⟩
        · rw [e] at hg; simp [Mem.gen] at hg
        · rw [gen_boxy h2] at hg; omega
        · rw [gen_bldy h2] at hg; rw [gen_bldy h1]; exact h3 hg
      have := hh o x h.ne (by rw [hgm]; exact hc.hdl x hgm hq)
      rwa [hg] at this

theorem Adj.keep {t : Nat → TV} {m : Id → Mem} {J : (Nat → TV) → (Id → Mem) → Prop} (ks : List (Nat × TV)) (ms : List (Id × Mem)) (hm : KeepM m (memsOf ms) ms) (hk : KeepS t m (memsOf ms) ks) (h : J (slotsOf ks) (memsOf ms)) : Adj t m J :=
  ⟨_, _, wk_keep hm hk, h⟩

/-- A slice that is nil is one that is being made, and empty. -/
theorem Adj.nil {t : Nat → TV} {m : Id → Mem} {J : (Nat → TV) → (Id → Mem) → Prop} (s o k : Nat) (e : TypeId) (get : Nat → Nat → SV) (hs : t s = .d (.one (.v (.slice none 0 0)))) (hm : m (.n o) = .none)
    (h : Adj (upd t s (.hdl (.n o) 0)) (upd m (.n o) (.bld 0 0 k e get)) J) (ho : o < 2000 := by decide) : Adj t m J := by
  obtain ⟨t', m', hwk, hJ⟩ := h
  refine ⟨t', m', fun E ρ a w hR => ?_, hJ⟩
  obtain ⟨k1, k2⟩ := hR.nilBld (.n o) 0 k e get ⟨by omega, .inl ⟨hm, E.hm1 o ho⟩⟩
  refine hwk E (upd ρ (.n o) none) a w { k1 with clean := ?_, slots := ?_ }
  · intro i o' hr
    by_cases hi : i = s
    · subst hi; rw [upd_same] at hr; cases hr; rw [upd_same]; simp
    · rw [upd_ne _ _ _ hi] at hr; exact k1.clean i o' hr
  · intro i
    by_cases hi : i = s
    · subst hi
      rw [upd_same]
      have h1 := k1.slots i
      rw [hs] at h1
      have e1 := (Rd.inv_v (show Rd _ _ _ _ from h1)).1
      rw [e1]
      exact k2
    · rw [upd_ne _ _ _ hi]; exact k1.slots i

/-- A slice that is being made is read from now on. -/
theorem Adj.freeze {t : Nat → TV} {m : Id → Mem} {J : (Nat → TV) → (Id → Mem) → Prop} (s : Nat) (o : Id) (g n k : Nat) (e : TypeId) (get : Nat → Nat → SV) (hs : t s = .hdl o g) (hm : m o = .bld g n k e get)
    (h : Adj (upd t s (.d (.one (.sl n k get)))) (upd m o .dead) J) : Adj t m J := by
  obtain ⟨t', m', hwk, hJ⟩ := h
  refine ⟨t', m', fun E ρ a w hR => ?_, hJ⟩
  have h1 : Rd (Sx E m ρ w [o] false) w (a.tmps.getD s Go.undef) (.sl n k get) := by
    have hv := hR.slots s
    rw [hs] at hv
    have hl := (Lend.bld (m := m) (ks := [o.key]) (o := o) (by simp) hm).rd (E := E) (ρ := ρ) (fun _ _ => rfl) hR.toOwn _ hv
    have hby : (m o).bldy = some (g, n, k) := by rw [hm]; rfl
    have h3 := ((hdlOk_bldy hby).1 hv).2.2 rfl
    have hmo := hR.mem o
    rw [hm] at hmo
    rcases hmo with ⟨hρ, hn0⟩ | ⟨bl, cap, arr, hρ, hblk, hsz, hnc, hcm, hel⟩
    · simp only [HdlAt, hρ] at h3
      rw [h3, hn0]
      exact Rd.nil k get
    · simp only [HdlAt, hρ] at h3
      rw [h3]
      refine Rd.sl (fun i j => (arr[i * k + j]?).getD Go.undef) (.inr ⟨o, .inl (by simp), mem_live_bld hm, cap, hρ⟩) hnc hcm (fun i hi j hj => ?_) (fun i hi j hj => ?_)
      · obtain ⟨y, hy, _⟩ := hel i hi j hj
        simp [World.cell?, hblk, hy]
      · obtain ⟨y, hy, hr⟩ := hel i hi j hj
        simp only [hy, Option.getD_some]
        exact hr.mono (fun b hb => ⟨.inl hb, rfl⟩)
  have k1 := hR.freeze1 o (by rw [hm]; simp)
  refine hwk E ρ a w { k1 with clean := ?_, slots := ?_ }
  · intro i o' hr
    by_cases hi : i = s
    · subst hi; rw [upd_same] at hr; exact hr.elim
    · rw [upd_ne _ _ _ hi] at hr; exact k1.clean i o' hr
  · intro i
    by_cases hi : i = s
    · subst hi
      rw [upd_same]
      refine Rd.mono (fun b hb => ⟨?_, rfl⟩) h1
      rcases hb with hb | ⟨o', ho', l, c', r'⟩
      · refine ⟨hb.1, fun o'' c'' l'' r'' => ?_⟩
        by_cases e2 : o'' = o
        · subst e2; rw [upd_same] at l''; exact l''.elim
        · rw [upd_ne _ _ _ e2] at l''; exact hb.2 o'' c'' l'' r''
      · have ho' := ho'.resolve_right (fun e => by cases e)
        simp only [List.mem_singleton] at ho'
        subst ho'
        obtain ⟨q1, q2⟩ := hR.lo o' b c' l r'
        refine ⟨.inr (q1.imp id (fun q1 => ⟨q1, q2⟩)), fun o'' c'' l'' r'' => ?_⟩
        by_cases e2 : o'' = o'
        · subst e2; rw [upd_same] at l''; exact l''.elim
        · rw [upd_ne _ _ _ e2] at l''; exact e2 (hR.inj o'' o' b c'' c' l'' l r'' r')
    · rw [upd_ne _ _ _ hi]; exact k1.slots i

/-- What is kept at a loop's head, at a letter of one's own. -/
def Kept {α : Type} (ks : α → List (Nat × TV)) (ms : α → List (Id × Mem)) (inv : α → Prop) (x : α) (t : Nat → TV) (m : Id → Mem) : Prop := inv x ∧ t = slotsOf (ks x) ∧ m = memsOf (ms x)

theorem Adj.at {α : Type} {t : Nat → TV} {m : Id → Mem} {ks : α → List (Nat × TV)} {ms : α → List (Id × Mem)} {inv : α → Prop} (y : α) (hi : inv y) (hm : KeepM m (memsOf (ms y)) (ms y)) (hk : KeepS t m (memsOf (ms y)) (ks y)) :
    Adj t m (fun t m => ∃ x, Kept ks ms inv x t m) := ⟨_, _, wk_keep hm hk, y, hi, rfl, rfl⟩
theorem Adj.back {α : Type} {t : Nat → TV} {m : Id → Mem} {ks : α → List (Nat × TV)} {ms : α → List (Id × Mem)} {inv : α → Prop} {rank : α → Nat} {x : α} (y : α) (hi : inv y) (hlt : rank y < rank x) (hm : KeepM m (memsOf (ms y)) (ms y)) (hk : KeepS t m (memsOf (ms y)) (ks y)) :
    Adj t m (fun t3 m3 => ∃ y, Kept ks ms inv y t3 m3 ∧ rank y < rank x) := ⟨_, _, wk_keep hm hk, y, ⟨hi, rfl, rfl⟩, hlt⟩

/-- A LOOP BY A LETTER: what is kept at each round's head, as a function of a state of one's own; that state goes down. -/
theorem Loop.by {α : Type} {body : Post → (Nat → TV) → (Id → Mem) → Prop} {Q : Post} {t : Nat → TV} {m : Id → Mem} (ks : α → List (Nat × TV)) (ms : α → List (Id × Mem)) (inv : α → Prop) (rank : α → Nat) (h0 : Adj t m fun t m => ∃ x, Kept ks ms inv x t m)
    (hr : ∀ x, inv x → body (fun e t'' m'' => match e with
      | .normal => Adj t'' m'' fun t3 m3 => ∃ y, Kept ks ms inv y t3 m3 ∧ rank y < rank x
      | e => Q e t'' m'') (slotsOf (ks x)) (memsOf (ms x))) : Loop body Q t m :=
  ⟨α, Kept ks ms inv, fun x t m => Adj t m fun t3 m3 => ∃ y, Kept ks ms inv y t3 m3 ∧ rank y < rank x, rank, h0, fun _ _ _ h => h, fun x t' m' ⟨hi, h1, h2⟩ => by subst h1 h2; exact hr x hi⟩

/-- A LOOP ROUND BY ROUND. -/
def LoopN (body : Post → (Nat → TV) → (Id → Mem) → Prop) (Q : Post) : Nat → (Nat → TV) → (Id → Mem) → Prop
  | 0, _, _ => False
  | n + 1, t, m => body (fun e t m => match e with
      | .normal => LoopN body Q n t m
      | e => Q e t m) t m
theorem Wk.refl (t : Nat → TV) (m : Id → Mem) : Wk t m t m := fun _ ρ _ _ h => ⟨ρ, h⟩
theorem Loop.unroll {body : Post → (Nat → TV) → (Id → Mem) → Prop} {Q : Post} {t : Nat → TV} {m : Id → Mem} (n : Nat) (h : LoopN body Q n t m) : Loop body Q t m := by
  refine ⟨Nat, LoopN body Q, fun x t m => match x with | 0 => False | k + 1 => LoopN body Q k t m, id, ⟨t, m, Wk.refl t m, n, h⟩, fun x t m hj => ?_, fun x t' m' hi => ?_⟩
  · cases x with
    | zero => exact hj.elim
    | succ k => exact ⟨t, m, Wk.refl t m, k, hj, Nat.lt_succ_self k⟩
  · cases x with
    | zero => exact hi.elim
    | succ k => exact hi
end Go.Vm
