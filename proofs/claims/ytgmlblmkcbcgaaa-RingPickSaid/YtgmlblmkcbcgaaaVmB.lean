/-
  An abstract walk over Go's operations: what each operation does to the walk's state.
-/
import Derived.Test.YtgmlblmkcbcgaaaVmA
namespace Go.Vm
set_option linter.unusedVariables false
set_option linter.unusedSimpArgs false
open Go Go.RowKit

inductive TK where
  | int (k : IntKind)
  | str (fs : List (Nat × TypeId × Nat))
  | arr (n : Nat) (e : TypeId)
  | slc (e : TypeId)
  | cell

structure Ty where
  size : Nat
  bytes : Nat
  kind : TK
  zero : List SV

def TK.isAgg : TK → Bool
  | .str _ => true
  | .arr _ _ => true
  | _ => false

def descIsAgg : TypeDesc → Bool
  | .struct _ => true
  | .array _ _ => true
  | _ => false

/-- What the table says of a type is what the program's own table says. -/
structure TyOk (P : Program) (t : TypeId) (T : Ty) : Prop where
  info : ∃ i z, P.info? t = some i ∧ i.size = T.size ∧ i.bytes = T.bytes ∧ i.zero = some z ∧ z.cells.toList.map SV.v = T.zero ∧ z.cells.toList.all (·.oneCell') = true ∧ z.cells.size = T.size
  kind : match T.kind with
    | .int k => P.underlying t = some (.int k)
    | .str fs => ∃ F, P.underlying t = some (.struct F) ∧ F.toList.map (fun f => (f.offset, f.type, P.cellsOf f.type)) = fs ∧ F.toList.mapM (fun f => (P.info? f.type).map fun i => (f.offset, i.size)) = some (fs.map fun x => (x.1, x.2.2))
    | .arr n e => P.underlying t = some (.array n e)
    | .slc e => P.underlying t = some (.slice e)
    | .cell => ∃ d, P.underlying t = some d ∧ descIsAgg d = false

abbrev Tab := TypeId → Option Ty
def TabOk (P : Program) (TT : Tab) : Prop := ∀ t T, TT t = some T → TyOk P t T

/-! the marks at which a walk stops -/
structure Need (p K : Prop) : Prop where
  p : p
  k : K
structure Split (b : Bool) (K : Bool → Prop) : Prop where
  tt : b = true → K true
  ff : b = false → K false

/-- A word that the walk can't tell: of an object by a letter. -/
structure Look {α : Type} (x : α) (K : α → Prop) : Prop where
  h : ∃ y, x = y ∧ K y
theorem Look.elim {α : Type} {x : α} {K : α → Prop} (h : Look x K) : K x := by obtain ⟨y, e, k⟩ := h.h; exact e ▸ k
/-- One of two ways. -/
structure EitherW (A B : Prop) : Prop where
  h : A ∨ B
theorem EitherW.l {A B : Prop} (h : A) : EitherW A B := ⟨.inl h⟩
theorem EitherW.r {A B : Prop} (h : B) : EitherW A B := ⟨.inr h⟩

def lookW (m : Id → Mem) (o : Id) (K : Mem → Prop) : Prop :=
  match o with
  | .n k => K (m (.n k))
  | .s k i => Look (m (.s k i)) K
theorem lookW_of {m : Id → Mem} {o : Id} {K : Mem → Prop} (h : K (m o)) : lookW m o K := by
  cases o with
  | n k => exact h
  | s k i => exact ⟨_, rfl, h⟩
theorem lookW_iff {m : Id → Mem} {o : Id} {K : Mem → Prop} (h : lookW m o K) : K (m o) := by
  cases o with
  | n k => exact h
  | s k i => exact Look.elim h

theorem Split.elim {b : Bool} {K : Bool → Prop} (h : Split b K) : K b := by
  cases b with
  | true => exact h.tt rfl
  | false => exact h.ff rfl

def cvT : Value → TV
  | .int k n => .d (.one (.v (.int k n)))
  | .bool b => .d (.one (.v (.bool b)))
  | .string s => .d (.one (.v (.string s)))
  | .slice none 0 0 => .d (.one (.v (.slice none 0 0)))
  | .pointer none => .d (.one (.v (.pointer none)))
  | .nilFunc => .d (.one (.v .nilFunc))
  | .float k b => .d (.one (.v (.float k b)))
  | _ => .any

def opd (t : Nat → TV) : Operand → TV
  | .tmp s => t s
  | .const v => cvT v
  | .func f => .d (.one (.fn f 0 fun _ => .v Go.undef))
  | .global _ => .any

/-- A value is laid open before the walk goes on. -/
def TV.force (x : TV) (K : TV → Prop) : Prop :=
  match x with
  | .any => K .any
  | .undef => K .undef
  | .d (.one (.v y)) => K (.d (.one (.v y)))
  | .d (.one (.sl n k g)) => K (.d (.one (.sl n k g)))
  | .d (.one (.ad m c)) => K (.d (.one (.ad m c)))
  | .d (.one (.fn f n c)) => K (.d (.one (.fn f n c)))
  | .d (.agg cs) => K (.d (.agg cs))
  | .tup xs => K (.tup xs)
  | .ptr o p => K (.ptr o p)
  | .hdl o g => K (.hdl o g)
  | .ep o g i f => K (.ep o g i f)
  | .sub o g lo n => K (.sub o g lo n)
  | .nb n neg => K (.nb n neg)
  | .clo f c => K (.clo f c)

theorem TV.force_iff {x : TV} {K : TV → Prop} : x.force K ↔ K x := by
  unfold TV.force
  split <;> exact Iff.rfl

/-- A list of cells out of a function. -/
def cells : Nat → (Nat → SV) → List SV
  | 0, _ => []
  | n + 1, f => f 0 :: cells n fun i => f (i + 1)

/-- What an operation leaves goes to K: the value of its slot, the objects that it turns, the objects that it has looked at. -/
abbrev Kont := TV → List (Id × Mem) → List Nat → Prop

def CR.tv : CR → TV
  | .s c => .d (.one c)
  | .ptr o p => .ptr o p
def CV.tv : CV → TV
  | .s c => .d (.one c)
  | .ptr o p => .ptr o p
  | .hdl o g => .hdl o g
  | .clo f caps => .clo f caps
def CV.tvW (c : CV) (K : TV → Prop) : Prop :=
  match c with
  | .s c => (TV.d (.one c)).force K
  | .ptr o p => K (.ptr o p)
  | .hdl o g => K (.hdl o g)
  | .clo f caps => K (.clo f caps)
theorem CV.tvW_iff {c : CV} {K : TV → Prop} : c.tvW K ↔ K c.tv := by
  unfold CV.tvW
  split
  · rw [TV.force_iff]; exact Iff.rfl
  all_goals exact Iff.rfl
/-- Cells that are only read, as such. -/
def sOnly : List CV → (List SV → Prop) → Prop
  | [], K => K []
  | c :: r, K => match c with
    | .s c => sOnly r fun l => K (c :: l)
    | _ => False
/-- What refers to an object, as a cell. -/
def TV.cvW (x : TV) (K : CV → Prop) : Prop :=
  match x with
  | .ptr o p => K (.ptr o p)
  | .hdl o g => K (.hdl o g)
  | .clo f caps => K (.clo f caps)
  | _ => False

def dataW (T : Ty) (cs : List SV) (K : TV → Prop) : Prop :=
  match T.kind.isAgg with
  | true => K (.d (.agg cs))
  | false => match cs with
    | [c] => (TV.d (.one c)).force K
    | _ => False

def TV.cellsW (x : TV) (K : List SV → Prop) : Prop :=
  match x with
  | .d (.one c) => K [c]
  | .d (.agg cs) => K cs
  | _ => False

def kNum : IntKind → Nat
  | .i8 => 0
  | .i16 => 1
  | .i32 => 2
  | .i64 => 3
  | .u8 => 4
  | .u16 => 5
  | .u32 => 6
  | .u64 => 7
theorem kNum_inj {a b : IntKind} (h : Nat.beq (kNum a) (kNum b) = true) : a = b := by
  have := Nat.eq_of_beq_eq_true h
  cases a <;> cases b <;> first | rfl | (simp [kNum] at this)

def binW (op : BinOp) (a b : TV) (K : TV → Prop) : Prop :=
  match a with
  | .d (.one (.v (.int k x))) => match b with
    | .d (.one (.v (.int k' y))) => bif Nat.beq (kNum k) (kNum k') then (match op with
      | .add => K (.d (.one (.v (.int k (k.wrap (x + y))))))
      | .sub => K (.d (.one (.v (.int k (k.wrap (x - y))))))
      | .mul => K (.d (.one (.v (.int k (k.wrap (x * y))))))
      | .quo => Need (y ≠ 0) (K (.d (.one (.v (.int k (k.wrap (x.tdiv y)))))))
      | .rem => Need (y ≠ 0) (K (.d (.one (.v (.int k (x.tmod y))))))
      | .eql => K (tbool (x == y))
      | .neq => K (tbool (x != y))
      | .lss => K (tbool (decide (x < y)))
      | .leq => K (tbool (decide (x ≤ y)))
      | .gtr => K (tbool (decide (x > y)))
      | .geq => K (tbool (decide (x ≥ y)))
      | _ => False) else False
    | _ => False
  | .d (.one (.v (.string x))) => match b with
    | .d (.one (.v (.string y))) => match op with
      | .eql => K (tbool (x.toList == y.toList))
      | .neq => K (tbool (!(x.toList == y.toList)))
      | _ => False
    | _ => False
  | _ => False

/-- Two booleans, two structs or arrays: '==' by a fact of the type's own. -/
def EqFact (P : Program) (T : TypeId) (xs ys : List SV) (b : Bool) : Prop :=
  P.eqGuardType P.depth T = false ∧ ∀ (S : Nat → Prop) (w : World) (us vs : List Value), RdL S w us xs → RdL S w vs ys → (Op.equal T (.agg us.toArray) (.agg vs.toArray)).run P w = .ok b w
structure EqW (P : Program) (T : TypeId) (xs ys : List SV) (K : Bool → Prop) : Prop where
  h : ∃ b, EqFact P T xs ys b ∧ K b

def ROk (S : Nat → Prop) (w : World) (x : Value) : TV → Prop
  | .d v => DRd S w x v
  | .tup vs => ∃ xs, x = .tuple xs.toArray ∧ DRdL S w xs vs
  | _ => False

def Enters (P : Program) (f : FuncId) : Prop := ∃ fn, P.funcs[f]? = some fn ∧ (fn.name == "runtime.NumGoroutine") = false ∧ fn.body.isNone = false

/-- THE CONTRACT: called with whatever values read as 'args', the function returns what reads as r; nothing that was there has turned; the result is read from the arguments' blocks and from new ones. -/
def Det (P : Program) (f : FuncId) (args : List DV) (r : TV) : Prop :=
  Enters P f ∧ ∀ (w : World) (S : Nat → Prop) (vs : List Value), (∀ b, S b → b < w.heap.size) → DRdL S w vs args →
    Calls P f vs.toArray w fun e w' => ∃ v, e = .returned v ∧ Below w.heap.size w w' ∧ ROk (fun b => S b ∨ (w.heap.size ≤ b ∧ b < w'.heap.size)) w' v r

/-! contracts of functions that turn what they are given: the caller's objects go by the numbers from 2000, a new one that is given back by 3000; a slice's generation is 1 ahead, and 1 behind as long as its header is the same -/
def memL : Nat → List Mem → Id → Mem
  | _, [] => fun _ => .none
  | k, x :: r => upd (memL (k + 1) r) (.n k) x
abbrev memR (ms : List Mem) (fr : Mem) : Id → Mem := upd (memL 2000 ms) (.n 3000) fr
inductive TOkL (E : Env) (m : Id → Mem) (ρ : Id → Option (Nat × Nat)) (w : World) : List Value → List TV → Prop where
  | nil : TOkL E m ρ w [] []
  | cons {x : Value} {t : TV} {xs : List Value} {ts : List TV} (h : TOk E m ρ w x t) (r : TOkL E m ρ w xs ts) : TOkL E m ρ w (x :: xs) (t :: ts)
/-! what a contract says of an object's kind, and that handles are of the newest generation -/
def Mem.kind : Mem → Nat
  | .box _ => 1
  | .ro _ => 1
  | .obj _ => 1
  | .bld _ _ k _ _ => k + 2
  | .bldc _ _ k _ _ => k + 2
  | _ => 0
def Mem.isDead : Mem → Bool
  | .dead => true
  | _ => false
def kinB : List Mem → List Mem → Bool
  | [], [] => true
  | x :: r, y :: r' => (y.isDead || (Nat.beq y.kind x.kind && Nat.blt 0 x.kind)) && kinB r r'
  | _, _ => false
def CV.cur (m : Id → Mem) : CV → Prop
  | .hdl o g => g = (m o).gen
  | _ => True
def Mem.cur (m : Id → Mem) : Mem → Prop
  | .obj cs => ∀ c ∈ cs, c.cur m
  | .bldc _ n k _ get => ∀ i, i < n → ∀ j, j < k → (get i j).cur m
  | _ => True
def TV.cur (m : Id → Mem) : TV → Prop
  | .hdl o g => g = (m o).gen
  | _ => True
structure DetM (P : Program) (f : FuncId) (args : List TV) (ms : List Mem) (r : TV) (ms' : List Mem) (fr : Mem) : Prop where
  enters : Enters P f
  kin : kinB ms ms' = true
  cur : r.cur (memR ms' fr)
  curM : ∀ o, (memR ms' fr o).cur (memR ms' fr)
  closed : ∀ o o', (memL 2000 ms o).refs o' → memL 2000 ms o' ≠ .none
  closedA : ∀ x ∈ args, ∀ o', x.refs o' → memL 2000 ms o' ≠ .none
  clean : ∀ o, r.refs o → memR ms' fr o ≠ .none
  calls : ∀ (E : Env) (vs : List Value), E.P = P → E.m0 = memL 2000 ms → Own E E.ρ0 E.m0 E.w0 → TOkL E E.m0 E.ρ0 E.w0 vs args →
    Calls P f vs.toArray E.w0 fun e w' => ∃ v ρ', e = .returned v ∧ Own E ρ' (memR ms' fr) w' ∧ TOk E (memR ms' fr) ρ' w' v r

/-! the names of a contract's objects, as the caller knows them -/
def renI (os : List Id) (d : Id) : Id → Id
  | .n k => bif Nat.beq k 3000 then d else os.getD (k - 2000) d
  | .s k i => .s k i
/-- The caller's generation behind the call. -/
def renG (m : Id → Mem) (os : List Id) (d : Id) (ms' : List Mem) (o : Id) : Nat :=
  match o with
  | .n k => bif Nat.beq k 3000 then 0 else bif Nat.beq ((ms'.getD (k - 2000) .none).gen) 1 then (m (os.getD (k - 2000) d)).gen else (m (os.getD (k - 2000) d)).gen + 2
  | .s _ _ => 0
section
variable (os : List Id) (d : Id) (G : Id → Nat)
def renCR : CR → CR
  | .s c => .s c
  | .ptr o p => .ptr (renI os d o) p
def renCRs : List CR → List CR
  | [] => []
  | c :: r => renCR os d c :: renCRs r
def renCV : CV → CV
  | .s c => .s c
  | .ptr o p => .ptr (renI os d o) p
  | .hdl o _ => .hdl (renI os d o) (G o)
  | .clo f caps => .clo f (renCRs os d caps)
def renCVs : List CV → List CV
  | [] => []
  | c :: r => renCV os d G c :: renCVs r
def renM (g : Nat) : Mem → Mem
  | .none => .none
  | .dead => .dead
  | .ro cs => .ro cs
  | .box cs => .box cs
  | .bld _ n k e get => .bld g n k e get
  | .obj cs => .obj (renCVs os d G cs)
  | .bldc _ n k e get => .bldc g n k e fun i j => renCV os d G (get i j)
def renT : TV → TV
  | .d x => .d x
  | .tup xs => .tup xs
  | .ptr o p => .ptr (renI os d o) p
  | .hdl o _ => .hdl (renI os d o) (G o)
  | .clo f caps => .clo f (renCRs os d caps)
  | .undef => .undef
  | .nb n neg => .nb n neg
  | _ => .any
def renL : Nat → List Id → List Mem → List (Id × Mem)
  | k, o :: os', x :: r => (o, renM os d G (G (.n k)) x) :: renL (k + 1) os' r
  | _, _, _ => []
def renF : Mem → List (Id × Mem)
  | .none => []
  | x => [(d, renM os d G 0 x)]
end

/-! what says less -/
def SLe (c c' : SV) : Prop := ∀ (S : Nat → Prop) (w : World) (x : Value), Rd S w x c → Rd S w x c'
theorem SLe.refl (c : SV) : SLe c c := fun _ _ _ h => h
inductive LLe : List SV → List SV → Prop where
  | nil : LLe [] []
  | cons {c c' : SV} {l l' : List SV} (h : SLe c c') (r : LLe l l') : LLe (c :: l) (c' :: l')
def DLe (v v' : DV) : Prop := ∀ (S : Nat → Prop) (w : World) (x : Value), DRd S w x v → DRd S w x v'
inductive DsLe : List DV → List DV → Prop where
  | nil : DsLe [] []
  | cons {c c' : DV} {l l' : List DV} (h : DLe c c') (r : DsLe l l') : DsLe (c :: l) (c' :: l')

/-! the caller's words beside the contract's -/
inductive CRFit (os : List Id) (d : Id) : CR → CR → Prop where
  | s {c c' : SV} (h : SLe c c') : CRFit os d (.s c) (.s c')
  | ptr {o o' : Id} {p : Nat} (h : o = renI os d o') : CRFit os d (.ptr o p) (.ptr o' p)
inductive CRFits (os : List Id) (d : Id) : List CR → List CR → Prop where
  | nil : CRFits os d [] []
  | cons {c c' : CR} {l l' : List CR} (h : CRFit os d c c') (r : CRFits os d l l') : CRFits os d (c :: l) (c' :: l')
inductive CVFit (m : Id → Mem) (os : List Id) (d : Id) : CV → CV → Prop where
  | s {c c' : SV} (h : SLe c c') : CVFit m os d (.s c) (.s c')
  | ptr {o o' : Id} {p : Nat} (h : o = renI os d o') : CVFit m os d (.ptr o p) (.ptr o' p)
  | hdl {o o' : Id} {g : Nat} (h : o = renI os d o') (hg : g = (m o).gen) : CVFit m os d (.hdl o g) (.hdl o' 1)
  | clo {f : FuncId} {c c' : List CR} (h : CRFits os d c c') : CVFit m os d (.clo f c) (.clo f c')
inductive CVFits (m : Id → Mem) (os : List Id) (d : Id) : List CV → List CV → Prop where
  | nil : CVFits m os d [] []
  | cons {c c' : CV} {l l' : List CV} (h : CVFit m os d c c') (r : CVFits m os d l l') : CVFits m os d (c :: l) (c' :: l')
inductive MFit (m : Id → Mem) (os : List Id) (d : Id) : Mem → Mem → Prop where
  | ro {l l' : List SV} (h : LLe l l') : MFit m os d (.ro l) (.ro l')
  | box {l l' : List SV} (h : LLe l l') : MFit m os d (.box l) (.box l')
  | boxObj {l : List SV} {l' : List CV} (h : CVFits m os d (l.map .s) l') : MFit m os d (.box l) (.obj l')
  | obj {l l' : List CV} (h : CVFits m os d l l') : MFit m os d (.obj l) (.obj l')
  | bld {g n k : Nat} {e : TypeId} {get get' : Nat → Nat → SV} (h : ∀ i, i < n → ∀ j, j < k → SLe (get i j) (get' i j)) : MFit m os d (.bld g n k e get) (.bld 1 n k e get')
  | bldc {g n k : Nat} {e : TypeId} {get get' : Nat → Nat → CV} (h : ∀ i, i < n → ∀ j, j < k → CVFit m os d (get i j) (get' i j)) : MFit m os d (.bldc g n k e get) (.bldc 1 n k e get')
inductive MFits (m : Id → Mem) (os : List Id) (d : Id) : List Id → List Mem → Prop where
  | nil : MFits m os d [] []
  | cons {o : Id} {x : Mem} {l : List Id} {r : List Mem} (h : MFit m os d (m o) x) (t : MFits m os d l r) : MFits m os d (o :: l) (x :: r)
inductive TFit (m : Id → Mem) (os : List Id) (d : Id) : TV → TV → Prop where
  | d {v v' : DV} (h : DLe v v') : TFit m os d (.d v) (.d v')
  | ptr {o o' : Id} {p : Nat} (h : o = renI os d o') : TFit m os d (.ptr o p) (.ptr o' p)
  | hdl {o o' : Id} {g : Nat} (h : o = renI os d o') (hg : g = (m o).gen) : TFit m os d (.hdl o g) (.hdl o' 1)
  | clo {f : FuncId} {c c' : List CR} (h : CRFits os d c c') : TFit m os d (.clo f c) (.clo f c')
inductive TFits (m : Id → Mem) (os : List Id) (d : Id) : List TV → List TV → Prop where
  | nil : TFits m os d [] []
  | cons {c c' : TV} {l l' : List TV} (h : TFit m os d c c') (r : TFits m os d l l') : TFits m os d (c :: l) (c' :: l')
def nodupB : List Nat → Bool
  | [] => true
  | k :: r => !(r.any (Nat.beq k)) && nodupB r
structure Fits (m : Id → Mem) (os : List Id) (d : Id) (xs args : List TV) (ms : List Mem) (fr : Mem) : Prop where
  mems : MFits m os d os ms
  args : TFits m os d xs args
  keys : nodupB (d.key :: os.map Id.key) = true
  few : Nat.ble os.length 1000 = true
  fresh : fr ≠ .none → m d = .none

/-- A call of a function that turns what it is given: by a contract, at objects of the walk's own. -/
structure CallM (P : Program) (f : FuncId) (xs : List TV) (d : Id) (m : Id → Mem) (K : Kont) : Prop where
  h : ∃ (os : List Id) (args : List TV) (ms : List Mem) (r : TV) (ms' : List Mem) (fr : Mem),
    DetM P f args ms r ms' fr ∧ Fits m os d xs args ms fr ∧
      K (renT os d (renG m os d ms') r) (renL os d (renG m os d ms') 2000 os ms' ++ renF os d (renG m os d ms') fr) (d.key :: os.map Id.key)

structure CallW (P : Program) (f : FuncId) (args : List DV) (K : TV → Prop) : Prop where
  h : ∃ r, Det P f args r ∧ K r
/-- A function without a body: its value, by the model's own answer. -/
structure ExtW (P : Program) (f : FuncId) (args : List DV) (K : Value → Prop) : Prop where
  h : ∃ x : Value, x.oneCell' = true ∧ (∀ (w : World) (S : Nat → Prop) (vs : List Value), DRdL S w vs args → (callFunc f vs.toArray).run P w = .ok (.value x) w) ∧ K x
/-- A float made a whole number. -/
structure ConvF (k : FloatKind) (b : Nat) (d : IntKind) (K : Int → Prop) : Prop where
  h : ∃ z, (k.decode b).toInt .zero = some z ∧ d.min ≤ z ∧ z ≤ d.max ∧ K z

def sfreeL : List SV → Bool
  | [] => true
  | .v _ :: r => sfreeL r
  | _ :: _ => false
def sfreeD : List DV → Bool
  | [] => true
  | .one (.v _) :: r => sfreeD r
  | .agg cs :: r => sfreeL cs && sfreeD r
  | _ :: _ => false
def sfree : TV → Bool
  | .d x => sfreeD [x]
  | .tup xs => sfreeD xs
  | _ => false

def CR.cv : CR → CV
  | .s c => .s c
  | .ptr o p => .ptr o p
/-- What is lent to be read: the walk's own objects included. 'ks': the families looked at. -/
inductive Lend (m : Id → Mem) (ks : List Nat) : CV → SV → Prop where
  | s (c : SV) : Lend m ks (.s c) c
  | box {o : Id} {p q : Nat} {l : List SV} (hk : o.key ∈ ks) (h : m o = .box l ∨ m o = .ro l) (hq : p + q ≤ l.length) : Lend m ks (.ptr o p) (.ad q fun j => l.getD (p + j) (.v Go.undef))
  | obj {o : Id} {p q : Nat} {l : List CV} {cell : Nat → SV} (hk : o.key ∈ ks) (h : m o = .obj l) (hq : p + q ≤ l.length) (hc : ∀ j, j < q → Lend m ks (l.getD (p + j) (.s (.v Go.undef))) (cell j)) : Lend m ks (.ptr o p) (.ad q cell)
  | bld {o : Id} {g n k : Nat} {e : TypeId} {get : Nat → Nat → SV} (hk : o.key ∈ ks) (h : m o = .bld g n k e get) : Lend m ks (.hdl o g) (.sl n k get)
  | bldc {o : Id} {g n k : Nat} {e : TypeId} {get : Nat → Nat → CV} {get' : Nat → Nat → SV} (hk : o.key ∈ ks) (h : m o = .bldc g n k e get) (hc : ∀ i, i < n → ∀ j, j < k → Lend m ks (get i j) (get' i j)) : Lend m ks (.hdl o g) (.sl n k get')
  | clo {f : FuncId} {n : Nat} {caps : List CR} {cell : Nat → SV} (hn : n = caps.length) (hc : ∀ j, j < n → Lend m ks (caps.getD j (.s (.v Go.undef))).cv (cell j)) (hf : Nat.blt f 10000000 = true := by rfl) : Lend m ks (.clo f caps) (.fn f n cell)
structure LendW (m : Id → Mem) (c : CV) (K : SV → List Nat → Prop) : Prop where
  h : ∃ x ks, Lend m ks c x ∧ K x ks

/-- An argument, as the callee reads it; the objects that are shut if what the callee gives back may read them; the families looked at; whether what is given back must be free of addresses. -/
def argW (m : Id → Mem) (x : TV) (K : DV → List Id → List Nat → Bool → Prop) : Prop :=
  match x with
  | .d v => K v [] [] false
  | .hdl o g => lookW m o fun mo => match mo with
    | .bld g' n k _ get => bif Nat.beq g g' then K (.one (.sl n k get)) [o] [o.key] false else False
    | _ => LendW m (.hdl o g) fun x ks => K (.one x) [] ks true
  | .sub o g lo n => lookW m o fun mo => match mo with
    | .bld g' _ k _ get => bif Nat.beq g g' then K (.one (.sl n k fun i j => get (lo + i) j)) [o] [o.key] false else False
    | _ => False
  | .ptr o p => lookW m o fun mo => match mo with
    | .ro cs => K (.one (.ad (cs.length - p) fun j => cs.getD (p + j) (.v Go.undef))) [] [o.key] false
    | _ => LendW m (.ptr o p) fun x ks => K (.one x) [] ks true
  | .clo f caps => LendW m (.clo f caps) fun x ks => K (.one x) [] ks true
  | _ => False

def argsW (t : Nat → TV) (m : Id → Mem) : List Operand → (List DV → List Id → List Nat → Bool → Prop) → Prop
  | [], K => K [] [] [] false
  | x :: r, K => argW m (opd t x) fun v hs rd ft => argsW t m r fun l hs' rd' ft' => K (v :: l) (hs ++ hs') (rd ++ rd') (ft || ft')

def crsW (m : Id → Mem) : List CR → (List DV → List Nat → Bool → Prop) → Prop
  | [], K => K [] [] false
  | c :: r, K => match c with
    | .s c => crsW m r fun l rd ft => K (.one c :: l) rd ft
    | .ptr o p => LendW m (.ptr o p) fun x ks => crsW m r fun l rd _ => K (.one x :: l) (ks ++ rd) true

def capsL (n : Nat) (cap : Nat → SV) : List DV := (cells n cap).map .one

/-- A call by contract. -/
def callK (P : Program) (f : FuncId) (l : List DV) (hs : List Id) (rd : List Nat) (ft : Bool) (K : Kont) : Prop :=
  CallW P f l fun r => bif !ft || sfree r then K r (bif sfree r then [] else hs.map fun o => (o, .dead)) rd else False
def flagged (fl : List Nat) (f : Nat) : Bool := fl.any (Nat.beq f)
def callW (P : Program) (fl : List Nat) (t : Nat → TV) (m : Id → Mem) (f : FuncId) (args : List Operand) (n : Nat) (cap : Nat → SV) (d : Option Nat) (K : Kont) : Prop :=
  bif flagged fl (f + 2000000) then CallM P f (args.map (opd t) ++ (capsL n cap).map .d) (.n (d.getD 0)) m K
  else bif flagged fl (f + 5000000) then argsW t m args fun l _ rd _ => ExtW P f (l ++ capsL n cap) fun x => K (.d (.one (.v x))) [] rd
  else argsW t m args fun l hs rd ft => callK P f (l ++ capsL n cap) hs rd ft K
/-- A call of a function value whose first arguments are bound. -/
structure BoundC (P : Program) (f : FuncId) (xs : List TV) (d : Id) (m : Id → Mem) (K : Kont) : Prop where
  h : ∃ g, f = g + 10000000 ∧ CallM P g xs d m K
/-- A call of a function value that has captured objects. -/
def callCW (P : Program) (fl : List Nat) (t : Nat → TV) (m : Id → Mem) (f : FuncId) (args : List Operand) (caps : List CR) (d : Option Nat) (K : Kont) : Prop :=
  bif Nat.blt f 10000000 then (bif flagged fl (f + 2000000) then CallM P f (args.map (opd t) ++ caps.map CR.tv) (.n (d.getD 0)) m K
  else argsW t m args fun l hs rd ft => crsW m caps fun l' rd' ft' => callK P f (l ++ l') hs (rd ++ rd') (ft || ft') K)
  else match args with
  | [] => BoundC P f (caps.map CR.tv) (.n (d.getD 0)) m K
  | _ => False

/-- A load out of cells that may lead to objects. -/
def loadC (T : Ty) (l : List CV) (K : TV → Prop) : Prop :=
  match T.kind.isAgg with
  | true => sOnly l fun l => K (.d (.agg l))
  | false => match l with
    | [c] => c.tvW K
    | _ => False

def loadW (T : Ty) (m : Id → Mem) (a : TV) (K : Kont) : Prop :=
  match a with
  | .d (.one (.ad n cell)) => bif Nat.ble T.size n then dataW T (cells T.size cell) (fun x => K x [] []) else False
  | .ptr o off => lookW m o fun mo => match mo with
    | .box cs => bif Nat.ble (off + T.size) cs.length then dataW T ((cs.drop off).take T.size) (fun x => K x [] [o.key]) else False
    | .ro cs => bif Nat.ble (off + T.size) cs.length then dataW T ((cs.drop off).take T.size) (fun x => K x [] [o.key]) else False
    | .obj cs => bif Nat.ble (off + T.size) cs.length then loadC T ((cs.drop off).take T.size) (fun x => K x [] [o.key]) else False
    | _ => False
  | .ep o g i off => lookW m o fun mo => match mo with
    | .bld g' _ k _ get => bif Nat.beq g g' && Nat.ble (off + T.size) k then dataW T (cells T.size fun j => get i (off + j)) (fun x => K x [] [o.key]) else False
    | .bldc g' _ k _ get => bif Nat.beq g g' && Nat.blt off k && Nat.beq T.size 1 && !T.kind.isAgg then Look (get i off) (fun c => c.tvW fun x => K x [] [o.key]) else False
    | _ => False
  | _ => False

/-! what goes into the state is laid open to its cells -/
def SV.deep (c : SV) (K : SV → Prop) : Prop :=
  match c with
  | .v x => match x with
    | .int k n => K (.v (.int k n))
    | .bool b => K (.v (.bool b))
    | x => K (.v x)
  | .sl n k g => K (.sl n k g)
  | .ad m c => K (.ad m c)
  | .fn f n c => K (.fn f n c)
theorem SV.deep_iff {c : SV} {K : SV → Prop} : c.deep K ↔ K c := by
  unfold SV.deep
  split
  · split <;> exact Iff.rfl
  all_goals exact Iff.rfl
def deepL : List SV → (List SV → Prop) → Prop
  | [], K => K []
  | c :: r, K => c.deep fun c => deepL r fun r => K (c :: r)
theorem deepL_iff : ∀ {l : List SV} {K : List SV → Prop}, deepL l K ↔ K l
  | [], _ => Iff.rfl
  | c :: r, K => by simp only [deepL]; rw [SV.deep_iff, deepL_iff]

/-- Data goes into memory. -/
def storeD (m : Id → Mem) (a : TV) (l : List SV) (K : Kont) : Prop :=
  match a with
  | .ptr o off => lookW m o fun mo => match mo with
    | .box cs => bif Nat.ble (off + l.length) cs.length then K .any [(o, .box (setC cs off l))] [o.key] else False
    | .obj cs => bif Nat.ble (off + l.length) cs.length then K .any [(o, .obj (setC cs off (l.map .s)))] [o.key] else False
    | _ => False
  | .ep o g i off => lookW m o fun mo => match mo with
    | .bld g' n k e get => bif Nat.beq g g' && Nat.ble (off + l.length) k then
        K .any [(o, .bld g' n k e fun i' j => bif Nat.beq i' i && Nat.ble off j && Nat.blt j (off + l.length) then l.getD (j - off) (.v Go.undef) else get i' j)] [o.key] else False
    | .bldc g' n k e get => bif Nat.beq g g' && Nat.ble (off + l.length) k then
        K .any [(o, .bldc g' n k e fun i' j => bif Nat.beq i' i && Nat.ble off j && Nat.blt j (off + l.length) then .s (l.getD (j - off) (.v Go.undef)) else get i' j)] [o.key] else False
    | _ => False
  | _ => False
/-- What refers to an object goes into memory. -/
def storeR (m : Id → Mem) (a : TV) (c : CV) (K : Kont) : Prop :=
  match a with
  | .ptr o off => lookW m o fun mo => match mo with
    | .box cs => bif Nat.blt off cs.length then K .any [(o, .obj (setC (cs.map .s) off [c]))] [o.key] else False
    | .obj cs => bif Nat.blt off cs.length then K .any [(o, .obj (setC cs off [c]))] [o.key] else False
    | _ => False
  | .ep o g i off => lookW m o fun mo => match mo with
    | .bld g' n k e get => bif Nat.beq g g' && Nat.blt off k then
        K .any [(o, .bldc g' n k e fun i' j => bif Nat.beq i' i && Nat.beq j off then c else .s (get i' j))] [o.key] else False
    | .bldc g' n k e get => bif Nat.beq g g' && Nat.blt off k then
        K .any [(o, .bldc g' n k e fun i' j => bif Nat.beq i' i && Nat.beq j off then c else get i' j)] [o.key] else False
    | _ => False
  | _ => False

def storeW (T : Ty) (m : Id → Mem) (a v : TV) (K : Kont) : Prop :=
  match v with
  | .d (.one c) => bif Nat.beq 1 T.size then storeD m a [c] K else False
  | .d (.agg cs) => bif Nat.beq cs.length T.size then storeD m a cs K else False
  | .ptr o p => bif Nat.beq 1 T.size then storeR m a (.ptr o p) K else False
  | .hdl o g => bif Nat.beq 1 T.size then storeR m a (.hdl o g) K else False
  | .clo f caps => bif Nat.beq 1 T.size then storeR m a (.clo f caps) K else False
  | _ => False

/-! what lies at a place that only a proof tells -/
structure LoadS (T : Ty) (cs : List CV) (off : Nat) (K : TV → Prop) : Prop where
  h : ∃ c, cs[off]? = some c ∧ T.kind.isAgg = false ∧ T.size = 1 ∧ K c.tv
/-- The same of what is lent. -/
structure LoadA (T : Ty) (cell : Nat → SV) (K : TV → Prop) : Prop where
  h : ∃ c, cell 0 = c ∧ T.kind.isAgg = false ∧ T.size = 1 ∧ K (.d (.one c))
def loadS (T : Ty) (m : Id → Mem) (a : TV) (K : Kont) : Prop :=
  match a with
  | .ptr o off => lookW m o fun mo => match mo with
    | .obj cs => LoadS T cs off fun x => K x [] [o.key]
    | _ => False
  | .d (.one (.ad n cell)) => bif Nat.ble 1 n then LoadA T cell fun x => K x [] [] else False
  | _ => False
structure StoreS (cs : List CV) (off : Nat) (c : CV) (K : List CV → Prop) : Prop where
  h : ∃ cs', setC cs off [c] = cs' ∧ off < cs.length ∧ K cs'
def storeS (T : Ty) (m : Id → Mem) (a v : TV) (K : Kont) : Prop :=
  match a with
  | .ptr o off => lookW m o fun mo => match mo with
    | .obj cs => bif Nat.beq 1 T.size then v.cvW fun c => StoreS cs off c fun cs' => K .any [(o, .obj cs')] [o.key] else False
    | _ => False
  | _ => False
def tmpOf : Operand → Nat
  | .tmp k => k
  | _ => 0

def fillW (t : Nat → TV) (place : Nat → Option Nat) : List SV → List (Nat × Operand) → (List SV → Prop) → Prop
  | cs, [], K => K cs
  | cs, (i, x) :: r, K => match place i with
    | some off => (opd t x).cellsW fun l => bif Nat.ble (off + l.length) cs.length then deepL (setC cs off l) fun cs => fillW t place cs r K else False
    | none => False

/-- The part sizes that 'build' asks for. -/
def partsFit (t : Nat → TV) (size : Nat → Option Nat) : List (Nat × Operand) → Bool
  | [] => true
  | (i, x) :: r => (match size i, opd t x with
    | some n, .d (.one _) => Nat.beq n 1
    | some n, .d (.agg cs) => Nat.beq n cs.length
    | _, _ => false) && partsFit t size r

def repeatL : Nat → List SV → List SV
  | 0, _ => []
  | n + 1, l => l ++ repeatL n l

def minW (k : IntKind) (x : Int) : List TV → (Int → Prop) → Prop
  | [], K => K x
  | y :: r, K => match y with
    | .d (.one (.v (.int _ y))) => minW k (if y < x then y else x) r K
    | _ => False
def maxW (k : IntKind) (x : Int) : List TV → (Int → Prop) → Prop
  | [], K => K x
  | y :: r, K => match y with
    | .d (.one (.v (.int _ y))) => maxW k (if y > x then y else x) r K
    | _ => False

/-- The source of an append or a copy, as a list. -/
def srcW (m : Id → Mem) (k : Nat) (x : TV) (K : Nat → (Nat → Nat → SV) → List Nat → Prop) : Prop :=
  match x with
  | .d (.one (.sl n k' get)) => bif Nat.beq k' k then K n get [] else False
  | .d (.one (.v (.slice none 0 0))) => K 0 (fun _ _ => .v Go.undef) []
  | .hdl o g => lookW m o fun mo => match mo with
    | .bld g' n k' _ get => bif Nat.beq g g' && Nat.beq k' k then K n get [o.key] else False
    | _ => False
  | .sub o g lo n => lookW m o fun mo => match mo with
    | .bld g' _ k' _ get => bif Nat.beq g g' && Nat.beq k' k then K n (fun i j => get (lo + i) j) [o.key] else False
    | _ => False
  | _ => False

def appendW (TE : Ty) (e : TypeId) (d : Nat) (m : Id → Mem) (s x : TV) (K : Kont) : Prop :=
  match s with
  | .d (.one (.v (.slice none 0 0))) => match m (.n d) with
    | .none => srcW m TE.size x fun n get rd => Need (n * TE.bytes ≤ 140737488355328 ∧ n ≤ maxLen) (K (.hdl d 0) [(.n d, .bld 0 n TE.size e get)] (d :: rd))
    | _ => False
  | .hdl o g => lookW m o fun mo => match mo with
    | .bld g' n k e' get => bif Nat.beq g g' && Nat.beq k TE.size && Nat.beq e' e then (srcW m k x fun n' get' rd =>
        Need ((n + n') * TE.bytes ≤ 140737488355328 ∧ n + n' ≤ maxLen) (K (.hdl o (g + 2)) [(o, .bld (g + 2) (n + n') k e fun i j => bif Nat.blt i n then get i j else get' (i - n) j)] (o.key :: rd))) else False
    | _ => False
  | .sub o g lo n => lookW m o fun mo => match mo with
    | .bld g' N k e' get => bif Nat.beq g g' && Nat.beq k TE.size && Nat.beq e' e then (srcW m k x fun n' get' rd =>
        Need (lo = 0 ∧ n + n' ≤ N) (K (.sub o (g + 2) 0 (n + n')) [(o, .bld (g + 2) N k e fun i j => bif Nat.blt i n then get i j else bif Nat.blt i (n + n') then get' (i - n) j else get i j)] (o.key :: rd))) else False
    | _ => False
  | _ => False
/-- append(s, make([]E, n)...): the translator's form has the number. -/
def appendZ (TE : Ty) (e : TypeId) (d : Nat) (m : Id → Mem) (s x : TV) (K : Kont) : Prop :=
  match s, x, m (.n d) with
  | .d (.one (.v (.slice none 0 0))), .d (.one (.v (.int .i64 n))), .none =>
    Need (0 < n ∧ n * TE.bytes ≤ 140737488355328 ∧ n ≤ maxLen ∧ 0 < TE.size) (K (.hdl d 0) [(.n d, .bld 0 n.toNat TE.size e fun _ j => TE.zero.getD j (.v Go.undef))] [d])
  | _, _, _ => False

/-- An append of cells that may lead to objects. -/
def appendC (TE : Ty) (e : TypeId) (m : Id → Mem) (s x : TV) (K : Kont) : Prop :=
  match s, x with
  | .hdl o g, .hdl o' g' => lookW m o fun mo => match mo with
    | .bldc g1 n k e' get => lookW m o' fun mx => match mx with
      | .bldc g2 n' k' _ get' => bif (Nat.beq g g1 && Nat.beq g' g2) && ((Nat.beq k TE.size && Nat.beq k' TE.size) && (Nat.beq e' e && Nat.blt 0 n')) then
          Need ((n + n') * TE.bytes ≤ 140737488355328 ∧ n + n' ≤ maxLen) (K (.hdl o (g + 2)) [(o, .bldc (g + 2) (n + n') k e fun i j => bif Nat.blt i n then get i j else get' (i - n) j)] [o.key, o'.key]) else False
      | _ => False
    | _ => False
  | _, _ => False
/-- A slice literal of one cell that leads to an object. -/
def buildH (TT : Tab) (ty : TypeId) (len : Nat) (parts : List (Nat × Operand)) (t : Nat → TV) (m : Id → Mem) (dst : Option Nat) (K : Kont) : Prop :=
  match TT ty, dst with
  | some T, some d => match T.kind with
    | .slc e => match TT e with
      | some TE => match parts, m (.n d) with
        | [(0, x)], .none => match opd t x with
          | .hdl o g => bif Nat.beq len 1 && Nat.beq TE.size 1 then K (.hdl d 0) [(.n d, .bldc 0 1 1 e fun _ _ => .hdl o g)] [d] else False
          | _ => False
        | _, _ => False
      | none => False
    | _ => False
  | _, _ => False

def boundW (x : TV) (K : Nat → Int → Prop) : Prop :=
  match x with
  | .d (.one (.v (.int _ n))) => K n.toNat n
  | _ => False

def optW (t : Nat → TV) (dflt : Nat) : Option Operand → (Nat → Int → Prop) → Prop
  | none, K => K dflt dflt
  | some x, K => boundW (opd t x) K

def sliceW (sz : Nat) (x : TV) (t : Nat → TV) (lo hi : Option Operand) (K : TV → Prop) : Prop :=
  match x with
  | .d (.one (.sl n k get)) => bif Nat.beq k sz then optW t n hi fun h hI => optW t 0 lo fun l lI =>
      Need (0 ≤ lI ∧ lI ≤ hI ∧ hI ≤ n) (K (.d (.one (.sl (h - l) k fun i j => get (l + i) j)))) else False
  | .d (.one (.v (.slice none 0 0))) => optW t 0 hi fun _ hI => optW t 0 lo fun _ lI =>
      Need (lI = 0 ∧ hI = 0) (K (.d (.one (.v (.slice none 0 0)))))
  | _ => False
/-- Some elements of a slice that is being made: seen as such, or (from the first on) the slice from now on. -/
def sliceR (sz : Nat) (m : Id → Mem) (o : Id) (g lo0 n0 : Nat) (t : Nat → TV) (lo hi : Option Operand) (K : Kont) : Prop :=
  lookW m o fun mo => match mo with
  | .bld g' n k e get => bif Nat.beq g g' && Nat.beq k sz then optW t n0 hi fun h hI => optW t 0 lo fun l lI =>
      Need (0 ≤ lI ∧ lI ≤ hI ∧ lo0 + hI ≤ n) (EitherW (K (.sub o g (lo0 + l) (h - l)) [] [o.key]) (lo0 + l = 0 ∧ K (.hdl o (g + 2)) [(o, .bld (g + 2) h k e get)] [o.key])) else False
  | _ => False
def lenW (m : Id → Mem) (x : TV) (K : Nat → List Nat → Prop) : Prop :=
  match x with
  | .d (.one (.sl n _ _)) => K n []
  | .d (.one (.v (.slice none 0 0))) => K 0 []
  | .hdl o g => lookW m o fun mo => match mo with
    | .bld g' n _ _ _ => bif Nat.beq g g' then K n [o.key] else False
    | .bldc g' n _ _ _ => bif Nat.beq g g' then K n [o.key] else False
    | _ => False
  | .sub o g _ n => lookW m o fun mo => match mo with
    | .bld g' _ _ _ _ => bif Nat.beq g g' then K n [o.key] else False
    | .bldc g' _ _ _ _ => bif Nat.beq g g' then K n [o.key] else False
    | _ => False
  | _ => False

def captureW (t : Nat → TV) (m : Id → Mem) : List Operand → (List SV → List (Id × Mem) → List Nat → Prop) → Prop
  | [], K => K [] [] []
  | x :: r, K => match opd t x with
    | .d (.one c) => captureW t m r fun l ms rd => K (c :: l) ms rd
    | .ptr o p => match p with
      | 0 => lookW m o fun mo => match mo with
        | .box cs => captureW t m r fun l ms rd => K (.ad cs.length (fun j => cs.getD j (.v Go.undef)) :: l) ((o, .ro cs) :: ms) (o.key :: rd)
        | .ro cs => captureW t m r fun l ms rd => K (.ad cs.length (fun j => cs.getD j (.v Go.undef)) :: l) ms (o.key :: rd)
        | _ => False
      | _ => False
    | _ => False
/-- What is captured by its address. -/
def captureR (t : Nat → TV) : List Operand → (List CR → Prop) → Prop
  | [], K => K []
  | x :: r, K => match opd t x with
    | .d (.one c) => captureR t r fun l => K (.s c :: l)
    | .ptr o p => captureR t r fun l => K (.ptr o p :: l)
    | _ => False
def byRef (t : Nat → TV) (m : Id → Mem) : List Operand → Bool
  | [] => false
  | x :: r => (match opd t x with
    | .ptr o _ => (match o with
      | .n k => (match m (.n k) with
        | .obj _ => true
        | _ => false)
      | .s _ _ => true)
    | _ => false) || byRef t m r

def keysOf (t : Nat → TV) : List Operand → List Nat
  | [] => []
  | x :: r => match opd t x with
    | .ptr o _ => o.key :: keysOf t r
    | _ => keysOf t r

def opW (P : Program) (TT : Tab) (fl : List Nat) (o : Oper) (t : Nat → TV) (m : Id → Mem) (K : Kont) : Prop :=
  match o.op with
  | .move x => (opd t x).force fun x => K x [] []
  | .assign x => (opd t x).force fun x => K x [] []
  | .pick c a b => match opd t c with
    | .d (.one (.v (.bool q))) => Split q fun q => bif q then (opd t a).force fun x => K x [] [] else (opd t b).force fun x => K x [] []
    | _ => False
  | .alloc e => match TT e, o.dst with
    | some T, some d => match m (.n d) with
      | .none => K (.ptr d 0) [(.n d, .box T.zero)] [d]
      | _ => False
    | _, _ => False
  | .box e x => match TT e, o.dst with
    | some _, some d => match m (.n d) with
      | .none => match opd t x with
        | .ptr o p => K (.ptr d 0) [(.n d, .obj [.ptr o p])] [d]
        | .hdl o g => K (.ptr d 0) [(.n d, .obj [.hdl o g])] [d]
        | .clo f caps => K (.ptr d 0) [(.n d, .obj [.clo f caps])] [d]
        | x => x.cellsW fun l => K (.ptr d 0) [(.n d, .box l)] [d]
      | _ => False
    | _, _ => False
  | .build ty parts => match TT ty with
    | some T => match T.kind with
      | .str fs => bif partsFit t (fun i => (fs[i]?).map (·.2.2)) parts.toList then fillW t (fun i => (fs[i]?).map (·.1)) T.zero parts.toList fun cs => K (.d (.agg cs)) [] [] else False
      | .arr _ e => match TT e with
        | some TE => bif partsFit t (fun _ => some TE.size) parts.toList then fillW t (fun i => some (i * TE.size)) T.zero parts.toList fun cs => K (.d (.agg cs)) [] [] else False
        | none => False
      | _ => False
    | none => False
  | .buildSlice ty len parts => bif flagged fl (o.dst.getD 0 + 7000000) then buildH TT ty len parts.toList t m o.dst K else match TT ty, o.dst with
    | some T, some d => match T.kind with
      | .slc e => match TT e with
        | some TE => bif Nat.ble (len * TE.size) 65536 && Nat.blt 0 TE.size && partsFit t (fun _ => some TE.size) parts.toList then
            (match len with
            | 0 => match parts.toList, m (.n d) with
              | [], .none => K (.hdl d 0) [(.n d, .bld 0 0 TE.size e fun _ _ => .v Go.undef)] [d]
              | _, _ => False
            | _ => bif flagged fl (d + 6000000) then (match m (.n d) with
                | .none => fillW t (fun i => some (i * TE.size)) (repeatL len TE.zero) parts.toList fun cs => K (.hdl d 0) [(.n d, .bld 0 len TE.size e fun i j => cs.getD (i * TE.size + j) (.v Go.undef))] [d]
                | _ => False) else
              fillW t (fun i => some (i * TE.size)) (repeatL len TE.zero) parts.toList fun cs => K (.d (.one (.sl len TE.size fun i j => cs.getD (i * TE.size + j) (.v Go.undef)))) [] [])
          else False
        | none => False
      | _ => False
    | _, _ => False
  | .load ty a => match TT ty with
    | some T => bif flagged fl (o.dst.getD 0 + 3000000) then loadS T m (opd t a) K else loadW T m (opd t a) K
    | none => False
  | .store ty a x => match TT ty with
    | some T => bif flagged fl (tmpOf a + 4000000) then storeS T m (opd t a) (opd t x) K else storeW T m (opd t a) (opd t x) K
    | none => False
  | .nilCheck x => match opd t x with
    | .ptr b p => lookW m b fun mo => match mo with
      | .box _ => K (.ptr b p) [] [b.key]
      | .ro _ => K (.ptr b p) [] [b.key]
      | .obj _ => K (.ptr b p) [] [b.key]
      | _ => False
    | .clo f caps => K (.clo f caps) [] []
    | .d (.one (.fn f n c)) => K (.d (.one (.fn f n c))) [] []
    | .d (.one (.ad n c)) => K (.d (.one (.ad n c))) [] []
    | _ => False
  | .binOp op ty x y _ => match opd t x, opd t y with
    | .d (.agg xs), .d (.agg ys) => match op with
      | .eql => EqW P ty xs ys fun b => K (tbool b) [] []
      | .neq => EqW P ty xs ys fun b => K (tbool (!b)) [] []
      | _ => False
    | .d (.one (.v (.bool a))), .d (.one (.v (.bool b))) => match TT ty with
      | some T => match op, T.kind with
        | .eql, .cell => Need (P.underlying ty = some .bool) (K (tbool (a == b)) [] [])
        | .neq, .cell => Need (P.underlying ty = some .bool) (K (tbool (!(a == b))) [] [])
        | _, _ => False
      | none => False
    | a, .d (.one (.v (.slice none 0 0))) => match TT ty with
      | some T => match op, T.kind with
        | .eql, .slc _ => lenW m a fun n rd => K (.nb n false) [] rd
        | .neq, .slc _ => lenW m a fun n rd => K (.nb n true) [] rd
        | _, _ => False
      | none => False
    | a, b => binW op a b fun x => K x [] []
  | .unOp op _ x => match opd t x with
    | .d (.one (.v (.bool b))) => match op with
      | .not => K (tbool (!b)) [] []
      | _ => False
    | .nb n neg => match op with
      | .not => K (.nb n (!neg)) [] []
      | _ => False
    | .d (.one (.v (.int k n))) => match op with
      | .neg => K (.d (.one (.v (.int k (k.wrap (0 - n)))))) [] []
      | _ => False
    | _ => False
  | .convert src dst x => match TT dst with
    | some T => match T.kind, opd t x with
      | .int k, .d (.one (.v (.int _ n))) => Need (∃ d, P.underlying src = some d) (K (.d (.one (.v (.int k (k.wrap n))))) [] [])
      | .int k, .d (.one (.v (.float fk b))) => ConvF fk b k fun z => Need (∃ d, P.underlying src = some d) (K (.d (.one (.v (.int k z)))) [] [])
      | .cell, .d (.one (.v (.int _ n))) => Need ((∃ d, P.underlying src = some d) ∧ P.underlying dst = some (.float .f64)) (K (.d (.one (.v (.float .f64 (FloatKind.f64.nearest n))))) [] [])
      | _, _ => False
    | none => False
  | .makeSlice ty n c => match TT ty, o.dst with
    | some T, some d => match T.kind, m (.n d) with
      | .slc e, .none => match TT e, opd t n, opd t c with
        | some TE, .d (.one (.v (.int _ n))), .d (.one (.v (.int _ c))) => Need (0 ≤ n ∧ n ≤ c ∧ (TE.bytes : Int) * c ≤ 281474976710656 ∧ c ≤ 9223372036854775807)
            (K (.hdl d 0) [(.n d, .bld 0 n.toNat TE.size e fun _ j => TE.zero.getD j (.v Go.undef))] [d])
        | _, _, _ => False
      | _, _ => False
    | _, _ => False
  | .slice ty x lo hi none => match TT ty with
    | some T => match T.kind with
      | .slc e => match TT e with
        | some TE => match opd t x with
          | .hdl o g => lenW m (.hdl o g) fun n _ => sliceR TE.size m o g 0 n t lo hi K
          | .sub o g lo0 n0 => sliceR TE.size m o g lo0 n0 t lo hi K
          | x => sliceW TE.size x t lo hi fun x => K x [] []
        | none => False
      | _ => False
    | none => False
  | .slice ty x lo (some hi) (some mx) => match TT ty with
    | some T => match T.kind with
      | .slc e => match TT e with
        | some _ => lenW m (opd t x) fun n rd => optW t 0 lo fun _ lI => boundW (opd t hi) fun _ hI => boundW (opd t mx) fun _ mI =>
          Need (0 ≤ lI ∧ lI ≤ hI ∧ hI ≤ mI ∧ mI ≤ n) (K .any [] rd)
        | none => False
      | _ => False
    | none => False
  | .makeFunc (.func f) first captured => match first.toList with
    | [] => bif flagged fl (f + 1000000) || byRef t m captured.toList then bif Nat.blt f 10000000 then captureR t captured.toList fun l => K (.clo f l) [] (keysOf t captured.toList) else False
        else captureW t m captured.toList fun l ms rd => K (.d (.one (.fn f l.length fun j => l.getD j (.v Go.undef)))) ms rd
    | _ => match captured.toList with
      | [] => captureR t first.toList fun l => K (.clo (f + 10000000) l) [] (keysOf t first.toList)
      | _ => False
  | .fieldAddr s x f => match TT s with
    | some T => match T.kind with
      | .str fs => match fs[f]? with
        | some (off, _, size) => bif Nat.blt 0 size then
          (match opd t x with
          | .ptr b p => lookW m b fun mo => match mo with
            | .box _ => K (.ptr b (p + off)) [] [b.key]
            | .ro _ => K (.ptr b (p + off)) [] [b.key]
            | .obj _ => K (.ptr b (p + off)) [] [b.key]
            | _ => False
          | .ep b g i p => lookW m b fun mo => match mo with
            | .bld g' _ _ _ _ => bif Nat.beq g g' then K (.ep b g i (p + off)) [] [b.key] else False
            | .bldc g' _ _ _ _ => bif Nat.beq g g' then K (.ep b g i (p + off)) [] [b.key] else False
            | _ => False
          | .d (.one (.ad n cell)) => K (.d (.one (.ad (n - off) fun j => cell (off + j)))) [] []
          | _ => False) else False
        | none => False
      | _ => False
    | none => False
  | .field s x f => match TT s with
    | some T => match T.kind with
      | .str fs => match fs[f]? with
        | some (off, ty, size) => match TT ty, opd t x with
          | some TF, .d (.agg cs) => bif Nat.beq TF.size size && Nat.ble (off + size) cs.length then dataW TF ((cs.drop off).take size) fun x => K x [] [] else False
          | _, _ => False
        | none => False
      | _ => False
    | none => False
  | .indexAddr ty x i => match TT ty with
    | some T => match T.kind with
      | .arr len e => match TT e with
        | some TE => match opd t x, opd t i with
          | .ptr b p, .d (.one (.v (.int _ n))) => lookW m b fun mo => match mo with
            | .box _ => Need (0 ≤ n ∧ n < len) (K (.ptr b (p + n.toNat * TE.size)) [] [b.key])
            | .ro _ => Need (0 ≤ n ∧ n < len) (K (.ptr b (p + n.toNat * TE.size)) [] [b.key])
            | .obj _ => Need (0 ≤ n ∧ n < len) (K (.ptr b (p + n.toNat * TE.size)) [] [b.key])
            | _ => False
          | .d (.one (.ad q cell)), .d (.one (.v (.int _ n))) => Need (0 ≤ n ∧ n < len) (bif Nat.ble (len * TE.size) q then K (.d (.one (.ad TE.size fun j => cell (n.toNat * TE.size + j)))) [] [] else K (.d (.one (.ad (q - n.toNat * TE.size) fun j => cell (n.toNat * TE.size + j)))) [] [])
          | .ep b g r p, .d (.one (.v (.int _ n))) => lookW m b fun mo => match mo with
            | .bld g' _ _ _ _ => bif Nat.beq g g' then Need (0 ≤ n ∧ n < len) (K (.ep b g r (p + n.toNat * TE.size)) [] [b.key]) else False
            | .bldc g' _ _ _ _ => bif Nat.beq g g' then Need (0 ≤ n ∧ n < len) (K (.ep b g r (p + n.toNat * TE.size)) [] [b.key]) else False
            | _ => False
          | _, _ => False
        | none => False
      | .slc e => match TT e with
        | some TE => match opd t x, opd t i with
          | .d (.one (.sl n k get)), .d (.one (.v (.int _ q))) => bif Nat.beq k TE.size then Need (0 ≤ q ∧ q < n) (K (.d (.one (.ad k (get q.toNat)))) [] []) else False
          | .hdl b g, .d (.one (.v (.int _ q))) => lookW m b fun mo => match mo with
            | .bld g' n k _ _ => bif Nat.beq g g' && Nat.beq k TE.size then Need (0 ≤ q ∧ q < n) (K (.ep b g q.toNat 0) [] [b.key]) else False
            | .bldc g' n k _ _ => bif Nat.beq g g' && Nat.beq k TE.size then Need (0 ≤ q ∧ q < n) (K (.ep b g q.toNat 0) [] [b.key]) else False
            | _ => False
          | .sub b g lo n, .d (.one (.v (.int _ q))) => lookW m b fun mo => match mo with
            | .bld g' _ k _ _ => bif Nat.beq g g' && Nat.beq k TE.size then Need (0 ≤ q ∧ q < n) (K (.ep b g (lo + q.toNat) 0) [] [b.key]) else False
            | .bldc g' _ k _ _ => bif Nat.beq g g' && Nat.beq k TE.size then Need (0 ≤ q ∧ q < n) (K (.ep b g (lo + q.toNat) 0) [] [b.key]) else False
            | _ => False
          | _, _ => False
        | none => False
      | _ => False
    | none => False
  | .index ty x i => match TT ty with
    | some T => match T.kind with
      | .arr len e => match TT e with
        | some TE => match opd t x, opd t i with
          | .d (.agg cs), .d (.one (.v (.int _ n))) => Need (0 ≤ n ∧ n < len ∧ n.toNat * TE.size + TE.size ≤ cs.length) (dataW TE ((cs.drop (n.toNat * TE.size)).take TE.size) fun x => K x [] [])
          | _, _ => False
        | none => False
      | _ => False
    | none => False
  | .extract x i => match opd t x with
    | .tup xs => match xs[i]? with
      | some v => (TV.d v).force fun x => K x [] []
      | none => False
    | _ => False
  | .call c => match c.callee with
    | .value f => match opd t f with
      | .d (.one (.fn f n cap)) => callW P fl t m f c.args.toList n cap o.dst K
      | .clo f caps => callCW P fl t m f c.args.toList caps o.dst K
      | _ => False
    | .builtin b => match b, c.args.toList, c.argTypes.toList with
      | .len, [x], [ty] => match TT ty with
        | some T => match T.kind with
          | .slc _ => lenW m (opd t x) fun n rd => K (tint n) [] rd
          | .arr n _ => K (tint n) [] []
          | _ => False
        | none => False
      | .cap, [x], [ty] => match TT ty with
        | some T => match T.kind, opd t x with
          | .slc _, .d (.one (.v (.slice none 0 0))) => K (tint 0) [] []
          | _, _ => False
        | none => False
      | .clear, [x], [ty] => match TT ty with
        | some T => match T.kind with
          | .slc e => match TT e, opd t x with
            | some TE, .sub o g lo n => lookW m o fun mo => match mo with
              | .bld g' N k e' get => bif Nat.beq g g' && Nat.beq k TE.size && Nat.beq e' e then K .any [(o, .bld g N k e fun i j => bif Nat.ble lo i && Nat.blt i (lo + n) then TE.zero.getD j (.v Go.undef) else get i j)] [o.key] else False
              | _ => False
            | _, _ => False
          | _ => False
        | none => False
      | .min, x :: r, _ => match opd t x with
        | .d (.one (.v (.int k x))) => minW k x (r.map (opd t)) fun n => K (.d (.one (.v (.int k n)))) [] []
        | _ => False
      | .max, x :: r, _ => match opd t x with
        | .d (.one (.v (.int k x))) => maxW k x (r.map (opd t)) fun n => K (.d (.one (.v (.int k n)))) [] []
        | _ => False
      | .append, [s, x], [ty, ty'] => match TT ty, o.dst with
        | some T, some d => match T.kind with
          | .slc e => match TT e with
            | some TE => bif flagged fl (d + 8000000) then (bif Nat.beq ty' ty then appendC TE e m (opd t s) (opd t x) K else False) else bif Nat.beq ty' ty then appendW TE e d m (opd t s) (opd t x) K else (match TT ty' with
              | some TZ => (match TZ.kind with
                | .int .i64 => appendZ TE e d m (opd t s) (opd t x) K
                | .slc _ => appendW TE e d m (opd t s) (opd t x) K
                | _ => False)
              | none => False)
            | none => False
          | _ => False
        | _, _ => False
      | _, _, _ => False
    | _ => False
  | _ => False
end Go.Vm
