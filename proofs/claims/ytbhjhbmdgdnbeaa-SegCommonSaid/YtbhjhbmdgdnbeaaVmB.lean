/-
  An abstract walk over Go's operations: what each operation does to the walk's state.
-/
import Derived.Test.YtbhjhbmdgdnbeaaVmA
namespace Go.Vm
open Go Go.RowKit

inductive TK where
  | int (k : IntKind)
  | str (fs : List (Nat × TypeId × Nat))
  | arr (n : Nat) (e : TypeId)
  | slc (e : TypeId)
  | cell

structure Ty where
  size : Nat
  bytes : Nat
  kind : TK
  zero : List SV

def TK.isAgg : TK → Bool
  | .str _ => true
  | .arr _ _ => true
  | _ => false

def descIsAgg : TypeDesc → Bool
  | .struct _ => true
  | .array _ _ => true
  | _ => false

/-- What the table says of a type is what the program's own table says. -/
structure TyOk (P : Program) (t : TypeId) (T : Ty) : Prop where
  info : ∃ i z, P.info? t = some i ∧ i.size = T.size ∧ i.bytes = T.bytes ∧ i.zero = some z ∧ z.cells.toList.map SV.v = T.zero ∧ z.cells.toList.all (·.oneCell') = true ∧ z.cells.size = T.size
  kind : match T.kind with
    | .int k => P.underlying t = some (.int k)
    | .str fs => ∃ F, P.underlying t = some (.struct F) ∧ F.toList.map (fun f => (f.offset, f.type, P.cellsOf f.type)) = fs ∧ F.toList.mapM (fun f => (P.info? f.type).map fun i => (f.offset, i.size)) = some (fs.map fun x => (x.1, x.2.2))
    | .arr n e => P.underlying t = some (.array n e)
    | .slc e => P.underlying t = some (.slice e)
    | .cell => ∃ d, P.underlying t = some d ∧ descIsAgg d = false

abbrev Tab := TypeId → Option Ty
def TabOk (P : Program) (TT : Tab) : Prop := ∀ t T, TT t = some T → TyOk P t T

/-! the marks at which a walk stops -/
structure Need (p K : Prop) : Prop where
  p : p
  k : K
structure Split (b : Bool) (K : Bool → Prop) : Prop where
  tt : b = true → K true
  ff : b = false → K false

theorem Split.elim {b : Bool} {K : Bool → Prop} (h : Split b K) : K b := by
  cases b with
  | true => exact h.tt rfl
  | false => exact h.ff rfl

def cvT : Value → TV
  | .int k n => .d (.one (.v (.int k n)))
  | .bool b => .d (.one (.v (.bool b)))
  | .string s => .d (.one (.v (.string s)))
  | .slice none 0 0 => .d (.one (.v (.slice none 0 0)))
  | .pointer none => .d (.one (.v (.pointer none)))
  | .nilFunc => .d (.one (.v .nilFunc))
  | .float k b => .d (.one (.v (.float k b)))
  | _ => .any

def opd (t : Nat → TV) : Operand → TV
  | .tmp s => t s
  | .const v => cvT v
  | .func f => .d (.one (.fn f 0 fun _ => .v Go.undef))
  | .global _ => .any

/-- A value is laid open before the walk goes on. -/
def TV.force (x : TV) (K : TV → Prop) : Prop :=
  match x with
  | .any => K .any
  | .undef => K .undef
  | .d (.one (.v y)) => K (.d (.one (.v y)))
  | .d (.one (.sl n k g)) => K (.d (.one (.sl n k g)))
  | .d (.one (.ad m c)) => K (.d (.one (.ad m c)))
  | .d (.one (.fn f n c)) => K (.d (.one (.fn f n c)))
  | .d (.agg cs) => K (.d (.agg cs))
  | .tup xs => K (.tup xs)
  | .ptr o p => K (.ptr o p)
  | .hdl o g => K (.hdl o g)
  | .ep o g i f => K (.ep o g i f)

theorem TV.force_iff {x : TV} {K : TV → Prop} : x.force K ↔ K x := by
  unfold TV.force
  split <;> exact Iff.rfl

/-- A list of cells out of a function. -/
def cells : Nat → (Nat → SV) → List SV
  | 0, _ => []
  | n + 1, f => f 0 :: cells n fun i => f (i + 1)

/-- What an operation leaves goes to K: the value of its slot, the objects that it turns, the objects that it has looked at. -/
abbrev Kont := TV → List (Nat × Mem) → List Nat → Prop

def dataW (T : Ty) (cs : List SV) (K : TV → Prop) : Prop :=
  match T.kind.isAgg with
  | true => K (.d (.agg cs))
  | false => match cs with
    | [c] => (TV.d (.one c)).force K
    | _ => False

def TV.cellsW (x : TV) (K : List SV → Prop) : Prop :=
  match x with
  | .d (.one c) => K [c]
  | .d (.agg cs) => K cs
  | _ => False

def kNum : IntKind → Nat
  | .i8 => 0
  | .i16 => 1
  | .i32 => 2
  | .i64 => 3
  | .u8 => 4
  | .u16 => 5
  | .u32 => 6
  | .u64 => 7
theorem kNum_inj {a b : IntKind} (h : Nat.beq (kNum a) (kNum b) = true) : a = b := by
  have := Nat.eq_of_beq_eq_true h
  cases a <;> cases b <;> first | rfl | (simp [kNum] at this)

def binW (op : BinOp) (a b : TV) (K : TV → Prop) : Prop :=
  match a with
  | .d (.one (.v (.int k x))) => match b with
    | .d (.one (.v (.int k' y))) => bif Nat.beq (kNum k) (kNum k') then (match op with
      | .add => K (.d (.one (.v (.int k (k.wrap (x + y))))))
      | .sub => K (.d (.one (.v (.int k (k.wrap (x - y))))))
      | .mul => K (.d (.one (.v (.int k (k.wrap (x * y))))))
      | .quo => Need (y ≠ 0) (K (.d (.one (.v (.int k (k.wrap (x.tdiv y)))))))
      | .rem => Need (y ≠ 0) (K (.d (.one (.v (.int k (x.tmod y))))))
      | .eql => K (tbool (x == y))
      | .neq => K (tbool (x != y))
      | .lss => K (tbool (decide (x < y)))
      | .leq => K (tbool (decide (x ≤ y)))
      | .gtr => K (tbool (decide (x > y)))
      | .geq => K (tbool (decide (x ≥ y)))
      | _ => False) else False
    | _ => False
  | .d (.one (.v (.string x))) => match b with
    | .d (.one (.v (.string y))) => match op with
      | .eql => K (tbool (x.toList == y.toList))
      | .neq => K (tbool (!(x.toList == y.toList)))
      | _ => False
    | _ => False
  | _ => False

/-- Two booleans, two structs or arrays: '==' by a fact of the type's own. -/
def EqFact (P : Program) (T : TypeId) (xs ys : List SV) (b : Bool) : Prop :=
  P.eqGuardType P.depth T = false ∧ ∀ (S : Nat → Prop) (w : World) (us vs : List Value), RdL S w us xs → RdL S w vs ys → (Op.equal T (.agg us.toArray) (.agg vs.toArray)).run P w = .ok b w
structure EqW (P : Program) (T : TypeId) (xs ys : List SV) (K : Bool → Prop) : Prop where
  h : ∃ b, EqFact P T xs ys b ∧ K b

def ROk (S : Nat → Prop) (w : World) (x : Value) : TV → Prop
  | .d v => DRd S w x v
  | .tup vs => ∃ xs, x = .tuple xs.toArray ∧ DRdL S w xs vs
  | _ => False

def Enters (P : Program) (f : FuncId) : Prop := ∃ fn, P.funcs[f]? = some fn ∧ (fn.name == "runtime.NumGoroutine") = false ∧ fn.body.isNone = false

/-- THE CONTRACT: called with whatever values read as 'args', the function returns what reads as r; nothing that was there has turned; the result is read from the arguments' blocks and from new ones. -/
def Det (P : Program) (f : FuncId) (args : List DV) (r : TV) : Prop :=
  Enters P f ∧ ∀ (w : World) (S : Nat → Prop) (vs : List Value), (∀ b, S b → b < w.heap.size) → DRdL S w vs args →
    Calls P f vs.toArray w fun e w' => ∃ v, e = .returned v ∧ Below w.heap.size w w' ∧ ROk (fun b => S b ∨ (w.heap.size ≤ b ∧ b < w'.heap.size)) w' v r

structure CallW (P : Program) (f : FuncId) (args : List DV) (K : TV → Prop) : Prop where
  h : ∃ r, Det P f args r ∧ K r

def sfreeL : List SV → Bool
  | [] => true
  | .v _ :: r => sfreeL r
  | _ :: _ => false
def sfreeD : List DV → Bool
  | [] => true
  | .one (.v _) :: r => sfreeD r
  | .agg cs :: r => sfreeL cs && sfreeD r
  | _ :: _ => false
def sfree : TV → Bool
  | .d x => sfreeD [x]
  | .tup xs => sfreeD xs
  | _ => false

/-- An argument, as the callee reads it; the objects that it is read through (those that are being made apart). -/
def argW (m : Nat → Mem) (x : TV) (K : DV → List Nat → List Nat → Prop) : Prop :=
  match x with
  | .d v => K v [] []
  | .hdl o g => match m o with
    | .bld g' n k _ get => bif Nat.beq g g' then K (.one (.sl n k get)) [o] [o] else False
    | _ => False
  | .ptr o p => match m o with
    | .ro cs => K (.one (.ad (cs.length - p) fun j => cs.getD (p + j) (.v Go.undef))) [] [o]
    | _ => False
  | _ => False

def argsW (t : Nat → TV) (m : Nat → Mem) : List Operand → (List DV → List Nat → List Nat → Prop) → Prop
  | [], K => K [] [] []
  | x :: r, K => argW m (opd t x) fun v hs rd => argsW t m r fun l hs' rd' => K (v :: l) (hs ++ hs') (rd ++ rd')

def capsL (n : Nat) (cap : Nat → SV) : List DV := (cells n cap).map .one

def callW (P : Program) (t : Nat → TV) (m : Nat → Mem) (f : FuncId) (args : List Operand) (n : Nat) (cap : Nat → SV) (K : Kont) : Prop :=
  argsW t m args fun l hs rd => CallW P f (l ++ capsL n cap) fun r => K r (bif sfree r then [] else hs.map fun o => (o, .dead)) rd

def loadW (T : Ty) (m : Nat → Mem) (a : TV) (K : Kont) : Prop :=
  match a with
  | .d (.one (.ad n cell)) => bif Nat.ble T.size n then dataW T (cells T.size cell) (fun x => K x [] []) else False
  | .ptr o off => match m o with
    | .box cs => bif Nat.ble (off + T.size) cs.length then dataW T ((cs.drop off).take T.size) (fun x => K x [] [o]) else False
    | .ro cs => bif Nat.ble (off + T.size) cs.length then dataW T ((cs.drop off).take T.size) (fun x => K x [] [o]) else False
    | _ => False
  | .ep o g i off => match m o with
    | .bld g' _ k _ get => bif Nat.beq g g' && Nat.ble (off + T.size) k then dataW T (cells T.size fun j => get i (off + j)) (fun x => K x [] [o]) else False
    | _ => False
  | _ => False

def storeW (T : Ty) (m : Nat → Mem) (a v : TV) (K : Kont) : Prop :=
  v.cellsW fun l => bif Nat.beq l.length T.size then
    match a with
    | .ptr o off => match m o with
      | .box cs => bif Nat.ble (off + l.length) cs.length then K .any [(o, .box (setC cs off l))] [o] else False
      | _ => False
    | .ep o g i off => match m o with
      | .bld g' n k e get => bif Nat.beq g g' && Nat.ble (off + l.length) k then
          K .any [(o, .bld g' n k e fun i' j => bif Nat.beq i' i && Nat.ble off j && Nat.blt j (off + l.length) then l.getD (j - off) (.v Go.undef) else get i' j)] [o] else False
      | _ => False
    | _ => False
  else False

/-! what goes into the state is laid open to its cells -/
def SV.deep (c : SV) (K : SV → Prop) : Prop :=
  match c with
  | .v x => match x with
    | .int k n => K (.v (.int k n))
    | .bool b => K (.v (.bool b))
    | x => K (.v x)
  | .sl n k g => K (.sl n k g)
  | .ad m c => K (.ad m c)
  | .fn f n c => K (.fn f n c)
theorem SV.deep_iff {c : SV} {K : SV → Prop} : c.deep K ↔ K c := by
  unfold SV.deep
  split
  · split <;> exact Iff.rfl
  all_goals exact Iff.rfl
def deepL : List SV → (List SV → Prop) → Prop
  | [], K => K []
  | c :: r, K => c.deep fun c => deepL r fun r => K (c :: r)
theorem deepL_iff : ∀ {l : List SV} {K : List SV → Prop}, deepL l K ↔ K l
  | [], _ => Iff.rfl
  | c :: r, K => by simp only [deepL]; rw [SV.deep_iff, deepL_iff]

def fillW (t : Nat → TV) (place : Nat → Option Nat) : List SV → List (Nat × Operand) → (List SV → Prop) → Prop
  | cs, [], K => K cs
  | cs, (i, x) :: r, K => match place i with
    | some off => (opd t x).cellsW fun l => bif Nat.ble (off + l.length) cs.length then deepL (setC cs off l) fun cs => fillW t place cs r K else False
    | none => False

/-- The part sizes that 'build' asks for. -/
def partsFit (t : Nat → TV) (size : Nat → Option Nat) : List (Nat × Operand) → Bool
  | [] => true
  | (i, x) :: r => (match size i, opd t x with
    | some n, .d (.one _) => Nat.beq n 1
    | some n, .d (.agg cs) => Nat.beq n cs.length
    | _, _ => false) && partsFit t size r

def repeatL : Nat → List SV → List SV
  | 0, _ => []
  | n + 1, l => l ++ repeatL n l

def minW (k : IntKind) (x : Int) : List TV → (Int → Prop) → Prop
  | [], K => K x
  | y :: r, K => match y with
    | .d (.one (.v (.int _ y))) => minW k (if y < x then y else x) r K
    | _ => False
def maxW (k : IntKind) (x : Int) : List TV → (Int → Prop) → Prop
  | [], K => K x
  | y :: r, K => match y with
    | .d (.one (.v (.int _ y))) => maxW k (if y > x then y else x) r K
    | _ => False

/-- The source of an append or a copy, as a list. -/
def srcW (m : Nat → Mem) (k : Nat) (x : TV) (K : Nat → (Nat → Nat → SV) → List Nat → Prop) : Prop :=
  match x with
  | .d (.one (.sl n k' get)) => bif Nat.beq k' k then K n get [] else False
  | .d (.one (.v (.slice none 0 0))) => K 0 (fun _ _ => .v Go.undef) []
  | .hdl o g => match m o with
    | .bld g' n k' _ get => bif Nat.beq g g' && Nat.beq k' k then K n get [o] else False
    | _ => False
  | _ => False

def appendW (TE : Ty) (e : TypeId) (d : Nat) (m : Nat → Mem) (s x : TV) (K : Kont) : Prop :=
  match s with
  | .d (.one (.v (.slice none 0 0))) => match m d with
    | .none => srcW m TE.size x fun n get rd => Need (n * TE.bytes ≤ 140737488355328 ∧ n ≤ maxLen) (K (.hdl d 0) [(d, .bld 0 n TE.size e get)] (d :: rd))
    | _ => False
  | .hdl o g => match m o with
    | .bld g' n k e' get => bif Nat.beq g g' && Nat.beq k TE.size && Nat.beq e' e then (srcW m k x fun n' get' rd =>
        Need ((n + n') * TE.bytes ≤ 140737488355328 ∧ n + n' ≤ maxLen) (K (.hdl o (g + 1)) [(o, .bld (g + 1) (n + n') k e fun i j => bif Nat.blt i n then get i j else get' (i - n) j)] (o :: rd))) else False
    | _ => False
  | _ => False

def boundW (x : TV) (K : Nat → Int → Prop) : Prop :=
  match x with
  | .d (.one (.v (.int _ n))) => K n.toNat n
  | _ => False

def optW (t : Nat → TV) (dflt : Nat) : Option Operand → (Nat → Int → Prop) → Prop
  | none, K => K dflt dflt
  | some x, K => boundW (opd t x) K

def sliceW (sz : Nat) (x : TV) (t : Nat → TV) (lo hi : Option Operand) (K : TV → Prop) : Prop :=
  match x with
  | .d (.one (.sl n k get)) => bif Nat.beq k sz then optW t n hi fun h hI => optW t 0 lo fun l lI =>
      Need (0 ≤ lI ∧ lI ≤ hI ∧ hI ≤ n) (K (.d (.one (.sl (h - l) k fun i j => get (l + i) j)))) else False
  | .d (.one (.v (.slice none 0 0))) => optW t 0 hi fun _ hI => optW t 0 lo fun _ lI =>
      Need (lI = 0 ∧ hI = 0) (K (.d (.one (.v (.slice none 0 0)))))
  | _ => False

def captureW (t : Nat → TV) (m : Nat → Mem) : List Operand → (List SV → List (Nat × Mem) → List Nat → Prop) → Prop
  | [], K => K [] [] []
  | x :: r, K => match opd t x with
    | .d (.one c) => captureW t m r fun l ms rd => K (c :: l) ms rd
    | .ptr o p => match p with
      | 0 => match m o with
        | .box cs => captureW t m r fun l ms rd => K (.ad cs.length (fun j => cs.getD j (.v Go.undef)) :: l) ((o, .ro cs) :: ms) (o :: rd)
        | .ro cs => captureW t m r fun l ms rd => K (.ad cs.length (fun j => cs.getD j (.v Go.undef)) :: l) ms (o :: rd)
        | _ => False
      | _ => False
    | _ => False

def opW (P : Program) (TT : Tab) (o : Oper) (t : Nat → TV) (m : Nat → Mem) (K : Kont) : Prop :=
  match o.op with
  | .move x => (opd t x).force fun x => K x [] []
  | .assign x => (opd t x).force fun x => K x [] []
  | .pick c a b => match opd t c with
    | .d (.one (.v (.bool q))) => Split q fun q => bif q then (opd t a).force fun x => K x [] [] else (opd t b).force fun x => K x [] []
    | _ => False
  | .alloc e => match TT e, o.dst with
    | some T, some d => match m d with
      | .none => K (.ptr d 0) [(d, .box T.zero)] [d]
      | _ => False
    | _, _ => False
  | .box e x => match TT e, o.dst with
    | some _, some d => match m d with
      | .none => (opd t x).cellsW fun l => K (.ptr d 0) [(d, .box l)] [d]
      | _ => False
    | _, _ => False
  | .build ty parts => match TT ty with
    | some T => match T.kind with
      | .str fs => bif partsFit t (fun i => (fs[i]?).map (·.2.2)) parts.toList then fillW t (fun i => (fs[i]?).map (·.1)) T.zero parts.toList fun cs => K (.d (.agg cs)) [] [] else False
      | .arr _ e => match TT e with
        | some TE => bif partsFit t (fun _ => some TE.size) parts.toList then fillW t (fun i => some (i * TE.size)) T.zero parts.toList fun cs => K (.d (.agg cs)) [] [] else False
        | none => False
      | _ => False
    | none => False
  | .buildSlice ty len parts => match TT ty, o.dst with
    | some T, some d => match T.kind with
      | .slc e => match TT e with
        | some TE => bif Nat.ble (len * TE.size) 65536 && Nat.blt 0 TE.size && partsFit t (fun _ => some TE.size) parts.toList then
            (match len with
            | 0 => match parts.toList, m d with
              | [], .none => K (.hdl d 0) [(d, .bld 0 0 TE.size e fun _ _ => .v Go.undef)] [d]
              | _, _ => False
            | _ => fillW t (fun i => some (i * TE.size)) (repeatL len TE.zero) parts.toList fun cs => K (.d (.one (.sl len TE.size fun i j => cs.getD (i * TE.size + j) (.v Go.undef)))) [] [])
          else False
        | none => False
      | _ => False
    | _, _ => False
  | .load ty a => match TT ty with
    | some T => loadW T m (opd t a) K
    | none => False
  | .store ty a x => match TT ty with
    | some T => storeW T m (opd t a) (opd t x) K
    | none => False
  | .nilCheck x => match opd t x with
    | .ptr b p => match m b with
      | .box _ => K (.ptr b p) [] [b]
      | .ro _ => K (.ptr b p) [] [b]
      | _ => False
    | .d (.one (.fn f n c)) => K (.d (.one (.fn f n c))) [] []
    | .d (.one (.ad n c)) => K (.d (.one (.ad n c))) [] []
    | _ => False
  | .binOp op ty x y _ => match opd t x, opd t y with
    | .d (.agg xs), .d (.agg ys) => match op with
      | .eql => EqW P ty xs ys fun b => K (tbool b) [] []
      | .neq => EqW P ty xs ys fun b => K (tbool (!b)) [] []
      | _ => False
    | .d (.one (.v (.bool a))), .d (.one (.v (.bool b))) => match TT ty with
      | some T => match op, T.kind with
        | .eql, .cell => Need (P.underlying ty = some .bool) (K (tbool (a == b)) [] [])
        | .neq, .cell => Need (P.underlying ty = some .bool) (K (tbool (!(a == b))) [] [])
        | _, _ => False
      | none => False
    | a, b => binW op a b fun x => K x [] []
  | .unOp op _ x => match opd t x with
    | .d (.one (.v (.bool b))) => match op with
      | .not => K (tbool (!b)) [] []
      | _ => False
    | .d (.one (.v (.int k n))) => match op with
      | .neg => K (.d (.one (.v (.int k (k.wrap (0 - n)))))) [] []
      | _ => False
    | _ => False
  | .convert _ dst x => match TT dst with
    | some T => match T.kind, opd t x with
      | .int k, .d (.one (.v (.int _ n))) => Need (∃ d, P.underlying (match o.op with | .convert s _ _ => s | _ => 0) = some d) (K (.d (.one (.v (.int k (k.wrap n))))) [] [])
      | _, _ => False
    | none => False
  | .makeSlice ty n c => match TT ty, o.dst with
    | some T, some d => match T.kind, m d with
      | .slc e, .none => match TT e, opd t n, opd t c with
        | some TE, .d (.one (.v (.int _ n))), .d (.one (.v (.int _ c))) => Need (0 ≤ n ∧ n ≤ c ∧ (TE.bytes : Int) * c ≤ 281474976710656 ∧ c ≤ 9223372036854775807)
            (K (.hdl d 0) [(d, .bld 0 n.toNat TE.size e fun _ j => TE.zero.getD j (.v Go.undef))] [d])
        | _, _, _ => False
      | _, _ => False
    | _, _ => False
  | .slice ty x lo hi none => match TT ty with
    | some T => match T.kind with
      | .slc e => match TT e with
        | some TE => sliceW TE.size (opd t x) t lo hi fun x => K x [] []
        | none => False
      | _ => False
    | none => False
  | .makeFunc (.func f) first captured => match first.toList with
    | [] => captureW t m captured.toList fun l ms rd => K (.d (.one (.fn f l.length fun j => l.getD j (.v Go.undef)))) ms rd
    | _ => False
  | .fieldAddr s x f => match TT s with
    | some T => match T.kind with
      | .str fs => match fs[f]? with
        | some (off, _, size) => bif Nat.blt 0 size then
          (match opd t x with
          | .ptr b p => match m b with
            | .box _ => K (.ptr b (p + off)) [] [b]
            | .ro _ => K (.ptr b (p + off)) [] [b]
            | _ => False
          | .ep b g i p => match m b with
            | .bld g' _ _ _ _ => bif Nat.beq g g' then K (.ep b g i (p + off)) [] [b] else False
            | _ => False
          | .d (.one (.ad n cell)) => K (.d (.one (.ad (n - off) fun j => cell (off + j)))) [] []
          | _ => False) else False
        | none => False
      | _ => False
    | none => False
  | .field s x f => match TT s with
    | some T => match T.kind with
      | .str fs => match fs[f]? with
        | some (off, ty, size) => match TT ty, opd t x with
          | some TF, .d (.agg cs) => bif Nat.beq TF.size size && Nat.ble (off + size) cs.length then dataW TF ((cs.drop off).take size) fun x => K x [] [] else False
          | _, _ => False
        | none => False
      | _ => False
    | none => False
  | .indexAddr ty x i => match TT ty with
    | some T => match T.kind with
      | .arr len e => match TT e with
        | some TE => match opd t x, opd t i with
          | .ptr b p, .d (.one (.v (.int _ n))) => match m b with
            | .box _ => Need (0 ≤ n ∧ n < len) (K (.ptr b (p + n.toNat * TE.size)) [] [b])
            | .ro _ => Need (0 ≤ n ∧ n < len) (K (.ptr b (p + n.toNat * TE.size)) [] [b])
            | _ => False
          | .d (.one (.ad q cell)), .d (.one (.v (.int _ n))) => Need (0 ≤ n ∧ n < len) (K (.d (.one (.ad (q - n.toNat * TE.size) fun j => cell (n.toNat * TE.size + j)))) [] [])
          | .ep b g r p, .d (.one (.v (.int _ n))) => match m b with
            | .bld g' _ _ _ _ => bif Nat.beq g g' then Need (0 ≤ n ∧ n < len) (K (.ep b g r (p + n.toNat * TE.size)) [] [b]) else False
            | _ => False
          | _, _ => False
        | none => False
      | .slc e => match TT e with
        | some TE => match opd t x, opd t i with
          | .d (.one (.sl n k get)), .d (.one (.v (.int _ q))) => bif Nat.beq k TE.size then Need (0 ≤ q ∧ q < n) (K (.d (.one (.ad k (get q.toNat)))) [] []) else False
          | .hdl b g, .d (.one (.v (.int _ q))) => match m b with
            | .bld g' n k _ _ => bif Nat.beq g g' && Nat.beq k TE.size then Need (0 ≤ q ∧ q < n) (K (.ep b g q.toNat 0) [] [b]) else False
            | _ => False
          | _, _ => False
        | none => False
      | _ => False
    | none => False
  | .index ty x i => match TT ty with
    | some T => match T.kind with
      | .arr len e => match TT e with
        | some TE => match opd t x, opd t i with
          | .d (.agg cs), .d (.one (.v (.int _ n))) => Need (0 ≤ n ∧ n < len ∧ n.toNat * TE.size + TE.size ≤ cs.length) (dataW TE ((cs.drop (n.toNat * TE.size)).take TE.size) fun x => K x [] [])
          | _, _ => False
        | none => False
      | _ => False
    | none => False
  | .extract x i => match opd t x with
    | .tup xs => match xs[i]? with
      | some v => (TV.d v).force fun x => K x [] []
      | none => False
    | _ => False
  | .call c => match c.callee with
    | .value f => match opd t f with
      | .d (.one (.fn f n cap)) => callW P t m f c.args.toList n cap K
      | _ => False
    | .builtin b => match b, c.args.toList, c.argTypes.toList with
      | .len, [x], [ty] => match TT ty with
        | some T => match T.kind, opd t x with
          | .slc _, .d (.one (.sl n _ _)) => K (tint n) [] []
          | .slc _, .d (.one (.v (.slice none 0 0))) => K (tint 0) [] []
          | .slc _, .hdl b g => match m b with
            | .bld g' n _ _ _ => bif Nat.beq g g' then K (tint n) [] [b] else False
            | _ => False
          | .arr n _, _ => K (tint n) [] []
          | _, _ => False
        | none => False
      | .min, x :: r, _ => match opd t x with
        | .d (.one (.v (.int k x))) => minW k x (r.map (opd t)) fun n => K (.d (.one (.v (.int k n)))) [] []
        | _ => False
      | .max, x :: r, _ => match opd t x with
        | .d (.one (.v (.int k x))) => maxW k x (r.map (opd t)) fun n => K (.d (.one (.v (.int k n)))) [] []
        | _ => False
      | .append, [s, x], [ty, ty'] => match TT ty, o.dst with
        | some T, some d => match T.kind with
          | .slc e => match TT e with
            | some TE => bif Nat.beq ty' ty then appendW TE e d m (opd t s) (opd t x) K else False
            | none => False
          | _ => False
        | _, _ => False
      | _, _, _ => False
    | _ => False
  | _ => False
end Go.Vm
