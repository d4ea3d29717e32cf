/-
  Equality of structs of whole numbers; what a parameter's type says of its cells.
-/
import Derived.Test.YtgmlblmkcbcgaaaVmU
namespace Go.Vm
set_option linter.unusedVariables false
set_option linter.unusedSimpArgs false
open Go Go.RowKit

abbrev iv (n : Int) : Value := .int .i64 n

open Classical in
/-- '==' at a type whose cells are numbers, booleans and strings (C says of which kinds). -/
def EqIn (P : Program) (k : Nat) (t : TypeId) (T : Ty) (C : List Value → Prop) : Prop := (∀ xs, C xs → xs.length = T.size) ∧ ∀ d, k ≤ d → ∀ (w : World) (xs ys : List Value), C xs → C ys →
  (Op.equalIn d t (pack T.kind.isAgg xs) (pack T.kind.isAgg ys)).run P w = .ok (decide (xs = ys)) w

abbrev CInt (xs : List Value) : Prop := ∃ a, xs = [iv a]
abbrev CBool (xs : List Value) : Prop := ∃ a, xs = [.bool a]
abbrev CStr (xs : List Value) : Prop := ∃ a, xs = [.string a]

theorem EqIn.int {P : Program} {t : TypeId} {T : Ty} (hu : P.underlying t = some (.int .i64)) (ha : T.kind.isAgg = false) (h1 : T.size = 1) : EqIn P 1 t T CInt := by
  refine ⟨fun xs ⟨a, e⟩ => by rw [e, h1]; rfl, ?_⟩
  rintro d hd w xs ys ⟨a, rfl⟩ ⟨b, rfl⟩
  obtain ⟨d, rfl⟩ : ∃ e, d = e + 1 := ⟨d - 1, by omega⟩
  rw [ha]
  have := run_equalIn_int (P := P) w d t .i64 .i64 a b hu
  simp only [pack]
  refine this.trans ?_
  congr 1
  by_cases h : a = b <;> simp [h]
theorem EqIn.bool {P : Program} {t : TypeId} {T : Ty} (hu : P.underlying t = some .bool) (ha : T.kind.isAgg = false) (h1 : T.size = 1) : EqIn P 1 t T CBool := by
  refine ⟨fun xs ⟨a, e⟩ => by rw [e, h1]; rfl, ?_⟩
  rintro d hd w xs ys ⟨a, rfl⟩ ⟨b, rfl⟩
  obtain ⟨d, rfl⟩ : ∃ e, d = e + 1 := ⟨d - 1, by omega⟩
  rw [ha]
  have := run_equalIn_bool (P := P) w d t a b hu
  simp only [pack]
  refine this.trans ?_
  congr 1
  by_cases h : a = b <;> simp [h]
theorem EqIn.string {P : Program} {t : TypeId} {T : Ty} (hu : P.underlying t = some .string) (ha : T.kind.isAgg = false) (h1 : T.size = 1) : EqIn P 1 t T CStr := by
  refine ⟨fun xs ⟨a, e⟩ => by rw [e, h1]; rfl, ?_⟩
  rintro d hd w xs ys ⟨a, rfl⟩ ⟨b, rfl⟩
  obtain ⟨d, rfl⟩ : ∃ e, d = e + 1 := ⟨d - 1, by omega⟩
  rw [ha]
  have := run_equalIn_string (P := P) w d t a b hu
  simp only [pack]
  refine this.trans ?_
  congr 1
  rw [ByteArray.toList_eq, ByteArray.toList_eq]
  obtain ⟨⟨x⟩⟩ := a
  obtain ⟨⟨y⟩⟩ := b
  show (x == y) = _
  by_cases h : x = y <;> simp [h]

theorem EqIn.mono {P : Program} {k k' : Nat} {t : TypeId} {T : Ty} {C : List Value → Prop} (h : EqIn P k t T C) (hk : k ≤ k') : EqIn P k' t T C := ⟨h.1, fun d hd => h.2 d (Nat.le_trans hk hd)⟩

inductive FieldsEq (P : Program) (k : Nat) : Nat → List Field → Nat → (List Value → Prop) → Prop where
  | nil (off : Nat) : FieldsEq P k off [] off (fun xs => xs = [])
  | cons {off tot : Nat} {f : Field} {fs : List Field} {TF : Ty} {C CS : List Value → Prop} (hn : f.name ≠ "_") (ho : f.offset = off) (hT : TyOk P f.type TF) (h1 : TF.kind.isAgg = false → TF.size = 1) (he : EqIn P k f.type TF C)
      (r : FieldsEq P k (off + TF.size) fs tot CS) : FieldsEq P k off (f :: fs) tot (fun xs => ∃ a b, xs = a ++ b ∧ C a ∧ CS b)

open Classical in
theorem FieldsEq.run {P : Program} {k off tot : Nat} {fs : List Field} {CS : List Value → Prop} (h : FieldsEq P k off fs tot CS) : (∀ xs, CS xs → off + xs.length = tot) ∧ ∀ d, k ≤ d → ∀ (w : World) (p q xs ys : List Value), p.length = off → q.length = off → CS xs → CS ys →
    (Op.eqFields d (p ++ xs).toArray (q ++ ys).toArray fs).run P w = .ok (decide (xs = ys)) w := by
  induction h with
  | nil off =>
    refine ⟨fun xs h => by subst h; rfl, fun d _ w p q xs ys _ _ hx hy => ?_⟩
    subst hx hy
    simp [Op.eqFields]
  | @cons off tot f fs TF C CS hn ho hT h1 he _ ih =>
    obtain ⟨hlen, ih⟩ := ih
    refine ⟨?_, ?_⟩
    · rintro xs ⟨a, b, rfl, ha, hb⟩
      have e1 := he.1 a ha
      have e2 := hlen b hb
      simp only [List.length_append]
      omega
    · rintro d hd w p q xs ys hp hq ⟨a, b, rfl, ha, hb⟩ ⟨a', b', rfl, ha', hb'⟩
      have la := he.1 a ha
      have la' := he.1 a' ha'
      have p1 := fun (p a b : List Value) (hp : p.length = off) (la : a.length = TF.size) => run_part hT w (p ++ (a ++ b)) f.offset (by simp; omega) h1
      have e1 : ∀ p a b : List Value, p.length = off → a.length = TF.size → ((p ++ (a ++ b)).drop f.offset).take TF.size = a := fun p a b hp la => by
        rw [ho, ← hp, List.drop_left, ← la, List.take_left]
      simp only [Op.eqFields, Sem.run_ite, Sem.run_bind, if_pos hn, p1 p a b hp la, p1 q a' b' hq la', Result.andThen_ok, e1 p a b hp la, e1 q a' b' hq la']
      rw [he.2 d hd w a a' ha ha']
      simp only [Result.andThen_ok]
      by_cases hqq : a = a'
      · subst hqq
        simp only [decide_true, Bool.not_true, Bool.false_eq_true, if_false]
        rw [← List.append_assoc, ← List.append_assoc, ih d hd w (p ++ a) (q ++ a) b b' (by simp; omega) (by simp; omega) hb hb']
        congr 2
        simp
      · simp only [hqq, decide_false, Bool.not_false, if_true, Sem.run_pure]
        congr 1
        symm
        rw [decide_eq_false_iff_not]
        intro h
        exact hqq (List.append_inj_left h (by omega))

theorem EqIn.str {P : Program} {k : Nat} {t : TypeId} {T : Ty} {CS : List Value → Prop} (ha : T.kind.isAgg = true) (hu : P.underlying t = some (.struct (P.fieldsOf t))) (hs : P.stoodInHeld t = false) (hf : FieldsEq P k 0 (P.fieldsOf t).toList T.size CS) : EqIn P (k + 1) t T CS := by
  refine ⟨fun xs h => by have := (hf.run).1 xs h; omega, fun d hd w xs ys hx hy => ?_⟩
  obtain ⟨d, rfl⟩ : ∃ e, d = e + 1 := ⟨d - 1, by omega⟩
  rw [ha]
  show (Op.equalIn (d + 1) t (.agg xs.toArray) (.agg ys.toArray)).run P w = _
  rw [run_equalIn_struct w d t _ _ hu hs]
  exact (hf.run).2 d (by omega) w [] [] xs ys rfl rfl hx hy

theorem RdL.vals {S : Nat → Prop} {w : World} : ∀ {us : List Value} {xs : List Value}, RdL S w us (xs.map SV.v) → us = xs
  | us, [], h => by cases h; rfl
  | us, x :: xs, h => by
    cases h with
    | cons a b => rw [(Rd.inv_v a).1, RdL.vals b]

theorem EqIn.fact {P : Program} {k : Nat} {t : TypeId} {T : Ty} {C : List Value → Prop} (h : EqIn P k t T C) (hk : k ≤ 10000) (ha : T.kind.isAgg = true) (hg : P.eqGuardType P.depth t = false) (xs ys : List Value) (hx : C xs) (hy : C ys) (b : Bool) (hb : b = true ↔ xs = ys) :
    EqFact P t (xs.map SV.v) (ys.map SV.v) b := by
  refine ⟨hg, fun S w us vs hu hv => ?_⟩
  rw [RdL.vals hu, RdL.vals hv]
  have := h.2 10000 hk w xs ys hx hy
  rw [ha] at this
  refine Eq.trans this ?_
  congr 1
  classical
  rw [Bool.eq_iff_iff, decide_eq_true_eq, hb]

theorem EqW.mk' {P : Program} {T : TypeId} {xs ys : List SV} {K : Bool → Prop} {b : Bool} (h : EqFact P T xs ys b) (k : K b) : EqW P T xs ys K := ⟨b, h, k⟩

/-! ### what a type says -/
/-- The whole numbers of a kind. -/
abbrev InK (k : IntKind) (n : Int) : Prop := (Lit.int k n).wf = true
abbrev R64 (n : Int) : Prop := -9223372036854775808 ≤ n ∧ n < 9223372036854775808

theorem InK.i64 {n : Int} (h : InK .i64 n) : R64 n := by
  simp [InK, Lit.wf, IntKind.min, IntKind.max, IntKind.bits, IntKind.signed] at h
  omega

abbrev w64 (n : Int) : Int := IntKind.i64.wrap n
theorem w64_def (n : Int) : w64 n = if n % 18446744073709551616 ≥ 9223372036854775808 then n % 18446744073709551616 - 18446744073709551616 else n % 18446744073709551616 := by
  simp [w64, IntKind.wrap, IntKind.bits, IntKind.signed]
theorem w64_id {n : Int} (h : R64 n) : w64 n = n := by
  rw [w64_def]
  obtain ⟨h1, h2⟩ := h
  split <;> omega
theorem w64_R (n : Int) : R64 (w64 n) := by
  rw [w64_def]
  constructor <;> split <;> omega
theorem w64_add_w (a b : Int) : w64 (w64 a + w64 b) = w64 (a + b) := by
  simp only [w64_def]
  omega
theorem w64_cong {a b : Int} (h : a % 18446744073709551616 = b % 18446744073709551616) : w64 a = w64 b := by
  simp only [w64_def, h]
theorem w64_neg_w (a : Int) : w64 (0 - w64 a) = w64 (0 - a) := by
  simp only [w64_def]
  omega

theorem Typ.inv_int {P : Program} {t : TypeId} {k : IntKind} {cs : List SV} (hu : P.underlying t = some (.int k)) (h : Typ P t cs) : ∃ n, cs = [.v (.int k n)] ∧ InK k n := by
  cases h with
  | bool b h => rw [hu] at h; cases h
  | int h hw => rw [hu] at h; cases h; exact ⟨_, rfl, hw⟩
  | str h _ => rw [hu] at h; cases h
  | slc h _ _ _ => rw [hu] at h; cases h
  | struct h _ _ => rw [hu] at h; cases h
  | arr h _ _ => rw [hu] at h; cases h
theorem Typ.inv_i64 {P : Program} {t : TypeId} {cs : List SV} (hu : P.underlying t = some (.int .i64)) (h : Typ P t cs) : ∃ n, cs = [i64 n] ∧ R64 n := by
  obtain ⟨n, e, h⟩ := Typ.inv_int hu h
  exact ⟨n, e, h.i64⟩
theorem Typ.inv_bool {P : Program} {t : TypeId} {cs : List SV} (hu : P.underlying t = some .bool) (h : Typ P t cs) : ∃ b, cs = [.v (.bool b)] := by
  cases h with
  | bool b h => exact ⟨b, rfl⟩
  | int h hw => rw [hu] at h; cases h
  | str h _ => rw [hu] at h; cases h
  | slc h _ _ _ => rw [hu] at h; cases h
  | struct h _ _ => rw [hu] at h; cases h
  | arr h _ _ => rw [hu] at h; cases h
theorem Typ.inv_bool' {P : Program} {t : TypeId} {cs : List SV} (hu : P.underlying t = some .bool) (h : Typ P t cs) : ∃ b, cs = [.v (.bool b)] ∧ b = b := by
  obtain ⟨b, e⟩ := Typ.inv_bool hu h
  exact ⟨b, e, rfl⟩
theorem Typ.inv_string {P : Program} {t : TypeId} {cs : List SV} (hu : P.underlying t = some .string) (h : Typ P t cs) : ∃ s, cs = [.v (.string s)] ∧ s.size ≤ maxLen := by
  cases h with
  | bool b h => rw [hu] at h; cases h
  | int h hw => rw [hu] at h; cases h
  | str h hs => exact ⟨_, rfl, hs⟩
  | slc h _ _ _ => rw [hu] at h; cases h
  | struct h _ _ => rw [hu] at h; cases h
  | arr h _ _ => rw [hu] at h; cases h
theorem Typ.inv_slc {P : Program} {t e : TypeId} {cs : List SV} (hu : P.underlying t = some (.slice e)) (h : Typ P t cs) : ∃ n get, cs = [.sl n (P.cellsOf e) get] ∧ n ≤ maxLen ∧ ∀ i, i < n → Typ P e (cells (P.cellsOf e) (get i)) := by
  cases h with
  | bool b h => rw [hu] at h; cases h
  | int h hw => rw [hu] at h; cases h
  | str h _ => rw [hu] at h; cases h
  | slc h hk hn hr => rw [hu] at h; cases h; subst hk; exact ⟨_, _, rfl, hn, hr⟩
  | struct h _ _ => rw [hu] at h; cases h
  | arr h _ _ => rw [hu] at h; cases h
theorem Typ.inv_str {P : Program} {t : TypeId} {fs : Array Field} {cs : List SV} (hu : P.underlying t = some (.struct fs)) (h : Typ P t cs) : cs.length = P.cellsOf t ∧ ∀ f ∈ fs.toList, Typ P f.type ((cs.drop f.offset).take (P.cellsOf f.type)) := by
  cases h with
  | bool b h => rw [hu] at h; cases h
  | int h hw => rw [hu] at h; cases h
  | str h _ => rw [hu] at h; cases h
  | slc h _ _ _ => rw [hu] at h; cases h
  | struct h hl hf => rw [hu] at h; cases h; exact ⟨hl, hf⟩
  | arr h _ _ => rw [hu] at h; cases h
theorem Typ.inv_arr {P : Program} {t e : TypeId} {n : Nat} {cs : List SV} (hu : P.underlying t = some (.array n e)) (h : Typ P t cs) : cs.length = P.cellsOf t ∧ ∀ i, i < n → Typ P e ((cs.drop (i * P.cellsOf e)).take (P.cellsOf e)) := by
  cases h with
  | bool b h => rw [hu] at h; cases h
  | int h hw => rw [hu] at h; cases h
  | str h _ => rw [hu] at h; cases h
  | slc h _ _ _ => rw [hu] at h; cases h
  | struct h hl hf => rw [hu] at h; cases h
  | arr h hl hf => rw [hu] at h; cases h; exact ⟨hl, hf⟩
/-- A struct's field, as the offsets and types of the table. -/
theorem Typ.field {P : Program} {t : TypeId} {cs : List SV} (h : Typ P t cs) {F : Array Field} (hu : P.underlying t = some (.struct F)) (i off size : Nat) (ft : TypeId) (hi : (F[i]?).map (fun f => (f.offset, f.type, P.cellsOf f.type)) = some (off, ft, size)) :
    Typ P ft ((cs.drop off).take size) := by
  cases hf : F[i]? with
  | none => rw [hf] at hi; cases hi
  | some f =>
    rw [hf] at hi
    simp only [Option.map_some, Option.some.injEq, Prod.mk.injEq] at hi
    obtain ⟨rfl, rfl, rfl⟩ := hi
    exact (Typ.inv_str hu h).2 f (Array.mem_toList_iff.2 (Array.mem_of_getElem? hf))

theorem TypD.agg {P : Program} {t : TypeId} {v : DV} (ha : aggTy P t = true) (h : TypD P t v) : ∃ cs, v = .agg cs ∧ Typ P t cs := by
  cases v with
  | one c => have := h.1; rw [ha] at this; cases this
  | agg cs => exact ⟨cs, rfl, h.2⟩
theorem TypD.one {P : Program} {t : TypeId} {v : DV} (ha : aggTy P t = false) (h : TypD P t v) : ∃ c, v = .one c ∧ Typ P t [c] := by
  cases v with
  | one c => exact ⟨c, rfl, h.2⟩
  | agg cs => have := h.1; rw [ha] at this; cases this
theorem TypD.i64 {P : Program} {t : TypeId} {v : DV} (ha : aggTy P t = false) (hu : P.underlying t = some (.int .i64)) (h : TypD P t v) : ∃ n, v = .one (i64 n) ∧ R64 n := by
  obtain ⟨c, rfl, h1⟩ := TypD.one ha h
  obtain ⟨n, e, h2⟩ := Typ.inv_i64 hu h1
  cases e
  exact ⟨n, rfl, h2⟩
theorem TypD.int {P : Program} {t : TypeId} {k : IntKind} {v : DV} (ha : aggTy P t = false) (hu : P.underlying t = some (.int k)) (h : TypD P t v) : ∃ n, v = .one (.v (.int k n)) ∧ InK k n := by
  obtain ⟨c, rfl, h1⟩ := TypD.one ha h
  obtain ⟨n, e, h2⟩ := Typ.inv_int hu h1
  cases e
  exact ⟨n, rfl, h2⟩
theorem TypL.inv_nil {P : Program} {vs : List DV} (h : TypL P [] vs) : vs = [] := by cases h; rfl
theorem TypL.inv_cons {P : Program} {t : TypeId} {ts : List TypeId} {vs : List DV} (h : TypL P (t :: ts) vs) : ∃ v r, vs = v :: r ∧ TypD P t v ∧ TypL P ts r := by
  cases h with
  | cons h r => exact ⟨_, _, rfl, h, r⟩
end Go.Vm
