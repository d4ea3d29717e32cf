/-
  Equality of structs of whole numbers; what a parameter's type says of its cells.
-/
import Derived.Test.YtocdjailjmmhaaaVmU
namespace Go.Vm
open Go Go.RowKit

abbrev iv (n : Int) : Value := .int .i64 n

/-- '==' at a type whose cells are ints. -/
def EqIn (P : Program) (k : Nat) (t : TypeId) (T : Ty) : Prop := ∀ d, k ≤ d → ∀ (w : World) (xs ys : List Int), xs.length = T.size → ys.length = T.size →
  (Op.equalIn d t (pack T.kind.isAgg (xs.map iv)) (pack T.kind.isAgg (ys.map iv))).run P w = .ok (decide (xs = ys)) w

theorem EqIn.int {P : Program} {t : TypeId} {T : Ty} (hu : P.underlying t = some (.int .i64)) (ha : T.kind.isAgg = false) (h1 : T.size = 1) : EqIn P 1 t T := by
  intro d hd w xs ys hx hy
  rw [h1] at hx hy
  match xs, ys, hx, hy with
  | [a], [b], _, _ =>
    obtain ⟨d, rfl⟩ : ∃ e, d = e + 1 := ⟨d - 1, by omega⟩
    rw [ha]
    have := run_equalIn_int (P := P) w d t .i64 .i64 a b hu
    simp only [pack, List.map_cons, List.map_nil]
    refine this.trans ?_
    congr 1
    by_cases h : a = b <;> simp [h]

inductive FieldsEq (P : Program) (k : Nat) : Nat → List Field → Nat → Prop where
  | nil (off : Nat) : FieldsEq P k off [] off
  | cons {off tot : Nat} {f : Field} {fs : List Field} {TF : Ty} (hn : f.name ≠ "_") (ho : f.offset = off) (hT : TyOk P f.type TF) (h1 : TF.kind.isAgg = false → TF.size = 1) (he : EqIn P k f.type TF)
      (r : FieldsEq P k (off + TF.size) fs tot) : FieldsEq P k off (f :: fs) tot

theorem FieldsEq.run {P : Program} {k off tot : Nat} {fs : List Field} (h : FieldsEq P k off fs tot) : off ≤ tot ∧ ∀ d, k ≤ d → ∀ (w : World) (xs ys : List Int), xs.length = tot → ys.length = tot →
    (Op.eqFields d (xs.map iv).toArray (ys.map iv).toArray fs).run P w = .ok (decide (xs.drop off = ys.drop off)) w := by
  induction h with
  | nil off =>
    refine ⟨Nat.le_refl _, fun d _ w xs ys hx hy => ?_⟩
    rw [List.drop_eq_nil_of_le (by omega), List.drop_eq_nil_of_le (by omega)]
    simp [Op.eqFields]
  | @cons off tot f fs TF hn ho hT h1 he _ ih =>
    obtain ⟨hle, ih⟩ := ih
    refine ⟨by omega, fun d hd w xs ys hx hy => ?_⟩
    have p1 := fun (zs : List Int) (hz : zs.length = tot) => run_part hT w (zs.map iv) f.offset (by simp; omega) h1
    have e1 : ∀ zs : List Int, ((zs.map iv).drop f.offset).take TF.size = ((zs.drop off).take TF.size).map iv := fun zs => by rw [ho]; simp
    simp only [Op.eqFields, Sem.run_ite, Sem.run_bind, if_pos hn, p1 xs hx, p1 ys hy, Result.andThen_ok, e1]
    rw [he d hd w _ _ (by simp; omega) (by simp; omega)]
    simp only [Result.andThen_ok]
    have hsplit : ∀ zs : List Int, zs.drop off = (zs.drop off).take TF.size ++ zs.drop (off + TF.size) := fun zs => by
      rw [← List.drop_drop, List.take_append_drop]
    by_cases hq : (xs.drop off).take TF.size = (ys.drop off).take TF.size
    · simp only [hq, decide_true, Bool.not_true, Bool.false_eq_true, if_false]
      rw [ih d hd w xs ys hx hy]
      congr 2
      rw [hsplit xs, hsplit ys, hq]
      simp
    · simp only [hq, decide_false, Bool.not_false, if_true, Sem.run_pure]
      congr 1
      symm
      rw [decide_eq_false_iff_not]
      intro h
      exact hq (by rw [h])

theorem EqIn.str {P : Program} {k : Nat} {t : TypeId} {T : Ty} (ha : T.kind.isAgg = true) (hu : P.underlying t = some (.struct (P.fieldsOf t))) (hs : P.stoodInHeld t = false) (hf : FieldsEq P k 0 (P.fieldsOf t).toList T.size) : EqIn P (k + 1) t T := by
  intro d hd w xs ys hx hy
  obtain ⟨d, rfl⟩ : ∃ e, d = e + 1 := ⟨d - 1, by omega⟩
  rw [ha]
  show (Op.equalIn (d + 1) t (.agg (xs.map iv).toArray) (.agg (ys.map iv).toArray)).run P w = _
  rw [run_equalIn_struct w d t _ _ hu hs, (hf.run).2 d (by omega) w xs ys hx hy]
  simp

theorem RdL.ints {S : Nat → Prop} {w : World} : ∀ {us : List Value} {xs : List Int}, RdL S w us (xs.map i64) → us = xs.map iv
  | us, [], h => by cases h; rfl
  | us, x :: xs, h => by
    cases h with
    | cons a b => rw [(Rd.inv_v a).1, RdL.ints b]; rfl

theorem EqIn.fact {P : Program} {k : Nat} {t : TypeId} {T : Ty} (h : EqIn P k t T) (hk : k ≤ 10000) (ha : T.kind.isAgg = true) (hg : P.eqGuardType P.depth t = false) (xs ys : List Int) (hx : xs.length = T.size) (hy : ys.length = T.size) :
    EqFact P t (xs.map i64) (ys.map i64) (decide (xs = ys)) := by
  refine ⟨hg, fun S w us vs hu hv => ?_⟩
  rw [RdL.ints hu, RdL.ints hv]
  have := h 10000 hk w xs ys hx hy
  rw [ha] at this
  exact this

theorem EqW.mk' {P : Program} {T : TypeId} {xs ys : List SV} {K : Bool → Prop} {b : Bool} (h : EqFact P T xs ys b) (k : K b) : EqW P T xs ys K := ⟨b, h, k⟩

/-! ### what a type says -/
/-- The whole numbers of a kind. -/
abbrev InK (k : IntKind) (n : Int) : Prop := (Lit.int k n).wf = true
abbrev R64 (n : Int) : Prop := -9223372036854775808 ≤ n ∧ n < 9223372036854775808

theorem InK.i64 {n : Int} (h : InK .i64 n) : R64 n := by
  simp [InK, Lit.wf, IntKind.min, IntKind.max, IntKind.bits, IntKind.signed] at h
  omega

abbrev w64 (n : Int) : Int := IntKind.i64.wrap n
theorem w64_def (n : Int) : w64 n = if n % 18446744073709551616 ≥ 9223372036854775808 then n % 18446744073709551616 - 18446744073709551616 else n % 18446744073709551616 := by
  simp [w64, IntKind.wrap, IntKind.bits, IntKind.signed]
theorem w64_id {n : Int} (h : R64 n) : w64 n = n := by
  rw [w64_def]
  obtain ⟨h1, h2⟩ := h
  split <;> omega
theorem w64_R (n : Int) : R64 (w64 n) := by
  rw [w64_def]
  constructor <;> split <;> omega
theorem w64_add_w (a b : Int) : w64 (w64 a + w64 b) = w64 (a + b) := by
  simp only [w64_def]
  omega
theorem w64_cong {a b : Int} (h : a % 18446744073709551616 = b % 18446744073709551616) : w64 a = w64 b := by
  simp only [w64_def, h]
theorem w64_neg_w (a : Int) : w64 (0 - w64 a) = w64 (0 - a) := by
  simp only [w64_def]
  omega

theorem Typ.inv_int {P : Program} {t : TypeId} {k : IntKind} {cs : List SV} (hu : P.underlying t = some (.int k)) (h : Typ P t cs) : ∃ n, cs = [.v (.int k n)] ∧ InK k n := by
  cases h with
  | bool b h => rw [hu] at h; cases h
  | int h hw => rw [hu] at h; cases h; exact ⟨_, rfl, hw⟩
  | str h _ => rw [hu] at h; cases h
  | slc h _ _ _ => rw [hu] at h; cases h
  | struct h _ _ => rw [hu] at h; cases h
  | arr h _ _ => rw [hu] at h; cases h
theorem Typ.inv_i64 {P : Program} {t : TypeId} {cs : List SV} (hu : P.underlying t = some (.int .i64)) (h : Typ P t cs) : ∃ n, cs = [i64 n] ∧ R64 n := by
  obtain ⟨n, e, h⟩ := Typ.inv_int hu h
  exact ⟨n, e, h.i64⟩
theorem Typ.inv_bool {P : Program} {t : TypeId} {cs : List SV} (hu : P.underlying t = some .bool) (h : Typ P t cs) : ∃ b, cs = [.v (.bool b)] := by
  cases h with
  | bool b h => exact ⟨b, rfl⟩
  | int h hw => rw [hu] at h; cases h
  | str h _ => rw [hu] at h; cases h
  | slc h _ _ _ => rw [hu] at h; cases h
  | struct h _ _ => rw [hu] at h; cases h
  | arr h _ _ => rw [hu] at h; cases h
theorem Typ.inv_slc {P : Program} {t e : TypeId} {cs : List SV} (hu : P.underlying t = some (.slice e)) (h : Typ P t cs) : ∃ n get, cs = [.sl n (P.cellsOf e) get] ∧ n ≤ maxLen ∧ ∀ i, i < n → Typ P e (cells (P.cellsOf e) (get i)) := by
  cases h with
  | bool b h => rw [hu] at h; cases h
  | int h hw => rw [hu] at h; cases h
  | str h _ => rw [hu] at h; cases h
  | slc h hk hn hr => rw [hu] at h; cases h; subst hk; exact ⟨_, _, rfl, hn, hr⟩
  | struct h _ _ => rw [hu] at h; cases h
  | arr h _ _ => rw [hu] at h; cases h
theorem Typ.inv_str {P : Program} {t : TypeId} {fs : Array Field} {cs : List SV} (hu : P.underlying t = some (.struct fs)) (h : Typ P t cs) : cs.length = P.cellsOf t ∧ ∀ f ∈ fs.toList, Typ P f.type ((cs.drop f.offset).take (P.cellsOf f.type)) := by
  cases h with
  | bool b h => rw [hu] at h; cases h
  | int h hw => rw [hu] at h; cases h
  | str h _ => rw [hu] at h; cases h
  | slc h _ _ _ => rw [hu] at h; cases h
  | struct h hl hf => rw [hu] at h; cases h; exact ⟨hl, hf⟩
  | arr h _ _ => rw [hu] at h; cases h
theorem Typ.inv_arr {P : Program} {t e : TypeId} {n : Nat} {cs : List SV} (hu : P.underlying t = some (.array n e)) (h : Typ P t cs) : cs.length = P.cellsOf t ∧ ∀ i, i < n → Typ P e ((cs.drop (i * P.cellsOf e)).take (P.cellsOf e)) := by
  cases h with
  | bool b h => rw [hu] at h; cases h
  | int h hw => rw [hu] at h; cases h
  | str h _ => rw [hu] at h; cases h
  | slc h _ _ _ => rw [hu] at h; cases h
  | struct h hl hf => rw [hu] at h; cases h
  | arr h hl hf => rw [hu] at h; cases h; exact ⟨hl, hf⟩
/-- A struct's field, as the offsets and types of the table. -/
theorem Typ.field {P : Program} {t : TypeId} {cs : List SV} (h : Typ P t cs) {F : Array Field} (hu : P.underlying t = some (.struct F)) (i off size : Nat) (ft : TypeId) (hi : (F[i]?).map (fun f => (f.offset, f.type, P.cellsOf f.type)) = some (off, ft, size)) :
    Typ P ft ((cs.drop off).take size) := by
  cases hf : F[i]? with
  | none => rw [hf] at hi; cases hi
  | some f =>
    rw [hf] at hi
    simp only [Option.map_some, Option.some.injEq, Prod.mk.injEq] at hi
    obtain ⟨rfl, rfl, rfl⟩ := hi
    exact (Typ.inv_str hu h).2 f (Array.mem_toList_iff.2 (Array.mem_of_getElem? hf))

theorem TypD.agg {P : Program} {t : TypeId} {v : DV} (ha : aggTy P t = true) (h : TypD P t v) : ∃ cs, v = .agg cs ∧ Typ P t cs := by
  cases v with
  | one c => have := h.1; rw [ha] at this; cases this
  | agg cs => exact ⟨cs, rfl, h.2⟩
theorem TypD.one {P : Program} {t : TypeId} {v : DV} (ha : aggTy P t = false) (h : TypD P t v) : ∃ c, v = .one c ∧ Typ P t [c] := by
  cases v with
  | one c => exact ⟨c, rfl, h.2⟩
  | agg cs => have := h.1; rw [ha] at this; cases this
theorem TypD.i64 {P : Program} {t : TypeId} {v : DV} (ha : aggTy P t = false) (hu : P.underlying t = some (.int .i64)) (h : TypD P t v) : ∃ n, v = .one (i64 n) ∧ R64 n := by
  obtain ⟨c, rfl, h1⟩ := TypD.one ha h
  obtain ⟨n, e, h2⟩ := Typ.inv_i64 hu h1
  cases e
  exact ⟨n, rfl, h2⟩
theorem TypD.int {P : Program} {t : TypeId} {k : IntKind} {v : DV} (ha : aggTy P t = false) (hu : P.underlying t = some (.int k)) (h : TypD P t v) : ∃ n, v = .one (.v (.int k n)) ∧ InK k n := by
  obtain ⟨c, rfl, h1⟩ := TypD.one ha h
  obtain ⟨n, e, h2⟩ := Typ.inv_int hu h1
  cases e
  exact ⟨n, rfl, h2⟩
theorem TypL.inv_nil {P : Program} {vs : List DV} (h : TypL P [] vs) : vs = [] := by cases h; rfl
theorem TypL.inv_cons {P : Program} {t : TypeId} {ts : List TypeId} {vs : List DV} (h : TypL P (t :: ts) vs) : ∃ v r, vs = v :: r ∧ TypD P t v ∧ TypL P ts r := by
  cases h with
  | cons h r => exact ⟨_, _, rfl, h, r⟩
end Go.Vm
