/-
  From the reading of a row's arguments to the walk's contract, and back to the row.
  What a walk is typed with: branches, calls, ends, loops.
  Equality of structs of whole numbers; what a parameter's type says of its cells.
  What a memory contract must hold of itself, by a check.
-/
import Derived.Test.YtobmlkopbmakcaaGreatVmL
import Derived.WalkKit
import Derived.ProofKit
import Derived.OpenShut
import Derived.ShutString
import Derived.ChangeOld
namespace Go.Vm
set_option linter.unusedVariables false
set_option linter.unusedSimpArgs false
open Go Go.RowKit Go.ChangeShapes Go.WideShapes Go.ChangeAt

/-- A row of cells of a type, as the walk knows them. -/
inductive Typ (P : Program) : TypeId → List SV → Prop where
  | bool {t : TypeId} (b : Bool) (h : P.underlying t = some .bool) : Typ P t [.v (.bool b)]
  | int {t : TypeId} {k : IntKind} {n : Int} (h : P.underlying t = some (.int k)) (hw : (Lit.int k n).wf = true) : Typ P t [.v (.int k n)]
  | str {t : TypeId} {s : ByteArray} (h : P.underlying t = some .string) (hs : s.size ≤ maxLen) : Typ P t [.v (.string s)]
  | slc {t e : TypeId} {n k : Nat} {get : Nat → Nat → SV} (h : P.underlying t = some (.slice e)) (hk : k = P.cellsOf e) (hn : n ≤ maxLen) (hr : ∀ i, i < n → Typ P e (cells k (get i))) : Typ P t [.sl n k get]
  | struct {t : TypeId} {fs : Array Field} {cs : List SV} (h : P.underlying t = some (.struct fs)) (hl : cs.length = P.cellsOf t) (hf : ∀ f ∈ fs.toList, Typ P f.type ((cs.drop f.offset).take (P.cellsOf f.type))) : Typ P t cs
  | arr {t e : TypeId} {n : Nat} {cs : List SV} (h : P.underlying t = some (.array n e)) (hl : cs.length = P.cellsOf t) (hf : ∀ i, i < n → Typ P e ((cs.drop (i * P.cellsOf e)).take (P.cellsOf e))) : Typ P t cs

/-- The fields of a struct lie one behind the other, without a gap. -/
def packed (P : Program) (off : Nat) : List Field → Option Nat
  | [] => some off
  | f :: fs => bif Nat.beq f.offset off then packed P (off + P.cellsOf f.type) fs else none

/-- The types that the bridge serves. -/
def plainTy (P : Program) : Nat → TypeId → Bool
  | 0, _ => false
  | n + 1, t => match P.underlying t with
    | some .bool => true
    | some (.int _) => true
    | some .string => true
    | some (.slice e) => Nat.blt 0 (P.cellsOf e) && plainTy P n e
    | some (.struct fs) => (packed P 0 fs.toList == some (P.cellsOf t)) && fs.toList.all fun f => plainTy P n f.type
    | some (.array k e) => Nat.beq (k * P.cellsOf e) (P.cellsOf t) && plainTy P n e
    | _ => false

theorem glue {S : Nat → Prop} {w : World} (P : Program) : ∀ (fs : List Field) (off tot : Nat) (xs : List Value), packed P off fs = some tot → off + xs.length = tot →
    (∀ f ∈ fs, ∃ cs, Typ P f.type cs ∧ RdL S w ((xs.drop (f.offset - off)).take (P.cellsOf f.type)) cs) →
    ∃ cs, RdL S w xs cs ∧ ∀ f ∈ fs, off ≤ f.offset ∧ Typ P f.type ((cs.drop (f.offset - off)).take (P.cellsOf f.type))
  | [], off, tot, xs, h, hl, _ => by
    simp only [packed, Option.some.injEq] at h
    obtain rfl : xs = [] := List.eq_nil_of_length_eq_zero (by omega)
    exact ⟨[], .nil, by simp⟩
  | f :: fs, off, tot, xs, h, hl, hf => by
    simp only [packed] at h
    cases hb : Nat.beq f.offset off with
    | false => rw [hb] at h; simp at h
    | true =>
      rw [hb] at h
      simp only [cond_true] at h
      have hoff : f.offset = off := Nat.eq_of_beq_eq_true hb
      have hge : ∀ (fs : List Field) (o t : Nat), packed P o fs = some t → o ≤ t ∧ ∀ g ∈ fs, o ≤ g.offset := by
        intro fs
        induction fs with
        | nil => intro o t h; simp only [packed, Option.some.injEq] at h; exact ⟨by omega, by simp⟩
        | cons g gs ih =>
          intro o t h
          simp only [packed] at h
          cases hb : Nat.beq g.offset o with
          | false => rw [hb] at h; simp at h
          | true =>
            rw [hb] at h
            simp only [cond_true] at h
            obtain ⟨i1, i2⟩ := ih _ _ h
            have hgo : g.offset = o := Nat.eq_of_beq_eq_true hb
            refine ⟨by omega, fun g' hg' => ?_⟩
            rcases List.mem_cons.1 hg' with rfl | hg'
            · omega
            · have := i2 g' hg'; omega
      obtain ⟨hle, hges⟩ := hge fs _ _ h
      obtain ⟨cs0, ht0, hr0⟩ := hf f (by simp)
      rw [hoff, Nat.sub_self, List.drop_zero] at hr0
      obtain ⟨cs1, hr1, ht1⟩ := glue P fs (off + P.cellsOf f.type) tot (xs.drop (P.cellsOf f.type)) h (by simp; omega) (fun g hg => by
        obtain ⟨cs, h1, h2⟩ := hf g (by simp [hg])
        have := hges g hg
        rw [List.drop_drop]
        rw [show P.cellsOf f.type + (g.offset - (off + P.cellsOf f.type)) = g.offset - off by omega]
        exact ⟨cs, h1, h2⟩)
      have hl0 : cs0.length = P.cellsOf f.type := by
        have := hr0.length
        simp at this
        omega
      refine ⟨cs0 ++ cs1, ?_, fun g hg => ?_⟩
      · have := hr0.append hr1
        rwa [List.take_append_drop] at this
      · rcases List.mem_cons.1 hg with rfl | hg
        · refine ⟨by omega, ?_⟩
          rw [hoff, Nat.sub_self, List.drop_zero, ← hl0, List.take_left]
          exact ht0
        · obtain ⟨a1, a2⟩ := ht1 g hg
          refine ⟨by omega, ?_⟩
          have e1 : (cs0 ++ cs1).drop (g.offset - off) = cs1.drop (g.offset - (off + P.cellsOf f.type)) := by
            rw [List.drop_append, List.drop_eq_nil_of_le (by omega), List.nil_append]
            congr 1
            omega
          rw [e1]
          exact a2

theorem glueArr {S : Nat → Prop} {w : World} (P : Program) (e : TypeId) : ∀ (n : Nat) (xs : List Value), xs.length = n * P.cellsOf e →
    (∀ i, i < n → ∃ cs, Typ P e cs ∧ RdL S w ((xs.drop (i * P.cellsOf e)).take (P.cellsOf e)) cs) →
    ∃ cs, RdL S w xs cs ∧ ∀ i, i < n → Typ P e ((cs.drop (i * P.cellsOf e)).take (P.cellsOf e))
  | 0, xs, hl, _ => by
    obtain rfl : xs = [] := List.eq_nil_of_length_eq_zero (by omega)
    exact ⟨[], .nil, by simp⟩
  | n + 1, xs, hl, hf => by
    have hl' : xs.length = n * P.cellsOf e + P.cellsOf e := by rw [hl, Nat.add_mul, Nat.one_mul]
    obtain ⟨cs0, ht0, hr0⟩ := hf 0 (by omega)
    rw [Nat.zero_mul, List.drop_zero] at hr0
    obtain ⟨cs1, hr1, ht1⟩ := glueArr P e n (xs.drop (P.cellsOf e)) (by simp; omega) (fun i hi => by
      obtain ⟨cs, h1, h2⟩ := hf (i + 1) (by omega)
      rw [List.drop_drop, show P.cellsOf e + i * P.cellsOf e = (i + 1) * P.cellsOf e by rw [Nat.add_mul]; omega]
      exact ⟨cs, h1, h2⟩)
    have hl0 : cs0.length = P.cellsOf e := by
      have := hr0.length
      simp at this
      omega
    refine ⟨cs0 ++ cs1, ?_, fun i hi => ?_⟩
    · have := hr0.append hr1
      rwa [List.take_append_drop] at this
    · cases i with
      | zero =>
        rw [Nat.zero_mul, List.drop_zero, ← hl0, List.take_left]
        exact ht0
      | succ i =>
        have := ht1 i (by omega)
        have e1 : (cs0 ++ cs1).drop ((i + 1) * P.cellsOf e) = cs1.drop (i * P.cellsOf e) := by
          rw [List.drop_append, List.drop_eq_nil_of_le (by rw [Nat.add_mul]; omega), List.nil_append]
          congr 1
          rw [Nat.add_mul]
          omega
        rw [e1]
        exact this

/-- WHAT READS AS DATA THE WALK KNOWS. -/
theorem typ_of_trod {H : Type} {enc : TypeId × Value → H} {P : Program} {w : World} : ∀ (n fuel : Nat) (t : TypeId) (xs : List Value) (x : DataW H × List MemPlace), plainTy P n t = true →
    DataW.trod enc P w 0 (fun _ => true) true fuel t xs = some x → ∃ cs, Typ P t cs ∧ RdL (fun b => b < w.heap.size) w xs cs := by
  intro n
  induction n with
  | zero => intro fuel t xs x h; simp [plainTy] at h
  | succ n ih =>
    intro fuel t xs x hp h
    unfold plainTy at hp
    split at hp
    · rename_i hu
      cases fuel with
      | zero => simp [DataW.trod] at h
      | succ fuel =>
        unfold DataW.trod at h
        rw [hu] at h
        split at h <;> simp_all
        rename_i b
        exact ⟨_, .bool b hu, .cons (.v rfl) .nil⟩
    · rename_i k hu
      obtain ⟨q, rfl, rfl, hw⟩ := DataW.trod_int hu h
      exact ⟨_, .int hu hw, .cons (.v rfl) .nil⟩
    · rename_i hu
      cases fuel with
      | zero => simp [DataW.trod] at h
      | succ fuel =>
        unfold DataW.trod at h
        rw [hu] at h
        split at h <;> simp_all
        rename_i s
        exact ⟨_, .str hu h.1, .cons (.v rfl) .nil⟩
    · rename_i e hu
      simp only [Bool.and_eq_true] at hp
      obtain ⟨hpos0, hp⟩ := hp
      have hpos := lt_of_blt hpos0
      rcases DataW.trod_slice hu h with ⟨rfl, rfl⟩ | ⟨a, len, cap, elems, rest, n', _, rfl, rfl, hb, hl, hm, hlen, hel, hsp, _⟩
      · exact ⟨[.sl 0 (P.cellsOf e) fun _ _ => .v Go.undef], .slc hu rfl (Nat.zero_le _) (fun i hi => absurd hi (Nat.not_lt_zero i)), .cons (.nil _ _) .nil⟩
      · -- each element
        have each : ∀ i, i < len → ∃ cs us, Typ P e cs ∧ RdL (fun b => b < w.heap.size) w us cs ∧ us.length = P.cellsOf e ∧ ∀ j, j < P.cellsOf e → w.cell? ((a.add (i * P.cellsOf e)).add j) = us[j]? := by
          intro i hi
          have h1 := hel i hi
          have hlt : i < elems.length := by omega
          rw [List.getElem?_eq_getElem hlt] at h1
          cases hc : w.cells? 0 (a.add (i * P.cellsOf e)) (P.cellsOf e) with
          | none => rw [hc] at h1; simp at h1
          | some us =>
            rw [hc] at h1
            simp only [Option.bind_some] at h1
            obtain ⟨cs, h2, h3⟩ := ih n' e us _ hp h1
            obtain ⟨_, h4, h5⟩ := World.cells?_some hc
            exact ⟨cs, us, h2, h3, h4, h5⟩
        rcases Nat.eq_zero_or_pos len with h0 | h0
        · subst h0
          exact ⟨[.sl 0 (P.cellsOf e) fun _ _ => .v Go.undef], .slc hu rfl (Nat.zero_le _) (fun i hi => absurd hi (Nat.not_lt_zero i)), .cons (.emp a cap _ _) .nil⟩
        · have hch : ∃ (C : Nat → List SV) (U : Nat → List Value), ∀ i, i < len → Typ P e (C i) ∧ RdL (fun b => b < w.heap.size) w (U i) (C i) ∧ (U i).length = P.cellsOf e ∧ ∀ j, j < P.cellsOf e → w.cell? ((a.add (i * P.cellsOf e)).add j) = (U i)[j]? := by
            refine ⟨fun i => if h : i < len then (each i h).choose else [], fun i => if h : i < len then (each i h).choose_spec.choose else [], fun i hi => ?_⟩
            simp only [hi, dite_true]
            exact (each i hi).choose_spec.choose_spec
          obtain ⟨C, U, hCU⟩ := hch
          have hcl : ∀ i, i < len → (C i).length = P.cellsOf e := fun i hi => by
            obtain ⟨_, h2, h3, _⟩ := hCU i hi
            have := h2.length
            omega
          have hcells : ∀ i, i < len → cells (P.cellsOf e) (fun j => (C i).getD j (.v Go.undef)) = C i := by
            intro i hi
            apply List.ext_getElem?
            intro j
            rw [getElem?_cells]
            have := hcl i hi
            by_cases hj : j < P.cellsOf e
            · rw [if_pos hj]
              have hj' : j < (C i).length := by omega
              simp [List.getD, hj']
            · rw [if_neg hj, List.getElem?_eq_none (by omega)]
          refine ⟨[.sl len (P.cellsOf e) fun i j => (C i).getD j (.v Go.undef)], .slc hu rfl (by omega) (fun i hi => by rw [hcells i hi]; exact (hCU i hi).1), .cons ?_ .nil⟩
          obtain ⟨_, h2, h3, h4⟩ := hCU 0 h0
          have hc0 : ∃ v, w.cell? a = some v := by
            have := h4 0 hpos
            rw [Nat.zero_mul] at this
            have hu0 : 0 < (U 0).length := by omega
            rw [List.getElem?_eq_getElem hu0] at this
            exact ⟨_, this⟩
          obtain ⟨v0, hv0⟩ := hc0
          obtain ⟨b, off, spot⟩ := a
          have hspot : spot = none := World.cell?_spot hv0
          subst hspot
          have hblk := World.block_lt_of_cell? w _ hv0
          refine Rd.sl (fun i j => ((U i)[j]?).getD Go.undef) hblk hl hm (fun i hi j hj => ?_) (fun i hi j hj => ?_)
          · obtain ⟨_, h2, h3, h4⟩ := hCU i hi
            have := h4 j hj
            rw [addr_add, addr_add, Nat.add_assoc] at this
            have hj' : j < (U i).length := by omega
            rw [this, List.getElem?_eq_getElem hj']
            rfl
          · obtain ⟨_, h2, h3, h4⟩ := hCU i hi
            obtain ⟨y, hy1, hy2⟩ := h2.getElemRd j (by have := hcl i hi; omega)
            simp only [hy1, Option.getD_some]
            exact hy2
    · rename_i fs hu
      simp only [Bool.and_eq_true, beq_iff_eq, List.all_eq_true] at hp
      obtain ⟨hpk, hall⟩ := hp
      obtain ⟨ys, m, _, rfl, hl, hlen, hf⟩ := DataW.trod_struct hu h
      obtain ⟨cs, hr, ht⟩ := glue (S := fun b => b < w.heap.size) (w := w) P fs.toList 0 (P.cellsOf t) xs hpk (by omega) (fun f hfm => by
        obtain ⟨i, hi⟩ := List.getElem?_of_mem hfm
        have hi' : fs[i]? = some f := by simpa using hi
        have h1 := hf i f hi'
        have hlt : i < ys.length := by
          have := (Array.getElem?_eq_some_iff.1 hi').1
          omega
        rw [List.getElem?_eq_getElem hlt] at h1
        rw [Nat.sub_zero]
        exact ih m f.type _ _ (hall f hfm) h1)
      refine ⟨cs, .struct hu (by have := hr.length; omega) (fun f hfm => ?_), hr⟩
      have := (ht f hfm).2
      rwa [Nat.sub_zero] at this
    · rename_i k e hu
      simp only [Bool.and_eq_true] at hp
      obtain ⟨hpk, hpe⟩ := hp
      have hsz := Nat.eq_of_beq_eq_true hpk
      obtain ⟨ys, m, _, rfl, hl, hlen, hf⟩ := DataW.trod_array hu h
      obtain ⟨cs, hr, ht⟩ := glueArr (S := fun b => b < w.heap.size) (w := w) P e k xs (by omega) (fun i hi => by
        have h1 := hf i hi
        have hlt : i < ys.length := by omega
        rw [List.getElem?_eq_getElem hlt] at h1
        exact ih m e _ _ hpe h1)
      exact ⟨cs, .arr hu (by have := hr.length; omega) ht, hr⟩
    · simp at hp
def aggTy (P : Program) (t : TypeId) : Bool := match P.underlying t with
  | some (.struct _) => true
  | some (.array _ _) => true
  | _ => false

/-- One argument of a type. -/
def TypD (P : Program) (t : TypeId) : DV → Prop
  | .one c => aggTy P t = false ∧ Typ P t [c]
  | .agg cs => aggTy P t = true ∧ Typ P t cs

inductive TypL (P : Program) : List TypeId → List DV → Prop where
  | nil : TypL P [] []
  | cons {t : TypeId} {v : DV} {ts : List TypeId} {vs : List DV} (h : TypD P t v) (r : TypL P ts vs) : TypL P (t :: ts) (v :: vs)

theorem typD_of {H : Type} {enc : TypeId × Value → H} {P : Program} {w : World} {n : Nat} {t : TypeId} {v : Value} {d : DataW H} {ps : List MemPlace} {base : Nat} (hp : plainTy P n t = true)
    (hval : Value.okWide P w .any base t v) (h : DataW.Trod enc P w 0 (fun _ => true) true t v d ps) : ∃ dv, TypD P t dv ∧ DRd (fun b => b < w.heap.size) w v dv := by
  obtain ⟨fuel, h⟩ := h
  obtain ⟨cs, h1, h2⟩ := typ_of_trod n fuel t _ _ hp h
  cases ha : aggTy P t with
  | true =>
    have : ∃ arr, v = .agg arr := by
      unfold aggTy at ha
      unfold Value.okWide at hval
      cases hu : P.underlying t with
      | none => rw [hu] at ha; simp at ha
      | some d' =>
        rw [hu] at ha hval
        cases d' <;> simp at ha
        · obtain ⟨arr, e, _⟩ := hval; exact ⟨arr, e⟩
        · obtain ⟨arr, e, _⟩ := hval; exact ⟨arr, e⟩
    obtain ⟨arr, rfl⟩ := this
    exact ⟨.agg cs, ⟨ha, h1⟩, arr.toList, by simp, h2⟩
  | false =>
    have hone : v.cells.toList = [v] := by
      unfold aggTy at ha
      unfold Value.okWide at hval
      cases n with
      | zero => simp [plainTy] at hp
      | succ n =>
        unfold plainTy at hp
        cases hu : P.underlying t with
        | none => rw [hu] at hp; simp at hp
        | some d' =>
          rw [hu] at ha hval hp
          simp only [Cell.okWide, hu] at hval
          cases d' <;> simp at ha hp <;> cases v <;> first | rfl | (simp [Cell.ok, hu] at hval)
    rw [hone] at h2
    have hl := h2.length
    match cs, hl with
    | [c], _ =>
      refine ⟨.one c, ⟨ha, h1⟩, ?_⟩
      cases h2 with
      | cons h3 _ => exact h3

theorem typL_of {H : Type} {enc : TypeId × Value → H} {P : Program} {w : World} {n : Nat} {base : Nat} : ∀ (ts : List TypeId) (vs : List Value) (ds : List (DataW H)) (ps : List MemPlace), (∀ t ∈ ts, plainTy P n t = true) →
    (∀ (j : Nat) t v, ts[j]? = some t → vs[j]? = some v → Value.okWide P w .any base t v) → DataW.TrodAll enc P w 0 (fun _ => true) true ts vs ds ps → ∃ dvs, TypL P ts dvs ∧ DRdL (fun b => b < w.heap.size) w vs dvs
  | [], vs, ds, ps, _, _, h => by
    obtain ⟨rfl, _, _⟩ := trodAll_nil h
    exact ⟨[], .nil, .nil⟩
  | t :: ts, vs, ds, ps, hp, hval, h => by
    obtain ⟨v, vs', d, ds', p, q, rfl, rfl, rfl, h0, hr⟩ := trodAll_cons h
    obtain ⟨dv, h1, h2⟩ := typD_of (hp t (by simp)) (hval 0 t v rfl rfl) h0
    obtain ⟨dvs, h3, h4⟩ := typL_of ts vs' ds' q (fun t ht => hp t (by simp [ht])) (fun j t v a b => hval (j + 1) t v (by simpa using a) (by simpa using b)) hr
    exact ⟨dv :: dvs, .cons h1 h3, .cons h2 h4⟩

theorem trodAll_below {H : Type} {enc : TypeId × Value → H} {P : Program} (hl : laidOutB P = true) {W W' : World} (hb : Below W.heap.size W W') : ∀ (ts : List TypeId) (vs : List Value) (ds : List (DataW H)) (ps : List MemPlace), (∀ t ∈ ts, P.readableRec t = true ∧ t < P.types.size) →
    DataW.TrodAll enc P W 0 (fun _ => true) true ts vs ds ps → DataW.TrodAll enc P W' 0 (fun b => decide (b < W.heap.size)) true ts vs ds ps
  | [], vs, ds, ps, _, h => by
    obtain ⟨rfl, rfl, rfl⟩ := trodAll_nil h
    exact trodAll_mk0
  | t :: ts, vs, ds, ps, hp, h => by
    obtain ⟨v, vs', d, ds', p, q, rfl, rfl, rfl, h0, hr⟩ := trodAll_cons h
    have h1 : DataW.Trod enc P W' 0 (fun b => decide (b < W.heap.size)) true t v d p := Below.trod hl (hp t (by simp)).1 (hp t (by simp)).2 h0 hb (fun x hx => by
      obtain ⟨m, hm⟩ := h0
      exact DataW.trod_lt m _ _ _ hm x hx)
    exact trodAll_cons_mk h1 (trodAll_below hl hb ts vs' ds' q (fun t ht => hp t (by simp [ht])) hr)

/-- THE ROW's STEP, FOR A LAW: it returns true and leaves what it read as it was. -/
theorem law_contract {P : Program} {F : FuncId} {fn : Func} {s : ChangeSpec} (hvars : s.vars = []) {tb : TypeId} (hres : fn.resultTypes = #[tb]) (hub : P.underlying tb = some .bool) {n : Nat} (hpl : fn.params.toList.all (plainTy P n) = true)
    (hrd : fn.params.toList.all (fun t => P.readableRec t && Nat.blt t P.types.size) = true) (hlaid : laidOutB P = true) {H : Type} {enc : TypeId × Value → H}
    (hspec : ∀ ds : List (DataW H), ds.length = fn.params.size → (s.fn H (ds ++ [])).results = [.lit (.bool true)] ∧ (s.fn H (ds ++ [])).args = ds ∧ (s.fn H (ds ++ [])).vars = [])
    (hdet : ∀ dvs, TypL P fn.params.toList dvs → Det P F dvs (tbool true)) (W : World) (base : Nat) (args : Array Value) (ds gs : List (DataW H)) (before : List MemPlace)
    (hval : ∀ (j : Nat) t v, fn.params[j]? = some t → args[j]? = some v → Value.okWide P W .any base t v)
    (hW : DataW.Whole enc P fn.params.toList s.vars false W args.toList ds gs before) :
    Calls P F args W fun e W' => ∃ v, e = .returned v ∧ s.post enc P fn false true false false W args v W' := by
  have hW' := hW
  obtain ⟨p, q, hA, hV, rfl, hfz, hnd⟩ := hW
  rw [hvars] at hV
  obtain ⟨rfl, rfl⟩ := trodVars_none hV
  have hlen : ∀ (ts : List TypeId) (vs : List Value) (ds : List (DataW H)) (ps : List MemPlace), DataW.TrodAll enc P W 0 (fun _ => true) true ts vs ds ps → ds.length = ts.length := by
    intro ts
    induction ts with
    | nil => intro vs ds ps h; obtain ⟨_, rfl, _⟩ := trodAll_nil h; rfl
    | cons t ts ih =>
      intro vs ds ps h
      obtain ⟨v, vs', d, ds', p, q, rfl, rfl, rfl, h0, hr⟩ := trodAll_cons h
      simp [ih _ _ _ hr]
  obtain ⟨k1, k2, k3⟩ := hspec ds (by simpa using hlen _ _ _ _ hA)
  obtain ⟨dvs, h1, h2⟩ := typL_of (n := n) fn.params.toList args.toList ds p (fun t ht => List.all_eq_true.1 hpl t ht) (fun j t v a b => hval j t v (by simpa using a) (by simpa using b)) hA
  have hc := (hdet dvs h1).2 W (fun b => b < W.heap.size) args.toList (fun b hb => hb) h2
  rw [Array.toArray_toList] at hc
  refine hc.mono ?_
  rintro e W' ⟨v, rfl, hb, hr⟩
  have hv : v = .bool true := (Rd.inv_v (show Rd _ _ _ _ from hr)).1
  subst hv
  refine ⟨_, rfl, ds, [], p ++ [], [], p, [], hW', ?_, ?_, ?_, hb.frame _, fun h => by cases h⟩
  · rw [k1, hres]
    exact trodAll_mk1 (shut_bool hub true)
  · rw [k2]
    exact trodAll_below hlaid hb _ _ _ _ (fun t ht => by
      have := List.all_eq_true.1 hrd t ht
      simp only [Bool.and_eq_true] at this
      exact ⟨this.1, lt_of_blt this.2⟩) hA
  · rw [k3, hvars]
    rfl
end Go.Vm
namespace Go.Vm
set_option linter.unusedVariables false
set_option linter.unusedSimpArgs false
open Go Go.RowKit

/-! ### tables of types -/
def tabL : List (TypeId × Ty) → Tab
  | [] => fun _ => none
  | p :: r => fun t => bif Nat.beq t p.1 then some p.2 else tabL r t
inductive TyAll (P : Program) : List (TypeId × Ty) → Prop where
  | nil : TyAll P []
  | cons {t : TypeId} {T : Ty} {r : List (TypeId × Ty)} (h : TyOk P t T) (hr : TyAll P r) : TyAll P ((t, T) :: r)
theorem tabL_ok {P : Program} {l : List (TypeId × Ty)} (h : TyAll P l) : TabOk P (tabL l) := by
  induction h with
  | nil => intro t T h; simp [tabL] at h
  | @cons t0 T0 r h _ ih =>
    intro t T ht
    simp only [tabL] at ht
    cases hb : Nat.beq t t0 with
    | true =>
      rw [hb] at ht
      simp only [cond_true, Option.some.injEq] at ht
      obtain rfl := Nat.eq_of_beq_eq_true hb
      subst ht
      exact h
    | false => rw [hb] at ht; exact ih t T ht

/-! ### branches -/
theorem Split.t {K : Bool → Prop} (h : K true) : Split true K := ⟨fun _ => h, fun h => by cases h⟩
theorem Split.f {K : Bool → Prop} (h : K false) : Split false K := ⟨fun h => (by cases h), fun _ => h⟩
theorem Split.isT {b : Bool} {K : Bool → Prop} (hb : b = true) (h : K true) : Split b K := ⟨fun _ => h, fun h' => by rw [hb] at h'; cases h'⟩
theorem Split.isF {b : Bool} {K : Bool → Prop} (hb : b = false) (h : K false) : Split b K := ⟨fun h' => (by rw [hb] at h'; cases h'), fun _ => h⟩

/-! ### what says less -/
theorem SLe.trans {a b c : SV} (h : SLe a b) (k : SLe b c) : SLe a c := fun S w x r => k S w x (h S w x r)
theorem SLe.of_eq {a b : SV} (h : a = b) : SLe a b := h ▸ SLe.refl a
theorem SLe.nil (k : Nat) (get : Nat → Nat → SV) : SLe (.v (.slice none 0 0)) (.sl 0 k get) := fun S w x r => by
  rw [(Rd.inv_v r).1]; exact .nil k get
theorem SLe.sl {n k : Nat} {g g' : Nat → Nat → SV} (h : ∀ i, i < n → ∀ j, j < k → SLe (g i j) (g' i j)) : SLe (.sl n k g) (.sl n k g') := fun S w x r => by
  rcases Rd.inv_sl r with ⟨rfl, rfl⟩ | ⟨a, cap, rfl, rfl⟩ | ⟨b, off, cap, xs, rfl, h1, h2, h3, h4, h5⟩
  · exact .nil _ _
  · exact .emp _ _ _ _
  · exact .sl xs h1 h2 h3 h4 (fun i hi j hj => h i hi j hj S w _ (h5 i hi j hj))
theorem SLe.sl0 {k k' : Nat} {g g' : Nat → Nat → SV} : SLe (.sl 0 k g) (.sl 0 k' g') := fun S w x r => by
  rcases Rd.inv_sl r with ⟨rfl, _⟩ | ⟨a, cap, rfl, _⟩ | ⟨b, off, cap, xs, rfl, h1, h2, h3, h4, h5⟩
  · exact .nil _ _
  · exact .emp _ _ _ _
  · exact .emp _ _ _ _

theorem LLe.refl : ∀ (l : List SV), LLe l l
  | [] => .nil
  | c :: l => .cons (SLe.refl c) (LLe.refl l)
theorem LLe.rd {l l' : List SV} (h : LLe l l') {S : Nat → Prop} {w : World} {xs : List Value} (r : RdL S w xs l) : RdL S w xs l' := by
  induction h generalizing xs with
  | nil => exact r
  | cons h _ ih =>
    cases r with
    | cons a b => exact .cons (h S w _ a) (ih b)
theorem LLe.of_eq {a b : List SV} (h : a = b) : LLe a b := h ▸ LLe.refl a

theorem DLe.refl (v : DV) : DLe v v := fun _ _ _ h => h
theorem DLe.of_eq {a b : DV} (h : a = b) : DLe a b := h ▸ DLe.refl a
theorem DLe.one {c c' : SV} (h : SLe c c') : DLe (.one c) (.one c') := fun S w x r => h S w x r
theorem DLe.agg {l l' : List SV} (h : LLe l l') : DLe (.agg l) (.agg l') := fun S w x r => by
  obtain ⟨xs, h1, h2⟩ := r
  exact ⟨xs, h1, h.rd h2⟩

theorem DsLe.rd {l l' : List DV} (h : DsLe l l') {S : Nat → Prop} {w : World} {xs : List Value} (r : DRdL S w xs l) : DRdL S w xs l' := by
  induction h generalizing xs with
  | nil => exact r
  | cons h _ ih =>
    cases r with
    | cons a b => exact .cons (h S w _ a) (ih b)

/-! ### calls and ends -/
theorem CallW.mk' {P : Program} {f : FuncId} {args : List DV} {K : TV → Prop} {r : TV} (h : Det P f args r) (k : K r) : CallW P f args K := ⟨r, h, k⟩
/-- A contract serves at arguments that say more. -/
theorem Det.le {P : Program} {f : FuncId} {args args' : List DV} {r : TV} (hl : DsLe args args') (h : Det P f args' r) : Det P f args r :=
  ⟨h.1, fun w S vs hS hv => h.2 w S vs hS (hl.rd hv)⟩
theorem CallW.le {P : Program} {f : FuncId} {args args' : List DV} {K : TV → Prop} {r : TV} (h : Det P f args' r) (hl : DsLe args args') (k : K r) : CallW P f args K := ⟨r, h.le hl, k⟩
theorem Det.to {P : Program} {f : FuncId} {args : List DV} {r r' : TV} (h : Det P f args r) (hr : ∀ (S : Nat → Prop) (w : World) (v : Value), ROk S w v r → ROk S w v r') : Det P f args r' :=
  ⟨h.1, fun w S vs hS hv => (h.2 w S vs hS hv).mono fun _ _ ⟨v, h1, h2, h3⟩ => ⟨v, h1, h2, hr _ _ _ h3⟩⟩
theorem Det.eq {P : Program} {f : FuncId} {args : List DV} {r r' : TV} (h : Det P f args r) (e : r = r') : Det P f args r' := e ▸ h

/-! a call's result under a letter of its own: the walk goes on with the letter -/
theorem CallW.int {P : Program} {f : FuncId} {args : List DV} {K : TV → Prop} {k : IntKind} {e : Int} (h : Det P f args (.d (.one (.v (.int k e))))) (kk : ∀ n, n = e → K (.d (.one (.v (.int k n))))) : CallW P f args K := ⟨_, h, kk e rfl⟩
theorem CallW.bool {P : Program} {f : FuncId} {args : List DV} {K : TV → Prop} {e : Bool} (h : Det P f args (tbool e)) (kk : ∀ b, b = e → K (tbool b)) : CallW P f args K := ⟨_, h, kk e rfl⟩
theorem CallW.two {P : Program} {f : FuncId} {args : List DV} {K : TV → Prop} {a b : Int} (h : Det P f args (.d (.agg [i64 a, i64 b]))) (kk : ∀ p q, p = a → q = b → K (.d (.agg [i64 p, i64 q]))) : CallW P f args K := ⟨_, h, kk a b rfl rfl⟩
theorem EqW.b {P : Program} {T : TypeId} {xs ys : List SV} {K : Bool → Prop} {e : Bool} (h : EqFact P T xs ys e) (k : ∀ b, b = e → K b) : EqW P T xs ys K := ⟨e, h, k e rfl⟩

theorem Fin.rfl' {x : TV} : Fin x x := ⟨fun _ _ _ h => h⟩
theorem Fin.eq {x r : TV} (h : x = r) : Fin x r := h ▸ Fin.rfl'
theorem Fin.d {x r : DV} (h : DLe x r) : Fin (.d x) (.d r) := ⟨fun S w v k => h S w v k⟩
theorem Fin.bool {b b' : Bool} (h : b = b') : Fin (tbool b) (tbool b') := h ▸ Fin.rfl'
theorem Fin.int {k : IntKind} {n n' : Int} (h : n = n') : Fin (.d (.one (.v (.int k n)))) (.d (.one (.v (.int k n')))) := h ▸ Fin.rfl'
theorem Fin.agg {l l' : List SV} (h : LLe l l') : Fin (.d (.agg l)) (.d (.agg l')) := Fin.d (DLe.agg h)
theorem Fin.one {c c' : SV} (h : SLe c c') : Fin (.d (.one c)) (.d (.one c')) := Fin.d (DLe.one h)
theorem Fin.tup {l l' : List DV} (h : DsLe l l') : Fin (.tup l) (.tup l') := ⟨fun _ _ _ ⟨xs, h1, h2⟩ => ⟨xs, h1, h.rd h2⟩⟩

/-! ### loops and cuts: what is kept -/
def slotsOf : List (Nat × TV) → Nat → TV
  | [] => fun _ => .any
  | p :: r => match p with
    | (k, x) => upd (slotsOf r) k x
def memsOf : List (Id × Mem) → Id → Mem
  | [] => fun _ => .none
  | p :: r => match p with
    | (k, x) => upd (memsOf r) k x

inductive CRLe (m' : Id → Mem) : CR → CR → Prop where
  | s {c c' : SV} (h : SLe c c') : CRLe m' (.s c) (.s c')
  | ptr {o : Id} {p : Nat} (h : m' o ≠ .none) : CRLe m' (.ptr o p) (.ptr o p)
inductive CRsLe (m' : Id → Mem) : List CR → List CR → Prop where
  | nil : CRsLe m' [] []
  | cons {c c' : CR} {l l' : List CR} (h : CRLe m' c c') (r : CRsLe m' l l') : CRsLe m' (c :: l) (c' :: l')
inductive CVLe (m m' : Id → Mem) : CV → CV → Prop where
  | s {c c' : SV} (h : SLe c c') : CVLe m m' (.s c) (.s c')
  | ptr {o : Id} {p : Nat} (h : m' o ≠ .none) : CVLe m m' (.ptr o p) (.ptr o p)
  | hdl {o : Id} {g g' : Nat} (h : m' o ≠ .none) (hg : g = (m o).gen) (hg' : g' = (m' o).gen) : CVLe m m' (.hdl o g) (.hdl o g')
  | clo {f : FuncId} {c c' : List CR} (h : CRsLe m' c c') : CVLe m m' (.clo f c) (.clo f c')
inductive CVsLe (m m' : Id → Mem) : List CV → List CV → Prop where
  | nil : CVsLe m m' [] []
  | cons {c c' : CV} {l l' : List CV} (h : CVLe m m' c c') (r : CVsLe m m' l l') : CVsLe m m' (c :: l) (c' :: l')
inductive MemLe (m m' : Id → Mem) : Mem → Mem → Prop where
  | dead (x : Mem) : MemLe m m' x .dead
  | box {l l' : List SV} (h : LLe l l') : MemLe m m' (.box l) (.box l')
  | ro {l l' : List SV} (h : LLe l l') : MemLe m m' (.ro l) (.ro l')
  | boxObj {l : List SV} {l' : List CV} (h : CVsLe m m' (l.map .s) l') : MemLe m m' (.box l) (.obj l')
  | obj {l l' : List CV} (h : CVsLe m m' l l') : MemLe m m' (.obj l) (.obj l')
  | bld {g g' n k : Nat} {e : TypeId} {get get' : Nat → Nat → SV} (h : ∀ i, i < n → ∀ j, j < k → SLe (get i j) (get' i j)) (hg : g' = 1 → g = 1 := by first | exact fun h => h | exact fun h => absurd h (by decide)) : MemLe m m' (.bld g n k e get) (.bld g' n k e get')
  | bldObj {g g' n k : Nat} {e : TypeId} {get : Nat → Nat → SV} {get' : Nat → Nat → CV} (h : ∀ i, i < n → ∀ j, j < k → CVLe m m' (.s (get i j)) (get' i j)) (hg : g' = 1 → g = 1 := by first | exact fun h => h | exact fun h => absurd h (by decide)) : MemLe m m' (.bld g n k e get) (.bldc g' n k e get')
  | bldc {g g' n k : Nat} {e : TypeId} {get get' : Nat → Nat → CV} (h : ∀ i, i < n → ∀ j, j < k → CVLe m m' (get i j) (get' i j)) (hg : g' = 1 → g = 1 := by first | exact fun h => h | exact fun h => absurd h (by decide)) : MemLe m m' (.bldc g n k e get) (.bldc g' n k e get')
theorem MemLe.bldN {m m' : Id → Mem} {g g' n n' k : Nat} {e : TypeId} {get get' : Nat → Nat → SV} (hn : n = n') (h : ∀ i, i < n → ∀ j, j < k → SLe (get i j) (get' i j)) (hg : g' = 1 → g = 1 := by first | exact fun h => h | exact fun h => absurd h (by decide)) : MemLe m m' (.bld g n k e get) (.bld g' n' k e get') := by
  subst hn; exact .bld h hg

inductive KeepM (m m' : Id → Mem) : List (Id × Mem) → Prop where
  | nil : KeepM m m' []
  | cons {o : Id} {x : Mem} {r : List (Id × Mem)} (h : MemLe m m' (m o) x) (hr : KeepM m m' r) : KeepM m m' ((o, x) :: r)
  | none {o : Id} {r : List (Id × Mem)} (hr : KeepM m m' r) : KeepM m m' ((o, .none) :: r)

/-- A slot's value says as much as what is kept of it. -/
inductive SlotLe (m : Id → Mem) (m' : Id → Mem) : TV → TV → Prop where
  | any (x : TV) : SlotLe m m' x .any
  | undef : SlotLe m m' .undef .undef
  | data {v v' : DV} (h : DLe v v') : SlotLe m m' (.d v) (.d v')
  | box {o : Id} {p : Nat} {l l' : List SV} (h : m o = .box l) (h' : m' o = .box l') : SlotLe m m' (.ptr o p) (.ptr o p)
  | ro {o : Id} {p : Nat} {l l' : List SV} (h : m o = .ro l) (h' : m' o = .ro l') : SlotLe m m' (.ptr o p) (.ptr o p)
  | ptr {o : Id} {p : Nat} (h : m' o ≠ .none) : SlotLe m m' (.ptr o p) (.ptr o p)
  | hdl {o : Id} {g g' n k n' k' : Nat} (h : (m o).bldy = some (g, n, k)) (h' : (m' o).bldy = some (g', n', k')) : SlotLe m m' (.hdl o g) (.hdl o g')
  | sub {o : Id} {g g' lo c n k n' k' : Nat} (h : (m o).bldy = some (g, n, k)) (h' : (m' o).bldy = some (g', n', k')) : SlotLe m m' (.sub o g lo c) (.sub o g' lo c)
  | ep {o : Id} {g g' i off n k n' k' : Nat} (h : (m o).bldy = some (g, n, k)) (h' : (m' o).bldy = some (g', n', k')) : SlotLe m m' (.ep o g i off) (.ep o g' i off)
  | clo {f : FuncId} {c c' : List CR} (h : CRsLe m' c c') : SlotLe m m' (.clo f c) (.clo f c')

theorem SlotLe.int {m m' : Id → Mem} {k : IntKind} {n n' : Int} (h : n = n') : SlotLe m m' (.d (.one (.v (.int k n)))) (.d (.one (.v (.int k n')))) := h ▸ .data (DLe.refl _)
theorem SlotLe.same {m m' : Id → Mem} {v : DV} : SlotLe m m' (.d v) (.d v) := .data (DLe.refl _)

inductive KeepS (t : Nat → TV) (m m' : Id → Mem) : List (Nat × TV) → Prop where
  | nil : KeepS t m m' []
  | cons {s : Nat} {x : TV} {r : List (Nat × TV)} (h : SlotLe m m' (t s) x) (hr : KeepS t m m' r) : KeepS t m m' ((s, x) :: r)

theorem KeepM.at {m m' : Id → Mem} {ms : List (Id × Mem)} (h : KeepM m m' ms) (o : Id) : memsOf ms o = .none ∨ MemLe m m' (m o) (memsOf ms o) := by
  induction h with
  | nil => exact .inl rfl
  | @cons k x r h _ ih =>
    by_cases e : o = k
    · subst e; right; simp only [memsOf, upd_same]; exact h
    · simp only [memsOf, upd_ne _ _ _ e]; exact ih
  | @none k r _ ih =>
    by_cases e : o = k
    · subst e; left; simp only [memsOf, upd_same]
    · simp only [memsOf, upd_ne _ _ _ e]; exact ih
theorem KeepS.at {t : Nat → TV} {m m' : Id → Mem} {ks : List (Nat × TV)} (h : KeepS t m m' ks) (s : Nat) : SlotLe m m' (t s) (slotsOf ks s) := by
  induction h with
  | nil => exact .any _
  | @cons k x r h _ ih =>
    by_cases e : s = k
    · subst e; simp only [slotsOf, upd_same]; exact h
    · simp only [slotsOf, upd_ne _ _ _ e]; exact ih

theorem MemLe.live {m m' : Id → Mem} {x y : Mem} (h : MemLe m m' x y) : y.live → x.live := by cases h <;> first | exact id | exact fun h => h.elim
theorem MemLe.ne {m m' : Id → Mem} {x y : Mem} (h : MemLe m m' x y) : y ≠ .none := by cases h <;> simp
theorem MemLe.shape {m m' : Id → Mem} {x y : Mem} (h : MemLe m m' x y) : y = .dead ∨ (x.boxy = true ∧ y.boxy = true) ∨ ∃ g g' n k, x.bldy = some (g, n, k) ∧ y.bldy = some (g', n, k) ∧ (g' = 1 → g = 1) := by
  cases h with
  | dead x => exact .inl rfl
  | bld _ hg => exact .inr (.inr ⟨_, _, _, _, rfl, rfl, hg⟩)
  | bldObj _ hg => exact .inr (.inr ⟨_, _, _, _, rfl, rfl, hg⟩)
  | bldc _ hg => exact .inr (.inr ⟨_, _, _, _, rfl, rfl, hg⟩)
  | _ => exact .inr (.inl ⟨rfl, rfl⟩)

theorem CRsLe.refs {m' : Id → Mem} {c c' : List CR} (h : CRsLe m' c c') : ∀ o, (∃ x ∈ c', x.refs o) → m' o ≠ .none := by
  induction h with
  | nil => rintro o ⟨x, hx, _⟩; simp at hx
  | cons a _ ih =>
    rintro o ⟨x, hx, hr⟩
    rcases List.mem_cons.1 hx with rfl | hx
    · cases a with
      | s h => exact hr.elim
      | ptr h => cases hr; exact h
    · exact ih o ⟨x, hx, hr⟩
theorem CVLe.refs {m m' : Id → Mem} {c c' : CV} (h : CVLe m m' c c') : ∀ o, c'.refs o → m' o ≠ .none := by
  intro o hr
  cases h with
  | s h => exact hr.elim
  | ptr h => cases hr; exact h
  | hdl h _ _ => cases hr; exact h
  | clo h => exact h.refs o hr
theorem CVsLe.refs {m m' : Id → Mem} {c c' : List CV} (h : CVsLe m m' c c') : ∀ o, (∃ x ∈ c', x.refs o) → m' o ≠ .none := by
  induction h with
  | nil => rintro o ⟨x, hx, _⟩; simp at hx
  | cons a _ ih =>
    rintro o ⟨x, hx, hr⟩
    rcases List.mem_cons.1 hx with rfl | hx
    · exact a.refs o hr
    · exact ih o ⟨x, hx, hr⟩
theorem MemLe.refs {m m' : Id → Mem} {x y : Mem} (h : MemLe m m' x y) : ∀ o, y.refs o → m' o ≠ .none := by
  intro o hr
  cases h with
  | boxObj h => exact h.refs o hr
  | obj h => exact h.refs o hr
  | bldObj h _ => obtain ⟨i, j, hi, hj, hr⟩ := hr; exact (h i hi j hj).refs o hr
  | bldc h _ => obtain ⟨i, j, hi, hj, hr⟩ := hr; exact (h i hi j hj).refs o hr
  | _ => exact hr.elim

section
variable {S S' : Nat → Prop} {m m' : Id → Mem} {ρ : Id → Option (Nat × Nat)} {w : World}
theorem CRsLe.rd (hL : ∀ b, S b → S' b) (hp : ∀ o p x, m' o ≠ .none → PtrOk m ρ x o p → PtrOk m' ρ x o p) {c c' : List CR} (h : CRsLe m' c c') : ∀ {xs : List Value}, CRL S m ρ w xs c → CRL S' m' ρ w xs c' := by
  induction h with
  | nil => intro xs hx; cases hx; exact .nil
  | cons a _ ih =>
    intro xs hx
    cases hx with
    | cons p q =>
      refine .cons ?_ (ih q)
      cases a with
      | s h => exact h _ _ _ (Rd.mono (fun b hb => ⟨hL b hb, rfl⟩) p)
      | ptr h => exact hp _ _ _ h p
theorem CVLe.rd (hL : ∀ b, S b → S' b) (hp : ∀ o p x, m' o ≠ .none → PtrOk m ρ x o p → PtrOk m' ρ x o p) (hh : ∀ o x, m' o ≠ .none → HdlOk m ρ x o (m o).gen → HdlOk m' ρ x o (m' o).gen) {c c' : CV} (h : CVLe m m' c c') {x : Value} (hx : CVk S m ρ w x c) : CVk S' m' ρ w x c' := by
  cases h with
  | s h => exact h _ _ _ (Rd.mono (fun b hb => ⟨hL b hb, rfl⟩) hx)
  | ptr h => exact hp _ _ _ h hx
  | hdl h hg hg' => subst hg hg'; exact hh _ _ h hx
  | clo h => obtain ⟨us, e1, r1⟩ := hx; exact ⟨us, e1, h.rd hL hp r1⟩
theorem CVsLe.rd (hL : ∀ b, S b → S' b) (hp : ∀ o p x, m' o ≠ .none → PtrOk m ρ x o p → PtrOk m' ρ x o p) (hh : ∀ o x, m' o ≠ .none → HdlOk m ρ x o (m o).gen → HdlOk m' ρ x o (m' o).gen) {c c' : List CV} (h : CVsLe m m' c c') : ∀ {xs : List Value}, CVL S m ρ w xs c → CVL S' m' ρ w xs c' := by
  induction h with
  | nil => intro xs hx; cases hx; exact .nil
  | cons a _ ih =>
    intro xs hx
    cases hx with
    | cons p q => exact .cons (a.rd hL hp hh p) (ih q)
end

theorem wk_keep {t : Nat → TV} {m : Id → Mem} {ks : List (Nat × TV)} {ms : List (Id × Mem)} (hm : KeepM m (memsOf ms) ms) (hk : KeepS t m (memsOf ms) ks) : Wk t m (slotsOf ks) (memsOf ms) := by
  intro E ρ a w hR
  generalize hm' : memsOf ms = m' at *
  have hat : ∀ o, m' o = .none ∨ MemLe m m' (m o) (m' o) := fun o => by have := hm.at o; rwa [hm'] at this
  have hle : ∀ o, m' o ≠ .none → MemLe m m' (m o) (m' o) := fun o hn => (hat o).resolve_left hn
  have hlive : ∀ o, (m' o).live → (m o).live := fun o l => by
    rcases hat o with h | h
    · rw [h] at l; exact l.elim
    · exact h.live l
  have hL : ∀ b, L E m ρ w b → L E m' ρ w b := fun b hl => ⟨hl.1, fun o c l r => hl.2 o c (hlive o l) r⟩
  have hp : ∀ o p x, m' o ≠ .none → PtrOk m ρ x o p → PtrOk m' ρ x o p := by
    intro o p x hn h
    rcases (hle o hn).shape with e | ⟨h1, h2⟩ | ⟨g, g', n, k, h1, _, _⟩
    · simp only [PtrOk, e]; exact h.oneCell
    · exact (ptrOk_boxy h2).2 ((ptrOk_boxy h1).1 h)
    · exact absurd h (ptrOk_bldy h1)
  have hh : ∀ o x, m' o ≠ .none → HdlOk m ρ x o (m o).gen → HdlOk m' ρ x o (m' o).gen := by
    intro o x hn h
    rcases (hle o hn).shape with e | ⟨h1, h2⟩ | ⟨g, g', n, k, h1, h2, _⟩
    · simp only [HdlOk, e]; exact ⟨h.1, trivial⟩
    · exact (hdlOk_boxy h2).2 h.1
    · rw [gen_bldy h1, hdlOk_bldy h1] at h
      rw [gen_bldy h2, hdlOk_bldy h2]
      exact ⟨h.1, Nat.le_refl _, fun _ => h.2.2 rfl⟩
  have hsame : ∀ o g n k g' n' k', (m o).bldy = some (g, n, k) → (m' o).bldy = some (g', n', k') → n = n' ∧ k = k' := by
    intro o g n k g' n' k' h h'
    rcases (hle o (live_bldy h').2).shape with e | ⟨h1, h2⟩ | ⟨q, q', n1, k1, h1, h2, _⟩
    · rw [e] at h'; simp [Mem.bldy] at h'
    · exfalso; revert h1 h; cases m o <;> simp [Mem.boxy, Mem.bldy]
    · rw [h] at h1; rw [h'] at h2
      simp at h1 h2
      exact ⟨h1.2.1.trans h2.2.1.symm, h1.2.2.trans h2.2.2.symm⟩
  refine ⟨ρ, { below := hR.below, defers := hR.defers.mono (fun b hb => ⟨hL b hb, rfl⟩), size := hR.size, inj := fun o o' b c c' l l' => hR.inj o o' b c c' (hlive o l) (hlive o' l'), lo := fun o b c l => hR.lo o b c (hlive o l), clean := ?clean, cleanM := ?cleanM, mem := ?mem, slots := ?slots, carry := ?carry }⟩
  case clean =>
    intro s o hr
    have h := hk.at s
    generalize slotsOf ks s = y at h hr
    generalize t s = x at h
    cases h with
    | box h h' => cases hr; rw [h']; simp
    | ro h h' => cases hr; rw [h']; simp
    | ptr h => cases hr; exact h
    | hdl h h' => cases hr; exact (live_bldy h').2
    | sub h h' => cases hr; exact (live_bldy h').2
    | ep h h' => cases hr; exact (live_bldy h').2
    | clo h => exact h.refs o hr
    | _ => exact hr.elim
  case cleanM =>
    intro o o' hr
    rcases hat o with h | h
    · rw [h] at hr; exact hr.elim
    · exact h.refs o' hr
  case mem =>
    intro o
    rcases hat o with h | h
    · rw [h]; trivial
    · have hmo := hR.mem o
      revert hmo h
      generalize m o = x
      generalize m' o = y
      intro h hmo
      cases h with
      | dead => trivial
      | box h =>
        obtain ⟨b, c, xs, e, h1, h2, h3⟩ := hmo
        exact ⟨b, c, xs, e, h1, h2, h.rd (h3.mono (fun b hb => ⟨hL b hb, rfl⟩))⟩
      | ro h =>
        obtain ⟨b, c, xs, e, h1, h0, h2, h3⟩ := hmo
        exact ⟨b, c, xs, e, h1, hL b h0, h2, h.rd (h3.mono (fun b hb => ⟨hL b hb, rfl⟩))⟩
      | boxObj h =>
        obtain ⟨b, c, xs, e, h1, h2, h3⟩ := hmo
        exact ⟨b, c, xs, e, h1, h2, h.rd (S := L E m ρ w) hL hp hh (CVL.ofRd h3)⟩
      | obj h =>
        obtain ⟨b, c, xs, e, h1, h2, h3⟩ := hmo
        exact ⟨b, c, xs, e, h1, h2, h.rd hL hp hh h3⟩
      | bld h _ =>
        rcases hmo with h1 | ⟨b, cap, arr, h1, h2, h3, h4, h5, h6⟩
        · exact .inl h1
        · refine .inr ⟨b, cap, arr, h1, h2, h3, h4, h5, fun i hi j hj => ?_⟩
          obtain ⟨x, hx, hr⟩ := h6 i hi j hj
          exact ⟨x, hx, h i hi j hj _ _ _ (hr.mono (fun b hb => ⟨hL b hb, rfl⟩))⟩
      | bldObj h _ =>
        rcases hmo with h1 | ⟨b, cap, arr, h1, h2, h3, h4, h5, h6⟩
        · exact .inl h1
        · refine .inr ⟨b, cap, arr, h1, h2, h3, h4, h5, fun i hi j hj => ?_⟩
          obtain ⟨x, hx, hr⟩ := h6 i hi j hj
          exact ⟨x, hx, (h i hi j hj).rd (S := L E m ρ w) hL hp hh hr⟩
      | bldc h _ =>
        rcases hmo with h1 | ⟨b, cap, arr, h1, h2, h3, h4, h5, h6⟩
        · exact .inl h1
        · refine .inr ⟨b, cap, arr, h1, h2, h3, h4, h5, fun i hi j hj => ?_⟩
          obtain ⟨x, hx, hr⟩ := h6 i hi j hj
          exact ⟨x, hx, (h i hi j hj).rd hL hp hh hr⟩
  case slots =>
    intro s
    have hs := hR.slots s
    have h := hk.at s
    generalize slotsOf ks s = y at h
    generalize t s = x at h hs
    cases h with
    | any => trivial
    | undef => exact hs
    | data h => exact h _ _ _ (DRd.mono (fun b hb => ⟨hL b hb, rfl⟩) hs)
    | box h h' => exact hp _ _ _ (by rw [h']; simp) hs
    | ro h h' => exact hp _ _ _ (by rw [h']; simp) hs
    | ptr h => exact hp _ _ _ h hs
    | @hdl o g g' n k n' k' h h' =>
      have := hh o _ (live_bldy h').2 (by rw [gen_bldy h]; exact hs)
      rw [gen_bldy h'] at this
      exact this
    | @sub o g g' lo c n k n' k' h h' =>
      obtain ⟨rfl, rfl⟩ := hsame o _ _ _ _ _ _ h h'
      obtain ⟨a1, _, a2⟩ := (subOk_bldy h).1 hs
      exact (subOk_bldy h').2 ⟨a1, Nat.le_refl _, fun _ => a2 rfl⟩
    | @ep o g g' i off n k n' k' h h' =>
      obtain ⟨rfl, rfl⟩ := hsame o _ _ _ _ _ _ h h'
      obtain ⟨_, a2⟩ := (epOk_bldy h).1 hs
      exact (epOk_bldy h').2 ⟨Nat.le_refl _, fun _ => a2 rfl⟩
    | clo h => obtain ⟨us, e1, r1⟩ := hs; exact ⟨us, e1, h.rd hL hp r1⟩
  case carry =>
    intro o hn
    have hc := hR.carry o hn
    rcases hat o with h | h
    · refine ⟨fun x p hq => ?_, fun x hg hq => ?_⟩
      · have := (hc.ptr x p hq).oneCell
        simp only [PtrOk, h]; exact this
      · rw [h] at hg; simp [Mem.gen] at hg
    · refine ⟨fun x p hq => hp o p x h.ne (hc.ptr x p hq), fun x hg hq => ?_⟩
      have hgm : (m o).gen = 1 := by
        rcases h.shape with e | ⟨h1, h2⟩ | ⟨g, g', n, k, h1, h2, h3⟩
        · rw [e] at hg; simp [Mem.gen] at hg
        · rw [gen_boxy h2] at hg; omega
        · rw [gen_bldy h2] at hg; rw [gen_bldy h1]; exact h3 hg
      have := hh o x h.ne (by rw [hgm]; exact hc.hdl x hgm hq)
      rwa [hg] at this

theorem Adj.keep {t : Nat → TV} {m : Id → Mem} {J : (Nat → TV) → (Id → Mem) → Prop} (ks : List (Nat × TV)) (ms : List (Id × Mem)) (hm : KeepM m (memsOf ms) ms) (hk : KeepS t m (memsOf ms) ks) (h : J (slotsOf ks) (memsOf ms)) : Adj t m J :=
  ⟨_, _, wk_keep hm hk, h⟩

/-- A slice that is nil is one that is being made, and empty. -/
theorem Adj.nil {t : Nat → TV} {m : Id → Mem} {J : (Nat → TV) → (Id → Mem) → Prop} (s o k : Nat) (e : TypeId) (get : Nat → Nat → SV) (hs : t s = .d (.one (.v (.slice none 0 0)))) (hm : m (.n o) = .none)
    (h : Adj (upd t s (.hdl (.n o) 0)) (upd m (.n o) (.bld 0 0 k e get)) J) (ho : o < 2000 := by decide) : Adj t m J := by
  obtain ⟨t', m', hwk, hJ⟩ := h
  refine ⟨t', m', fun E ρ a w hR => ?_, hJ⟩
  obtain ⟨k1, k2⟩ := hR.nilBld (.n o) 0 k e get ⟨by omega, .inl ⟨hm, E.hm1 o ho⟩⟩
  refine hwk E (upd ρ (.n o) none) a w { k1 with clean := ?_, slots := ?_ }
  · intro i o' hr
    by_cases hi : i = s
    · subst hi; rw [upd_same] at hr; cases hr; rw [upd_same]; simp
    · rw [upd_ne _ _ _ hi] at hr; exact k1.clean i o' hr
  · intro i
    by_cases hi : i = s
    · subst hi
      rw [upd_same]
      have h1 := k1.slots i
      rw [hs] at h1
      have e1 := (Rd.inv_v (show Rd _ _ _ _ from h1)).1
      rw [e1]
      exact k2
    · rw [upd_ne _ _ _ hi]; exact k1.slots i

/-- A slice that is being made is read from now on. -/
theorem Adj.freeze {t : Nat → TV} {m : Id → Mem} {J : (Nat → TV) → (Id → Mem) → Prop} (s : Nat) (o : Id) (g n k : Nat) (e : TypeId) (get : Nat → Nat → SV) (hs : t s = .hdl o g) (hm : m o = .bld g n k e get)
    (h : Adj (upd t s (.d (.one (.sl n k get)))) (upd m o .dead) J) : Adj t m J := by
  obtain ⟨t', m', hwk, hJ⟩ := h
  refine ⟨t', m', fun E ρ a w hR => ?_, hJ⟩
  have h1 : Rd (Sx E m ρ w [o] false) w (a.tmps.getD s Go.undef) (.sl n k get) := by
    have hv := hR.slots s
    rw [hs] at hv
    have hl := (Lend.bld (m := m) (ks := [o.key]) (o := o) (by simp) hm).rd (E := E) (ρ := ρ) (fun _ _ => rfl) hR.toOwn _ hv
    have hby : (m o).bldy = some (g, n, k) := by rw [hm]; rfl
    have h3 := ((hdlOk_bldy hby).1 hv).2.2 rfl
    have hmo := hR.mem o
    rw [hm] at hmo
    rcases hmo with ⟨hρ, hn0⟩ | ⟨bl, cap, arr, hρ, hblk, hsz, hnc, hcm, hel⟩
    · simp only [HdlAt, hρ] at h3
      rw [h3, hn0]
      exact Rd.nil k get
    · simp only [HdlAt, hρ] at h3
      rw [h3]
      refine Rd.sl (fun i j => (arr[i * k + j]?).getD Go.undef) (.inr ⟨o, .inl (by simp), mem_live_bld hm, cap, hρ⟩) hnc hcm (fun i hi j hj => ?_) (fun i hi j hj => ?_)
      · obtain ⟨y, hy, _⟩ := hel i hi j hj
        simp [World.cell?, hblk, hy]
      · obtain ⟨y, hy, hr⟩ := hel i hi j hj
        simp only [hy, Option.getD_some]
        exact hr.mono (fun b hb => ⟨.inl hb, rfl⟩)
  have k1 := hR.freeze1 o (by rw [hm]; simp)
  refine hwk E ρ a w { k1 with clean := ?_, slots := ?_ }
  · intro i o' hr
    by_cases hi : i = s
    · subst hi; rw [upd_same] at hr; exact hr.elim
    · rw [upd_ne _ _ _ hi] at hr; exact k1.clean i o' hr
  · intro i
    by_cases hi : i = s
    · subst hi
      rw [upd_same]
      refine Rd.mono (fun b hb => ⟨?_, rfl⟩) h1
      rcases hb with hb | ⟨o', ho', l, c', r'⟩
      · refine ⟨hb.1, fun o'' c'' l'' r'' => ?_⟩
        by_cases e2 : o'' = o
        · subst e2; rw [upd_same] at l''; exact l''.elim
        · rw [upd_ne _ _ _ e2] at l''; exact hb.2 o'' c'' l'' r''
      · have ho' := ho'.resolve_right (fun e => by cases e)
        simp only [List.mem_singleton] at ho'
        subst ho'
        obtain ⟨q1, q2⟩ := hR.lo o' b c' l r'
        refine ⟨.inr (q1.imp id (fun q1 => ⟨q1, q2⟩)), fun o'' c'' l'' r'' => ?_⟩
        by_cases e2 : o'' = o'
        · subst e2; rw [upd_same] at l''; exact l''.elim
        · rw [upd_ne _ _ _ e2] at l''; exact e2 (hR.inj o'' o' b c'' c' l'' l r'' r')
    · rw [upd_ne _ _ _ hi]; exact k1.slots i

/-- What is kept at a loop's head, at a letter of one's own. -/
def Kept {α : Type} (ks : α → List (Nat × TV)) (ms : α → List (Id × Mem)) (inv : α → Prop) (x : α) (t : Nat → TV) (m : Id → Mem) : Prop := inv x ∧ t = slotsOf (ks x) ∧ m = memsOf (ms x)

theorem Adj.at {α : Type} {t : Nat → TV} {m : Id → Mem} {ks : α → List (Nat × TV)} {ms : α → List (Id × Mem)} {inv : α → Prop} (y : α) (hi : inv y) (hm : KeepM m (memsOf (ms y)) (ms y)) (hk : KeepS t m (memsOf (ms y)) (ks y)) :
    Adj t m (fun t m => ∃ x, Kept ks ms inv x t m) := ⟨_, _, wk_keep hm hk, y, hi, rfl, rfl⟩
theorem Adj.back {α : Type} {t : Nat → TV} {m : Id → Mem} {ks : α → List (Nat × TV)} {ms : α → List (Id × Mem)} {inv : α → Prop} {rank : α → Nat} {x : α} (y : α) (hi : inv y) (hlt : rank y < rank x) (hm : KeepM m (memsOf (ms y)) (ms y)) (hk : KeepS t m (memsOf (ms y)) (ks y)) :
    Adj t m (fun t3 m3 => ∃ y, Kept ks ms inv y t3 m3 ∧ rank y < rank x) := ⟨_, _, wk_keep hm hk, y, ⟨hi, rfl, rfl⟩, hlt⟩

/-- A LOOP BY A LETTER: what is kept at each round's head, as a function of a state of one's own; that state goes down. -/
theorem Loop.by {α : Type} {body : Post → (Nat → TV) → (Id → Mem) → Prop} {Q : Post} {t : Nat → TV} {m : Id → Mem} (ks : α → List (Nat × TV)) (ms : α → List (Id × Mem)) (inv : α → Prop) (rank : α → Nat) (h0 : Adj t m fun t m => ∃ x, Kept ks ms inv x t m)
    (hr : ∀ x, inv x → body (fun e t'' m'' => match e with
      | .normal => Adj t'' m'' fun t3 m3 => ∃ y, Kept ks ms inv y t3 m3 ∧ rank y < rank x
      | e => Q e t'' m'') (slotsOf (ks x)) (memsOf (ms x))) : Loop body Q t m :=
  ⟨α, Kept ks ms inv, fun x t m => Adj t m fun t3 m3 => ∃ y, Kept ks ms inv y t3 m3 ∧ rank y < rank x, rank, h0, fun _ _ _ h => h, fun x t' m' ⟨hi, h1, h2⟩ => by subst h1 h2; exact hr x hi⟩

/-- A LOOP ROUND BY ROUND. -/
def LoopN (body : Post → (Nat → TV) → (Id → Mem) → Prop) (Q : Post) : Nat → (Nat → TV) → (Id → Mem) → Prop
  | 0, _, _ => False
  | n + 1, t, m => body (fun e t m => match e with
      | .normal => LoopN body Q n t m
      | e => Q e t m) t m
theorem Wk.refl (t : Nat → TV) (m : Id → Mem) : Wk t m t m := fun _ ρ _ _ h => ⟨ρ, h⟩
theorem Loop.unroll {body : Post → (Nat → TV) → (Id → Mem) → Prop} {Q : Post} {t : Nat → TV} {m : Id → Mem} (n : Nat) (h : LoopN body Q n t m) : Loop body Q t m := by
  refine ⟨Nat, LoopN body Q, fun x t m => match x with | 0 => False | k + 1 => LoopN body Q k t m, id, ⟨t, m, Wk.refl t m, n, h⟩, fun x t m hj => ?_, fun x t' m' hi => ?_⟩
  · cases x with
    | zero => exact hj.elim
    | succ k => exact ⟨t, m, Wk.refl t m, k, hj, Nat.lt_succ_self k⟩
  · cases x with
    | zero => exact hi.elim
    | succ k => exact hi
end Go.Vm
namespace Go.Vm
set_option linter.unusedVariables false
set_option linter.unusedSimpArgs false
open Go Go.RowKit

abbrev iv (n : Int) : Value := .int .i64 n

open Classical in
/-- '==' at a type whose cells are numbers, booleans and strings (C says of which kinds). -/
def EqIn (P : Program) (k : Nat) (t : TypeId) (T : Ty) (C : List Value → Prop) : Prop := (∀ xs, C xs → xs.length = T.size) ∧ ∀ d, k ≤ d → ∀ (w : World) (xs ys : List Value), C xs → C ys →
  (Op.equalIn d t (pack T.kind.isAgg xs) (pack T.kind.isAgg ys)).run P w = .ok (decide (xs = ys)) w

abbrev CInt (xs : List Value) : Prop := ∃ a, xs = [iv a]
abbrev CBool (xs : List Value) : Prop := ∃ a, xs = [.bool a]
abbrev CStr (xs : List Value) : Prop := ∃ a, xs = [.string a]

theorem EqIn.int {P : Program} {t : TypeId} {T : Ty} (hu : P.underlying t = some (.int .i64)) (ha : T.kind.isAgg = false) (h1 : T.size = 1) : EqIn P 1 t T CInt := by
  refine ⟨fun xs ⟨a, e⟩ => by rw [e, h1]; rfl, ?_⟩
  rintro d hd w xs ys ⟨a, rfl⟩ ⟨b, rfl⟩
  obtain ⟨d, rfl⟩ : ∃ e, d = e + 1 := ⟨d - 1, by omega⟩
  rw [ha]
  have := run_equalIn_int (P := P) w d t .i64 .i64 a b hu
  simp only [pack]
  refine this.trans ?_
  congr 1
  by_cases h : a = b <;> simp [h]
theorem EqIn.bool {P : Program} {t : TypeId} {T : Ty} (hu : P.underlying t = some .bool) (ha : T.kind.isAgg = false) (h1 : T.size = 1) : EqIn P 1 t T CBool := by
  refine ⟨fun xs ⟨a, e⟩ => by rw [e, h1]; rfl, ?_⟩
  rintro d hd w xs ys ⟨a, rfl⟩ ⟨b, rfl⟩
  obtain ⟨d, rfl⟩ : ∃ e, d = e + 1 := ⟨d - 1, by omega⟩
  rw [ha]
  have := run_equalIn_bool (P := P) w d t a b hu
  simp only [pack]
  refine this.trans ?_
  congr 1
  by_cases h : a = b <;> simp [h]
theorem EqIn.string {P : Program} {t : TypeId} {T : Ty} (hu : P.underlying t = some .string) (ha : T.kind.isAgg = false) (h1 : T.size = 1) : EqIn P 1 t T CStr := by
  refine ⟨fun xs ⟨a, e⟩ => by rw [e, h1]; rfl, ?_⟩
  rintro d hd w xs ys ⟨a, rfl⟩ ⟨b, rfl⟩
  obtain ⟨d, rfl⟩ : ∃ e, d = e + 1 := ⟨d - 1, by omega⟩
  rw [ha]
  have := run_equalIn_string (P := P) w d t a b hu
  simp only [pack]
  refine this.trans ?_
  congr 1
  rw [ByteArray.toList_eq, ByteArray.toList_eq]
  obtain ⟨⟨x⟩⟩ := a
  obtain ⟨⟨y⟩⟩ := b
  show (x == y) = _
  by_cases h : x = y <;> simp [h]

theorem EqIn.mono {P : Program} {k k' : Nat} {t : TypeId} {T : Ty} {C : List Value → Prop} (h : EqIn P k t T C) (hk : k ≤ k') : EqIn P k' t T C := ⟨h.1, fun d hd => h.2 d (Nat.le_trans hk hd)⟩

inductive FieldsEq (P : Program) (k : Nat) : Nat → List Field → Nat → (List Value → Prop) → Prop where
  | nil (off : Nat) : FieldsEq P k off [] off (fun xs => xs = [])
  | cons {off tot : Nat} {f : Field} {fs : List Field} {TF : Ty} {C CS : List Value → Prop} (hn : f.name ≠ "_") (ho : f.offset = off) (hT : TyOk P f.type TF) (h1 : TF.kind.isAgg = false → TF.size = 1) (he : EqIn P k f.type TF C)
      (r : FieldsEq P k (off + TF.size) fs tot CS) : FieldsEq P k off (f :: fs) tot (fun xs => ∃ a b, xs = a ++ b ∧ C a ∧ CS b)

open Classical in
theorem FieldsEq.run {P : Program} {k off tot : Nat} {fs : List Field} {CS : List Value → Prop} (h : FieldsEq P k off fs tot CS) : (∀ xs, CS xs → off + xs.length = tot) ∧ ∀ d, k ≤ d → ∀ (w : World) (p q xs ys : List Value), p.length = off → q.length = off → CS xs → CS ys →
    (Op.eqFields d (p ++ xs).toArray (q ++ ys).toArray fs).run P w = .ok (decide (xs = ys)) w := by
  induction h with
  | nil off =>
    refine ⟨fun xs h => by subst h; rfl, fun d _ w p q xs ys _ _ hx hy => ?_⟩
    subst hx hy
    simp [Op.eqFields]
  | @cons off tot f fs TF C CS hn ho hT h1 he _ ih =>
    obtain ⟨hlen, ih⟩ := ih
    refine ⟨?_, ?_⟩
    · rintro xs ⟨a, b, rfl, ha, hb⟩
      have e1 := he.1 a ha
      have e2 := hlen b hb
      simp only [List.length_append]
      omega
    · rintro d hd w p q xs ys hp hq ⟨a, b, rfl, ha, hb⟩ ⟨a', b', rfl, ha', hb'⟩
      have la := he.1 a ha
      have la' := he.1 a' ha'
      have p1 := fun (p a b : List Value) (hp : p.length = off) (la : a.length = TF.size) => run_part hT w (p ++ (a ++ b)) f.offset (by simp; omega) h1
      have e1 : ∀ p a b : List Value, p.length = off → a.length = TF.size → ((p ++ (a ++ b)).drop f.offset).take TF.size = a := fun p a b hp la => by
        rw [ho, ← hp, List.drop_left, ← la, List.take_left]
      simp only [Op.eqFields, Sem.run_ite, Sem.run_bind, if_pos hn, p1 p a b hp la, p1 q a' b' hq la', Result.andThen_ok, e1 p a b hp la, e1 q a' b' hq la']
      rw [he.2 d hd w a a' ha ha']
      simp only [Result.andThen_ok]
      by_cases hqq : a = a'
      · subst hqq
        simp only [decide_true, Bool.not_true, Bool.false_eq_true, if_false]
        rw [← List.append_assoc, ← List.append_assoc, ih d hd w (p ++ a) (q ++ a) b b' (by simp; omega) (by simp; omega) hb hb']
        congr 2
        simp
      · simp only [hqq, decide_false, Bool.not_false, if_true, Sem.run_pure]
        congr 1
        symm
        rw [decide_eq_false_iff_not]
        intro h
        exact hqq (List.append_inj_left h (by omega))

theorem EqIn.str {P : Program} {k : Nat} {t : TypeId} {T : Ty} {CS : List Value → Prop} (ha : T.kind.isAgg = true) (hu : P.underlying t = some (.struct (P.fieldsOf t))) (hs : P.stoodInHeld t = false) (hf : FieldsEq P k 0 (P.fieldsOf t).toList T.size CS) : EqIn P (k + 1) t T CS := by
  refine ⟨fun xs h => by have := (hf.run).1 xs h; omega, fun d hd w xs ys hx hy => ?_⟩
  obtain ⟨d, rfl⟩ : ∃ e, d = e + 1 := ⟨d - 1, by omega⟩
  rw [ha]
  show (Op.equalIn (d + 1) t (.agg xs.toArray) (.agg ys.toArray)).run P w = _
  rw [run_equalIn_struct w d t _ _ hu hs]
  exact (hf.run).2 d (by omega) w [] [] xs ys rfl rfl hx hy

theorem RdL.vals {S : Nat → Prop} {w : World} : ∀ {us : List Value} {xs : List Value}, RdL S w us (xs.map SV.v) → us = xs
  | us, [], h => by cases h; rfl
  | us, x :: xs, h => by
    cases h with
    | cons a b => rw [(Rd.inv_v a).1, RdL.vals b]

theorem EqIn.fact {P : Program} {k : Nat} {t : TypeId} {T : Ty} {C : List Value → Prop} (h : EqIn P k t T C) (hk : k ≤ 10000) (ha : T.kind.isAgg = true) (hg : P.eqGuardType P.depth t = false) (xs ys : List Value) (hx : C xs) (hy : C ys) (b : Bool) (hb : b = true ↔ xs = ys) :
    EqFact P t (xs.map SV.v) (ys.map SV.v) b := by
  refine ⟨hg, fun S w us vs hu hv => ?_⟩
  rw [RdL.vals hu, RdL.vals hv]
  have := h.2 10000 hk w xs ys hx hy
  rw [ha] at this
  refine Eq.trans this ?_
  congr 1
  classical
  rw [Bool.eq_iff_iff, decide_eq_true_eq, hb]

theorem EqW.mk' {P : Program} {T : TypeId} {xs ys : List SV} {K : Bool → Prop} {b : Bool} (h : EqFact P T xs ys b) (k : K b) : EqW P T xs ys K := ⟨b, h, k⟩

/-! ### what a type says -/
/-- The whole numbers of a kind. -/
abbrev InK (k : IntKind) (n : Int) : Prop := (Lit.int k n).wf = true
abbrev R64 (n : Int) : Prop := -9223372036854775808 ≤ n ∧ n < 9223372036854775808

theorem InK.i64 {n : Int} (h : InK .i64 n) : R64 n := by
  simp [InK, Lit.wf, IntKind.min, IntKind.max, IntKind.bits, IntKind.signed] at h
  omega

abbrev w64 (n : Int) : Int := IntKind.i64.wrap n
theorem w64_def (n : Int) : w64 n = if n % 18446744073709551616 ≥ 9223372036854775808 then n % 18446744073709551616 - 18446744073709551616 else n % 18446744073709551616 := by
  simp [w64, IntKind.wrap, IntKind.bits, IntKind.signed]
theorem w64_id {n : Int} (h : R64 n) : w64 n = n := by
  rw [w64_def]
  obtain ⟨h1, h2⟩ := h
  split <;> omega
theorem w64_R (n : Int) : R64 (w64 n) := by
  rw [w64_def]
  constructor <;> split <;> omega
theorem w64_add_w (a b : Int) : w64 (w64 a + w64 b) = w64 (a + b) := by
  simp only [w64_def]
  omega
theorem w64_cong {a b : Int} (h : a % 18446744073709551616 = b % 18446744073709551616) : w64 a = w64 b := by
  simp only [w64_def, h]
theorem w64_neg_w (a : Int) : w64 (0 - w64 a) = w64 (0 - a) := by
  simp only [w64_def]
  omega

theorem Typ.inv_int {P : Program} {t : TypeId} {k : IntKind} {cs : List SV} (hu : P.underlying t = some (.int k)) (h : Typ P t cs) : ∃ n, cs = [.v (.int k n)] ∧ InK k n := by
  cases h with
  | bool b h => rw [hu] at h; cases h
  | int h hw => rw [hu] at h; cases h; exact ⟨_, rfl, hw⟩
  | str h _ => rw [hu] at h; cases h
  | slc h _ _ _ => rw [hu] at h; cases h
  | struct h _ _ => rw [hu] at h; cases h
  | arr h _ _ => rw [hu] at h; cases h
theorem Typ.inv_i64 {P : Program} {t : TypeId} {cs : List SV} (hu : P.underlying t = some (.int .i64)) (h : Typ P t cs) : ∃ n, cs = [i64 n] ∧ R64 n := by
  obtain ⟨n, e, h⟩ := Typ.inv_int hu h
  exact ⟨n, e, h.i64⟩
theorem Typ.inv_bool {P : Program} {t : TypeId} {cs : List SV} (hu : P.underlying t = some .bool) (h : Typ P t cs) : ∃ b, cs = [.v (.bool b)] := by
  cases h with
  | bool b h => exact ⟨b, rfl⟩
  | int h hw => rw [hu] at h; cases h
  | str h _ => rw [hu] at h; cases h
  | slc h _ _ _ => rw [hu] at h; cases h
  | struct h _ _ => rw [hu] at h; cases h
  | arr h _ _ => rw [hu] at h; cases h
theorem Typ.inv_bool' {P : Program} {t : TypeId} {cs : List SV} (hu : P.underlying t = some .bool) (h : Typ P t cs) : ∃ b, cs = [.v (.bool b)] ∧ b = b := by
  obtain ⟨b, e⟩ := Typ.inv_bool hu h
  exact ⟨b, e, rfl⟩
theorem Typ.inv_string {P : Program} {t : TypeId} {cs : List SV} (hu : P.underlying t = some .string) (h : Typ P t cs) : ∃ s, cs = [.v (.string s)] ∧ s.size ≤ maxLen := by
  cases h with
  | bool b h => rw [hu] at h; cases h
  | int h hw => rw [hu] at h; cases h
  | str h hs => exact ⟨_, rfl, hs⟩
  | slc h _ _ _ => rw [hu] at h; cases h
  | struct h _ _ => rw [hu] at h; cases h
  | arr h _ _ => rw [hu] at h; cases h
theorem Typ.inv_slc {P : Program} {t e : TypeId} {cs : List SV} (hu : P.underlying t = some (.slice e)) (h : Typ P t cs) : ∃ n get, cs = [.sl n (P.cellsOf e) get] ∧ n ≤ maxLen ∧ ∀ i, i < n → Typ P e (cells (P.cellsOf e) (get i)) := by
  cases h with
  | bool b h => rw [hu] at h; cases h
  | int h hw => rw [hu] at h; cases h
  | str h _ => rw [hu] at h; cases h
  | slc h hk hn hr => rw [hu] at h; cases h; subst hk; exact ⟨_, _, rfl, hn, hr⟩
  | struct h _ _ => rw [hu] at h; cases h
  | arr h _ _ => rw [hu] at h; cases h
theorem Typ.inv_str {P : Program} {t : TypeId} {fs : Array Field} {cs : List SV} (hu : P.underlying t = some (.struct fs)) (h : Typ P t cs) : cs.length = P.cellsOf t ∧ ∀ f ∈ fs.toList, Typ P f.type ((cs.drop f.offset).take (P.cellsOf f.type)) := by
  cases h with
  | bool b h => rw [hu] at h; cases h
  | int h hw => rw [hu] at h; cases h
  | str h _ => rw [hu] at h; cases h
  | slc h _ _ _ => rw [hu] at h; cases h
  | struct h hl hf => rw [hu] at h; cases h; exact ⟨hl, hf⟩
  | arr h _ _ => rw [hu] at h; cases h
theorem Typ.inv_arr {P : Program} {t e : TypeId} {n : Nat} {cs : List SV} (hu : P.underlying t = some (.array n e)) (h : Typ P t cs) : cs.length = P.cellsOf t ∧ ∀ i, i < n → Typ P e ((cs.drop (i * P.cellsOf e)).take (P.cellsOf e)) := by
  cases h with
  | bool b h => rw [hu] at h; cases h
  | int h hw => rw [hu] at h; cases h
  | str h _ => rw [hu] at h; cases h
  | slc h _ _ _ => rw [hu] at h; cases h
  | struct h hl hf => rw [hu] at h; cases h
  | arr h hl hf => rw [hu] at h; cases h; exact ⟨hl, hf⟩
/-- A struct's field, as the offsets and types of the table. -/
theorem Typ.field {P : Program} {t : TypeId} {cs : List SV} (h : Typ P t cs) {F : Array Field} (hu : P.underlying t = some (.struct F)) (i off size : Nat) (ft : TypeId) (hi : (F[i]?).map (fun f => (f.offset, f.type, P.cellsOf f.type)) = some (off, ft, size)) :
    Typ P ft ((cs.drop off).take size) := by
  cases hf : F[i]? with
  | none => rw [hf] at hi; cases hi
  | some f =>
    rw [hf] at hi
    simp only [Option.map_some, Option.some.injEq, Prod.mk.injEq] at hi
    obtain ⟨rfl, rfl, rfl⟩ := hi
    exact (Typ.inv_str hu h).2 f (Array.mem_toList_iff.2 (Array.mem_of_getElem? hf))

theorem TypD.agg {P : Program} {t : TypeId} {v : DV} (ha : aggTy P t = true) (h : TypD P t v) : ∃ cs, v = .agg cs ∧ Typ P t cs := by
  cases v with
  | one c => have := h.1; rw [ha] at this; cases this
  | agg cs => exact ⟨cs, rfl, h.2⟩
theorem TypD.one {P : Program} {t : TypeId} {v : DV} (ha : aggTy P t = false) (h : TypD P t v) : ∃ c, v = .one c ∧ Typ P t [c] := by
  cases v with
  | one c => exact ⟨c, rfl, h.2⟩
  | agg cs => have := h.1; rw [ha] at this; cases this
theorem TypD.i64 {P : Program} {t : TypeId} {v : DV} (ha : aggTy P t = false) (hu : P.underlying t = some (.int .i64)) (h : TypD P t v) : ∃ n, v = .one (i64 n) ∧ R64 n := by
  obtain ⟨c, rfl, h1⟩ := TypD.one ha h
  obtain ⟨n, e, h2⟩ := Typ.inv_i64 hu h1
  cases e
  exact ⟨n, rfl, h2⟩
theorem TypD.int {P : Program} {t : TypeId} {k : IntKind} {v : DV} (ha : aggTy P t = false) (hu : P.underlying t = some (.int k)) (h : TypD P t v) : ∃ n, v = .one (.v (.int k n)) ∧ InK k n := by
  obtain ⟨c, rfl, h1⟩ := TypD.one ha h
  obtain ⟨n, e, h2⟩ := Typ.inv_int hu h1
  cases e
  exact ⟨n, rfl, h2⟩
theorem TypL.inv_nil {P : Program} {vs : List DV} (h : TypL P [] vs) : vs = [] := by cases h; rfl
theorem TypL.inv_cons {P : Program} {t : TypeId} {ts : List TypeId} {vs : List DV} (h : TypL P (t :: ts) vs) : ∃ v r, vs = v :: r ∧ TypD P t v ∧ TypL P ts r := by
  cases h with
  | cons h r => exact ⟨_, _, rfl, h, r⟩
end Go.Vm
namespace Go.Vm
set_option linter.unusedVariables false
set_option linter.unusedSimpArgs false
open Go Go.RowKit

def okId (n : Nat) (f : Bool) : Id → Bool
  | .n k => (Nat.ble 2000 k && Nat.blt k (2000 + n)) || (f && Nat.beq k 3000)
  | .s _ _ => false
def CR.okB (ok : Id → Bool) : CR → Bool
  | .s _ => true
  | .ptr o _ => ok o
def crsB (ok : Id → Bool) : List CR → Bool
  | [] => true
  | c :: r => c.okB ok && crsB ok r
def CV.okB (ok : Id → Bool) (gen : Id → Nat) : CV → Bool
  | .s _ => true
  | .ptr o _ => ok o
  | .hdl o g => ok o && Nat.beq g (gen o)
  | .clo _ caps => crsB ok caps
def cvsB (ok : Id → Bool) (gen : Id → Nat) : List CV → Bool
  | [] => true
  | c :: r => c.okB ok gen && cvsB ok gen r
def Mem.okB (ok : Id → Bool) (gen : Id → Nat) : Mem → Bool
  | .obj cs => cvsB ok gen cs
  | .bldc .. => false
  | _ => true
def memsB (ok : Id → Bool) (gen : Id → Nat) : List Mem → Bool
  | [] => true
  | c :: r => c.okB ok gen && memsB ok gen r
def TV.okB (ok : Id → Bool) (gen : Id → Nat) : TV → Bool
  | .ptr o _ => ok o
  | .hdl o g => ok o && Nat.beq g (gen o)
  | .clo _ caps => crsB ok caps
  | .d _ => true
  | .tup _ => true
  | _ => false
def tvsB (ok : Id → Bool) (gen : Id → Nat) : List TV → Bool
  | [] => true
  | c :: r => c.okB ok gen && tvsB ok gen r
def Mem.isNone : Mem → Bool
  | .none => true
  | _ => false
def nzB : List Mem → Bool
  | [] => true
  | x :: r => Nat.blt 0 x.kind && nzB r
def sigB (args : List TV) (ms : List Mem) (r : TV) (ms' : List Mem) (fr : Mem) : Bool :=
  Nat.ble ms.length 1000 && kinB ms ms' && nzB ms && tvsB (okId ms.length false) (fun o => (memL 2000 ms o).gen) args && memsB (okId ms.length false) (fun o => (memL 2000 ms o).gen) ms &&
    r.okB (okId ms.length (!fr.isNone)) (fun o => (memR ms' fr o).gen) && memsB (okId ms.length (!fr.isNone)) (fun o => (memR ms' fr o).gen) (fr :: ms')

theorem crsB_ok {ok : Id → Bool} : ∀ {l : List CR}, crsB ok l = true → ∀ o, (∃ c ∈ l, c.refs o) → ok o = true
  | [], _, o, ⟨c, hc, _⟩ => by simp at hc
  | c0 :: r, h, o, ⟨c, hc, hr⟩ => by
    simp only [crsB, Bool.and_eq_true] at h
    rcases List.mem_cons.1 hc with rfl | hc
    · cases c with
      | s c => exact hr.elim
      | ptr o' p => cases hr; exact h.1
    · exact crsB_ok h.2 o ⟨c, hc, hr⟩
theorem CV.okB_ok {ok : Id → Bool} {gen : Id → Nat} {c : CV} (h : c.okB ok gen = true) : (∀ o, c.refs o → ok o = true) ∧ ∀ m : Id → Mem, (∀ o, (m o).gen = gen o) → c.cur m := by
  cases c with
  | s c => exact ⟨fun o hr => hr.elim, fun _ _ => trivial⟩
  | ptr o p => exact ⟨fun o hr => by cases hr; exact h, fun _ _ => trivial⟩
  | hdl o g =>
    simp only [CV.okB, Bool.and_eq_true] at h
    exact ⟨fun o hr => by cases hr; exact h.1, fun m hm => by show g = _; rw [hm]; exact Nat.eq_of_beq_eq_true h.2⟩
  | clo f caps => exact ⟨fun o hr => crsB_ok h o hr, fun _ _ => trivial⟩
theorem cvsB_ok {ok : Id → Bool} {gen : Id → Nat} : ∀ {l : List CV}, cvsB ok gen l = true → ∀ c ∈ l, c.okB ok gen = true
  | [], _, c, hc => by simp at hc
  | c0 :: r, h, c, hc => by
    simp only [cvsB, Bool.and_eq_true] at h
    rcases List.mem_cons.1 hc with rfl | hc
    · exact h.1
    · exact cvsB_ok h.2 c hc
theorem Mem.okB_ok {ok : Id → Bool} {gen : Id → Nat} {x : Mem} (h : x.okB ok gen = true) : (∀ o, x.refs o → ok o = true) ∧ ∀ m : Id → Mem, (∀ o, (m o).gen = gen o) → x.cur m := by
  cases x with
  | obj cs => exact ⟨fun o ⟨c, hc, hr⟩ => (CV.okB_ok (cvsB_ok h c hc)).1 o hr, fun m hm c hc => (CV.okB_ok (cvsB_ok h c hc)).2 m hm⟩
  | bldc => simp [Mem.okB] at h
  | _ => exact ⟨fun o hr => hr.elim, fun _ _ => trivial⟩
theorem memsB_ok {ok : Id → Bool} {gen : Id → Nat} : ∀ {l : List Mem}, memsB ok gen l = true → ∀ c ∈ l, c.okB ok gen = true
  | [], _, c, hc => by simp at hc
  | c0 :: r, h, c, hc => by
    simp only [memsB, Bool.and_eq_true] at h
    rcases List.mem_cons.1 hc with rfl | hc
    · exact h.1
    · exact memsB_ok h.2 c hc
theorem TV.okB_ok {ok : Id → Bool} {gen : Id → Nat} {c : TV} (h : c.okB ok gen = true) : (∀ o, c.refs o → ok o = true) ∧ ∀ m : Id → Mem, (∀ o, (m o).gen = gen o) → c.cur m := by
  cases c with
  | ptr o p => exact ⟨fun o hr => by cases hr; exact h, fun _ _ => trivial⟩
  | hdl o g =>
    simp only [TV.okB, Bool.and_eq_true] at h
    exact ⟨fun o hr => by cases hr; exact h.1, fun m hm => by show g = _; rw [hm]; exact Nat.eq_of_beq_eq_true h.2⟩
  | clo f caps => exact ⟨fun o hr => crsB_ok h o hr, fun _ _ => trivial⟩
  | d v => exact ⟨fun o hr => hr.elim, fun _ _ => trivial⟩
  | tup v => exact ⟨fun o hr => hr.elim, fun _ _ => trivial⟩
  | _ => simp [TV.okB] at h
theorem tvsB_ok {ok : Id → Bool} {gen : Id → Nat} : ∀ {l : List TV}, tvsB ok gen l = true → ∀ c ∈ l, c.okB ok gen = true
  | [], _, c, hc => by simp at hc
  | c0 :: r, h, c, hc => by
    simp only [tvsB, Bool.and_eq_true] at h
    rcases List.mem_cons.1 hc with rfl | hc
    · exact h.1
    · exact tvsB_ok h.2 c hc
theorem nzB_ok : ∀ {l : List Mem}, nzB l = true → ∀ x ∈ l, x ≠ .none
  | [], _, c, hc => by simp at hc
  | c0 :: r, h, c, hc => by
    simp only [nzB, Bool.and_eq_true] at h
    rcases List.mem_cons.1 hc with rfl | hc
    · intro e
      rw [e] at h
      simp [Mem.kind, Nat.blt] at h
    · exact nzB_ok h.2 c hc

theorem sigM_of {args : List TV} {ms : List Mem} {r : TV} {ms' : List Mem} {fr : Mem} (h : sigB args ms r ms' fr = true) : SigM args ms r ms' fr := by
  simp only [sigB, Bool.and_eq_true] at h
  obtain ⟨⟨⟨⟨⟨⟨h1, h2⟩, h3⟩, h4⟩, h5⟩, h6⟩, h7⟩ := h
  have hfew := Nat.le_of_ble_eq_true h1
  obtain ⟨hlen', hkin⟩ := kinB_at _ _ h2
  have hin : ∀ o, okId ms.length false o = true → memL 2000 ms o ≠ .none := by
    intro o ho
    cases o with
    | s k i => simp [okId] at ho
    | n k =>
      simp only [okId, Bool.false_and, Bool.or_false, Bool.and_eq_true] at ho
      have k1 := Nat.le_of_ble_eq_true ho.1
      have k2 := lt_of_blt ho.2
      have hx : ms[k - 2000]? = some (ms[k - 2000]'(by omega)) := List.getElem?_eq_getElem (by omega)
      have := memL_at ms 2000 (k - 2000) _ hx
      rw [show 2000 + (k - 2000) = k by omega] at this
      rw [this]
      exact nzB_ok h3 _ (List.mem_of_getElem? hx)
  have hout : ∀ o, okId ms.length (!fr.isNone) o = true → memR ms' fr o ≠ .none := by
    intro o ho
    cases o with
    | s k i => simp [okId] at ho
    | n k =>
      simp only [okId, Bool.or_eq_true, Bool.and_eq_true] at ho
      by_cases hk : k = 3000
      · subst hk
        rw [memR_fr]
        rcases ho with ho | ho
        · have k2 := lt_of_blt ho.2
          omega
        · intro e
          rw [e] at ho
          simp [Mem.isNone] at ho
      · rcases ho with ho | ho
        · have k1 := Nat.le_of_ble_eq_true ho.1
          have k2 := lt_of_blt ho.2
          have hx : ms[k - 2000]? = some (ms[k - 2000]'(by omega)) := List.getElem?_eq_getElem (by omega)
          have hy : ms'[k - 2000]? = some (ms'[k - 2000]'(by omega)) := List.getElem?_eq_getElem (by omega)
          have := memR_at (fr := fr) (by omega) hy
          rw [show 2000 + (k - 2000) = k by omega] at this
          rw [this]
          rcases hkin _ _ _ hx hy with h | ⟨h, h'⟩
          · rw [h]; simp
          · intro e; rw [e] at h; rw [← h] at h'; simp [Mem.kind] at h'
        · exact absurd (Nat.eq_of_beq_eq_true ho.2) hk
  have hms2 : ∀ o, (memR ms' fr o).okB (okId ms.length (!fr.isNone)) (fun o => (memR ms' fr o).gen) = true := by
    intro o
    by_cases hn : memR ms' fr o = .none
    · rw [hn]; rfl
    · rcases memR_inv hn with ⟨rfl, _⟩ | ⟨j, x, hx, rfl⟩
      · rw [memR_fr]; exact memsB_ok h7 fr (by simp)
      · have hj := (List.getElem?_eq_some_iff.1 hx).1
        rw [memR_at (by omega) hx]
        exact memsB_ok h7 x (by simp [List.mem_of_getElem? hx])
  refine ⟨h1, h2, (TV.okB_ok h6).2 _ (fun _ => rfl), fun o => (Mem.okB_ok (hms2 o)).2 _ (fun _ => rfl), ?_, fun x hx o hr => hin o ((TV.okB_ok (tvsB_ok h4 x hx)).1 o hr), fun o hr => hout o ((TV.okB_ok h6).1 o hr), fun o o' hr => hout o' ((Mem.okB_ok (hms2 o)).1 o' hr)⟩
  intro o o' hr
  by_cases hn : memL 2000 ms o = .none
  · rw [hn] at hr; exact hr.elim
  · obtain ⟨j, x, hx, rfl⟩ := memL_inv ms 2000 o hn
    rw [memL_at ms 2000 j x hx] at hr
    exact hin o' ((Mem.okB_ok (memsB_ok h5 x (List.mem_of_getElem? hx))).1 o' hr)

/-! ### calls by memory contract: how a walk types them -/
theorem CallM.mk' {P : Program} {f : FuncId} {xs : List TV} {d : Id} {m : Id → Mem} {K : Kont} {args : List TV} {ms : List Mem} {r : TV} {ms' : List Mem} {fr : Mem} (os : List Id) (h : DetM P f args ms r ms' fr) (hf : Fits m os d xs args ms fr)
    (k : K (renT os d (renG m os d ms') r) (renL os d (renG m os d ms') 2000 os ms' ++ renF os d (renG m os d ms') fr) (d.key :: os.map Id.key)) : CallM P f xs d m K := ⟨os, args, ms, r, ms', fr, h, hf, k⟩
theorem NilW.pos {n : Nat} {neg : Bool} {K : Bool → Prop} (h : 0 < n) (f : K neg) : NilW n neg K := ⟨f, fun h0 => absurd h0 (Nat.ne_of_gt h)⟩

/-- A view from the first element on is the slice from now on. -/
theorem Adj.trunc {t : Nat → TV} {m : Id → Mem} {J : (Nat → TV) → (Id → Mem) → Prop} (s : Nat) (o : Id) (g n N k : Nat) (e : TypeId) (get : Nat → Nat → SV) (hs : t s = .sub o g 0 n) (hm : m o = .bld g N k e get)
    (h : Adj (upd t s (.hdl o (g + 2))) (upd m o (.bld (g + 2) n k e get)) J) : Adj t m J := by
  obtain ⟨t', m', hwk, hJ⟩ := h
  refine ⟨t', m', fun E ρ a w hR => ?_, hJ⟩
  have hby : (m o).bldy = some (g, N, k) := by rw [hm]; rfl
  have hv := hR.slots s
  rw [hs] at hv
  obtain ⟨a1, _, a2⟩ := (subOk_bldy hby).1 hv
  obtain ⟨a3, a4⟩ := a2 rfl
  have hmo := hR.mem o
  rw [hm] at hmo
  have hR' := hR.regen hby (nm := .bld (g + 2) n k e get) (g' := g + 2) (n' := n) (k' := k) rfl (by omega) (by omega) (fun _ h => h.elim) (fun _ hL => by
    rcases hmo with ⟨h1, h2⟩ | ⟨bl, cap, arr, h1, h2, h3, h4, h5, h6⟩
    · exact .inl ⟨h1, by omega⟩
    · refine .inr ⟨bl, cap, arr, h1, h2, h3, by omega, h5, fun i hi j hj => ?_⟩
      obtain ⟨x, hx, hr⟩ := h6 i (by omega) j hj
      exact ⟨x, hx, hr.mono (fun b hb => ⟨hL b hb, rfl⟩)⟩)
  refine hwk E ρ a w { hR' with clean := ?_, slots := ?_ }
  · intro i o' hr
    by_cases hi : i = s
    · subst hi; rw [upd_same] at hr; cases hr; rw [upd_same]; simp
    · rw [upd_ne _ _ _ hi] at hr; exact hR'.clean i o' hr
  · intro i
    by_cases hi : i = s
    · subst hi
      rw [upd_same]
      show HdlOk _ _ _ _ _
      rw [hdlOk_bldy (g' := g + 2) (n := n) (k := k) (by rw [upd_same]; rfl)]
      refine ⟨a1, Nat.le_refl _, fun _ => ?_⟩
      simp only [SubAt] at a4
      simp only [HdlAt]
      rcases hmo with ⟨h1, h2⟩ | ⟨bl, cap, arr, h1, _⟩
      · rw [h1] at a4 ⊢; exact a4
      · rw [h1] at a4 ⊢
        obtain ⟨ad, a5, a6⟩ := a4
        rw [a6 (by simp)] at a5
        simpa using a5
    · rw [upd_ne _ _ _ hi]; exact hR'.slots i
theorem Adj.id {t : Nat → TV} {m : Id → Mem} {J : (Nat → TV) → (Id → Mem) → Prop} (h : J t m) : Adj t m J := ⟨t, m, Wk.refl t m, h⟩
theorem Cut.id {t : Nat → TV} {m : Id → Mem} {J : (Nat → TV) → (Id → Mem) → Prop} (h : J t m) : Cut t m J := ⟨Adj.id h⟩
theorem MEnd.bldN {m m2 : Id → Mem} {d : Id} {g g' n n' k : Nat} {e : TypeId} {get get' : Nat → Nat → SV} (hn : n = n') (hg : g' = 1 → g = 1) (h : ∀ i, i < n → ∀ j, j < k → SLe (get i j) (get' i j)) : MEnd m m2 d (.bld g n k e get) (.bld g' n' k e get') := by
  subst hn; exact .bld hg h
end Go.Vm
