/-
  From the reading of a row's arguments to the walk's contract, and back to the row.
-/
import Derived.Test.YtgmlblmkcbcgaaaVmL
import Derived.WalkKit
import Derived.ProofKit
import Derived.OpenShut
import Derived.ShutString
import Derived.ChangeOld
namespace Go.Vm
set_option linter.unusedVariables false
set_option linter.unusedSimpArgs false
open Go Go.RowKit Go.ChangeShapes Go.WideShapes Go.ChangeAt

/-- A row of cells of a type, as the walk knows them. -/
inductive Typ (P : Program) : TypeId → List SV → Prop where
  | bool {t : TypeId} (b : Bool) (h : P.underlying t = some .bool) : Typ P t [.v (.bool b)]
  | int {t : TypeId} {k : IntKind} {n : Int} (h : P.underlying t = some (.int k)) (hw : (Lit.int k n).wf = true) : Typ P t [.v (.int k n)]
  | str {t : TypeId} {s : ByteArray} (h : P.underlying t = some .string) (hs : s.size ≤ maxLen) : Typ P t [.v (.string s)]
  | slc {t e : TypeId} {n k : Nat} {get : Nat → Nat → SV} (h : P.underlying t = some (.slice e)) (hk : k = P.cellsOf e) (hn : n ≤ maxLen) (hr : ∀ i, i < n → Typ P e (cells k (get i))) : Typ P t [.sl n k get]
  | struct {t : TypeId} {fs : Array Field} {cs : List SV} (h : P.underlying t = some (.struct fs)) (hl : cs.length = P.cellsOf t) (hf : ∀ f ∈ fs.toList, Typ P f.type ((cs.drop f.offset).take (P.cellsOf f.type))) : Typ P t cs
  | arr {t e : TypeId} {n : Nat} {cs : List SV} (h : P.underlying t = some (.array n e)) (hl : cs.length = P.cellsOf t) (hf : ∀ i, i < n → Typ P e ((cs.drop (i * P.cellsOf e)).take (P.cellsOf e))) : Typ P t cs

/-- The fields of a struct lie one behind the other, without a gap. -/
def packed (P : Program) (off : Nat) : List Field → Option Nat
  | [] => some off
  | f :: fs => bif Nat.beq f.offset off then packed P (off + P.cellsOf f.type) fs else none

/-- The types that the bridge serves. -/
def plainTy (P : Program) : Nat → TypeId → Bool
  | 0, _ => false
  | n + 1, t => match P.underlying t with
    | some .bool => true
    | some (.int _) => true
    | some .string => true
    | some (.slice e) => Nat.blt 0 (P.cellsOf e) && plainTy P n e
    | some (.struct fs) => (packed P 0 fs.toList == some (P.cellsOf t)) && fs.toList.all fun f => plainTy P n f.type
    | some (.array k e) => Nat.beq (k * P.cellsOf e) (P.cellsOf t) && plainTy P n e
    | _ => false

theorem glue {S : Nat → Prop} {w : World} (P : Program) : ∀ (fs : List Field) (off tot : Nat) (xs : List Value), packed P off fs = some tot → off + xs.length = tot →
    (∀ f ∈ fs, ∃ cs, Typ P f.type cs ∧ RdL S w ((xs.drop (f.offset - off)).take (P.cellsOf f.type)) cs) →
    ∃ cs, RdL S w xs cs ∧ ∀ f ∈ fs, off ≤ f.offset ∧ Typ P f.type ((cs.drop (f.offset - off)).take (P.cellsOf f.type))
  | [], off, tot, xs, h, hl, _ => by
    simp only [packed, Option.some.injEq] at h
    obtain rfl : xs = [] := List.eq_nil_of_length_eq_zero (by omega)
    exact ⟨[], .nil, by simp⟩
  | f :: fs, off, tot, xs, h, hl, hf => by
    simp only [packed] at h
    cases hb : Nat.beq f.offset off with
    | false => rw [hb] at h; simp at h
    | true =>
      rw [hb] at h
      simp only [cond_true] at h
      have hoff : f.offset = off := Nat.eq_of_beq_eq_true hb
      have hge : ∀ (fs : List Field) (o t : Nat), packed P o fs = some t → o ≤ t ∧ ∀ g ∈ fs, o ≤ g.offset := by
        intro fs
        induction fs with
        | nil => intro o t h; simp only [packed, Option.some.injEq] at h; exact ⟨by omega, by simp⟩
        | cons g gs ih =>
          intro o t h
          simp only [packed] at h
          cases hb : Nat.beq g.offset o with
          | false => rw [hb] at h; simp at h
          | true =>
            rw [hb] at h
            simp only [cond_true] at h
            obtain ⟨i1, i2⟩ := ih _ _ h
            have hgo : g.offset = o := Nat.eq_of_beq_eq_true hb
            refine ⟨by omega, fun g' hg' => ?_⟩
            rcases List.mem_cons.1 hg' with rfl | hg'
            · omega
            · have := i2 g' hg'; omega
      obtain ⟨hle, hges⟩ := hge fs _ _ h
      obtain ⟨cs0, ht0, hr0⟩ := hf f (by simp)
      rw [hoff, Nat.sub_self, List.drop_zero] at hr0
      obtain ⟨cs1, hr1, ht1⟩ := glue P fs (off + P.cellsOf f.type) tot (xs.drop (P.cellsOf f.type)) h (by simp; omega) (fun g hg => by
        obtain ⟨cs, h1, h2⟩ := hf g (by simp [hg])
        have := hges g hg
        rw [List.drop_drop]
        rw [show P.cellsOf f.type + (g.offset - (off + P.cellsOf f.type)) = g.offset - off by omega]
        exact ⟨cs, h1, h2⟩)
      have hl0 : cs0.length = P.cellsOf f.type := by
        have := hr0.length
        simp at this
        omega
      refine ⟨cs0 ++ cs1, ?_, fun g hg => ?_⟩
      · have := hr0.append hr1
        rwa [List.take_append_drop] at this
      · rcases List.mem_cons.1 hg with rfl | hg
        · refine ⟨by omega, ?_⟩
          rw [hoff, Nat.sub_self, List.drop_zero, ← hl0, List.take_left]
          exact ht0
        · obtain ⟨a1, a2⟩ := ht1 g hg
          refine ⟨by omega, ?_⟩
          have e1 : (cs0 ++ cs1).drop (g.offset - off) = cs1.drop (g.offset - (off + P.cellsOf f.type)) := by
            rw [List.drop_append, List.drop_eq_nil_of_le (by omega), List.nil_append]
            congr 1
            omega
          rw [e1]
          exact a2

theorem glueArr {S : Nat → Prop} {w : World} (P : Program) (e : TypeId) : ∀ (n : Nat) (xs : List Value), xs.length = n * P.cellsOf e →
    (∀ i, i < n → ∃ cs, Typ P e cs ∧ RdL S w ((xs.drop (i * P.cellsOf e)).take (P.cellsOf e)) cs) →
    ∃ cs, RdL S w xs cs ∧ ∀ i, i < n → Typ P e ((cs.drop (i * P.cellsOf e)).take (P.cellsOf e))
  | 0, xs, hl, _ => by
    obtain rfl : xs = [] := List.eq_nil_of_length_eq_zero (by omega)
    exact ⟨[], .nil, by simp⟩
  | n + 1, xs, hl, hf => by
    have hl' : xs.length = n * P.cellsOf e + P.cellsOf e := by rw [hl, Nat.add_mul, Nat.one_mul]
    obtain ⟨cs0, ht0, hr0⟩ := hf 0 (by omega)
    rw [Nat.zero_mul, List.drop_zero] at hr0
    obtain ⟨cs1, hr1, ht1⟩ := glueArr P e n (xs.drop (P.cellsOf e)) (by simp; omega) (fun i hi => by
      obtain ⟨cs, h1, h2⟩ := hf (i + 1) (by omega)
      rw [List.drop_drop, show P.cellsOf e + i * P.cellsOf e = (i + 1) * P.cellsOf e by rw [Nat.add_mul]; omega]
      exact ⟨cs, h1, h2⟩)
    have hl0 : cs0.length = P.cellsOf e := by
      have := hr0.length
      simp at this
      omega
    refine ⟨cs0 ++ cs1, ?_, fun i hi => ?_⟩
    · have := hr0.append hr1
      rwa [List.take_append_drop] at this
    · cases i with
      | zero =>
        rw [Nat.zero_mul, List.drop_zero, ← hl0, List.take_left]
        exact ht0
      | succ i =>
        have := ht1 i (by omega)
        have e1 : (cs0 ++ cs1).drop ((i + 1) * P.cellsOf e) = cs1.drop (i * P.cellsOf e) := by
          rw [List.drop_append, List.drop_eq_nil_of_le (by rw [Nat.add_mul]; omega), List.nil_append]
          congr 1
          rw [Nat.add_mul]
          omega
        rw [e1]
        exact this

/-- WHAT READS AS DATA THE WALK KNOWS. -/
theorem typ_of_trod {H : Type} {enc : TypeId × Value → H} {P : Program} {w : World} : ∀ (n fuel : Nat) (t : TypeId) (xs : List Value) (x : DataW H × List MemPlace), plainTy P n t = true →
    DataW.trod enc P w 0 (fun _ => true) true fuel t xs = some x → ∃ cs, Typ P t cs ∧ RdL (fun b => b < w.heap.size) w xs cs := by
  intro n
  induction n with
  | zero => intro fuel t xs x h; simp [plainTy] at h
  | succ n ih =>
    intro fuel t xs x hp h
    unfold plainTy at hp
    split at hp
    · rename_i hu
      cases fuel with
      | zero => simp [DataW.trod] at h
      | succ fuel =>
        unfold DataW.trod at h
        rw [hu] at h
        split at h <;> simp_all
        rename_i b
        exact ⟨_, .bool b hu, .cons (.v rfl) .nil⟩
    · rename_i k hu
      obtain ⟨q, rfl, rfl, hw⟩ := DataW.trod_int hu h
      exact ⟨_, .int hu hw, .cons (.v rfl) .nil⟩
    · rename_i hu
      cases fuel with
      | zero => simp [DataW.trod] at h
      | succ fuel =>
        unfold DataW.trod at h
        rw [hu] at h
        split at h <;> simp_all
        rename_i s
        exact ⟨_, .str hu h.1, .cons (.v rfl) .nil⟩
    · rename_i e hu
      simp only [Bool.and_eq_true] at hp
      obtain ⟨hpos0, hp⟩ := hp
      have hpos := lt_of_blt hpos0
      rcases DataW.trod_slice hu h with ⟨rfl, rfl⟩ | ⟨a, len, cap, elems, rest, n', _, rfl, rfl, hb, hl, hm, hlen, hel, hsp, _⟩
      · exact ⟨[.sl 0 (P.cellsOf e) fun _ _ => .v Go.undef], .slc hu rfl (Nat.zero_le _) (fun i hi => absurd hi (Nat.not_lt_zero i)), .cons (.nil _ _) .nil⟩
      · -- each element
        have each : ∀ i, i < len → ∃ cs us, Typ P e cs ∧ RdL (fun b => b < w.heap.size) w us cs ∧ us.length = P.cellsOf e ∧ ∀ j, j < P.cellsOf e → w.cell? ((a.add (i * P.cellsOf e)).add j) = us[j]? := by
          intro i hi
          have h1 := hel i hi
          have hlt : i < elems.length := by omega
          rw [List.getElem?_eq_getElem hlt] at h1
          cases hc : w.cells? 0 (a.add (i * P.cellsOf e)) (P.cellsOf e) with
          | none => rw [hc] at h1; simp at h1
          | some us =>
            rw [hc] at h1
            simp only [Option.bind_some] at h1
            obtain ⟨cs, h2, h3⟩ := ih n' e us _ hp h1
            obtain ⟨_, h4, h5⟩ := World.cells?_some hc
            exact ⟨cs, us, h2, h3, h4, h5⟩
        rcases Nat.eq_zero_or_pos len with h0 | h0
        · subst h0
          exact ⟨[.sl 0 (P.cellsOf e) fun _ _ => .v Go.undef], .slc hu rfl (Nat.zero_le _) (fun i hi => absurd hi (Nat.not_lt_zero i)), .cons (.emp a cap _ _) .nil⟩
        · have hch : ∃ (C : Nat → List SV) (U : Nat → List Value), ∀ i, i < len → Typ P e (C i) ∧ RdL (fun b => b < w.heap.size) w (U i) (C i) ∧ (U i).length = P.cellsOf e ∧ ∀ j, j < P.cellsOf e → w.cell? ((a.add (i * P.cellsOf e)).add j) = (U i)[j]? := by
            refine ⟨fun i => if h : i < len then (each i h).choose else [], fun i => if h : i < len then (each i h).choose_spec.choose else [], fun i hi => ?_⟩
            simp only [hi, dite_true]
            exact (each i hi).choose_spec.choose_spec
          obtain ⟨C, U, hCU⟩ := hch
          have hcl : ∀ i, i < len → (C i).length = P.cellsOf e := fun i hi => by
            obtain ⟨_, h2, h3, _⟩ := hCU i hi
            have := h2.length
            omega
          have hcells : ∀ i, i < len → cells (P.cellsOf e) (fun j => (C i).getD j (.v Go.undef)) = C i := by
            intro i hi
            apply List.ext_getElem?
            intro j
            rw [getElem?_cells]
            have := hcl i hi
            by_cases hj : j < P.cellsOf e
            · rw [if_pos hj]
              have hj' : j < (C i).length := by omega
              simp [List.getD, hj']
            · rw [if_neg hj, List.getElem?_eq_none (by omega)]
          refine ⟨[.sl len (P.cellsOf e) fun i j => (C i).getD j (.v Go.undef)], .slc hu rfl (by omega) (fun i hi => by rw [hcells i hi]; exact (hCU i hi).1), .cons ?_ .nil⟩
          obtain ⟨_, h2, h3, h4⟩ := hCU 0 h0
          have hc0 : ∃ v, w.cell? a = some v := by
            have := h4 0 hpos
            rw [Nat.zero_mul] at this
            have hu0 : 0 < (U 0).length := by omega
            rw [List.getElem?_eq_getElem hu0] at this
            exact ⟨_, this⟩
          obtain ⟨v0, hv0⟩ := hc0
          obtain ⟨b, off, spot⟩ := a
          have hspot : spot = none := World.cell?_spot hv0
          subst hspot
          have hblk := World.block_lt_of_cell? w _ hv0
          refine Rd.sl (fun i j => ((U i)[j]?).getD Go.undef) hblk hl hm (fun i hi j hj => ?_) (fun i hi j hj => ?_)
          · obtain ⟨_, h2, h3, h4⟩ := hCU i hi
            have := h4 j hj
            rw [addr_add, addr_add, Nat.add_assoc] at this
            have hj' : j < (U i).length := by omega
            rw [this, List.getElem?_eq_getElem hj']
            rfl
          · obtain ⟨_, h2, h3, h4⟩ := hCU i hi
            obtain ⟨y, hy1, hy2⟩ := h2.getElemRd j (by have := hcl i hi; omega)
            simp only [hy1, Option.getD_some]
            exact hy2
    · rename_i fs hu
      simp only [Bool.and_eq_true, beq_iff_eq, List.all_eq_true] at hp
      obtain ⟨hpk, hall⟩ := hp
      obtain ⟨ys, m, _, rfl, hl, hlen, hf⟩ := DataW.trod_struct hu h
      obtain ⟨cs, hr, ht⟩ := glue (S := fun b => b < w.heap.size) (w := w) P fs.toList 0 (P.cellsOf t) xs hpk (by omega) (fun f hfm => by
        obtain ⟨i, hi⟩ := List.getElem?_of_mem hfm
        have hi' : fs[i]? = some f := by simpa using hi
        have h1 := hf i f hi'
        have hlt : i < ys.length := by
          have := (Array.getElem?_eq_some_iff.1 hi').1
          omega
        rw [List.getElem?_eq_getElem hlt] at h1
        rw [Nat.sub_zero]
        exact ih m f.type _ _ (hall f hfm) h1)
      refine ⟨cs, .struct hu (by have := hr.length; omega) (fun f hfm => ?_), hr⟩
      have := (ht f hfm).2
      rwa [Nat.sub_zero] at this
    · rename_i k e hu
      simp only [Bool.and_eq_true] at hp
      obtain ⟨hpk, hpe⟩ := hp
      have hsz := Nat.eq_of_beq_eq_true hpk
      obtain ⟨ys, m, _, rfl, hl, hlen, hf⟩ := DataW.trod_array hu h
      obtain ⟨cs, hr, ht⟩ := glueArr (S := fun b => b < w.heap.size) (w := w) P e k xs (by omega) (fun i hi => by
        have h1 := hf i hi
        have hlt : i < ys.length := by omega
        rw [List.getElem?_eq_getElem hlt] at h1
        exact ih m e _ _ hpe h1)
      exact ⟨cs, .arr hu (by have := hr.length; omega) ht, hr⟩
    · simp at hp
def aggTy (P : Program) (t : TypeId) : Bool := match P.underlying t with
  | some (.struct _) => true
  | some (.array _ _) => true
  | _ => false

/-- One argument of a type. -/
def TypD (P : Program) (t : TypeId) : DV → Prop
  | .one c => aggTy P t = false ∧ Typ P t [c]
  | .agg cs => aggTy P t = true ∧ Typ P t cs

inductive TypL (P : Program) : List TypeId → List DV → Prop where
  | nil : TypL P [] []
  | cons {t : TypeId} {v : DV} {ts : List TypeId} {vs : List DV} (h : TypD P t v) (r : TypL P ts vs) : TypL P (t :: ts) (v :: vs)

theorem typD_of {H : Type} {enc : TypeId × Value → H} {P : Program} {w : World} {n : Nat} {t : TypeId} {v : Value} {d : DataW H} {ps : List MemPlace} {base : Nat} (hp : plainTy P n t = true)
    (hval : Value.okWide P w .any base t v) (h : DataW.Trod enc P w 0 (fun _ => true) true t v d ps) : ∃ dv, TypD P t dv ∧ DRd (fun b => b < w.heap.size) w v dv := by
  obtain ⟨fuel, h⟩ := h
  obtain ⟨cs, h1, h2⟩ := typ_of_trod n fuel t _ _ hp h
  cases ha : aggTy P t with
  | true =>
    have : ∃ arr, v = .agg arr := by
      unfold aggTy at ha
      unfold Value.okWide at hval
      cases hu : P.underlying t with
      | none => rw [hu] at ha; simp at ha
      | some d' =>
        rw [hu] at ha hval
        cases d' <;> simp at ha
        · obtain ⟨arr, e, _⟩ := hval; exact ⟨arr, e⟩
        · obtain ⟨arr, e, _⟩ := hval; exact ⟨arr, e⟩
    obtain ⟨arr, rfl⟩ := this
    exact ⟨.agg cs, ⟨ha, h1⟩, arr.toList, by simp, h2⟩
  | false =>
    have hone : v.cells.toList = [v] := by
      unfold aggTy at ha
      unfold Value.okWide at hval
      cases n with
      | zero => simp [plainTy] at hp
      | succ n =>
        unfold plainTy at hp
        cases hu : P.underlying t with
        | none => rw [hu] at hp; simp at hp
        | some d' =>
          rw [hu] at ha hval hp
          simp only [Cell.okWide, hu] at hval
          cases d' <;> simp at ha hp <;> cases v <;> first | rfl | (simp [Cell.ok, hu] at hval)
    rw [hone] at h2
    have hl := h2.length
    match cs, hl with
    | [c], _ =>
      refine ⟨.one c, ⟨ha, h1⟩, ?_⟩
      cases h2 with
      | cons h3 _ => exact h3

theorem typL_of {H : Type} {enc : TypeId × Value → H} {P : Program} {w : World} {n : Nat} {base : Nat} : ∀ (ts : List TypeId) (vs : List Value) (ds : List (DataW H)) (ps : List MemPlace), (∀ t ∈ ts, plainTy P n t = true) →
    (∀ (j : Nat) t v, ts[j]? = some t → vs[j]? = some v → Value.okWide P w .any base t v) → DataW.TrodAll enc P w 0 (fun _ => true) true ts vs ds ps → ∃ dvs, TypL P ts dvs ∧ DRdL (fun b => b < w.heap.size) w vs dvs
  | [], vs, ds, ps, _, _, h => by
    obtain ⟨rfl, _, _⟩ := trodAll_nil h
    exact ⟨[], .nil, .nil⟩
  | t :: ts, vs, ds, ps, hp, hval, h => by
    obtain ⟨v, vs', d, ds', p, q, rfl, rfl, rfl, h0, hr⟩ := trodAll_cons h
    obtain ⟨dv, h1, h2⟩ := typD_of (hp t (by simp)) (hval 0 t v rfl rfl) h0
    obtain ⟨dvs, h3, h4⟩ := typL_of ts vs' ds' q (fun t ht => hp t (by simp [ht])) (fun j t v a b => hval (j + 1) t v (by simpa using a) (by simpa using b)) hr
    exact ⟨dv :: dvs, .cons h1 h3, .cons h2 h4⟩

theorem trodAll_below {H : Type} {enc : TypeId × Value → H} {P : Program} (hl : laidOutB P = true) {W W' : World} (hb : Below W.heap.size W W') : ∀ (ts : List TypeId) (vs : List Value) (ds : List (DataW H)) (ps : List MemPlace), (∀ t ∈ ts, P.readableRec t = true ∧ t < P.types.size) →
    DataW.TrodAll enc P W 0 (fun _ => true) true ts vs ds ps → DataW.TrodAll enc P W' 0 (fun b => decide (b < W.heap.size)) true ts vs ds ps
  | [], vs, ds, ps, _, h => by
    obtain ⟨rfl, rfl, rfl⟩ := trodAll_nil h
    exact trodAll_mk0
  | t :: ts, vs, ds, ps, hp, h => by
    obtain ⟨v, vs', d, ds', p, q, rfl, rfl, rfl, h0, hr⟩ := trodAll_cons h
    have h1 : DataW.Trod enc P W' 0 (fun b => decide (b < W.heap.size)) true t v d p := Below.trod hl (hp t (by simp)).1 (hp t (by simp)).2 h0 hb (fun x hx => by
      obtain ⟨m, hm⟩ := h0
      exact DataW.trod_lt m _ _ _ hm x hx)
    exact trodAll_cons_mk h1 (trodAll_below hl hb ts vs' ds' q (fun t ht => hp t (by simp [ht])) hr)

/-- THE ROW's STEP, FOR A LAW: it returns true and leaves what it read as it was. -/
theorem law_contract {P : Program} {F : FuncId} {fn : Func} {s : ChangeSpec} (hvars : s.vars = []) {tb : TypeId} (hres : fn.resultTypes = #[tb]) (hub : P.underlying tb = some .bool) {n : Nat} (hpl : fn.params.toList.all (plainTy P n) = true)
    (hrd : fn.params.toList.all (fun t => P.readableRec t && Nat.blt t P.types.size) = true) (hlaid : laidOutB P = true) {H : Type} {enc : TypeId × Value → H}
    (hspec : ∀ ds : List (DataW H), ds.length = fn.params.size → (s.fn H (ds ++ [])).results = [.lit (.bool true)] ∧ (s.fn H (ds ++ [])).args = ds ∧ (s.fn H (ds ++ [])).vars = [])
    (hdet : ∀ dvs, TypL P fn.params.toList dvs → Det P F dvs (tbool true)) (W : World) (base : Nat) (args : Array Value) (ds gs : List (DataW H)) (before : List MemPlace)
    (hval : ∀ (j : Nat) t v, fn.params[j]? = some t → args[j]? = some v → Value.okWide P W .any base t v)
    (hW : DataW.Whole enc P fn.params.toList s.vars false W args.toList ds gs before) :
    Calls P F args W fun e W' => ∃ v, e = .returned v ∧ s.post enc P fn false true false false W args v W' := by
  have hW' := hW
  obtain ⟨p, q, hA, hV, rfl, hfz, hnd⟩ := hW
  rw [hvars] at hV
  obtain ⟨rfl, rfl⟩ := trodVars_none hV
  have hlen : ∀ (ts : List TypeId) (vs : List Value) (ds : List (DataW H)) (ps : List MemPlace), DataW.TrodAll enc P W 0 (fun _ => true) true ts vs ds ps → ds.length = ts.length := by
    intro ts
    induction ts with
    | nil => intro vs ds ps h; obtain ⟨_, rfl, _⟩ := trodAll_nil h; rfl
    | cons t ts ih =>
      intro vs ds ps h
      obtain ⟨v, vs', d, ds', p, q, rfl, rfl, rfl, h0, hr⟩ := trodAll_cons h
      simp [ih _ _ _ hr]
  obtain ⟨k1, k2, k3⟩ := hspec ds (by simpa using hlen _ _ _ _ hA)
  obtain ⟨dvs, h1, h2⟩ := typL_of (n := n) fn.params.toList args.toList ds p (fun t ht => List.all_eq_true.1 hpl t ht) (fun j t v a b => hval j t v (by simpa using a) (by simpa using b)) hA
  have hc := (hdet dvs h1).2 W (fun b => b < W.heap.size) args.toList (fun b hb => hb) h2
  rw [Array.toArray_toList] at hc
  refine hc.mono ?_
  rintro e W' ⟨v, rfl, hb, hr⟩
  have hv : v = .bool true := (Rd.inv_v (show Rd _ _ _ _ from hr)).1
  subst hv
  refine ⟨_, rfl, ds, [], p ++ [], [], p, [], hW', ?_, ?_, ?_, hb.frame _, fun h => by cases h⟩
  · rw [k1, hres]
    exact trodAll_mk1 (shut_bool hub true)
  · rw [k2]
    exact trodAll_below hlaid hb _ _ _ _ (fun t ht => by
      have := List.all_eq_true.1 hrd t ht
      simp only [Bool.and_eq_true] at this
      exact ⟨this.1, lt_of_blt this.2⟩) hA
  · rw [k3, hvars]
    rfl
end Go.Vm
