/-
  An abstract walk over Go's operations: the steps that reckon.
-/
import Derived.Test.YtgmlblmkcbcgaaaVmD
namespace Go.Vm
set_option linter.unusedVariables false
set_option linter.unusedSimpArgs false
open Go Go.RowKit

theorem fold_setCells (off : Nat) : ∀ (us xs : List Value) (j : Nat),
    ((us.zipIdx j).foldl (fun cs (p : Value × Nat) => cs.setIfInBounds (off + p.2) p.1) xs.toArray) = (setCells xs (off + j) us).toArray
  | [], _, _ => rfl
  | u :: us, xs, j => by
    simp only [List.zipIdx_cons, List.foldl_cons, setCells]
    have h := fold_setCells off us (xs.set (off + j) u) (j + 1)
    rw [show off + (j + 1) = off + j + 1 by omega] at h
    simpa using h

theorem fill_ok {t : Nat → TV} (place : Nat → Option (Nat × Nat)) : ∀ (parts : List (Nat × Operand)) (cs : List SV) (K : List SV → Prop),
    partsFit t (fun i => (place i).map (·.2)) parts = true → fillW t (fun i => (place i).map (·.1)) cs parts K →
    ∃ cs', K cs' ∧ cs'.length = cs.length ∧ ∀ (E : Env) (m : Id → Mem) (ρ : Id → Option (Nat × Nat)) (w : World) (a : Act) (xs : List Value), (∀ p ∈ parts, TOk E m ρ w (a.eval p.2) (opd t p.2)) → RdL (L E m ρ w) w xs cs →
      ∃ ys : List Value, Instr.fill place xs.toArray (parts.map fun p => (p.1, a.eval p.2)) = some ys.toArray ∧ RdL (L E m ρ w) w ys cs'
  | [], cs, K, _, h => ⟨cs, h, rfl, fun E m ρ w a xs _ hx => ⟨xs, by simp [Instr.fill], hx⟩⟩
  | (i, x) :: r, cs, K, hf, h => by
    simp only [fillW] at h
    simp only [partsFit, Bool.and_eq_true] at hf
    obtain ⟨hf1, hf2⟩ := hf
    cases hp : place i with
    | none => simp [hp] at h
    | some p =>
      obtain ⟨off, sz⟩ := p
      simp only [hp, Option.map_some] at h hf1
      obtain ⟨l, h, hl⟩ := cellsW_det h
      replace h := bif_and h; obtain ⟨hle, h⟩ := h
      have hle' : off + l.length ≤ cs.length := Nat.le_of_ble_eq_true hle
      rw [deepL_iff, setC_eq] at h
      obtain ⟨cs', hK, hlen, hfill⟩ := fill_ok place r (setCells cs off l) K hf2 h
      refine ⟨cs', hK, by rw [hlen, length_setCells], fun E m ρ w a xs hev hx => ?_⟩
      have hv := hev (i, x) (by simp)
      obtain ⟨us, hu1, hu2⟩ := hl E m ρ w _ hv
      have hul := hu2.length
      have hxl := hx.length
      obtain ⟨ys, hy1, hy2⟩ := hfill E m ρ w a (setCells xs off us) (fun p hp => hev p (by simp [hp])) (RdL.setCells hu2 off hx)
      refine ⟨ys, ?_, hy2⟩
      have hsz : us.length = sz := by
        revert hf1 hv
        cases opd t x with
        | d dv =>
          cases dv with
          | one c =>
            intro hf1 hv
            have h1 := Nat.eq_of_beq_eq_true hf1
            have h2 : (a.eval x).cells.size = 1 := by
              have h1 := Rd.oneCell (show Rd _ _ (a.eval x) c from hv)
              revert h1
              cases a.eval x <;> intro h1 <;> first | rfl | (simp [Value.oneCell'] at h1)
            rw [hu1] at h2
            simp at h2
            omega
          | agg cs =>
            intro hf1 hv
            have h1 := Nat.eq_of_beq_eq_true hf1
            obtain ⟨zs, hz, hr⟩ := hv
            have h2 := hr.length
            rw [hz] at hu1
            simp only [Value.cells] at hu1
            have : zs = us := by simpa using hu1
            subst this
            omega
        | _ => intro hf1; simp at hf1
      have hsz2 : (a.eval x).cells.size = sz := by rw [hu1]; simpa using hsz
      have hfs := fold_setCells off us xs 0
      simp only [Nat.add_zero] at hfs
      simp only [List.map_cons, Instr.fill, hp, hsz2, ne_eq, not_true, decide_false, Bool.false_or, decide_eq_true_eq]
      rw [if_neg (by simp; omega), hu1]
      have hz : us.toArray.zipIdx.foldl (fun (cs : Array Value) (x : Value × Nat) => match x with | (c, j) => cs.setIfInBounds (off + j) c) xs.toArray = (setCells xs off us).toArray := by
        rw [← hfs]
        simp
      rw [hz]
      exact hy1

theorem zero_rd {P : Program} {t : TypeId} {T : Ty} (hT : TyOk P t T) (S : Nat → Prop) (w : World) : ∃ i z, P.info? t = some i ∧ i.size = T.size ∧ i.bytes = T.bytes ∧ i.zero = some z ∧ z.cells.size = T.size ∧ RdL S w z.cells.toList T.zero := by
  obtain ⟨i, z, h1, h2, h3, h4, h5, h6, h7⟩ := hT.info
  refine ⟨i, z, h1, h2, h3, h4, h7, ?_⟩
  rw [← h5]
  have h6' : ∀ x ∈ z.cells.toList, x.oneCell' = true := fun x hx => List.all_eq_true.1 h6 x hx
  revert h6'
  generalize z.cells.toList = l
  intro h6'
  induction l with
  | nil => exact .nil
  | cons x l ih => exact .cons (.v (h6' x (by simp))) (ih (fun y hy => h6' y (by simp [hy])))

theorem parts_mem {o : Oper} {parts : Array (Nat × Operand)} (h : o.op.operands = (parts.toList.map (·.2)).toArray) (p : Nat × Operand) (hp : p ∈ parts.toList) : p.2 ∈ o.op.operands.toList := by
  rw [h]
  simp only [List.mem_map]
  exact ⟨p, hp, rfl⟩

theorem stepOk_buildStr {P : Program} {o : Oper} {t : Nat → TV} {m : Id → Mem} {TT : Tab} (hT : TabOk P TT) {ty : TypeId} {T : Ty} (hty : TT ty = some T) {fs : List (Nat × TypeId × Nat)} (hk : T.kind = .str fs) {parts : Array (Nat × Operand)} (ho : o.op = .build ty parts) {K : List SV → Prop}
    (hf : partsFit t (fun i => (fs[i]?).map (·.2.2)) parts.toList = true) (h : fillW t (fun i => (fs[i]?).map (·.1)) T.zero parts.toList K) : ∃ cs, K cs ∧ StepOk P o t m (.d (.agg cs)) [] [] := by
  have hTy := hT ty T hty
  have hkk := hTy.kind
  rw [hk] at hkk
  obtain ⟨F, hu, hF, hM⟩ := hkk
  have e1 : (fun i : Nat => (((fs.map fun x : Nat × TypeId × Nat => (x.1, x.2.2)).toArray[i]?).map (·.2) : Option Nat)) = fun i : Nat => (fs[i]?).map (·.2.2) := by
    funext i; simp only [List.getElem?_toArray, List.getElem?_map, Option.map_map]; rfl
  have e2 : (fun i : Nat => (((fs.map fun x : Nat × TypeId × Nat => (x.1, x.2.2)).toArray[i]?).map (·.1) : Option Nat)) = fun i : Nat => (fs[i]?).map (·.1) := by
    funext i; simp only [List.getElem?_toArray, List.getElem?_map, Option.map_map]; rfl
  obtain ⟨cs, hK, _, hfill⟩ := fill_ok (t := t) (fun i : Nat => (fs.map fun x : Nat × TypeId × Nat => (x.1, x.2.2)).toArray[i]?) parts.toList T.zero K (by rw [e1]; exact hf) (by rw [e2]; exact h)
  refine ⟨cs, hK, stepOk_pure fun E ρ t' m' a w hP ha _ hR => ?_⟩
  obtain ⟨i, z, h1, h2, h3, h4, h5, hz⟩ := zero_rd hTy (L E m' ρ w) w
  obtain ⟨ys, hy1, hy2⟩ := hfill E m' ρ w a z.cells.toList (fun p hp => by
    have hv := (opd_ok hR p.2).1
    rw [opd_agree ha (parts_mem (by rw [ho]; rfl) p hp)] at hv
    exact hv) hz
  have hb : P.built ty (parts.map fun (i, x) => (i, a.eval x)).toList = some ys.toArray := by
    unfold Program.built
    simp only [h1, hu, h4, hM, Array.toList_map]
    exact hy1
  refine ⟨.agg ys.toArray, ?_, ⟨ys, rfl, hy2⟩, fun _ h => h.elim⟩
  have hr := run_build (P := P) w ty (parts.map fun (i, x) => (i, a.eval x)) ys.toArray hb
  simp [execOp, ho, hr]

theorem stepOk_buildArr {P : Program} {o : Oper} {t : Nat → TV} {m : Id → Mem} {TT : Tab} (hT : TabOk P TT) {ty : TypeId} {T : Ty} (hty : TT ty = some T) {n : Nat} {e : TypeId} (hk : T.kind = .arr n e) {TE : Ty} (hte : TT e = some TE) {parts : Array (Nat × Operand)} (ho : o.op = .build ty parts) {K : List SV → Prop}
    (hf : partsFit t (fun _ => some TE.size) parts.toList = true) (h : fillW t (fun i => some (i * TE.size)) T.zero parts.toList K) : ∃ cs, K cs ∧ StepOk P o t m (.d (.agg cs)) [] [] := by
  have hTy := hT ty T hty
  have hkk := hTy.kind
  rw [hk] at hkk
  obtain ⟨cs, hK, _, hfill⟩ := fill_ok (t := t) (fun i => some (i * TE.size, TE.size)) parts.toList T.zero K hf h
  refine ⟨cs, hK, stepOk_pure fun E ρ t' m' a w hP ha _ hR => ?_⟩
  obtain ⟨i, z, h1, h2, h3, h4, h5, hz⟩ := zero_rd hTy (L E m' ρ w) w
  obtain ⟨ie, ze, g1, g2, g3, g4, g5, _⟩ := zero_rd (hT e TE hte) (L E m' ρ w) w
  obtain ⟨ys, hy1, hy2⟩ := hfill E m' ρ w a z.cells.toList (fun p hp => by
    have hv := (opd_ok hR p.2).1
    rw [opd_agree ha (parts_mem (by rw [ho]; rfl) p hp)] at hv
    exact hv) hz
  have hb : P.built ty (parts.map fun (i, x) => (i, a.eval x)).toList = some ys.toArray := by
    unfold Program.built
    simp only [h1, hkk, h4, g1, g2, Array.toList_map]
    exact hy1
  refine ⟨.agg ys.toArray, ?_, ⟨ys, rfl, hy2⟩, fun _ h => h.elim⟩
  have hr := run_build (P := P) w ty (parts.map fun (i, x) => (i, a.eval x)) ys.toArray hb
  simp [execOp, ho, hr]

theorem length_repeatL : ∀ (n : Nat) (l : List SV), (repeatL n l).length = n * l.length
  | 0, _ => by simp [repeatL]
  | n + 1, l => by simp [repeatL, length_repeatL n, Nat.add_mul, Nat.add_comm]

def repeatV : Nat → List Value → List Value
  | 0, _ => []
  | n + 1, l => l ++ repeatV n l
theorem length_repeatV : ∀ (n : Nat) (l : List Value), (repeatV n l).length = n * l.length
  | 0, _ => by simp [repeatV]
  | n + 1, l => by simp [repeatV, length_repeatV n, Nat.add_mul, Nat.add_comm]
theorem RdL_repeat {S : Nat → Prop} {w : World} {xs : List Value} {cs : List SV} (h : RdL S w xs cs) : ∀ n, RdL S w (repeatV n xs) (repeatL n cs)
  | 0 => .nil
  | n + 1 => h.append (RdL_repeat h n)
theorem getElem?_repeatV (l : List Value) (hl : 0 < l.length) : ∀ (n j : Nat), j < n * l.length → (repeatV n l)[j]? = l[j % l.length]?
  | 0, j, h => by simp at h
  | n + 1, j, h => by
    rw [repeatV, List.getElem?_append]
    by_cases hj : j < l.length
    · rw [if_pos hj, Nat.mod_eq_of_lt hj]
    · rw [if_neg hj, getElem?_repeatV l hl n (j - l.length) (by rw [Nat.add_mul] at h; omega)]
      congr 1
      rw [← Nat.mod_eq_sub_mod (by omega)]

theorem made_repeat (z : Array Value) (n : Nat) (hz : 0 < z.size) : (Array.range (n * z.size)).map (z[· % z.size]!) = (repeatV n z.toList).toArray := by
  apply Array.ext_getElem?
  intro j
  have hl : 0 < z.toList.length := by simpa using hz
  by_cases hj : j < n * z.size
  · have h1 := getElem?_repeatV z.toList hl n j (by simpa using hj)
    have hm : j % z.size < z.size := Nat.mod_lt _ hz
    simp only [List.getElem?_toArray, h1, Array.getElem?_map]
    simp [hj, hm]
  · have h2 : (repeatV n z.toList).length = n * z.size := by rw [length_repeatV]; simp
    rw [Array.getElem?_eq_none (by simp; omega), Array.getElem?_eq_none (by simp [h2]; omega)]

theorem stepOk_buildSlice {P : Program} {o : Oper} {t : Nat → TV} {m : Id → Mem} {TT : Tab} (hT : TabOk P TT) {ty : TypeId} {T : Ty} (hty : TT ty = some T) {e : TypeId} (hk : T.kind = .slc e) {TE : Ty} (hte : TT e = some TE) {parts : Array (Nat × Operand)} {len : Nat} (ho : o.op = .buildSlice ty len parts) {K : List SV → Prop}
    (hsz : len * TE.size ≤ 65536) (hpos : 0 < TE.size) (hlen : 0 < len) (hf : partsFit t (fun _ => some TE.size) parts.toList = true) (h : fillW t (fun i => some (i * TE.size)) (repeatL len TE.zero) parts.toList K) :
    ∃ cs, K cs ∧ StepOk P o t m (.d (.one (.sl len TE.size fun i j => cs.getD (i * TE.size + j) (.v Go.undef)))) [] [] := by
  have hTy := hT ty T hty
  have hkk : P.underlying ty = some (.slice e) := by have := hTy.kind; rw [hk] at this; exact this
  obtain ⟨cs, hK, hcl, hfill⟩ := fill_ok (t := t) (fun i => some (i * TE.size, TE.size)) parts.toList (repeatL len TE.zero) K hf h
  refine ⟨cs, hK, ?_⟩
  intro E ρ t' m' a w hP ha _ hd hR Kc Q hKc
  obtain ⟨ie, ze, g1, g2, g3, g4, g5, hz⟩ := zero_rd (hT e TE hte) (L E m' ρ w) w
  have hzl := hz.length
  simp at hzl
  rw [length_repeatL, ← hzl, g5] at hcl
  obtain ⟨ys, hy1, hy2⟩ := hfill E m' ρ w a (repeatV len ze.cells.toList) (fun p hp => by
    have hv := (opd_ok hR p.2).1
    rw [opd_agree ha (parts_mem (by rw [ho]; rfl) p hp)] at hv
    exact hv) (RdL_repeat hz len)
  have hmade := made_repeat ze.cells len (by omega)
  rw [g5] at hmade
  have hn0 : len * TE.size ≠ 0 := Nat.ne_of_gt (Nat.mul_pos hlen hpos)
  have hrun : (execOp a.eval o).run P w = .ok (.value (.slice (some ⟨w.heap.size, 0, none⟩) len len)) (w.alloc (.cells ys.toArray e)) := by
    have h24 : ¬ (16777216 < len * TE.size) := by omega
    simp [execOp, ho, Instr.buildSlice, run_underlying hkk, run_sizeOf' (hT e TE hte), h24, zeroValue, typeInfo, g1, g4, g5, newRow]
    rw [if_neg hn0, hmade, hy1]
    simp
  have hR' := hR.grow (below_alloc w (.cells ys.toArray e))
  have hyl := hy2.length
  have hsize : w.heap.size < (w.alloc (.cells ys.toArray e)).heap.size := by simp
  have hLn : L E m' ρ (w.alloc (.cells ys.toArray e)) w.heap.size := ⟨.inr (.inr ⟨hR.below.size, hsize⟩), fun o' c l r => absurd (hR.lo o' _ c l r).2 (Nat.lt_irrefl _)⟩
  have hmono : ∀ b, L E m' ρ w b → L E m' ρ (w.alloc (.cells ys.toArray e)) b ∧ (w.alloc (.cells ys.toArray e)).heap[b]? = w.heap[b]? := fun b hl =>
    ⟨⟨hl.1.imp id (fun h1 => h1.imp id (fun h1 => ⟨h1.1, by omega⟩)), hl.2⟩, heap_alloc_old' w _ b (L_lt hR hl)⟩
  unfold Oper.wp
  rw [hrun]
  refine hKc ρ _ _ (hR'.put hd ?_ (fun _ h => h.elim))
  show Rd _ _ _ _
  have hall : ∀ i, i < len → ∀ j, j < TE.size → ∃ x, ys[i * TE.size + j]? = some x ∧ Rd (L E m' ρ w) w x (cs.getD (i * TE.size + j) (.v Go.undef)) := by
    intro i hi j hj
    refine hy2.getElemRd _ ?_
    have : (i + 1) * TE.size ≤ len * TE.size := Nat.mul_le_mul_right _ hi
    rw [Nat.add_mul] at this
    omega
  refine Rd.sl (fun i j => (ys[i * TE.size + j]?).getD Go.undef) hLn (Nat.le_refl _) ?_ (fun i hi j hj => ?_) (fun i hi j hj => ?_)
  · have : len ≤ len * TE.size := Nat.le_mul_of_pos_right _ hpos
    simp only [maxLen]; omega
  · obtain ⟨x, hx, _⟩ := hall i hi j hj
    rw [hx]
    simp only [World.cell?, heap_alloc_new', Option.isSome_none, Bool.false_eq_true, if_false, List.getElem?_toArray, Nat.zero_add, hx, Option.getD_some]
  · obtain ⟨x, hx, hr⟩ := hall i hi j hj
    simp only [hx, Option.getD_some]
    exact hr.mono hmono

end Go.Vm
