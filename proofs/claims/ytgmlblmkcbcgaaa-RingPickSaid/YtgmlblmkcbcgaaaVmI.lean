/-
  An abstract walk over Go's operations: every step that the walk takes is true of the machine.
-/
import Derived.Test.YtgmlblmkcbcgaaaVmN
namespace Go.Vm
set_option linter.unusedVariables false
set_option linter.unusedSimpArgs false
open Go Go.RowKit

theorem stepOk_makeSlice {P : Program} {o : Oper} {t : Nat → TV} {m : Id → Mem} {TT : Tab} (hT : TabOk P TT) {ty : TypeId} {T : Ty} (hty : TT ty = some T) {e : Nat} (hk : T.kind = .slc e) {TE : Ty} (hte : TT e = some TE) {x y : Operand} (ho : o.op = .makeSlice ty x y) {d : Nat} (hdd : o.dst = some d) (hm : m (.n d) = .none)
    {kn kc : IntKind} {n c : Int} (hx : opd t x = .d (.one (.v (.int kn n)))) (hy : opd t y = .d (.one (.v (.int kc c)))) (hb : 0 ≤ n ∧ n ≤ c ∧ (TE.bytes : Int) * c ≤ 281474976710656 ∧ c ≤ 9223372036854775807) :
    StepOk P o t m (.hdl d 0) [(.n d, .bld 0 n.toNat TE.size e fun _ j => TE.zero.getD j (.v Go.undef))] [d] := by
  have hTy := hT ty T hty
  have hkk : P.underlying ty = some (.slice e) := by have := hTy.kind; rw [hk] at this; exact this
  refine stepOk_mem fun E ρ t' m' a w hP ha hm' hd hR => ?_
  have hmd : m' (.n d) = .none := by rw [hm'.at (.n d) (by simp [Id.key])]; exact hm
  have h1 := (opd_ok hR x).1
  have h2 := (opd_ok hR y).1
  rw [opd_agree ha (by rw [ho]; simp [Op.operands]), hx] at h1
  rw [opd_agree ha (by rw [ho]; simp [Op.operands]), hy] at h2
  have e1 := (Rd.inv_v (show Rd _ _ _ _ from h1)).1
  have e2 := (Rd.inv_v (show Rd _ _ _ _ from h2)).1
  obtain ⟨ie, ze, g1, g2, g3, g4, g5, hz⟩ := zero_rd (hT e TE hte) (L E m' ρ w) w
  obtain ⟨b0, b1, b2, b3⟩ := hb
  have hrun := run_make (P := P) w ty e ie ze hkk g1 g4 kn kc n c b0 b1 (by rw [g3]; exact b2) b3
  have hzl := hz.length
  simp only [Array.length_toList] at hzl
  obtain ⟨k1, k2⟩ := hR.newBld (.n d) 0 n.toNat TE.size c.toNat e (fun _ j => TE.zero.getD j (.v Go.undef)) (madeCells ze.cells (c.toNat * ie.size)) (below_alloc w _) (by simp) (heap_alloc_new' w _) (by rw [size_madeCells, g2]) (by omega) (by simp only [maxLen]; omega)
    (fun i hi j hj => by
      have hpos : 0 < ze.cells.size := by omega
      have hlt : i * TE.size + j < c.toNat * TE.size := by
        have : (i + 1) * TE.size ≤ c.toNat * TE.size := Nat.mul_le_mul_right _ (by omega)
        rw [Nat.add_mul] at this; omega
      obtain ⟨y, hy1, hy2⟩ := hz.getElemRd j (by omega)
      refine ⟨y, ?_, hy2⟩
      have hmade := made_repeat ze.cells c.toNat hpos
      rw [show madeCells ze.cells (c.toNat * ie.size) = (repeatV c.toNat ze.cells.toList).toArray by rw [← hmade, g5, g2]; simp only [madeCells, g5]]
      simp only [List.getElem?_toArray]
      rw [getElem?_repeatV _ (by simpa using hpos) _ _ (by simp only [Array.length_toList, g5]; exact hlt)]
      simp only [Array.length_toList, g5]
      rw [show (i * TE.size + j) % TE.size = j by rw [Nat.mul_comm, Nat.mul_add_mod, Nat.mod_eq_of_lt hj]]
      exact hy1) (NewGen.fresh hmd (hd d hdd))
  refine ⟨_, _, _, _, ?_, .inl rfl, k1, k2, fun b' hb' => by cases hb'; rw [upd_same]; simp⟩
  simp [execOp, ho, e1, e2, hrun]

theorem stepOk_emptySlice {P : Program} {o : Oper} {t : Nat → TV} {m : Id → Mem} {TT : Tab} (hT : TabOk P TT) {ty : TypeId} {T : Ty} (hty : TT ty = some T) {e : Nat} (hk : T.kind = .slc e) {TE : Ty} (hte : TT e = some TE) {parts : Array (Nat × Operand)} (ho : o.op = .buildSlice ty 0 parts) {d : Nat} (hdd : o.dst = some d) (hm : m (.n d) = .none)
    (hp : parts.toList = []) : StepOk P o t m (.hdl d 0) [(.n d, .bld 0 0 TE.size e fun _ _ => .v Go.undef)] [d] := by
  have hTy := hT ty T hty
  have hkk : P.underlying ty = some (.slice e) := by have := hTy.kind; rw [hk] at this; exact this
  have hpe : parts = #[] := by rw [← Array.toArray_toList (xs := parts), hp]
  refine stepOk_mem fun E ρ t' m' a w hP ha hm' hd hR => ?_
  have hmd : m' (.n d) = .none := by rw [hm'.at (.n d) (by simp [Id.key])]; exact hm
  obtain ⟨k1, k2⟩ := hR.newBld (.n d) 0 0 TE.size 0 e (fun _ _ => .v Go.undef) #[] (below_alloc w (.cells #[] e)) (by simp) (heap_alloc_new' w _) (by simp) (by omega) (by simp [maxLen]) (fun i hi => absurd hi (Nat.not_lt_zero i)) (NewGen.fresh hmd (hd d hdd))
  refine ⟨_, _, _, _, ?_, .inl rfl, k1, k2, fun b' hb' => by cases hb'; rw [upd_same]; simp⟩
  simp [execOp, ho, hpe, Instr.buildSlice, run_underlying hkk, run_sizeOf' (hT e TE hte), Instr.fill, newRow]
  have h0 : Array.range 0 = #[] := by apply Array.ext'; simp
  rw [h0, Array.map_empty]

theorem stepOk_ownSlice {P : Program} {o : Oper} {t : Nat → TV} {m : Id → Mem} {TT : Tab} (hT : TabOk P TT) {ty : TypeId} {T : Ty} (hty : TT ty = some T) {e : TypeId} (hk : T.kind = .slc e) {TE : Ty} (hte : TT e = some TE) {parts : Array (Nat × Operand)} {len : Nat} (ho : o.op = .buildSlice ty len parts) {d : Nat} (hdd : o.dst = some d) (hm : m (.n d) = .none) {K : List SV → Prop}
    (hsz : len * TE.size ≤ 65536) (hpos : 0 < TE.size) (hlen : 0 < len) (hf : partsFit t (fun _ => some TE.size) parts.toList = true) (h : fillW t (fun i => some (i * TE.size)) (repeatL len TE.zero) parts.toList K) :
    ∃ cs, K cs ∧ StepOk P o t m (.hdl d 0) [(.n d, .bld 0 len TE.size e fun i j => cs.getD (i * TE.size + j) (.v Go.undef))] [d] := by
  have hTy := hT ty T hty
  have hkk : P.underlying ty = some (.slice e) := by have := hTy.kind; rw [hk] at this; exact this
  obtain ⟨cs, hK, hcl, hfill⟩ := fill_ok (t := t) (fun i => some (i * TE.size, TE.size)) parts.toList (repeatL len TE.zero) K hf h
  refine ⟨cs, hK, ?_⟩
  refine stepOk_mem fun E ρ t' m' a w hP ha hm' hd hR => ?_
  have hmd : m' (.n d) = .none := by rw [hm'.at (.n d) (by simp [Id.key])]; exact hm
  obtain ⟨ie, ze, g1, g2, g3, g4, g5, hz⟩ := zero_rd (hT e TE hte) (L E m' ρ w) w
  have hzl := hz.length
  simp at hzl
  rw [length_repeatL, ← hzl, g5] at hcl
  obtain ⟨ys, hy1, hy2⟩ := hfill E m' ρ w a (repeatV len ze.cells.toList) (fun p hp => by
    have hv := (opd_ok hR p.2).1
    rw [opd_agree ha (parts_mem (by rw [ho]; rfl) p hp)] at hv
    exact hv) (RdL_repeat hz len)
  have hmade := made_repeat ze.cells len (by omega)
  rw [g5] at hmade
  have hn0 : len * TE.size ≠ 0 := Nat.ne_of_gt (Nat.mul_pos hlen hpos)
  have hrun : (execOp a.eval o).run P w = .ok (.value (.slice (some ⟨w.heap.size, 0, none⟩) len len)) (w.alloc (.cells ys.toArray e)) := by
    have h24 : ¬ (16777216 < len * TE.size) := by omega
    simp [execOp, ho, Instr.buildSlice, run_underlying hkk, run_sizeOf' (hT e TE hte), h24, zeroValue, typeInfo, g1, g4, g5, newRow]
    rw [if_neg hn0, hmade, hy1]
    simp
  have hyl := hy2.length
  obtain ⟨k1, k2⟩ := hR.newBld (.n d) 0 len TE.size len e (fun i j => cs.getD (i * TE.size + j) (.v Go.undef)) ys.toArray (below_alloc w _) (by simp) (heap_alloc_new' w _) (by simp; omega) (Nat.le_refl _)
    (by have : len ≤ len * TE.size := Nat.le_mul_of_pos_right _ hpos; simp only [maxLen]; omega)
    (fun i hi j hj => by
      have : (i + 1) * TE.size ≤ len * TE.size := Nat.mul_le_mul_right _ hi
      rw [Nat.add_mul] at this
      obtain ⟨x, h1, h2⟩ := hy2.getElemRd (i * TE.size + j) (by omega)
      exact ⟨x, by simpa using h1, h2⟩) (NewGen.fresh hmd (hd d hdd))
  exact ⟨_, _, _, _, hrun, .inl rfl, k1, k2, fun b' hb' => by cases hb'; rw [upd_same]; simp⟩

theorem stepOk_len {P : Program} {o : Oper} {t : Nat → TV} {m : Id → Mem} {TT : Tab} (hT : TabOk P TT) {ty : TypeId} {T : Ty} (hty : TT ty = some T) {x : Operand} {c : Call} (ho : o.op = .call c) (hcal : c.callee = .builtin .len) (hargs : c.args.toList = [x]) (hat : c.argTypes.toList = [ty]) :
    (∀ e (K : Kont), T.kind = .slc e → lenW m (opd t x) (fun n rd => K (tint n) [] rd) → ∃ z mo rd, K z mo rd ∧ StepOk P o t m z mo rd) ∧
    (∀ n e, T.kind = .arr n e → StepOk P o t m (tint n) [] []) := by
  have hma : c.args = #[x] := by rw [← Array.toArray_toList (xs := c.args), hargs]
  have hmt : c.argTypes = #[ty] := by rw [← Array.toArray_toList (xs := c.argTypes), hat]
  have hmx : x ∈ o.op.operands.toList := by rw [ho]; simp [Op.operands, Call.operands, hcal, hma]
  have hTy := hT ty T hty
  have hexec : ∀ (a : Act) (w : World) (u : Value) (r : Value), a.eval x = u → (Builtin.len_ #[ty] o.type #[u]).run P w = .ok r w → (execOp a.eval o).run P w = .ok (.value r) w := by
    intro a w u r hu hr
    simp [execOp, ho, resolve, invoke, hcal, hma, hmt, builtin, hu, hr]
  refine ⟨fun e K hk h => ?_, fun n e hk => ?_⟩
  · obtain ⟨n, rd, h, hlen⟩ := lenW_ok hmx h
    refine ⟨_, _, _, h, stepOk_pure fun E ρ t' m' a w hP ha hm hR => ?_⟩
    obtain ⟨ad, cap, e1, _, _⟩ := hlen E ρ t' m' a w ha hm hR
    have hkk : P.underlying ty = some (.slice e) := by have := hTy.kind; rw [hk] at this; exact this
    exact ⟨_, hexec a w _ (.int .i64 n) e1 (by simp [Builtin.len_, run_underlying hkk, goInt]), Rd.v rfl, fun _ h => h.elim⟩
  · have hkk : P.underlying ty = some (.array n e) := by have := hTy.kind; rw [hk] at this; exact this
    refine stepOk_pure fun E ρ t' m' a w hP ha hm hR => ?_
    exact ⟨_, hexec a w _ (.int .i64 n) rfl (by simp [Builtin.len_, run_underlying hkk, goInt]), Rd.v rfl, fun _ h => h.elim⟩

theorem stepOk_capNil {P : Program} {o : Oper} {t : Nat → TV} {m : Id → Mem} {TT : Tab} (hT : TabOk P TT) {ty : TypeId} {T : Ty} (hty : TT ty = some T) {e : Nat} (hk : T.kind = .slc e) {x : Operand} {c : Call} (ho : o.op = .call c) (hcal : c.callee = .builtin .cap) (hargs : c.args.toList = [x]) (hat : c.argTypes.toList = [ty])
    (hx : opd t x = .d (.one (.v (.slice none 0 0)))) : StepOk P o t m (tint 0) [] [] := by
  have hma : c.args = #[x] := by rw [← Array.toArray_toList (xs := c.args), hargs]
  have hmt : c.argTypes = #[ty] := by rw [← Array.toArray_toList (xs := c.argTypes), hat]
  have hmx : x ∈ o.op.operands.toList := by rw [ho]; simp [Op.operands, Call.operands, hcal, hma]
  have hkk : P.underlying ty = some (.slice e) := by have := (hT ty T hty).kind; rw [hk] at this; exact this
  refine stepOk_pure fun E ρ t' m' a w hP ha hm hR => ?_
  have h1 := (opd_ok hR x).1
  rw [opd_agree ha hmx, hx] at h1
  have e1 := (Rd.inv_v (show Rd _ _ _ _ from h1)).1
  exact ⟨.int .i64 0, by simp [execOp, ho, resolve, invoke, hcal, hma, hmt, builtin, e1, Builtin.cap_, run_underlying hkk, goInt], Rd.v rfl, fun _ h => h.elim⟩

theorem get_of_map {t : Nat → TV} {a : Act} : ∀ (r : List Operand) (i : Nat) (v : Value) (tv : TV), (r.map a.eval)[i]? = some v → (r.map (opd t))[i]? = some tv → ∃ y ∈ r, v = a.eval y ∧ tv = opd t y := by
  intro r i v tv h1 h2
  rw [List.getElem?_map] at h1 h2
  cases hq : r[i]? with
  | none => rw [hq] at h1; simp at h1
  | some y =>
    rw [hq] at h1 h2
    simp at h1 h2
    exact ⟨y, List.mem_of_getElem? hq, h1.symm, h2.symm⟩

theorem stepOk_minmax {P : Program} {o : Oper} {t : Nat → TV} {m : Id → Mem} {x : Operand} {r : List Operand} {c : Call} (ho : o.op = .call c) (hargs : c.args.toList = x :: r) {k : IntKind} {x0 : Int} (hx : opd t x = .d (.one (.v (.int k x0)))) {K : Int → Prop} :
    (c.callee = .builtin .min → minW k x0 (r.map (opd t)) K → ∃ n, K n ∧ StepOk P o t m (.d (.one (.v (.int k n)))) [] []) ∧
    (c.callee = .builtin .max → maxW k x0 (r.map (opd t)) K → ∃ n, K n ∧ StepOk P o t m (.d (.one (.v (.int k n)))) [] []) := by
  have hma : c.args = (x :: r).toArray := by rw [← Array.toArray_toList (xs := c.args), hargs]
  constructor
  · intro hcal h
    have hmem : ∀ y ∈ x :: r, y ∈ o.op.operands.toList := by intro y hy; rw [ho]; simp [Op.operands, Call.operands, hcal, hma]; simpa using hy
    obtain ⟨n, h1, h2⟩ := minW_ok (P := P) _ _ _ _ h
    refine ⟨n, h1, stepOk_pure fun E ρ t' m' a w hP ha hm hR => ?_⟩
    have hv := (opd_ok hR x).1
    rw [opd_agree ha (hmem x (by simp)), hx] at hv
    have e1 := (Rd.inv_v (show Rd _ _ _ _ from hv)).1
    have h3 := h2 E m' ρ w (r.map a.eval) (by simp) (fun i v tv p q => by
      obtain ⟨y, hy, rfl, rfl⟩ := get_of_map r i v tv p q
      have := (opd_ok hR y).1
      rwa [opd_agree ha (hmem y (by simp [hy]))] at this) w
    refine ⟨.int k n, ?_, Rd.v rfl, fun _ h => h.elim⟩
    simp [execOp, ho, resolve, invoke, hcal, hma, builtin, Builtin.min_, e1, h3]
  · intro hcal h
    have hmem : ∀ y ∈ x :: r, y ∈ o.op.operands.toList := by intro y hy; rw [ho]; simp [Op.operands, Call.operands, hcal, hma]; simpa using hy
    obtain ⟨n, h1, h2⟩ := maxW_ok (P := P) _ _ _ _ h
    refine ⟨n, h1, stepOk_pure fun E ρ t' m' a w hP ha hm hR => ?_⟩
    have hv := (opd_ok hR x).1
    rw [opd_agree ha (hmem x (by simp)), hx] at hv
    have e1 := (Rd.inv_v (show Rd _ _ _ _ from hv)).1
    have h3 := h2 E m' ρ w (r.map a.eval) (by simp) (fun i v tv p q => by
      obtain ⟨y, hy, rfl, rfl⟩ := get_of_map r i v tv p q
      have := (opd_ok hR y).1
      rwa [opd_agree ha (hmem y (by simp [hy]))] at this) w
    refine ⟨.int k n, ?_, Rd.v rfl, fun _ h => h.elim⟩
    simp [execOp, ho, resolve, invoke, hcal, hma, builtin, Builtin.max_, e1, h3]

theorem stepOk_nilCheck {P : Program} {o : Oper} {t : Nat → TV} {m : Id → Mem} {x : Operand} (ho : o.op = .nilCheck x) :
    (∀ b p, opd t x = .ptr b p → (m b).boxy = true → StepOk P o t m (.ptr b p) [] [b.key]) ∧
    (∀ f caps, opd t x = .clo f caps → StepOk P o t m (.clo f caps) [] []) ∧
    (∀ f n c, opd t x = .d (.one (.fn f n c)) → StepOk P o t m (.d (.one (.fn f n c))) [] []) ∧
    (∀ n c, opd t x = .d (.one (.ad n c)) → StepOk P o t m (.d (.one (.ad n c))) [] []) := by
  have hmx : x ∈ o.op.operands.toList := by rw [ho]; simp [Op.operands]
  refine ⟨fun b p hx hb => ?_, fun f caps hx => ?_, fun f n c hx => ?_, fun n c hx => ?_⟩
  · refine stepOk_pure fun E ρ t' m' a w hP ha hm hR => ?_
    have hv := opd_ok hR x
    rw [opd_agree ha hmx, hx] at hv
    have h1 := hv.1
    rw [← hm.at b] at hb
    simp only [TOk] at h1
    rw [ptrOk_boxy hb] at h1
    obtain ⟨bl, c, r1, e1⟩ := h1
    exact ⟨a.eval x, by simp [execOp, ho, e1], hv⟩
  · refine stepOk_pure fun E ρ t' m' a w hP ha hm hR => ?_
    have hv := opd_ok hR x
    rw [opd_agree ha hmx, hx] at hv
    obtain ⟨xs, e1, _⟩ := hv.1
    refine ⟨a.eval x, ?_, hv⟩
    generalize hq : a.eval x = q at *
    cases e1 <;> simp [execOp, ho, hq]
  · refine stepOk_pure fun E ρ t' m' a w hP ha hm hR => ?_
    have hv := opd_ok hR x
    rw [opd_agree ha hmx, hx] at hv
    obtain ⟨xs, e1, _⟩ := Rd.inv_fn (show Rd _ _ _ _ from hv.1)
    exact ⟨a.eval x, by simp [execOp, ho, e1], hv⟩
  · refine stepOk_pure fun E ρ t' m' a w hP ha hm hR => ?_
    have hv := opd_ok hR x
    rw [opd_agree ha hmx, hx] at hv
    obtain ⟨b, off, xs, e1, _⟩ := Rd.inv_ad (show Rd _ _ _ _ from hv.1)
    exact ⟨a.eval x, by simp [execOp, ho, e1], hv⟩

theorem stepOk_convert {P : Program} {o : Oper} {t : Nat → TV} {m : Id → Mem} {TT : Tab} (hT : TabOk P TT) {src dst : TypeId} {T : Ty} (hty : TT dst = some T) {k k' : IntKind} (hk : T.kind = .int k) {x : Operand} (ho : o.op = .convert src dst x) {n : Int} (hx : opd t x = .d (.one (.v (.int k' n)))) (hs : ∃ d, P.underlying src = some d) :
    StepOk P o t m (.d (.one (.v (.int k (k.wrap n))))) [] [] := by
  have hmx : x ∈ o.op.operands.toList := by rw [ho]; simp [Op.operands]
  have hkk : P.underlying dst = some (.int k) := by have := (hT dst T hty).kind; rw [hk] at this; exact this
  obtain ⟨d, hs⟩ := hs
  refine stepOk_un hmx hx rfl (fun a w e => ?_)
  simp [execOp, ho, e, convert, run_underlying hs, run_underlying hkk, Conv.intToInt]

theorem loadS_to {T : Ty} {m : Id → Mem} {a : TV} {K : Kont} (h : loadS T m a K) : loadW T m a K := by
  unfold loadS at h
  split at h
  · rename_i o off
    replace h := lookW_iff h
    split at h
    · rename_i cs hb
      obtain ⟨c, h1, h2, h3, h⟩ := h.h
      unfold loadW
      dsimp only
      refine lookW_of ?_
      rw [hb]
      have hlt : off < cs.length := by
        rcases Nat.lt_or_ge off cs.length with q | q
        · exact q
        · rw [List.getElem?_eq_none q] at h1; cases h1
      show (bif Nat.ble (off + T.size) cs.length then loadC T ((cs.drop off).take T.size) _ else False)
      rw [h3, ble_t (show off + 1 ≤ cs.length by omega)]
      have e : (cs.drop off).take 1 = [c] := by
        rw [List.drop_eq_getElem_cons hlt]
        rw [List.getElem?_eq_getElem hlt] at h1
        injection h1 with h1
        rw [List.take_succ_cons, List.take_zero, h1]
      rw [e]
      rw [cond_true]
      unfold loadC
      rw [h2]
      exact CV.tvW_iff.2 h
    · exact h.elim
  · obtain ⟨h1, h⟩ := bif_and h
    obtain ⟨c, h2, h3, h4, h⟩ := h.h
    unfold loadW
    dsimp only
    rw [h4, h1, cond_true]
    show dataW T [_] _
    unfold dataW
    rw [h3]
    subst h2
    exact TV.force_iff.2 h
  · exact h.elim
theorem storeS_to {T : Ty} {m : Id → Mem} {a v : TV} {K : Kont} (h : storeS T m a v K) : storeW T m a v K := by
  unfold storeS at h
  split at h
  · rename_i o off
    replace h := lookW_iff h
    split at h
    · rename_i cs hb
      obtain ⟨h1, h⟩ := bif_and h
      have key : ∀ c : CV, StoreS cs off c (fun cs' => K .any [(o, .obj cs')] [o.key]) → storeR m (.ptr o off) c K := fun c h => by
        obtain ⟨cs', e1, e2, h⟩ := h.h
        unfold storeR
        dsimp only
        refine lookW_of ?_
        rw [hb]
        show (bif Nat.blt off cs.length then _ else False)
        rw [blt_t e2, e1]
        exact h
      unfold TV.cvW at h
      split at h
      · show (bif Nat.beq 1 T.size then _ else False)
        rw [h1]; exact key _ h
      · show (bif Nat.beq 1 T.size then _ else False)
        rw [h1]; exact key _ h
      · show (bif Nat.beq 1 T.size then _ else False)
        rw [h1]; exact key _ h
      · exact h.elim
    · exact h.elim
  · exact h.elim
theorem stepOk_convFI {P : Program} {o : Oper} {t : Nat → TV} {m : Id → Mem} {TT : Tab} (hT : TabOk P TT) {src dst : TypeId} {T : Ty} (hty : TT dst = some T) {k : IntKind} (hk : T.kind = .int k) {x : Operand} (ho : o.op = .convert src dst x) {fk : FloatKind} {b : Nat} (hx : opd t x = .d (.one (.v (.float fk b)))) (hs : ∃ d, P.underlying src = some d)
    {z : Int} (h1 : (fk.decode b).toInt .zero = some z) (h2 : k.min ≤ z) (h3 : z ≤ k.max) : StepOk P o t m (.d (.one (.v (.int k z)))) [] [] := by
  have hmx : x ∈ o.op.operands.toList := by rw [ho]; simp [Op.operands]
  have hkk : P.underlying dst = some (.int k) := by have := (hT dst T hty).kind; rw [hk] at this; exact this
  obtain ⟨d, hs⟩ := hs
  refine stepOk_un hmx hx rfl (fun a w e => ?_)
  simp [execOp, ho, e, convert, run_underlying hs, run_underlying hkk, Conv.floatToInt, h1, h2, h3]
theorem stepOk_convIF {P : Program} {o : Oper} {t : Nat → TV} {m : Id → Mem} {src dst : TypeId} {x : Operand} (ho : o.op = .convert src dst x) {k : IntKind} {n : Int} (hx : opd t x = .d (.one (.v (.int k n)))) (hs : ∃ d, P.underlying src = some d) (hkk : P.underlying dst = some (.float .f64)) :
    StepOk P o t m (.d (.one (.v (.float .f64 (FloatKind.f64.nearest n))))) [] [] := by
  have hmx : x ∈ o.op.operands.toList := by rw [ho]; simp [Op.operands]
  obtain ⟨d, hs⟩ := hs
  refine stepOk_un hmx hx rfl (fun a w e => ?_)
  simp [execOp, ho, e, convert, run_underlying hs, run_underlying hkk, Conv.intToFloat]

theorem force_det {x : TV} {K : TV → Prop} (h : x.force K) : K x := TV.force_iff.1 h

set_option maxHeartbeats 1600000 in
/-- EVERY STEP OF THE WALK IS TRUE OF THE MACHINE. -/
theorem opW_ok {P : Program} {TT : Tab} (hT : TabOk P TT) {o : Oper} {t : Nat → TV} {m : Id → Mem} {K : Kont} {fl : List Nat} (h : opW P TT fl o t m K) : ∃ x mo rd, K x mo rd ∧ StepOk P o t m x mo rd := by
  unfold opW at h
  split at h
  · rename_i x ho; exact ⟨_, _, _, force_det h, stepOk_move (.inl ho)⟩
  · rename_i x ho; exact ⟨_, _, _, force_det h, stepOk_move (.inr ho)⟩
  · rename_i c x y ho
    split at h
    · rename_i q hc
      have h := h.elim
      cases q with
      | true => exact ⟨_, _, _, force_det (show (opd t x).force (fun x => K x [] []) from h), stepOk_pick (m := m) ho hc⟩
      | false => exact ⟨_, _, _, force_det (show (opd t y).force (fun x => K x [] []) from h), stepOk_pick (m := m) ho hc⟩
    · exact h.elim
  · rename_i e ho
    split at h
    · rename_i T d hte hd
      split at h
      · rename_i hm
        exact ⟨_, _, _, h, stepOk_alloc hT hte ho hd hm⟩
      · exact h.elim
    · exact h.elim
  · rename_i e x ho
    split at h
    · rename_i T d hte hd
      split at h
      · rename_i hm
        split at h
        · rename_i o' p hx
          exact ⟨_, _, _, h, stepOk_boxR (c := .ptr o' p) ho hd hm hx⟩
        · rename_i o' g hx
          exact ⟨_, _, _, h, stepOk_boxR (c := .hdl o' g) ho hd hm hx⟩
        · rename_i f caps hx
          exact ⟨_, _, _, h, stepOk_boxR (c := .clo f caps) ho hd hm hx⟩
        · obtain ⟨l, h1, h2⟩ := stepOk_box (P := P) (m := m) ho hd hm h
          exact ⟨_, _, _, h1, h2⟩
      · exact h.elim
    · exact h.elim
  · rename_i ty parts ho
    split at h
    · rename_i T hty
      split at h
      · rename_i fs hk
        replace h := bif_and h; obtain ⟨hf, h⟩ := h
        obtain ⟨cs, h1, h2⟩ := stepOk_buildStr (m := m) hT hty hk ho hf h
        exact ⟨_, _, _, h1, h2⟩
      · rename_i n e hk
        split at h
        · rename_i TE hte
          replace h := bif_and h; obtain ⟨hf, h⟩ := h
          obtain ⟨cs, h1, h2⟩ := stepOk_buildArr (m := m) hT hty hk hte ho hf h
          exact ⟨_, _, _, h1, h2⟩
        · exact h.elim
      · exact h.elim
    · exact h.elim
  · rename_i ty len parts ho
    cases hfh : flagged fl (o.dst.getD 0 + 7000000) with
    | true =>
      rw [hfh] at h
      exact stepOk_buildH hT ho h
    | false =>
    rw [hfh] at h
    simp only [cond_false] at h
    split at h
    · rename_i T d hty hd
      split at h
      · rename_i e hk
        split at h
        · rename_i TE hte
          replace h := bif_and h; obtain ⟨hf, h⟩ := h
          simp only [Bool.and_eq_true] at hf
          split at h
          · split at h
            · rename_i hp hm
              exact ⟨_, _, _, h, stepOk_emptySlice hT hty hk hte ho hd hm hp⟩
            · exact h.elim
          · rename_i hne
            cases hfl : flagged fl (d + 6000000) with
            | true =>
              rw [hfl] at h
              simp only [cond_true] at h
              split at h
              · rename_i hm
                obtain ⟨cs, h1, h2⟩ := stepOk_ownSlice (m := m) hT hty hk hte ho hd hm (Nat.le_of_ble_eq_true hf.1.1) (lt_of_blt hf.1.2) (Nat.pos_of_ne_zero hne) hf.2 h
                exact ⟨_, _, _, h1, h2⟩
              · exact h.elim
            | false =>
              rw [hfl] at h
              obtain ⟨cs, h1, h2⟩ := stepOk_buildSlice (m := m) hT hty hk hte ho (Nat.le_of_ble_eq_true hf.1.1) (lt_of_blt hf.1.2) (Nat.pos_of_ne_zero hne) hf.2 h
              exact ⟨_, _, _, h1, h2⟩
        · exact h.elim
      · exact h.elim
    · exact h.elim
  · rename_i ty x ho
    split at h
    · rename_i T hty
      cases hfl : flagged fl (o.dst.getD 0 + 3000000) with
      | true =>
        rw [hfl] at h
        exact stepOk_load hT hty ho (loadS_to h)
      | false =>
        rw [hfl] at h
        exact stepOk_load hT hty ho h
    · exact h.elim
  · rename_i ty x y ho
    split at h
    · rename_i T hty
      cases hfl : flagged fl (tmpOf x + 4000000) with
      | true =>
        rw [hfl] at h
        exact stepOk_store hT hty ho (storeS_to h)
      | false =>
        rw [hfl] at h
        exact stepOk_store hT hty ho h
    · exact h.elim
  · rename_i x ho
    obtain ⟨n1, n4, n2, n3⟩ := stepOk_nilCheck (P := P) (t := t) (m := m) ho
    split at h
    · rename_i b p hx
      replace h := lookW_iff h
      split at h
      · rename_i cs hb; exact ⟨_, _, _, h, n1 b p hx (by rw [hb]; rfl)⟩
      · rename_i cs hb; exact ⟨_, _, _, h, n1 b p hx (by rw [hb]; rfl)⟩
      · rename_i cs hb; exact ⟨_, _, _, h, n1 b p hx (by rw [hb]; rfl)⟩
      · exact h.elim
    · rename_i f caps hx; exact ⟨_, _, _, h, n4 f caps hx⟩
    · rename_i f n c hx; exact ⟨_, _, _, h, n2 f n c hx⟩
    · rename_i n c hx; exact ⟨_, _, _, h, n3 n c hx⟩
    · exact h.elim
  · rename_i op ty x y ty' ho
    split at h
    · rename_i xs ys hx hy
      split at h
      · obtain ⟨b, h1, h2⟩ := h.h
        exact ⟨_, _, _, h2, (eqW_ok ho hx hy h1).1 rfl⟩
      · obtain ⟨b, h1, h2⟩ := h.h
        exact ⟨_, _, _, h2, (eqW_ok ho hx hy h1).2 rfl⟩
      · exact h.elim
    · rename_i p q hx hy
      split at h
      · rename_i T hty
        split at h
        · obtain ⟨hu, h⟩ := h
          exact ⟨_, _, _, h, (eqBool_ok ho hx hy hu).1 rfl⟩
        · obtain ⟨hu, h⟩ := h
          exact ⟨_, _, _, h, (eqBool_ok ho hx hy hu).2 rfl⟩
        · exact h.elim
      · exact h.elim
    · rename_i _ _ hy
      split at h
      · rename_i T hty
        split at h
        · rename_i e hk
          exact stepOk_eqNil (neg := false) hT hty hk ho hy (.inl ⟨rfl, rfl⟩) h
        · rename_i e hk
          exact stepOk_eqNil (neg := true) hT hty hk ho hy (.inr ⟨rfl, rfl⟩) h
        · exact h.elim
      · exact h.elim
    · obtain ⟨z, h1, h2⟩ := binW_ok (m := m) ho h
      exact ⟨_, _, _, h1, h2⟩
  · rename_i op ty x ho
    have hmx : x ∈ o.op.operands.toList := by rw [ho]; simp [Op.operands]
    split at h
    · rename_i b hx
      split at h
      · exact ⟨_, _, _, h, stepOk_un hmx hx rfl (fun a w e => by simp [execOp, ho, e, Op.unary])⟩
      · exact h.elim
    · rename_i n neg hx
      split at h
      · exact ⟨_, _, _, h, stepOk_notNb ho hx⟩
      · exact h.elim
    · rename_i k n hx
      split at h
      · exact ⟨_, _, _, h, stepOk_un hmx hx rfl (fun a w e => by simp [execOp, ho, e, Op.unary, Op.intArith])⟩
      · exact h.elim
    · exact h.elim
  · rename_i src dst x ho
    split at h
    · rename_i T hty
      split at h
      · rename_i k n hk hx
        obtain ⟨hs, h⟩ := h
        exact ⟨_, _, _, h, stepOk_convert hT hty hk ho hx hs⟩
      · rename_i k fk b hk hx
        obtain ⟨z, h1, h2, h3, hs, h⟩ := h.h
        exact ⟨_, _, _, h, stepOk_convFI hT hty hk ho hx hs h1 h2 h3⟩
      · rename_i k n hk hx
        obtain ⟨⟨hs, hkk⟩, h⟩ := h
        exact ⟨_, _, _, h, stepOk_convIF ho hx hs hkk⟩
      · exact h.elim
    · exact h.elim
  · rename_i ty x y ho
    split at h
    · rename_i T d hty hd
      split at h
      · rename_i e hk hm
        split at h
        · rename_i TE n c hte hx hy
          obtain ⟨hb, h⟩ := h
          exact ⟨_, _, _, h, stepOk_makeSlice hT hty hk hte ho hd hm hx hy hb⟩
        · exact h.elim
      · exact h.elim
    · exact h.elim
  · rename_i ty x lo hi ho
    split at h
    · rename_i T hty
      split at h
      · rename_i e hk
        split at h
        · rename_i TE hte
          split at h
          · rename_i b g hx
            have hh := h
            unfold lenW at hh
            replace hh := lookW_iff hh
            split at hh
            · rename_i g' n k e' get hb
              replace hh := bif_and hh; obtain ⟨_, hh⟩ := hh
              exact stepOk_sliceR hT hty hk hte ho (.inl ⟨hx, rfl, n, by rw [hb]; rfl, rfl⟩) hh
            · rename_i g' n k e' get hb
              replace hh := bif_and hh; obtain ⟨_, hh⟩ := hh
              exact stepOk_sliceR hT hty hk hte ho (.inl ⟨hx, rfl, n, by rw [hb]; rfl, rfl⟩) hh
            · exact hh.elim
          · rename_i b g lo0 n0 hx
            exact stepOk_sliceR hT hty hk hte ho (.inr hx) h
          · obtain ⟨z, h1, h2⟩ := stepOk_slice (P := P) (m := m) hT hty hk ho hte h
            exact ⟨_, _, _, h1, h2⟩
        · exact h.elim
      · exact h.elim
    · exact h.elim
  · rename_i ty x lo hi mx ho
    split at h
    · rename_i T hty
      split at h
      · rename_i e hk
        split at h
        · rename_i TE hte
          exact stepOk_slice3 hT hty hk hte ho h
        · exact h.elim
      · exact h.elim
    · exact h.elim
  · rename_i f first captured ho
    split at h
    · rename_i hfirst
      cases hfl : (flagged fl (f + 1000000) || byRef t m captured.toList) with
      | true =>
        rw [hfl] at h
        replace h := bif_and h; obtain ⟨hlt, h⟩ := h
        obtain ⟨l, h1, h2⟩ := stepOk_makeFuncR (P := P) (m := m) (rd := keysOf t captured.toList) ho hfirst hlt h
        exact ⟨_, _, _, h1, h2⟩
      | false =>
        rw [hfl] at h
        obtain ⟨l, ms, rd, h1, h2⟩ := stepOk_makeFunc (P := P) ho hfirst h
        exact ⟨_, _, _, h1, h2⟩
    · split at h
      · rename_i hcap
        obtain ⟨l, h1, h2⟩ := stepOk_makeFuncB (P := P) (m := m) (rd := keysOf t first.toList) ho hcap h
        exact ⟨_, _, _, h1, h2⟩
      · exact h.elim
  · rename_i ty x f ho
    split at h
    · rename_i T hty
      split at h
      · rename_i fs hk
        split at h
        · rename_i off ft size hf
          replace h := bif_and h; obtain ⟨hs, h⟩ := h
          obtain ⟨f1, f2, f3⟩ := stepOk_fieldAddr (t := t) (m := m) hT hty hk hf (lt_of_blt hs) ho
          split at h
          · rename_i b p hx
            replace h := lookW_iff h
            split at h
            · rename_i cs hb; exact ⟨_, _, _, h, f1 b p hx (by rw [hb]; rfl)⟩
            · rename_i cs hb; exact ⟨_, _, _, h, f1 b p hx (by rw [hb]; rfl)⟩
            · rename_i cs hb; exact ⟨_, _, _, h, f1 b p hx (by rw [hb]; rfl)⟩
            · exact h.elim
          · rename_i b g i p hx
            replace h := lookW_iff h
            split at h
            · rename_i g' n k e get hb
              replace h := bif_and h; obtain ⟨hq0, h⟩ := h
              obtain rfl := Nat.eq_of_beq_eq_true hq0
              exact ⟨_, _, _, h, f2 b g i p n k hx (by rw [hb]; rfl)⟩
            · rename_i g' n k e get hb
              replace h := bif_and h; obtain ⟨hq0, h⟩ := h
              obtain rfl := Nat.eq_of_beq_eq_true hq0
              exact ⟨_, _, _, h, f2 b g i p n k hx (by rw [hb]; rfl)⟩
            · exact h.elim
          · rename_i n cell hx; exact ⟨_, _, _, h, f3 n cell hx⟩
          · exact h.elim
        · exact h.elim
      · exact h.elim
    · exact h.elim
  · rename_i ty x f ho
    split at h
    · rename_i T hty
      split at h
      · rename_i fs hk
        split at h
        · rename_i off ft size hf
          split at h
          · rename_i TF cs hft hx
            replace h := bif_and h; obtain ⟨hs, h⟩ := h
            simp only [Bool.and_eq_true] at hs
            obtain ⟨z, h1, h2⟩ := stepOk_field (m := m) hT hty hk hf hft (Nat.eq_of_beq_eq_true hs.1) ho hx (Nat.le_of_ble_eq_true hs.2) h
            exact ⟨_, _, _, h1, h2⟩
          · exact h.elim
        · exact h.elim
      · exact h.elim
    · exact h.elim
  · rename_i ty x i ho
    split at h
    · rename_i T hty
      split at h
      · rename_i len e hk
        split at h
        · rename_i TE hte
          split at h
          · rename_i b p kk n hx hi
            replace h := lookW_iff h
            split at h
            · rename_i cs hb
              obtain ⟨hn, h⟩ := h
              exact ⟨_, _, _, h, (stepOk_indexArr (m := m) hT hty hk hte ho hi hn).1 b p hx (by rw [hb]; rfl)⟩
            · rename_i cs hb
              obtain ⟨hn, h⟩ := h
              exact ⟨_, _, _, h, (stepOk_indexArr (m := m) hT hty hk hte ho hi hn).1 b p hx (by rw [hb]; rfl)⟩
            · rename_i cs hb
              obtain ⟨hn, h⟩ := h
              exact ⟨_, _, _, h, (stepOk_indexArr (m := m) hT hty hk hte ho hi hn).1 b p hx (by rw [hb]; rfl)⟩
            · exact h.elim
          · rename_i q cell kk n hx hi
            obtain ⟨hn, h⟩ := h
            cases hq : Nat.ble (len * TE.size) q with
            | true =>
              rw [hq] at h
              exact ⟨_, _, _, h, (stepOk_indexArr (m := m) hT hty hk hte ho hi hn).2.2 q cell _ hx (by
                have h1 := Nat.le_of_ble_eq_true hq
                have h2 : (n.toNat + 1) * TE.size ≤ len * TE.size := Nat.mul_le_mul_right _ (by omega)
                rw [Nat.succ_mul] at h2
                omega)⟩
            | false =>
              rw [hq] at h
              exact ⟨_, _, _, h, (stepOk_indexArr (m := m) hT hty hk hte ho hi hn).2.2 q cell _ hx (Nat.le_refl _)⟩
          · rename_i b g r p kk n hx hi
            replace h := lookW_iff h
            split at h
            · rename_i g' n' k' e' get hb
              replace h := bif_and h; obtain ⟨hq0, h⟩ := h
              obtain rfl := Nat.eq_of_beq_eq_true hq0
              obtain ⟨hn, h⟩ := h
              exact ⟨_, _, _, h, (stepOk_indexArr (m := m) hT hty hk hte ho hi hn).2.1 b g r p n' k' hx (by rw [hb]; rfl)⟩
            · rename_i g' n' k' e' get hb
              replace h := bif_and h; obtain ⟨hq0, h⟩ := h
              obtain rfl := Nat.eq_of_beq_eq_true hq0
              obtain ⟨hn, h⟩ := h
              exact ⟨_, _, _, h, (stepOk_indexArr (m := m) hT hty hk hte ho hi hn).2.1 b g r p n' k' hx (by rw [hb]; rfl)⟩
            · exact h.elim
          · exact h.elim
        · exact h.elim
      · rename_i e hk
        split at h
        · rename_i TE hte
          split at h
          · rename_i n k get kk q hx hi
            replace h := bif_and h; obtain ⟨h1, h⟩ := h
            have h1 := Nat.eq_of_beq_eq_true h1
            obtain ⟨⟨h2, h3⟩, h⟩ := h
            exact ⟨_, _, _, h, (stepOk_indexSl (m := m) hT hty hk hte ho hi).1 n k get hx h1 h2 h3⟩
          · rename_i b g kk q hx hi
            replace h := lookW_iff h
            split at h
            · rename_i g' n k e' get hb
              replace h := bif_and h; obtain ⟨hq0, h⟩ := h
              simp only [Bool.and_eq_true] at hq0
              obtain rfl := Nat.eq_of_beq_eq_true hq0.1
              have h1 := Nat.eq_of_beq_eq_true hq0.2
              obtain ⟨⟨h2, h3⟩, h⟩ := h
              exact ⟨_, _, _, h, (stepOk_indexSl (m := m) hT hty hk hte ho hi).2.1 b g n k hx (by rw [hb]; rfl) h1 h2 h3⟩
            · rename_i g' n k e' get hb
              replace h := bif_and h; obtain ⟨hq0, h⟩ := h
              simp only [Bool.and_eq_true] at hq0
              obtain rfl := Nat.eq_of_beq_eq_true hq0.1
              have h1 := Nat.eq_of_beq_eq_true hq0.2
              obtain ⟨⟨h2, h3⟩, h⟩ := h
              exact ⟨_, _, _, h, (stepOk_indexSl (m := m) hT hty hk hte ho hi).2.1 b g n k hx (by rw [hb]; rfl) h1 h2 h3⟩
            · exact h.elim
          · rename_i b g lo n' kk q hx hi
            replace h := lookW_iff h
            split at h
            · rename_i g' n k e' get hb
              replace h := bif_and h; obtain ⟨hq0, h⟩ := h
              simp only [Bool.and_eq_true] at hq0
              obtain rfl := Nat.eq_of_beq_eq_true hq0.1
              have h1 := Nat.eq_of_beq_eq_true hq0.2
              obtain ⟨⟨h2, h3⟩, h⟩ := h
              exact ⟨_, _, _, h, (stepOk_indexSl (m := m) hT hty hk hte ho hi).2.2 b g lo n' n k hx (by rw [hb]; rfl) h1 h2 h3⟩
            · rename_i g' n k e' get hb
              replace h := bif_and h; obtain ⟨hq0, h⟩ := h
              simp only [Bool.and_eq_true] at hq0
              obtain rfl := Nat.eq_of_beq_eq_true hq0.1
              have h1 := Nat.eq_of_beq_eq_true hq0.2
              obtain ⟨⟨h2, h3⟩, h⟩ := h
              exact ⟨_, _, _, h, (stepOk_indexSl (m := m) hT hty hk hte ho hi).2.2 b g lo n' n k hx (by rw [hb]; rfl) h1 h2 h3⟩
            · exact h.elim
          · exact h.elim
        · exact h.elim
      · exact h.elim
    · exact h.elim
  · rename_i ty x i ho
    split at h
    · rename_i T hty
      split at h
      · rename_i len e hk
        split at h
        · rename_i TE hte
          split at h
          · rename_i cs kk n hx hi
            obtain ⟨hn, h⟩ := h
            obtain ⟨z, h1, h2⟩ := stepOk_index (m := m) hT hty hk hte ho hx hi hn h
            exact ⟨_, _, _, h1, h2⟩
          · exact h.elim
        · exact h.elim
      · exact h.elim
    · exact h.elim
  · rename_i x i ho
    split at h
    · rename_i xs hx
      split at h
      · rename_i v hv
        exact ⟨_, _, _, force_det h, stepOk_extract ho hx hv⟩
      · exact h.elim
    · exact h.elim
  · rename_i c ho
    split at h
    · rename_i f hcal
      split at h
      · rename_i f' n cap hf
        exact stepOk_call ho hcal hf h
      · rename_i f' caps hf
        exact stepOk_callC ho hcal hf h
      · exact h.elim
    · rename_i b hcal
      split at h
      · rename_i x ty hargs hat
        split at h
        · rename_i T hty
          obtain ⟨l1, l4⟩ := stepOk_len (t := t) (m := m) hT hty ho hcal hargs hat
          split at h
          · rename_i e hk; exact l1 e K hk h
          · rename_i n e hk; exact ⟨_, _, _, h, l4 n e hk⟩
          · exact h.elim
        · exact h.elim
      · rename_i x ty hargs hat
        split at h
        · rename_i T hty
          split at h
          · rename_i e hk hx
            exact ⟨_, _, _, h, stepOk_capNil hT hty hk ho hcal hargs hat hx⟩
          · exact h.elim
        · exact h.elim
      · rename_i x ty hargs hat
        split at h
        · rename_i T hty
          split at h
          · rename_i e hk
            split at h
            · rename_i TE b g lo n hte hx
              replace h := lookW_iff h
              split at h
              · rename_i g' N k e' get hb
                replace h := bif_and h; obtain ⟨hq0, h⟩ := h
                simp only [Bool.and_eq_true] at hq0
                obtain rfl := Nat.eq_of_beq_eq_true hq0.1.1
                obtain rfl := Nat.eq_of_beq_eq_true hq0.1.2
                obtain rfl := Nat.eq_of_beq_eq_true hq0.2
                exact ⟨_, _, _, h, stepOk_clear hT hty hk hte ho hcal hargs hat hx hb⟩
              · exact h.elim
            · exact h.elim
          · exact h.elim
        · exact h.elim
      · rename_i x r hargs
        split at h
        · rename_i k x0 hx
          obtain ⟨n, h1, h2⟩ := (stepOk_minmax (P := P) (m := m) ho hargs hx).1 hcal h
          exact ⟨_, _, _, h1, h2⟩
        · exact h.elim
      · rename_i x r hargs
        split at h
        · rename_i k x0 hx
          obtain ⟨n, h1, h2⟩ := (stepOk_minmax (P := P) (m := m) ho hargs hx).2 hcal h
          exact ⟨_, _, _, h1, h2⟩
        · exact h.elim
      · rename_i s x ty ty' hargs hat
        split at h
        · rename_i T d hty hd
          split at h
          · rename_i e hk
            split at h
            · rename_i TE hte
              cases hfc : flagged fl (d + 8000000) with
              | true =>
                rw [hfc] at h
                replace h := bif_and (show bif Nat.beq ty' ty then appendC TE e m (opd t s) (opd t x) K else False from h)
                obtain ⟨hq1, h⟩ := h
                obtain rfl := Nat.eq_of_beq_eq_true hq1
                exact stepOk_appendC hT hty hk hte hd ho hcal hargs hat h
              | false =>
              rw [hfc] at h
              simp only [cond_false] at h
              cases hq0 : Nat.beq ty' ty with
              | true =>
                rw [hq0] at h
                obtain rfl := Nat.eq_of_beq_eq_true hq0
                exact stepOk_append hT hty hk hte hd ho hcal hargs hat ⟨e, by have := (hT _ T hty).kind; rw [hk] at this; exact this⟩ h
              | false =>
                rw [hq0] at h
                replace h : (match TT ty' with
                  | some TZ => (match TZ.kind with
                    | .int .i64 => appendZ TE e d m (opd t s) (opd t x) K
                    | .slc _ => appendW TE e d m (opd t s) (opd t x) K
                    | _ => False)
                  | none => False) := h
                split at h
                · rename_i TZ htz
                  split at h
                  · rename_i hkz
                    exact stepOk_appendZ hT hty hk hte htz hkz hd ho hcal hargs hat h
                  · rename_i e' hkz
                    exact stepOk_append hT hty hk hte hd ho hcal hargs hat ⟨e', by have := (hT _ TZ htz).kind; rw [hkz] at this; exact this⟩ h
                  · exact h.elim
                · exact h.elim
            · exact h.elim
          · exact h.elim
        · exact h.elim
      · exact h.elim
    · exact h.elim
  · exact h.elim
end Go.Vm
