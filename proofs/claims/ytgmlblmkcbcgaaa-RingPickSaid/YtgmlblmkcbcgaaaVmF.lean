/-
  An abstract walk over Go's operations: arithmetic, comparisons, addresses, parts.
-/
import Derived.Test.YtgmlblmkcbcgaaaVmE
namespace Go.Vm
set_option linter.unusedVariables false
set_option linter.unusedSimpArgs false
open Go Go.RowKit

theorem binW_ok {P : Program} {o : Oper} {t : Nat → TV} {m : Id → Mem} {op : BinOp} {ty ty' : TypeId} {x y : Operand} (ho : o.op = .binOp op ty x y ty') {K : TV → Prop} (h : binW op (opd t x) (opd t y) K) :
    ∃ z, K z ∧ StepOk P o t m z [] [] := by
  have hmx : x ∈ o.op.operands.toList := by rw [ho]; simp [Op.operands]
  have hmy : y ∈ o.op.operands.toList := by rw [ho]; simp [Op.operands]
  have key : ∀ (u v : Value) (r : Value), opd t x = .d (.one (.v u)) → opd t y = .d (.one (.v v)) → r.oneCell' = true → (∀ (w : World), ((do eqGuard op ty x y u v; binOp op ty u v : Sem Value)).run P w = .ok r w) → StepOk P o t m (.d (.one (.v r))) [] [] := by
    intro u v r hx hy hr hrun
    refine stepOk_pure fun E ρ t' m' a w hP ha _ hR => ?_
    have h1 := (opd_ok hR x).1
    have h2 := (opd_ok hR y).1
    rw [opd_agree ha hmx, hx] at h1
    rw [opd_agree ha hmy, hy] at h2
    have e1 := (Rd.inv_v (show Rd _ _ _ _ from h1)).1
    have e2 := (Rd.inv_v (show Rd _ _ _ _ from h2)).1
    refine ⟨r, ?_, Rd.v hr, fun _ h => h.elim⟩
    have := hrun w
    simp only [execOp, ho, e1, e2]
    rw [Sem.run_bind, this]
    rfl
  unfold binW at h
  split at h
  · rename_i k a hx
    split at h
    · rename_i k' b hy
      replace h := bif_and h; obtain ⟨hkk, h⟩ := h
      obtain rfl := kNum_inj hkk
      have hg : ∀ (w : World), (eqGuard op ty x y (.int k a) (.int k b)).run P w = .ok () w := by
        intro w
        cases op <;> simp [eqGuard]
      cases op with
      | add => exact ⟨_, h, key _ _ _ hx hy rfl (fun w => by simp [hg w, binOp, Op.intArith])⟩
      | sub => exact ⟨_, h, key _ _ _ hx hy rfl (fun w => by simp [hg w, binOp, Op.intArith])⟩
      | mul => exact ⟨_, h, key _ _ _ hx hy rfl (fun w => by simp [hg w, binOp, Op.intArith])⟩
      | quo =>
        obtain ⟨hne, h⟩ := h
        exact ⟨_, h, key _ _ _ hx hy rfl (fun w => by simp [hg w, binOp, Op.intDiv, hne])⟩
      | rem =>
        obtain ⟨hne, h⟩ := h
        exact ⟨_, h, key _ _ _ hx hy rfl (fun w => by simp [hg w, binOp, Op.intDiv, hne])⟩
      | eql => exact ⟨_, h, key _ _ _ hx hy rfl (fun w => by simp [hg w, binOp, Op.intCmp])⟩
      | neq => exact ⟨_, h, key _ _ _ hx hy rfl (fun w => by simp [hg w, binOp, Op.intCmp])⟩
      | lss => exact ⟨_, h, key _ _ _ hx hy rfl (fun w => by simp [hg w, binOp, Op.intCmp])⟩
      | leq => exact ⟨_, h, key _ _ _ hx hy rfl (fun w => by simp [hg w, binOp, Op.intCmp])⟩
      | gtr => exact ⟨_, h, key _ _ _ hx hy rfl (fun w => by simp [hg w, binOp, Op.intCmp])⟩
      | geq => exact ⟨_, h, key _ _ _ hx hy rfl (fun w => by simp [hg w, binOp, Op.intCmp])⟩
      | _ => exact h.elim
    · exact h.elim
  · rename_i a hx
    split at h
    · rename_i b hy
      have hg : ∀ (w : World), (eqGuard op ty x y (.string a) (.string b)).run P w = .ok () w := by
        intro w
        cases op <;> simp [eqGuard]
      cases op with
      | eql => exact ⟨_, h, key _ _ _ hx hy rfl (fun w => by simp [hg w, binOp, Op.stringOp])⟩
      | neq => exact ⟨_, h, key _ _ _ hx hy rfl (fun w => by simp [hg w, binOp, Op.stringOp])⟩
      | _ => exact h.elim
    · exact h.elim
  · exact h.elim

theorem eqW_ok {P : Program} {o : Oper} {t : Nat → TV} {m : Id → Mem} {op : BinOp} {ty ty' : TypeId} {x y : Operand} (ho : o.op = .binOp op ty x y ty') {xs ys : List SV} (hx : opd t x = .d (.agg xs)) (hy : opd t y = .d (.agg ys)) {b : Bool} (h : EqFact P ty xs ys b) :
    (op = .eql → StepOk P o t m (tbool b) [] []) ∧ (op = .neq → StepOk P o t m (tbool (!b)) [] []) := by
  have hmx : x ∈ o.op.operands.toList := by rw [ho]; simp [Op.operands]
  have hmy : y ∈ o.op.operands.toList := by rw [ho]; simp [Op.operands]
  obtain ⟨hgd, hrun⟩ := h
  have key : ∀ (b' : Bool), ((op = .eql ∧ b' = b) ∨ (op = .neq ∧ b' = !b)) → StepOk P o t m (tbool b') [] [] := by
    intro b' hb
    refine stepOk_pure fun E ρ t' m' a w hP ha _ hR => ?_
    have h1 := (opd_ok hR x).1
    have h2 := (opd_ok hR y).1
    rw [opd_agree ha hmx, hx] at h1
    rw [opd_agree ha hmy, hy] at h2
    obtain ⟨us, e1, r1⟩ := h1
    obtain ⟨vs, e2, r2⟩ := h2
    refine ⟨.bool b', ?_, Rd.v rfl, fun _ h => h.elim⟩
    have hr := hrun _ w us vs r1 r2
    rcases hb with ⟨rfl, rfl⟩ | ⟨rfl, rfl⟩
    · simp [execOp, ho, e1, e2, eqGuard, hgd, binOp, hr]
    · simp [execOp, ho, e1, e2, eqGuard, hgd, binOp, hr]
  exact ⟨fun e => key b (.inl ⟨e, rfl⟩), fun e => key (!b) (.inr ⟨e, rfl⟩)⟩

theorem eqBool_ok {P : Program} {o : Oper} {t : Nat → TV} {m : Id → Mem} {op : BinOp} {ty ty' : TypeId} {x y : Operand} (ho : o.op = .binOp op ty x y ty') {p q : Bool} (hx : opd t x = tbool p) (hy : opd t y = tbool q) (hu : P.underlying ty = some .bool) :
    (op = .eql → StepOk P o t m (tbool (p == q)) [] []) ∧ (op = .neq → StepOk P o t m (tbool (!(p == q))) [] []) := by
  have hmx : x ∈ o.op.operands.toList := by rw [ho]; simp [Op.operands]
  have hmy : y ∈ o.op.operands.toList := by rw [ho]; simp [Op.operands]
  have key : ∀ (b' : Bool), ((op = .eql ∧ b' = (p == q)) ∨ (op = .neq ∧ b' = !(p == q))) → StepOk P o t m (tbool b') [] [] := by
    intro b' hb
    refine stepOk_pure fun E ρ t' m' a w hP ha _ hR => ?_
    have h1 := (opd_ok hR x).1
    have h2 := (opd_ok hR y).1
    rw [opd_agree ha hmx, hx] at h1
    rw [opd_agree ha hmy, hy] at h2
    have e1 := (Rd.inv_v (show Rd _ _ _ _ from h1)).1
    have e2 := (Rd.inv_v (show Rd _ _ _ _ from h2)).1
    refine ⟨.bool b', ?_, Rd.v rfl, fun _ h => h.elim⟩
    have hr : (Op.equal ty (.bool p) (.bool q)).run P w = .ok (p == q) w := by
      unfold Op.equal Op.maxDepth
      exact run_equalIn_bool w 9999 ty p q hu
    rcases hb with ⟨rfl, rfl⟩ | ⟨rfl, rfl⟩
    · simp [execOp, ho, e1, e2, eqGuard, binOp, hr]
    · simp [execOp, ho, e1, e2, eqGuard, binOp, hr]
  exact ⟨fun e => key _ (.inl ⟨e, rfl⟩), fun e => key _ (.inr ⟨e, rfl⟩)⟩

/-- A step whose one operand is a very value, and whose run is known. -/
theorem stepOk_un {P : Program} {o : Oper} {t : Nat → TV} {m : Id → Mem} {x : Operand} (hm : x ∈ o.op.operands.toList) {u r : Value} (hx : opd t x = .d (.one (.v u))) (hr : r.oneCell' = true)
    (hrun : ∀ (a : Act) (w : World), a.eval x = u → (execOp a.eval o).run P w = .ok (.value r) w) : StepOk P o t m (.d (.one (.v r))) [] [] := by
  refine stepOk_pure fun E ρ t' m' a w hP ha _ hR => ?_
  have h1 := (opd_ok hR x).1
  rw [opd_agree ha hm, hx] at h1
  have e1 := (Rd.inv_v (show Rd _ _ _ _ from h1)).1
  exact ⟨r, hrun a w e1, Rd.v hr, fun _ h => h.elim⟩

theorem stepOk_move {P : Program} {o : Oper} {t : Nat → TV} {m : Id → Mem} {x : Operand} (ho : o.op = .move x ∨ o.op = .assign x) : StepOk P o t m (opd t x) [] [] := by
  refine stepOk_pure fun E ρ t' m' a w hP ha _ hR => ?_
  have h1 := opd_ok hR x
  rw [opd_agree ha (by rcases ho with ho | ho <;> rw [ho] <;> simp [Op.operands])] at h1
  refine ⟨a.eval x, ?_, h1⟩
  rcases ho with ho | ho <;> simp [execOp, ho]

theorem stepOk_pick {P : Program} {o : Oper} {t : Nat → TV} {m : Id → Mem} {c x y : Operand} (ho : o.op = .pick c x y) {q : Bool} (hc : opd t c = tbool q) : StepOk P o t m (bif q then opd t x else opd t y) [] [] := by
  refine stepOk_pure fun E ρ t' m' a w hP ha _ hR => ?_
  have h1 := (opd_ok hR c).1
  rw [opd_agree ha (by rw [ho]; simp [Op.operands]), hc] at h1
  have e1 := (Rd.inv_v (show Rd _ _ _ _ from h1)).1
  have hx := opd_ok hR x
  have hy := opd_ok hR y
  rw [opd_agree ha (by rw [ho]; simp [Op.operands])] at hx hy
  refine ⟨if q then a.eval x else a.eval y, ?_, ?_⟩
  · simp [execOp, ho, e1, asBool]
  · cases q
    · exact hy
    · exact hx

theorem addr_add (b off n : Nat) : (⟨b, off, none⟩ : Addr).add n = ⟨b, off + n, none⟩ := by
  unfold Addr.add; split <;> simp_all

theorem stepOk_extract {P : Program} {o : Oper} {t : Nat → TV} {m : Id → Mem} {x : Operand} {i : Nat} (ho : o.op = .extract x i) {xs : List DV} (hx : opd t x = .tup xs) {v : DV} (hv : xs[i]? = some v) : StepOk P o t m (.d v) [] [] := by
  refine stepOk_pure fun E ρ t' m' a w hP ha _ hR => ?_
  have h1 := (opd_ok hR x).1
  rw [opd_agree ha (by rw [ho]; simp [Op.operands]), hx] at h1
  obtain ⟨us, e1, r1⟩ := h1
  obtain ⟨u, hu, hr⟩ := r1.get i v hv
  exact ⟨u, by simp [execOp, ho, e1, Instr.extract, hu], hr, fun _ h => h.elim⟩

theorem run_fieldPlace {P : Program} {w : World} (b off : Nat) (f : Field) (h : 0 < P.cellsOf f.type) : (fieldPlace ⟨b, off, none⟩ f).run P w = .ok ⟨b, off + f.offset, none⟩ w := by
  unfold Program.cellsOf at h
  cases hi : P.info? f.type with
  | none => simp [hi] at h
  | some i =>
    simp [hi] at h
    have h0 : i.size ≠ 0 := by omega
    simp [fieldPlace, sizeOf, typeInfo, hi, h0, addr_add]

/-- A step that gives the address of a part. -/
theorem run_fieldAt {P : Program} {ty : TypeId} {T : Ty} (hT : TyOk P ty T) {fs : List (Nat × TypeId × Nat)} (hk : T.kind = .str fs) {f off ft size : Nat} (hf : fs[f]? = some (off, ft, size)) (hs : 0 < size) (w : World) (b p : Nat) :
    (Instr.fieldAt ty (.pointer (some ⟨b, p, none⟩)) f).run P w = .ok (.pointer (some ⟨b, p + off, none⟩)) w := by
  have hkk := hT.kind
  rw [hk] at hkk
  obtain ⟨F, hu, hF, _⟩ := hkk
  have h1 : (F.toList.map (fun f => (f.offset, f.type, P.cellsOf f.type)))[f]? = some (off, ft, size) := by rw [hF]; exact hf
  rw [List.getElem?_map] at h1
  cases hq : F.toList[f]? with
  | none => simp [hq] at h1
  | some fld =>
    simp [hq] at h1
    obtain ⟨h2, h3, h4⟩ := h1
    have hp := run_fieldPlace (P := P) (w := w) b p fld (by rw [h4]; exact hs)
    have hq' : F[f]? = some fld := by simpa using hq
    simp [Instr.fieldAt, run_underlying hu, hq', Instr.sureAddr, hp, h2]

theorem stepOk_fieldAddr {P : Program} {o : Oper} {t : Nat → TV} {m : Id → Mem} {TT : Tab} (hT : TabOk P TT) {ty : TypeId} {T : Ty} (hty : TT ty = some T) {fs : List (Nat × TypeId × Nat)} (hk : T.kind = .str fs) {f off ft size : Nat} (hf : fs[f]? = some (off, ft, size)) (hs : 0 < size) {x : Operand} (ho : o.op = .fieldAddr ty x f) :
    (∀ b p, opd t x = .ptr b p → (m b).boxy = true → StepOk P o t m (.ptr b (p + off)) [] [b.key]) ∧
    (∀ b g i p n k, opd t x = .ep b g i p → (m b).bldy = some (g, n, k) → StepOk P o t m (.ep b g i (p + off)) [] [b.key]) ∧
    (∀ n cell, opd t x = .d (.one (.ad n cell)) → StepOk P o t m (.d (.one (.ad (n - off) fun j => cell (off + j)))) [] []) := by
  have hmx : x ∈ o.op.operands.toList := by rw [ho]; simp [Op.operands]
  have hTy := hT ty T hty
  have hexec : ∀ (a : Act) (w : World) (b p : Nat), a.eval x = .pointer (some ⟨b, p, none⟩) → (execOp a.eval o).run P w = .ok (.value (.pointer (some ⟨b, p + off, none⟩))) w := by
    intro a w b p hx
    simp [execOp, ho, hx, run_fieldAt hTy hk hf hs w b p]
  refine ⟨fun b p hx hb => ?_, fun b g i p n k hx hb => ?_, fun n cell hx => ?_⟩
  · refine stepOk_pure fun E ρ t' m' a w hP ha hm hR => ?_
    have h1 := (opd_ok hR x).1
    rw [opd_agree ha hmx, hx] at h1
    rw [← hm.at b] at hb
    simp only [TOk] at h1
    rw [ptrOk_boxy hb] at h1
    obtain ⟨bl, c, r1, r2⟩ := h1
    exact ⟨_, hexec a w bl p r2, by simp only [TOk]; rw [ptrOk_boxy hb]; exact ⟨bl, c, r1, rfl⟩, fun _ h => by cases h; intro e; rw [e] at hb; simp [Mem.boxy] at hb⟩
  · refine stepOk_pure fun E ρ t' m' a w hP ha hm hR => ?_
    have h1 := (opd_ok hR x).1
    rw [opd_agree ha hmx, hx] at h1
    rw [← hm.at b] at hb
    rw [epOk_bldy hb] at h1
    obtain ⟨hin, bl, c, r1, r2⟩ := h1.2 rfl
    refine ⟨_, hexec a w bl _ r2, ?_, fun _ h => by cases h; exact (live_bldy hb).2⟩
    rw [epOk_bldy hb]
    exact ⟨Nat.le_refl _, fun _ => ⟨hin, bl, c, r1, by rw [Nat.add_assoc]⟩⟩
  · refine stepOk_pure fun E ρ t' m' a w hP ha hm hR => ?_
    have h1 := (opd_ok hR x).1
    rw [opd_agree ha hmx, hx] at h1
    obtain ⟨b, p, xs, r1, r2, r3, r4⟩ := Rd.inv_ad (show Rd _ _ _ _ from h1)
    refine ⟨_, hexec a w b p r1, Rd.ad (fun j => xs (off + j)) r2 (fun j hj => ?_) (fun j hj => r4 _ (by omega)), fun _ h => h.elim⟩
    rw [Nat.add_assoc]
    exact r3 _ (by omega)

theorem run_part {P : Program} {ty : TypeId} {T : Ty} (hT : TyOk P ty T) (w : World) (xs : List Value) (off : Nat) (h : off + T.size ≤ xs.length) (h1 : T.kind.isAgg = false → T.size = 1) :
    (part ty xs.toArray off).run P w = .ok (pack T.kind.isAgg ((xs.drop off).take T.size)) w := by
  cases hq : T.kind.isAgg with
  | true =>
    simp [part, run_isAgg' hT, hq, run_sizeOf' hT, pack]
  | false =>
    have hs := h1 hq
    have hlt : off < xs.length := by omega
    have ht : (xs.drop off).take 1 = [xs[off]] := by rw [List.drop_eq_getElem_cons hlt]; rfl
    simp [part, run_isAgg' hT, hq, pack, hs, hlt, ht]

theorem stepOk_field {P : Program} {o : Oper} {t : Nat → TV} {m : Id → Mem} {TT : Tab} (hT : TabOk P TT) {ty : TypeId} {T : Ty} (hty : TT ty = some T) {fs : List (Nat × TypeId × Nat)} (hk : T.kind = .str fs) {f off ft size : Nat} (hf : fs[f]? = some (off, ft, size)) {TF : Ty} (hft : TT ft = some TF) (hsz : TF.size = size) {x : Operand} (ho : o.op = .field ty x f)
    {cs : List SV} (hx : opd t x = .d (.agg cs)) (hle : off + size ≤ cs.length) {K : TV → Prop} (h : dataW TF ((cs.drop off).take size) K) : ∃ z, K z ∧ StepOk P o t m z [] [] := by
  have hmx : x ∈ o.op.operands.toList := by rw [ho]; simp [Op.operands]
  have hTy := hT ty T hty
  obtain ⟨y, hK, h1, hd⟩ := dataW_det h
  refine ⟨_, hK, stepOk_pure fun E ρ t' m' a w hP ha _ hR => ?_⟩
  have hv := (opd_ok hR x).1
  rw [opd_agree ha hmx, hx] at hv
  obtain ⟨xs, e1, r1⟩ := hv
  have hxl := r1.length
  have hkk := hTy.kind
  rw [hk] at hkk
  obtain ⟨F, hu, hF, _⟩ := hkk
  have g1 : (F.toList.map (fun f => (f.offset, f.type, P.cellsOf f.type)))[f]? = some (off, ft, size) := by rw [hF]; exact hf
  rw [List.getElem?_map] at g1
  cases hq : F.toList[f]? with
  | none => simp [hq] at g1
  | some fld =>
    simp [hq] at g1
    obtain ⟨g2, g3, g4⟩ := g1
    have hq' : F[f]? = some fld := by simpa using hq
    subst hsz
    have hp := run_part (P := P) (hT ft TF hft) w xs off (by omega) (fun e => by have := h1 e; simp at this; omega)
    refine ⟨_, ?_, hd _ w _ ((r1.drop off).take TF.size), fun _ h => h.elim⟩
    simp [execOp, ho, e1, Instr.field, run_underlying hu, hq', asAgg, g2, g3, hp]

theorem stepOk_index {P : Program} {o : Oper} {t : Nat → TV} {m : Id → Mem} {TT : Tab} (hT : TabOk P TT) {ty : TypeId} {T : Ty} (hty : TT ty = some T) {len e : Nat} (hk : T.kind = .arr len e) {TE : Ty} (hte : TT e = some TE) {x i : Operand} (ho : o.op = .index ty x i)
    {cs : List SV} (hx : opd t x = .d (.agg cs)) {k : IntKind} {n : Int} (hi : opd t i = .d (.one (.v (.int k n)))) (hb : 0 ≤ n ∧ n < len ∧ n.toNat * TE.size + TE.size ≤ cs.length) {K : TV → Prop} (h : dataW TE ((cs.drop (n.toNat * TE.size)).take TE.size) K) : ∃ z, K z ∧ StepOk P o t m z [] [] := by
  have hmx : x ∈ o.op.operands.toList := by rw [ho]; simp [Op.operands]
  have hmi : i ∈ o.op.operands.toList := by rw [ho]; simp [Op.operands]
  have hTy := hT ty T hty
  obtain ⟨y, hK, h1, hd⟩ := dataW_det h
  refine ⟨_, hK, stepOk_pure fun E ρ t' m' a w hP ha _ hR => ?_⟩
  have hv := (opd_ok hR x).1
  have hv2 := (opd_ok hR i).1
  rw [opd_agree ha hmx, hx] at hv
  rw [opd_agree ha hmi, hi] at hv2
  have e2 := (Rd.inv_v (show Rd _ _ _ _ from hv2)).1
  obtain ⟨xs, e1, r1⟩ := hv
  have hxl := r1.length
  have hkk : P.underlying ty = some (.array len e) := by have := hTy.kind; rw [hk] at this; exact this
  have hp := run_part (P := P) (hT e TE hte) w xs (n.toNat * TE.size) (by omega) (fun e => by have := h1 e; simp at this; omega)
  refine ⟨_, ?_, hd _ w _ ((r1.drop _).take TE.size), fun _ h => h.elim⟩
  simp [execOp, ho, e1, e2, Instr.index, asIntOf, run_underlying hkk, hb.1, hb.2.1, run_sizeOf' (hT e TE hte), hp]

theorem stepOk_indexArr {P : Program} {o : Oper} {t : Nat → TV} {m : Id → Mem} {TT : Tab} (hT : TabOk P TT) {ty : TypeId} {T : Ty} (hty : TT ty = some T) {len e : Nat} (hk : T.kind = .arr len e) {TE : Ty} (hte : TT e = some TE) {x i : Operand} (ho : o.op = .indexAddr ty x i)
    {k : IntKind} {n : Int} (hi : opd t i = .d (.one (.v (.int k n)))) (hn : 0 ≤ n ∧ n < len) :
    (∀ b p, opd t x = .ptr b p → (m b).boxy = true → StepOk P o t m (.ptr b (p + n.toNat * TE.size)) [] [b.key]) ∧
    (∀ b g r p n' k', opd t x = .ep b g r p → (m b).bldy = some (g, n', k') → StepOk P o t m (.ep b g r (p + n.toNat * TE.size)) [] [b.key]) ∧
    (∀ q cell q', opd t x = .d (.one (.ad q cell)) → q' ≤ q - n.toNat * TE.size → StepOk P o t m (.d (.one (.ad q' fun j => cell (n.toNat * TE.size + j)))) [] []) := by
  have hmx : x ∈ o.op.operands.toList := by rw [ho]; simp [Op.operands]
  have hmi : i ∈ o.op.operands.toList := by rw [ho]; simp [Op.operands]
  have hTy := hT ty T hty
  have hkk : P.underlying ty = some (.array len e) := by have := hTy.kind; rw [hk] at this; exact this
  have hexec : ∀ (a : Act) (w : World) (b p : Nat), a.eval x = .pointer (some ⟨b, p, none⟩) → a.eval i = .int k n → (execOp a.eval o).run P w = .ok (.value (.pointer (some ⟨b, p + n.toNat * TE.size, none⟩))) w := by
    intro a w b p hx hi
    simp [execOp, ho, hx, hi, Instr.indexAt, asIntOf, run_underlying hkk, Instr.sureAddr, hn.1, hn.2, run_sizeOf' (hT e TE hte), addr_add]
  refine ⟨fun b p hx hb => ?_, fun b g r p n' k' hx hb => ?_, fun q cell q' hx hq' => ?_⟩
  · refine stepOk_pure fun E ρ t' m' a w hP ha hm hR => ?_
    have h1 := (opd_ok hR x).1
    have h2 := (opd_ok hR i).1
    rw [opd_agree ha hmx, hx] at h1
    rw [opd_agree ha hmi, hi] at h2
    have e2 := (Rd.inv_v (show Rd _ _ _ _ from h2)).1
    rw [← hm.at b] at hb
    simp only [TOk] at h1
    rw [ptrOk_boxy hb] at h1
    obtain ⟨bl, c, r1, r2⟩ := h1
    exact ⟨_, hexec a w bl p r2 e2, by simp only [TOk]; rw [ptrOk_boxy hb]; exact ⟨bl, c, r1, rfl⟩, fun _ h => by cases h; intro e; rw [e] at hb; simp [Mem.boxy] at hb⟩
  · refine stepOk_pure fun E ρ t' m' a w hP ha hm hR => ?_
    have h1 := (opd_ok hR x).1
    have h2 := (opd_ok hR i).1
    rw [opd_agree ha hmx, hx] at h1
    rw [opd_agree ha hmi, hi] at h2
    have e2 := (Rd.inv_v (show Rd _ _ _ _ from h2)).1
    rw [← hm.at b] at hb
    rw [epOk_bldy hb] at h1
    obtain ⟨hin, bl, c, r1, r2⟩ := h1.2 rfl
    refine ⟨_, hexec a w bl _ r2 e2, ?_, fun _ h => by cases h; exact (live_bldy hb).2⟩
    rw [epOk_bldy hb]
    exact ⟨Nat.le_refl _, fun _ => ⟨hin, bl, c, r1, by rw [Nat.add_assoc]⟩⟩
  · refine stepOk_pure fun E ρ t' m' a w hP ha hm hR => ?_
    have h1 := (opd_ok hR x).1
    have h2 := (opd_ok hR i).1
    rw [opd_agree ha hmx, hx] at h1
    rw [opd_agree ha hmi, hi] at h2
    have e2 := (Rd.inv_v (show Rd _ _ _ _ from h2)).1
    obtain ⟨b, p, xs, r1, r2, r3, r4⟩ := Rd.inv_ad (show Rd _ _ _ _ from h1)
    refine ⟨_, hexec a w b p r1 e2, Rd.ad (fun j => xs (n.toNat * TE.size + j)) r2 (fun j hj => ?_) (fun j hj => r4 _ (by omega)), fun _ h => h.elim⟩
    rw [Nat.add_assoc]
    exact r3 _ (by omega)

theorem stepOk_indexSl {P : Program} {o : Oper} {t : Nat → TV} {m : Id → Mem} {TT : Tab} (hT : TabOk P TT) {ty : TypeId} {T : Ty} (hty : TT ty = some T) {e : Nat} (hk : T.kind = .slc e) {TE : Ty} (hte : TT e = some TE) {x i : Operand} (ho : o.op = .indexAddr ty x i)
    {kk : IntKind} {q : Int} (hi : opd t i = .d (.one (.v (.int kk q)))) :
    (∀ n k get, opd t x = .d (.one (.sl n k get)) → k = TE.size → 0 ≤ q → q < n → StepOk P o t m (.d (.one (.ad k (get q.toNat)))) [] []) ∧
    (∀ b g n k, opd t x = .hdl b g → (m b).bldy = some (g, n, k) → k = TE.size → 0 ≤ q → q < n → StepOk P o t m (.ep b g q.toNat 0) [] [b.key]) ∧
    (∀ b g lo n' n k, opd t x = .sub b g lo n' → (m b).bldy = some (g, n, k) → k = TE.size → 0 ≤ q → q < n' → StepOk P o t m (.ep b g (lo + q.toNat) 0) [] [b.key]) := by
  have hmx : x ∈ o.op.operands.toList := by rw [ho]; simp [Op.operands]
  have hmi : i ∈ o.op.operands.toList := by rw [ho]; simp [Op.operands]
  have hTy := hT ty T hty
  have hkk : P.underlying ty = some (.slice e) := by have := hTy.kind; rw [hk] at this; exact this
  have hexec : ∀ (a : Act) (w : World) (b p n c : Nat), a.eval x = .slice (some ⟨b, p, none⟩) n c → a.eval i = .int kk q → 0 ≤ q → q < n → (execOp a.eval o).run P w = .ok (.value (.pointer (some ⟨b, p + q.toNat * TE.size, none⟩))) w := by
    intro a w b p n c hx hi h0 h1
    simp [execOp, ho, hx, hi, Instr.indexAt, asIntOf, run_underlying hkk, h0, h1, run_sizeOf' (hT e TE hte), addr_add]
  refine ⟨fun n k get hx hk' h0 hn => ?_, fun b g n k hx hb hk' h0 hn => ?_, fun b g lo n' n k hx hb hk' h0 hn => ?_⟩
  · refine stepOk_pure fun E ρ t' m' a w hP ha hm hR => ?_
    have h1 := (opd_ok hR x).1
    have h2 := (opd_ok hR i).1
    rw [opd_agree ha hmx, hx] at h1
    rw [opd_agree ha hmi, hi] at h2
    have e2 := (Rd.inv_v (show Rd _ _ _ _ from h2)).1
    rcases Rd.inv_sl (show Rd _ _ _ _ from h1) with ⟨_, r0⟩ | ⟨_, _, _, r0⟩ | ⟨b, off, cap, xs, r1, r2, r3, r4, r5, r6⟩
    · omega
    · omega
    · refine ⟨_, hexec a w b off n cap r1 e2 h0 hn, Rd.ad (xs q.toNat) r2 (fun j hj => ?_) (fun j hj => r6 q.toNat (by omega) j hj), fun _ h => h.elim⟩
      rw [Nat.add_assoc, ← hk']
      exact r5 q.toNat (by omega) j hj
  · refine stepOk_pure fun E ρ t' m' a w hP ha hm hR => ?_
    have h1 := (opd_ok hR x).1
    have h2 := (opd_ok hR i).1
    rw [opd_agree ha hmx, hx] at h1
    rw [opd_agree ha hmi, hi] at h2
    have e2 := (Rd.inv_v (show Rd _ _ _ _ from h2)).1
    rw [← hm.at b] at hb
    simp only [TOk] at h1
    rw [hdlOk_bldy hb] at h1
    have h3 := h1.2.2 rfl
    rcases mem_bldy hb (hR.mem b) with ⟨_, hn0⟩ | ⟨bl, cap, arr, _, hρ, _⟩
    · omega
    · simp only [HdlAt, hρ] at h3
      refine ⟨_, hexec a w bl 0 n cap h3 e2 h0 hn, ?_, fun _ h => by cases h; exact (live_bldy hb).2⟩
      rw [epOk_bldy hb]
      exact ⟨Nat.le_refl _, fun _ => ⟨by omega, bl, cap, hρ, by rw [← hk']; simp⟩⟩
  · refine stepOk_pure fun E ρ t' m' a w hP ha hm hR => ?_
    have h1 := (opd_ok hR x).1
    have h2 := (opd_ok hR i).1
    rw [opd_agree ha hmx, hx] at h1
    rw [opd_agree ha hmi, hi] at h2
    have e2 := (Rd.inv_v (show Rd _ _ _ _ from h2)).1
    rw [← hm.at b] at hb
    simp only [TOk] at h1
    rw [subOk_bldy hb] at h1
    obtain ⟨hln, h3⟩ := h1.2.2 rfl
    rcases mem_bldy hb (hR.mem b) with ⟨_, hn0⟩ | ⟨bl, cap, arr, _, hρ, _, _, hnc, _⟩
    · omega
    · simp only [SubAt, hρ] at h3
      obtain ⟨ad, h3, h4⟩ := h3
      have h4 := h4 (.inl (by omega))
      subst h4
      refine ⟨_, hexec a w bl (lo * k) n' (cap - lo) h3 e2 h0 hn, ?_, fun _ h => by cases h; exact (live_bldy hb).2⟩
      rw [epOk_bldy hb]
      exact ⟨Nat.le_refl _, fun _ => ⟨by omega, bl, cap, hρ, by rw [← hk', Nat.add_mul, Nat.add_zero]⟩⟩

theorem stepOk_slice {P : Program} {o : Oper} {t : Nat → TV} {m : Id → Mem} {TT : Tab} (hT : TabOk P TT) {ty : TypeId} {T : Ty} (hty : TT ty = some T) {e : Nat} (hk : T.kind = .slc e) {x : Operand} {lo hi : Option Operand} (ho : o.op = .slice ty x lo hi none) {TE : Ty} (hte : TT e = some TE) {K : TV → Prop} (h : sliceW TE.size (opd t x) t lo hi K) : ∃ z, K z ∧ StepOk P o t m z [] [] := by
  have hmx : x ∈ o.op.operands.toList := by rw [ho]; simp [Op.operands]
  have hTy := hT ty T hty
  have hkk : P.underlying ty = some (.slice e) := by have := hTy.kind; rw [hk] at this; exact this
  -- the bounds, read off
  have hopt : ∀ (d : Nat) (b : Option Operand) (K : Nat → Int → Prop), (∀ y, b = some y → y ∈ o.op.operands.toList) → optW t d b K → ∃ (n : Nat) (z : Int), K n z ∧ n = z.toNat ∧ (b = none → z = d) ∧
      ∀ (E : Env) (ρ : Id → Option (Nat × Nat)) (t' : Nat → TV) (m' : Id → Mem) (a : Act) (w : World), Agree o t t' → Rel E ρ t' m' a w → ∀ y, b = some y → ∃ k, a.eval y = .int k z := by
    intro d b K hmem hb
    cases b with
    | none => exact ⟨d, d, hb, by simp, fun _ => rfl, fun _ _ _ _ _ _ _ _ y hy => by cases hy⟩
    | some y =>
      simp only [optW, boundW] at hb
      split at hb
      · rename_i k z hy
        refine ⟨z.toNat, z, hb, rfl, (fun e => by cases e), fun E ρ t' m' a w ha hR y' hy' => ?_⟩
        cases hy'
        have h1 := (opd_ok hR y).1
        rw [opd_agree ha (hmem y rfl), hy] at h1
        exact ⟨k, (Rd.inv_v (show Rd _ _ _ _ from h1)).1⟩
      · exact hb.elim
  have hmlo : ∀ y, lo = some y → y ∈ o.op.operands.toList := by intro y hy; rw [ho, hy]; simp [Op.operands]
  have hmhi : ∀ y, hi = some y → y ∈ o.op.operands.toList := by intro y hy; rw [ho, hy]; simp [Op.operands]
  unfold sliceW at h
  split at h
  · rename_i n k get hx
    replace h := bif_and h; obtain ⟨hkt, h⟩ := h
    have hkt := Nat.eq_of_beq_eq_true hkt
    obtain ⟨hh, hz, h, eh, hnh, hevh⟩ := hopt n hi _ hmhi h
    obtain ⟨ll, lz, h, el, hnl, hevl⟩ := hopt 0 lo _ hmlo h
    obtain ⟨⟨b1, b2, b3⟩, h⟩ := h
    refine ⟨_, h, stepOk_pure fun E ρ t' m' a w hP ha hm hR => ?_⟩
    have h1 := (opd_ok hR x).1
    rw [opd_agree ha hmx, hx] at h1
    have hbounds : ∀ cap, n ≤ cap → (Instr.sliceBounds true n cap (lo.map a.eval) (hi.map a.eval) none).run P w = .ok (ll, hh, cap) w := by
      intro cap hcap
      have e1 : ∀ y, hi = some y → (Instr.sliceBound (a.eval y) cap .sliceAcap).run P w = .ok hh w := by
        intro y hy
        obtain ⟨k', hk'⟩ := hevh E ρ t' m' a w ha hR y hy
        have c1 : 0 ≤ hz := by omega
        have c2 : hz ≤ (cap : Int) := by omega
        simp [Instr.sliceBound, hk', asIntOf, c1, c2, eh]
      have e2 : ∀ y, lo = some y → (Instr.sliceBound (a.eval y) hh .sliceB).run P w = .ok ll w := by
        intro y hy
        obtain ⟨k', hk'⟩ := hevl E ρ t' m' a w ha hR y hy
        have c2 : lz ≤ (hh : Int) := by omega
        simp [Instr.sliceBound, hk', asIntOf, b1, c2, el]
      cases hi with
      | none =>
        have hzn := hnh rfl
        have hhn : hh = n := by omega
        subst hhn
        cases lo with
        | none => have := hnl rfl; have : ll = 0 := by omega
                  subst this; simp [Instr.sliceBounds]
        | some y => simp [Instr.sliceBounds, e2 y rfl]
      | some yh =>
        cases lo with
        | none => have := hnl rfl; have : ll = 0 := by omega
                  subst this; simp [Instr.sliceBounds, e1 yh rfl]
        | some y => simp [Instr.sliceBounds, e1 yh rfl, e2 y rfl]
    rcases Rd.inv_sl (show Rd _ _ _ _ from h1) with ⟨r1, r0⟩ | ⟨ad, cap, r1, r0⟩ | ⟨b, off, cap, xs, r1, r2, r3, r4, r5, r6⟩
    rotate_left
    · have hb0 := hbounds cap (by omega)
      rw [r0] at hb0
      have hl0 : ll = 0 := by omega
      have hh0 : hh = 0 := by omega
      refine ⟨.slice (some ad) 0 cap, ?_, ?_, fun _ h => h.elim⟩
      · simp [execOp, ho, r1, Instr.sliceAt, Instr.slice, run_underlying hkk, hb0, run_sizeOf' (hT e TE hte), hl0, hh0, Addr.add]
      · show Rd _ _ _ _
        rw [hl0, hh0]
        exact Rd.emp ad cap k _
    rotate_left
    · have hb0 := hbounds 0 (by omega)
      rw [r0] at hb0
      have hl0 : ll = 0 := by omega
      have hh0 : hh = 0 := by omega
      refine ⟨.slice none 0 0, ?_, ?_, fun _ h => h.elim⟩
      · simp [execOp, ho, r1, Instr.sliceAt, Instr.slice, run_underlying hkk, hb0, run_sizeOf' (hT e TE hte), hl0, hh0]
      · show Rd _ _ _ _
        rw [hl0, hh0]
        exact Rd.nil k _
    · have hb0 := hbounds cap r3
      refine ⟨.slice (some ⟨b, if cap = ll then off else off + ll * TE.size, none⟩) (hh - ll) (cap - ll), ?_, ?_, fun _ h => h.elim⟩
      · simp [execOp, ho, r1, Instr.sliceAt, Instr.slice, run_underlying hkk, hb0, run_sizeOf' (hT e TE hte)]
        by_cases hc : cap = ll
        · simp [hc]
        · simp [hc, addr_add]
      · show Rd _ _ _ _
        refine Rd.sl (fun i j => xs (ll + i) j) r2 (by omega) (by omega) (fun i hi' j hj => ?_) (fun i hi' j hj => r6 (ll + i) (by omega) j hj)
        have hc : cap ≠ ll := by omega
        rw [if_neg hc, Nat.add_assoc, ← hkt, ← Nat.add_assoc (ll * k), ← Nat.add_mul]
        exact r5 (ll + i) (by omega) j hj
  · rename_i hx
    obtain ⟨hh, hz, g1, eh, hnh, hevh⟩ := hopt 0 hi _ hmhi h
    obtain ⟨ll, lz, g2, el, hnl, hevl⟩ := hopt 0 lo _ hmlo g1
    obtain ⟨⟨b1, b2⟩, g3⟩ := g2
    subst b1
    subst b2
    refine ⟨_, g3, stepOk_pure fun E ρ t' m' a w hP ha hm hR => ?_⟩
    have h1 := (opd_ok hR x).1
    rw [opd_agree ha hmx, hx] at h1
    have r1 := (Rd.inv_v (show Rd _ _ _ _ from h1)).1
    have hbounds : (Instr.sliceBounds true 0 0 (lo.map a.eval) (hi.map a.eval) none).run P w = .ok (0, 0, 0) w := by
      have e1 : ∀ y, hi = some y → (Instr.sliceBound (a.eval y) 0 .sliceAcap).run P w = .ok 0 w := by
        intro y hy
        obtain ⟨k', hk'⟩ := hevh E ρ t' m' a w ha hR y hy
        simp [Instr.sliceBound, hk', asIntOf]
      have e2 : ∀ y, lo = some y → (Instr.sliceBound (a.eval y) 0 .sliceB).run P w = .ok 0 w := by
        intro y hy
        obtain ⟨k', hk'⟩ := hevl E ρ t' m' a w ha hR y hy
        simp [Instr.sliceBound, hk', asIntOf]
      cases hi with
      | none => cases lo with
        | none => simp [Instr.sliceBounds]
        | some y => simp [Instr.sliceBounds, e2 y rfl]
      | some yh => cases lo with
        | none => simp [Instr.sliceBounds, e1 yh rfl]
        | some y => simp [Instr.sliceBounds, e1 yh rfl, e2 y rfl]
    refine ⟨.slice none 0 0, ?_, Rd.v rfl, fun _ h => h.elim⟩
    simp [execOp, ho, r1, Instr.sliceAt, Instr.slice, run_underlying hkk, hbounds, run_sizeOf' (hT e TE hte)]
  · exact h.elim

theorem bounds_run {P : Program} {w : World} {n cap : Nat} {lo hi : Option Value} {ll hh : Nat} {lz hz : Int} (el : ll = lz.toNat) (eh : hh = hz.toNat) (hlo : ∀ y, lo = some y → ∃ k, y = .int k lz) (hhi : ∀ y, hi = some y → ∃ k, y = .int k hz)
    (nlo : lo = none → lz = 0) (nhi : hi = none → hz = n) (b1 : 0 ≤ lz) (b2 : lz ≤ hz) (b3 : hz ≤ cap) : (Instr.sliceBounds true n cap lo hi none).run P w = .ok (ll, hh, cap) w := by
  have e1 : ∀ y, hi = some y → (Instr.sliceBound y cap .sliceAcap).run P w = .ok hh w := by
    intro y hy
    obtain ⟨k', hk'⟩ := hhi y hy
    have c1 : 0 ≤ hz := by omega
    simp [Instr.sliceBound, hk', asIntOf, c1, b3, eh]
  have e2 : ∀ y, lo = some y → (Instr.sliceBound y hh .sliceB).run P w = .ok ll w := by
    intro y hy
    obtain ⟨k', hk'⟩ := hlo y hy
    have c2 : lz ≤ (hh : Int) := by omega
    simp [Instr.sliceBound, hk', asIntOf, b1, c2, el]
  cases hi with
  | none =>
    have hzn := nhi rfl
    have hhn : hh = n := by omega
    subst hhn
    cases lo with
    | none => have := nlo rfl; have : ll = 0 := by omega
              subst this; simp [Instr.sliceBounds]
    | some y => simp [Instr.sliceBounds, e2 y rfl]
  | some yh =>
    cases lo with
    | none => have := nlo rfl; have : ll = 0 := by omega
              subst this; simp [Instr.sliceBounds, e1 yh rfl]
    | some y => simp [Instr.sliceBounds, e1 yh rfl, e2 y rfl]

theorem bounds3_run {P : Program} {w : World} {n cap : Nat} {lo : Option Value} {hi mx : Value} {ll : Nat} {lz hz mz : Int} (el : ll = lz.toNat) (hlo : ∀ y, lo = some y → ∃ k, y = .int k lz) (hhi : ∃ k, hi = .int k hz) (hmx : ∃ k, mx = .int k mz)
    (nlo : lo = none → lz = 0) (b1 : 0 ≤ lz) (b2 : lz ≤ hz) (b3 : hz ≤ mz) (b4 : mz ≤ cap) : (Instr.sliceBounds true n cap lo (some hi) (some mx)).run P w = .ok (ll, hz.toNat, mz.toNat) w := by
  obtain ⟨k1, rfl⟩ := hhi
  obtain ⟨k2, rfl⟩ := hmx
  have c1 : 0 ≤ hz := by omega
  have c2 : 0 ≤ mz := by omega
  have c3 : hz ≤ (mz.toNat : Int) := by omega
  have c4 : lz ≤ (hz.toNat : Int) := by omega
  cases lo with
  | none =>
    have := nlo rfl
    have : ll = 0 := by omega
    subst this
    have c3' : hz ≤ max mz 0 := by omega
    simp [Instr.sliceBounds, Instr.sliceBound, asIntOf, c1, c2, c3', b4]
  | some y =>
    obtain ⟨k3, rfl⟩ := hlo y rfl
    have c3' : hz ≤ max mz 0 := by omega
    have c4' : lz ≤ max hz 0 := by omega
    simp [Instr.sliceBounds, Instr.sliceBound, asIntOf, c1, c2, c3', c4', b1, b4, el]

theorem optW_ok {o : Oper} {t : Nat → TV} (d : Nat) (b : Option Operand) {K : Nat → Int → Prop} (hmem : ∀ y, b = some y → y ∈ o.op.operands.toList) (hb : optW t d b K) : ∃ (n : Nat) (z : Int), K n z ∧ n = z.toNat ∧ (b = none → z = d) ∧
    ∀ (E : Env) (ρ : Id → Option (Nat × Nat)) (t' : Nat → TV) (m' : Id → Mem) (a : Act) (w : World), Agree o t t' → Rel E ρ t' m' a w → ∀ y, b.map a.eval = some y → ∃ k, y = .int k z := by
  cases b with
  | none => exact ⟨d, d, hb, by simp, fun _ => rfl, fun _ _ _ _ _ _ _ _ y hy => by cases hy⟩
  | some y =>
    simp only [optW, boundW] at hb
    split at hb
    · rename_i k z hy
      refine ⟨z.toNat, z, hb, rfl, (fun e => by cases e), fun E ρ t' m' a w ha hR y' hy' => ?_⟩
      cases hy'
      have h1 := (opd_ok hR y).1
      rw [opd_agree ha (hmem y rfl), hy] at h1
      exact ⟨k, (Rd.inv_v (show Rd _ _ _ _ from h1)).1⟩
    · exact hb.elim

theorem boundW_ok {o : Oper} {t : Nat → TV} {b : Operand} {K : Nat → Int → Prop} (hmem : b ∈ o.op.operands.toList) (hb : boundW (opd t b) K) : ∃ (n : Nat) (z : Int), K n z ∧
    ∀ (E : Env) (ρ : Id → Option (Nat × Nat)) (t' : Nat → TV) (m' : Id → Mem) (a : Act) (w : World), Agree o t t' → Rel E ρ t' m' a w → ∃ k, a.eval b = .int k z := by
  unfold boundW at hb
  split at hb
  · rename_i k z hy
    refine ⟨z.toNat, z, hb, fun E ρ t' m' a w ha hR => ?_⟩
    have h1 := (opd_ok hR b).1
    rw [opd_agree ha hmem, hy] at h1
    exact ⟨k, (Rd.inv_v (show Rd _ _ _ _ from h1)).1⟩
  · exact hb.elim

/-- The header of a slice. -/
theorem lenW_ok {o : Oper} {t : Nat → TV} {m : Id → Mem} {x : Operand} (hmx : x ∈ o.op.operands.toList) {K : Nat → List Nat → Prop} (h : lenW m (opd t x) K) : ∃ n rd, K n rd ∧
    ∀ (E : Env) (ρ : Id → Option (Nat × Nat)) (t' : Nat → TV) (m' : Id → Mem) (a : Act) (w : World), Agree o t t' → Same rd m m' → Rel E ρ t' m' a w → ∃ ad cap, a.eval x = .slice ad n cap ∧ n ≤ cap ∧ (ad = none → n = 0) := by
  have hh : ∀ b g g' n k, opd t x = .hdl b g → (m b).bldy = some (g', n, k) → g = g' → ∀ (E : Env) (ρ : Id → Option (Nat × Nat)) (t' : Nat → TV) (m' : Id → Mem) (a : Act) (w : World), Agree o t t' → Same [b.key] m m' → Rel E ρ t' m' a w → ∃ ad cap, a.eval x = .slice ad n cap ∧ n ≤ cap ∧ (ad = none → n = 0) := by
    intro b g g' n k hx hb hg E ρ t' m' a w ha hm hR
    have h1 := (opd_ok hR x).1
    rw [opd_agree ha hmx, hx] at h1
    rw [← hm.at b] at hb
    simp only [TOk] at h1
    rw [hdlOk_bldy hb] at h1
    have h3 := h1.2.2 hg
    rcases mem_bldy hb (hR.mem b) with ⟨hρ, hn0⟩ | ⟨bl, cap, arr, _, hρ, _, _, hnc, _⟩
    · simp only [HdlAt, hρ] at h3
      subst hn0
      exact ⟨none, 0, h3, Nat.le_refl _, fun _ => rfl⟩
    · simp only [HdlAt, hρ] at h3
      exact ⟨_, cap, h3, hnc, fun e => by simp at e⟩
  have hs : ∀ b g g' lo n n' k, opd t x = .sub b g lo n → (m b).bldy = some (g', n', k) → g = g' → ∀ (E : Env) (ρ : Id → Option (Nat × Nat)) (t' : Nat → TV) (m' : Id → Mem) (a : Act) (w : World), Agree o t t' → Same [b.key] m m' → Rel E ρ t' m' a w → ∃ ad cap, a.eval x = .slice ad n cap ∧ n ≤ cap ∧ (ad = none → n = 0) := by
    intro b g g' lo n n' k hx hb hg E ρ t' m' a w ha hm hR
    have h1 := (opd_ok hR x).1
    rw [opd_agree ha hmx, hx] at h1
    rw [← hm.at b] at hb
    simp only [TOk] at h1
    rw [subOk_bldy hb] at h1
    obtain ⟨h2, h3⟩ := h1.2.2 hg
    rcases mem_bldy hb (hR.mem b) with ⟨hρ, hn0⟩ | ⟨bl, cap, arr, _, hρ, _, _, hnc, _⟩
    · simp only [SubAt, hρ] at h3
      have : n = 0 := by omega
      subst this
      exact ⟨none, 0, h3, Nat.le_refl _, fun _ => rfl⟩
    · simp only [SubAt, hρ] at h3
      obtain ⟨ad, h3, _⟩ := h3
      exact ⟨_, _, h3, by omega, fun e => by simp at e⟩
  unfold lenW at h
  split at h
  · rename_i n k get hx
    refine ⟨_, _, h, fun E ρ t' m' a w ha _ hR => ?_⟩
    have h1 := (opd_ok hR x).1
    rw [opd_agree ha hmx, hx] at h1
    rcases Rd.inv_sl (show Rd _ _ _ _ from h1) with ⟨r1, r0⟩ | ⟨ad, cap, r1, r0⟩ | ⟨b, off, cap, xs, r1, r2, r3, _⟩
    · subst r0; exact ⟨none, 0, r1, Nat.le_refl _, fun _ => rfl⟩
    · subst r0; exact ⟨some ad, cap, r1, Nat.zero_le _, fun _ => rfl⟩
    · exact ⟨_, cap, r1, r3, fun e => by simp at e⟩
  · rename_i hx
    refine ⟨_, _, h, fun E ρ t' m' a w ha _ hR => ?_⟩
    have h1 := (opd_ok hR x).1
    rw [opd_agree ha hmx, hx] at h1
    exact ⟨none, 0, (Rd.inv_v (show Rd _ _ _ _ from h1)).1, Nat.le_refl _, fun _ => rfl⟩
  · rename_i b g hx
    replace h := lookW_iff h
    split at h
    · rename_i g' n k e get hb
      replace h := bif_and h; obtain ⟨hk, h⟩ := h
      exact ⟨_, _, h, hh b g g' n k hx (by rw [hb]; rfl) (Nat.eq_of_beq_eq_true hk)⟩
    · rename_i g' n k e get hb
      replace h := bif_and h; obtain ⟨hk, h⟩ := h
      exact ⟨_, _, h, hh b g g' n k hx (by rw [hb]; rfl) (Nat.eq_of_beq_eq_true hk)⟩
    · exact h.elim
  · rename_i b g lo n hx
    replace h := lookW_iff h
    split at h
    · rename_i g' n' k e get hb
      replace h := bif_and h; obtain ⟨hk, h⟩ := h
      exact ⟨_, _, h, hs b g g' lo n n' k hx (by rw [hb]; rfl) (Nat.eq_of_beq_eq_true hk)⟩
    · rename_i g' n' k e get hb
      replace h := bif_and h; obtain ⟨hk, h⟩ := h
      exact ⟨_, _, h, hs b g g' lo n n' k hx (by rw [hb]; rfl) (Nat.eq_of_beq_eq_true hk)⟩
    · exact h.elim
  · exact h.elim

theorem stepOk_slice3 {P : Program} {o : Oper} {t : Nat → TV} {m : Id → Mem} {TT : Tab} (hT : TabOk P TT) {ty : TypeId} {T : Ty} (hty : TT ty = some T) {e : Nat} (hk : T.kind = .slc e) {TE : Ty} (hte : TT e = some TE) {x hi mx : Operand} {lo : Option Operand} (ho : o.op = .slice ty x lo (some hi) (some mx)) {K : Kont}
    (h : lenW m (opd t x) fun n rd => optW t 0 lo fun _ lI => boundW (opd t hi) fun _ hI => boundW (opd t mx) fun _ mI => Need (0 ≤ lI ∧ lI ≤ hI ∧ hI ≤ mI ∧ mI ≤ n) (K .any [] rd)) : ∃ z mo rd, K z mo rd ∧ StepOk P o t m z mo rd := by
  have hmx : x ∈ o.op.operands.toList := by rw [ho]; simp [Op.operands]
  have hkk : P.underlying ty = some (.slice e) := by have := (hT ty T hty).kind; rw [hk] at this; exact this
  obtain ⟨n, rd, h, hlen⟩ := lenW_ok hmx h
  obtain ⟨ll, lz, h, el, hnl, hevl⟩ := optW_ok (o := o) 0 lo (by intro y hy; rw [ho, hy]; simp [Op.operands]) h
  obtain ⟨hh, hz, h, hevh⟩ := boundW_ok (o := o) (by rw [ho]; simp [Op.operands]) h
  obtain ⟨mm, mz, h, hevm⟩ := boundW_ok (o := o) (by rw [ho]; simp [Op.operands]) h
  obtain ⟨⟨b1, b2, b3, b4⟩, h⟩ := h
  refine ⟨_, _, _, h, stepOk_pure fun E ρ t' m' a w hP ha hm hR => ?_⟩
  obtain ⟨ad, cap, e1, hnc, _⟩ := hlen E ρ t' m' a w ha hm hR
  have hb := bounds3_run (P := P) (w := w) (n := n) (cap := cap) (lo := lo.map a.eval) (hi := a.eval hi) (mx := a.eval mx) el (hevl E ρ t' m' a w ha hR) (hevh E ρ t' m' a w ha hR) (hevm E ρ t' m' a w ha hR) (fun e => by cases lo with | none => exact hnl rfl | some y => cases e) b1 b2 b3 (by omega)
  refine ⟨.slice (if mz.toNat = ll then ad else ad.map (·.add (ll * TE.size))) (hz.toNat - ll) (mz.toNat - ll), ?_, trivial, fun _ h => h.elim⟩
  simp [execOp, ho, e1, Instr.sliceAt, Instr.slice, run_underlying hkk, hb, run_sizeOf' (hT e TE hte)]

theorem run_equalIn_nil {P : Program} (w : World) (d : Nat) {ty e : TypeId} (hkk : P.underlying ty = some (.slice e)) (ad : Option Addr) (n cap : Nat) : (Op.equalIn (d + 1) ty (.slice ad n cap) (.slice none 0 0)).run P w = .ok ad.isNone w := by
  cases ad with
  | none => simp [Op.equalIn, run_underlying hkk]
  | some ad => simp [Op.equalIn, run_underlying hkk]

/-- A slice is compared with nil. -/
theorem stepOk_eqNil {P : Program} {o : Oper} {t : Nat → TV} {m : Id → Mem} {TT : Tab} (hT : TabOk P TT) {ty ty' : TypeId} {T : Ty} (hty : TT ty = some T) {e : Nat} (hk : T.kind = .slc e) {op : BinOp} {x y : Operand} (ho : o.op = .binOp op ty x y ty') (hy : opd t y = .d (.one (.v (.slice none 0 0)))) {neg : Bool} (hop : (op = .eql ∧ neg = false) ∨ (op = .neq ∧ neg = true)) {K : Kont}
    (h : lenW m (opd t x) fun n rd => K (.nb n neg) [] rd) : ∃ z mo rd, K z mo rd ∧ StepOk P o t m z mo rd := by
  have hmx : x ∈ o.op.operands.toList := by rw [ho]; simp [Op.operands]
  have hmy : y ∈ o.op.operands.toList := by rw [ho]; simp [Op.operands]
  have hkk : P.underlying ty = some (.slice e) := by have := (hT ty T hty).kind; rw [hk] at this; exact this
  obtain ⟨n, rd, h, hlen⟩ := lenW_ok hmx h
  refine ⟨_, _, _, h, stepOk_pure fun E ρ t' m' a w hP ha hm hR => ?_⟩
  obtain ⟨ad, cap, e1, hnc, hnil⟩ := hlen E ρ t' m' a w ha hm hR
  have h2 := (opd_ok hR y).1
  rw [opd_agree ha hmy, hy] at h2
  have e2 := (Rd.inv_v (show Rd _ _ _ _ from h2)).1
  have hr : (Op.equal ty (.slice ad n cap) (.slice none 0 0)).run P w = .ok ad.isNone w := by
    unfold Op.equal Op.maxDepth
    exact run_equalIn_nil w 9999 hkk ad n cap
  refine ⟨.bool (ad.isNone != neg), ?_, ⟨ad.isNone, rfl, fun hq => hnil (by simpa using hq)⟩, fun _ h => h.elim⟩
  rcases hop with ⟨rfl, rfl⟩ | ⟨rfl, rfl⟩
  · simp [execOp, ho, e1, e2, eqGuard, binOp, hr]
  · simp [execOp, ho, e1, e2, eqGuard, binOp, hr]

theorem stepOk_notNb {P : Program} {o : Oper} {t : Nat → TV} {m : Id → Mem} {ty : TypeId} {x : Operand} (ho : o.op = .unOp .not ty x) {n : Nat} {neg : Bool} (hx : opd t x = .nb n neg) : StepOk P o t m (.nb n (!neg)) [] [] := by
  have hmx : x ∈ o.op.operands.toList := by rw [ho]; simp [Op.operands]
  refine stepOk_pure fun E ρ t' m' a w hP ha hm hR => ?_
  have h1 := (opd_ok hR x).1
  rw [opd_agree ha hmx, hx] at h1
  obtain ⟨b, e1, e2⟩ := h1
  refine ⟨.bool (b != !neg), ?_, ⟨b, rfl, e2⟩, fun _ h => h.elim⟩
  simp [execOp, ho, e1, Op.unary]

/-- Some elements of a slice that is being made. -/
theorem stepOk_sliceR {P : Program} {o : Oper} {t : Nat → TV} {m : Id → Mem} {TT : Tab} (hT : TabOk P TT) {ty : TypeId} {T : Ty} (hty : TT ty = some T) {e : Nat} (hk : T.kind = .slc e) {TE : Ty} (hte : TT e = some TE) {x : Operand} {lo hi : Option Operand} (ho : o.op = .slice ty x lo hi none) {b : Id} {g lo0 n0 : Nat}
    (hx : (opd t x = .hdl b g ∧ lo0 = 0 ∧ ∃ n, (m b).bldy.map (·.2.1) = some n ∧ n0 = n) ∨ opd t x = .sub b g lo0 n0) {K : Kont} (h : sliceR TE.size m b g lo0 n0 t lo hi K) : ∃ z mo rd, K z mo rd ∧ StepOk P o t m z mo rd := by
  have hmx : x ∈ o.op.operands.toList := by rw [ho]; simp [Op.operands]
  have hkk : P.underlying ty = some (.slice e) := by have := (hT ty T hty).kind; rw [hk] at this; exact this
  unfold sliceR at h
  replace h := lookW_iff h
  split at h
  · rename_i g' n k e' get hb
    replace h := bif_and h; obtain ⟨hq, h⟩ := h
    simp only [Bool.and_eq_true] at hq
    obtain rfl := Nat.eq_of_beq_eq_true hq.1
    obtain rfl := Nat.eq_of_beq_eq_true hq.2
    obtain ⟨hh, hz, h, eh, hnh, hevh⟩ := optW_ok (o := o) n0 hi (by intro y hy; rw [ho, hy]; simp [Op.operands]) h
    obtain ⟨ll, lz, h, el, hnl, hevl⟩ := optW_ok (o := o) 0 lo (by intro y hy; rw [ho, hy]; simp [Op.operands]) h
    obtain ⟨⟨b1, b2, b3⟩, h⟩ := h
    -- the header, and what comes of it
    have hdr : ∀ E ρ t' m' a w, Agree o t t' → Same [b.key] m m' → Rel E ρ t' m' a w → (ρ b = none ∧ n = 0 ∧ (execOp a.eval o).run P w = .ok (.value (.slice none 0 0)) w) ∨
        ∃ bl cap ad, ρ b = some (bl, cap) ∧ n ≤ cap ∧ (execOp a.eval o).run P w = .ok (.value (.slice (some ad) (hh - ll) (cap - (lo0 + ll)))) w ∧ (lo0 + ll < cap ∨ lo0 + ll = 0 → ad = ⟨bl, (lo0 + ll) * TE.size, none⟩) := by
      intro E ρ t' m' a w ha hm hR
      have h1 := (opd_ok hR x).1
      rw [opd_agree ha hmx] at h1
      have hb' : m' b = .bld g n TE.size e' get := by rw [hm.at b]; exact hb
      have hby : (m' b).bldy = some (g, n, TE.size) := by rw [hb']; rfl
      have hcase : (ρ b = none ∧ n = 0 ∧ a.eval x = .slice none 0 0 ∧ n0 = 0) ∨ ∃ bl cap ad, ρ b = some (bl, cap) ∧ n ≤ cap ∧ a.eval x = .slice (some ad) n0 (cap - lo0) ∧ (lo0 < cap ∨ lo0 = 0 → ad = ⟨bl, lo0 * TE.size, none⟩) ∧ lo0 ≤ cap := by
        rcases hx with ⟨hx, rfl, n', hn', rfl⟩ | hx
        · rw [hb] at hn'
          obtain rfl : n = n0 := by simpa [Mem.bldy] using hn'
          rw [hx] at h1
          simp only [TOk] at h1
          rw [hdlOk_bldy hby] at h1
          have h3 := h1.2.2 rfl
          rcases mem_bldy hby (hR.mem b) with ⟨hρ, hn0⟩ | ⟨bl, cap, arr, _, hρ, _, _, hnc, _⟩
          · simp only [HdlAt, hρ] at h3
            subst hn0
            exact .inl ⟨hρ, rfl, h3, rfl⟩
          · simp only [HdlAt, hρ] at h3
            exact .inr ⟨bl, cap, _, hρ, hnc, h3, fun _ => by simp, Nat.zero_le _⟩
        · rw [hx] at h1
          simp only [TOk] at h1
          rw [subOk_bldy hby] at h1
          obtain ⟨hln, h3⟩ := h1.2.2 rfl
          rcases mem_bldy hby (hR.mem b) with ⟨hρ, hn0⟩ | ⟨bl, cap, arr, _, hρ, _, _, hnc, _⟩
          · simp only [SubAt, hρ] at h3
            exact .inl ⟨hρ, hn0, h3, by omega⟩
          · simp only [SubAt, hρ] at h3
            obtain ⟨ad, h3, h4⟩ := h3
            exact .inr ⟨bl, cap, ad, hρ, hnc, h3, h4, by omega⟩
      rcases hcase with ⟨hρ, hn0, hval, h00⟩ | ⟨bl, cap, ad, hρ, hnc, hval, had, hlc⟩
      · refine .inl ⟨hρ, hn0, ?_⟩
        have hrun := bounds_run (P := P) (w := w) (n := n0) (cap := 0) (lo := lo.map a.eval) (hi := hi.map a.eval) el eh (hevl E ρ t' m' a w ha hR) (hevh E ρ t' m' a w ha hR) (fun e => by cases lo with | none => exact hnl rfl | some y => cases e) (fun e => by cases hi with | none => exact hnh rfl | some y => cases e) b1 b2 (by omega)
        have hl0 : ll = 0 := by omega
        have hh0 : hh = 0 := by omega
        rw [h00] at hrun
        simp [execOp, ho, hval, Instr.sliceAt, Instr.slice, run_underlying hkk, hrun, run_sizeOf' (hT e TE hte), hl0, hh0]
      · have hrun := bounds_run (P := P) (w := w) (n := n0) (cap := cap - lo0) (lo := lo.map a.eval) (hi := hi.map a.eval) el eh (hevl E ρ t' m' a w ha hR) (hevh E ρ t' m' a w ha hR) (fun e => by cases lo with | none => exact hnl rfl | some y => cases e) (fun e => by cases hi with | none => exact hnh rfl | some y => cases e) b1 b2 (by omega)
        refine .inr ⟨bl, cap, if cap - lo0 = ll then ad else ad.add (ll * TE.size), hρ, hnc, ?_, fun hc => ?_⟩
        · simp only [execOp, ho, hval, Instr.sliceAt, Instr.slice, Sem.run_bind, run_underlying hkk, Result.andThen_ok, Option.map_none, hrun, run_sizeOf' (hT e TE hte), Sem.run_pure, Option.map_some]
          rw [show cap - lo0 - ll = cap - (lo0 + ll) by omega]
          by_cases hc : cap - lo0 = ll <;> simp [hc]
        · by_cases hcl : cap - lo0 = ll
          · rw [if_pos hcl]
            have hz0 : lo0 + ll = 0 := by omega
            have : lo0 = 0 := by omega
            have hl0 : ll = 0 := by omega
            rw [had (.inr this), hl0, Nat.add_zero]
          · rw [if_neg hcl, had (by omega), addr_add, Nat.add_mul]
    rcases h.h with h | ⟨h0, h⟩
    · refine ⟨_, _, _, h, stepOk_pure fun E ρ t' m' a w hP ha hm hR => ?_⟩
      have hb' : m' b = .bld g n TE.size e' get := by rw [hm.at b]; exact hb
      have hby : (m' b).bldy = some (g, n, TE.size) := by rw [hb']; rfl
      have hle : lo0 + ll + (hh - ll) ≤ n := by omega
      rcases hdr E ρ t' m' a w ha hm hR with ⟨hρ, hn0, hrun⟩ | ⟨bl, cap, ad, hρ, hnc, hrun, had⟩
      · refine ⟨_, hrun, ?_, fun _ h => by cases h; rw [hb']; simp⟩
        simp only [TOk]
        rw [subOk_bldy hby]
        refine ⟨rfl, Nat.le_refl _, fun _ => ⟨hle, ?_⟩⟩
        simp only [SubAt, hρ]
      · refine ⟨_, hrun, ?_, fun _ h => by cases h; rw [hb']; simp⟩
        simp only [TOk]
        rw [subOk_bldy hby]
        refine ⟨rfl, Nat.le_refl _, fun _ => ⟨hle, ?_⟩⟩
        simp only [SubAt, hρ]
        exact ⟨ad, rfl, had⟩
    · refine ⟨_, _, _, h, stepOk_mem fun E ρ t' m' a w hP ha hm hd hR => ?_⟩
      have hb' : m' b = .bld g n TE.size e' get := by rw [hm.at b]; exact hb
      have hby : (m' b).bldy = some (g, n, TE.size) := by rw [hb']; rfl
      have hnew : (Mem.bld (g + 2) hh TE.size e' get).bldy = some (g + 2, hh, TE.size) := rfl
      have hl0 : ll = 0 := by omega
      have hlo0 : lo0 = 0 := by omega
      have hR' := hR.regen hby (nm := .bld (g + 2) hh TE.size e' get) hnew (by omega) (by omega) (fun _ h => h.elim) (fun _ hL => by
        have hmo := hR.mem b
        rw [hb'] at hmo
        rcases hmo with ⟨h1, h2⟩ | ⟨bl, cap, arr, h1, h2, h3, h4, h5, h6⟩
        · exact .inl ⟨h1, by omega⟩
        · refine .inr ⟨bl, cap, arr, h1, h2, h3, by omega, h5, fun i hi j hj => ?_⟩
          obtain ⟨x, hx, hr⟩ := h6 i (by omega) j hj
          exact ⟨x, hx, hr.mono (fun b hb => ⟨hL b hb, rfl⟩)⟩)
      have hok : ∀ v, v.oneCell' = true → HdlAt ρ v b hh → TOk E (upd m' b (.bld (g + 2) hh TE.size e' get)) ρ w v (.hdl b (g + 2)) := fun v h1 h2 => by
        simp only [TOk]
        rw [hdlOk_bldy (by rw [upd_same]; exact hnew)]
        exact ⟨h1, Nat.le_refl _, fun _ => h2⟩
      have hcl : ∀ b', (TV.hdl b (g + 2)).refs b' → upd m' b (.bld (g + 2) hh TE.size e' get) b' ≠ .none := fun b' hb' => by cases hb'; rw [upd_same]; simp
      rcases hdr E ρ t' m' a w ha hm hR with ⟨hρ, hn0, hrun⟩ | ⟨bl, cap, ad, hρ, hnc, hrun, had⟩
      · exact ⟨_, _, _, _, hrun, .inl rfl, hR', hok _ rfl (by simp only [HdlAt, hρ]), hcl⟩
      · refine ⟨_, _, _, _, hrun, .inl rfl, hR', hok _ rfl ?_, hcl⟩
        simp only [HdlAt, hρ]
        rw [had (.inr h0), hl0, hlo0]
        simp
  · exact h.elim

theorem minW_ok {P : Program} : ∀ (l : List TV) (k : IntKind) (x : Int) (K : Int → Prop), minW k x l K →
    ∃ n, K n ∧ ∀ (E : Env) (m : Id → Mem) (ρ : Id → Option (Nat × Nat)) (w : World) (vs : List Value), vs.length = l.length → (∀ (i : Nat) (v : Value) (tv : TV), vs[i]? = some v → l[i]? = some tv → TOk E m ρ w v tv) →
      ∀ w', (vs.foldlM Builtin.min2 (.int k x)).run P w' = .ok (.int k n) w'
  | [], k, x, K, h => ⟨x, h, fun E m ρ w vs hl _ w' => by
      obtain rfl : vs = [] := List.eq_nil_of_length_eq_zero hl
      simp⟩
  | y :: r, k, x, K, h => by
    simp only [minW] at h
    split at h
    · rename_i k' y'
      obtain ⟨n, h1, h2⟩ := minW_ok (P := P) r k _ K h
      refine ⟨n, h1, fun E m ρ w vs hl hv w' => ?_⟩
      match vs, hl, hv with
      | v :: vs, hl, hv =>
        have h0 := hv 0 v _ rfl rfl
        have e0 := (Rd.inv_v (show Rd _ _ _ _ from h0)).1
        have h3 := h2 E m ρ w vs (by simpa using hl) (fun i v tv a b => hv (i + 1) v tv (by simpa using a) (by simpa using b)) w'
        simp [List.foldlM_cons, e0, Builtin.min2, h3]
    · exact h.elim

theorem maxW_ok {P : Program} : ∀ (l : List TV) (k : IntKind) (x : Int) (K : Int → Prop), maxW k x l K →
    ∃ n, K n ∧ ∀ (E : Env) (m : Id → Mem) (ρ : Id → Option (Nat × Nat)) (w : World) (vs : List Value), vs.length = l.length → (∀ (i : Nat) (v : Value) (tv : TV), vs[i]? = some v → l[i]? = some tv → TOk E m ρ w v tv) →
      ∀ w', (vs.foldlM Builtin.max2 (.int k x)).run P w' = .ok (.int k n) w'
  | [], k, x, K, h => ⟨x, h, fun E m ρ w vs hl _ w' => by
      obtain rfl : vs = [] := List.eq_nil_of_length_eq_zero hl
      simp⟩
  | y :: r, k, x, K, h => by
    simp only [maxW] at h
    split at h
    · rename_i k' y'
      obtain ⟨n, h1, h2⟩ := maxW_ok (P := P) r k _ K h
      refine ⟨n, h1, fun E m ρ w vs hl hv w' => ?_⟩
      match vs, hl, hv with
      | v :: vs, hl, hv =>
        have h0 := hv 0 v _ rfl rfl
        have e0 := (Rd.inv_v (show Rd _ _ _ _ from h0)).1
        have h3 := h2 E m ρ w vs (by simpa using hl) (fun i v tv a b => hv (i + 1) v tv (by simpa using a) (by simpa using b)) w'
        simp only [gt_iff_lt] at h3
        simp [List.foldlM_cons, e0, Builtin.max2, h3]
    · exact h.elim

end Go.Vm
