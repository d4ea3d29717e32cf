/-
  An abstract walk over Go's operations: arithmetic, comparisons, addresses, parts.
-/
import Derived.Test.YtbhjhbmdgdnbeaaVmE
namespace Go.Vm
open Go Go.RowKit

theorem binW_ok {P : Program} {o : Oper} {t : Nat → TV} {m : Nat → Mem} {op : BinOp} {ty ty' : TypeId} {x y : Operand} (ho : o.op = .binOp op ty x y ty') {K : TV → Prop} (h : binW op (opd t x) (opd t y) K) :
    ∃ z, K z ∧ StepOk P o t m z [] [] := by
  have hmx : x ∈ o.op.operands.toList := by rw [ho]; simp [Op.operands]
  have hmy : y ∈ o.op.operands.toList := by rw [ho]; simp [Op.operands]
  have key : ∀ (u v : Value) (r : Value), opd t x = .d (.one (.v u)) → opd t y = .d (.one (.v v)) → r.oneCell' = true → (∀ (w : World), ((do eqGuard op ty x y u v; binOp op ty u v : Sem Value)).run P w = .ok r w) → StepOk P o t m (.d (.one (.v r))) [] [] := by
    intro u v r hx hy hr hrun
    refine stepOk_pure fun E ρ t' m' a w hP ha _ hR => ?_
    have h1 := (opd_ok hR x).1
    have h2 := (opd_ok hR y).1
    rw [opd_agree ha hmx, hx] at h1
    rw [opd_agree ha hmy, hy] at h2
    have e1 := (Rd.inv_v (show Rd _ _ _ _ from h1)).1
    have e2 := (Rd.inv_v (show Rd _ _ _ _ from h2)).1
    refine ⟨r, ?_, Rd.v hr, fun _ h => h.elim⟩
    have := hrun w
    simp only [execOp, ho, e1, e2]
    rw [Sem.run_bind, this]
    rfl
  unfold binW at h
  split at h
  · rename_i k a hx
    split at h
    · rename_i k' b hy
      replace h := bif_and h; obtain ⟨hkk, h⟩ := h
      obtain rfl := kNum_inj hkk
      have hg : ∀ (w : World), (eqGuard op ty x y (.int k a) (.int k b)).run P w = .ok () w := by
        intro w
        cases op <;> simp [eqGuard]
      cases op with
      | add => exact ⟨_, h, key _ _ _ hx hy rfl (fun w => by simp [hg w, binOp, Op.intArith])⟩
      | sub => exact ⟨_, h, key _ _ _ hx hy rfl (fun w => by simp [hg w, binOp, Op.intArith])⟩
      | mul => exact ⟨_, h, key _ _ _ hx hy rfl (fun w => by simp [hg w, binOp, Op.intArith])⟩
      | quo =>
        obtain ⟨hne, h⟩ := h
        exact ⟨_, h, key _ _ _ hx hy rfl (fun w => by simp [hg w, binOp, Op.intDiv, hne])⟩
      | rem =>
        obtain ⟨hne, h⟩ := h
        exact ⟨_, h, key _ _ _ hx hy rfl (fun w => by simp [hg w, binOp, Op.intDiv, hne])⟩
      | eql => exact ⟨_, h, key _ _ _ hx hy rfl (fun w => by simp [hg w, binOp, Op.intCmp])⟩
      | neq => exact ⟨_, h, key _ _ _ hx hy rfl (fun w => by simp [hg w, binOp, Op.intCmp])⟩
      | lss => exact ⟨_, h, key _ _ _ hx hy rfl (fun w => by simp [hg w, binOp, Op.intCmp])⟩
      | leq => exact ⟨_, h, key _ _ _ hx hy rfl (fun w => by simp [hg w, binOp, Op.intCmp])⟩
      | gtr => exact ⟨_, h, key _ _ _ hx hy rfl (fun w => by simp [hg w, binOp, Op.intCmp])⟩
      | geq => exact ⟨_, h, key _ _ _ hx hy rfl (fun w => by simp [hg w, binOp, Op.intCmp])⟩
      | _ => exact h.elim
    · exact h.elim
  · rename_i a hx
    split at h
    · rename_i b hy
      have hg : ∀ (w : World), (eqGuard op ty x y (.string a) (.string b)).run P w = .ok () w := by
        intro w
        cases op <;> simp [eqGuard]
      cases op with
      | eql => exact ⟨_, h, key _ _ _ hx hy rfl (fun w => by simp [hg w, binOp, Op.stringOp])⟩
      | neq => exact ⟨_, h, key _ _ _ hx hy rfl (fun w => by simp [hg w, binOp, Op.stringOp])⟩
      | _ => exact h.elim
    · exact h.elim
  · exact h.elim

theorem eqW_ok {P : Program} {o : Oper} {t : Nat → TV} {m : Nat → Mem} {op : BinOp} {ty ty' : TypeId} {x y : Operand} (ho : o.op = .binOp op ty x y ty') {xs ys : List SV} (hx : opd t x = .d (.agg xs)) (hy : opd t y = .d (.agg ys)) {b : Bool} (h : EqFact P ty xs ys b) :
    (op = .eql → StepOk P o t m (tbool b) [] []) ∧ (op = .neq → StepOk P o t m (tbool (!b)) [] []) := by
  have hmx : x ∈ o.op.operands.toList := by rw [ho]; simp [Op.operands]
  have hmy : y ∈ o.op.operands.toList := by rw [ho]; simp [Op.operands]
  obtain ⟨hgd, hrun⟩ := h
  have key : ∀ (b' : Bool), ((op = .eql ∧ b' = b) ∨ (op = .neq ∧ b' = !b)) → StepOk P o t m (tbool b') [] [] := by
    intro b' hb
    refine stepOk_pure fun E ρ t' m' a w hP ha _ hR => ?_
    have h1 := (opd_ok hR x).1
    have h2 := (opd_ok hR y).1
    rw [opd_agree ha hmx, hx] at h1
    rw [opd_agree ha hmy, hy] at h2
    obtain ⟨us, e1, r1⟩ := h1
    obtain ⟨vs, e2, r2⟩ := h2
    refine ⟨.bool b', ?_, Rd.v rfl, fun _ h => h.elim⟩
    have hr := hrun _ w us vs r1 r2
    rcases hb with ⟨rfl, rfl⟩ | ⟨rfl, rfl⟩
    · simp [execOp, ho, e1, e2, eqGuard, hgd, binOp, hr]
    · simp [execOp, ho, e1, e2, eqGuard, hgd, binOp, hr]
  exact ⟨fun e => key b (.inl ⟨e, rfl⟩), fun e => key (!b) (.inr ⟨e, rfl⟩)⟩

theorem eqBool_ok {P : Program} {o : Oper} {t : Nat → TV} {m : Nat → Mem} {op : BinOp} {ty ty' : TypeId} {x y : Operand} (ho : o.op = .binOp op ty x y ty') {p q : Bool} (hx : opd t x = tbool p) (hy : opd t y = tbool q) (hu : P.underlying ty = some .bool) :
    (op = .eql → StepOk P o t m (tbool (p == q)) [] []) ∧ (op = .neq → StepOk P o t m (tbool (!(p == q))) [] []) := by
  have hmx : x ∈ o.op.operands.toList := by rw [ho]; simp [Op.operands]
  have hmy : y ∈ o.op.operands.toList := by rw [ho]; simp [Op.operands]
  have key : ∀ (b' : Bool), ((op = .eql ∧ b' = (p == q)) ∨ (op = .neq ∧ b' = !(p == q))) → StepOk P o t m (tbool b') [] [] := by
    intro b' hb
    refine stepOk_pure fun E ρ t' m' a w hP ha _ hR => ?_
    have h1 := (opd_ok hR x).1
    have h2 := (opd_ok hR y).1
    rw [opd_agree ha hmx, hx] at h1
    rw [opd_agree ha hmy, hy] at h2
    have e1 := (Rd.inv_v (show Rd _ _ _ _ from h1)).1
    have e2 := (Rd.inv_v (show Rd _ _ _ _ from h2)).1
    refine ⟨.bool b', ?_, Rd.v rfl, fun _ h => h.elim⟩
    have hr : (Op.equal ty (.bool p) (.bool q)).run P w = .ok (p == q) w := by
      unfold Op.equal Op.maxDepth
      exact run_equalIn_bool w 9999 ty p q hu
    rcases hb with ⟨rfl, rfl⟩ | ⟨rfl, rfl⟩
    · simp [execOp, ho, e1, e2, eqGuard, binOp, hr]
    · simp [execOp, ho, e1, e2, eqGuard, binOp, hr]
  exact ⟨fun e => key _ (.inl ⟨e, rfl⟩), fun e => key _ (.inr ⟨e, rfl⟩)⟩

/-- A step whose one operand is a very value, and whose run is known. -/
theorem stepOk_un {P : Program} {o : Oper} {t : Nat → TV} {m : Nat → Mem} {x : Operand} (hm : x ∈ o.op.operands.toList) {u r : Value} (hx : opd t x = .d (.one (.v u))) (hr : r.oneCell' = true)
    (hrun : ∀ (a : Act) (w : World), a.eval x = u → (execOp a.eval o).run P w = .ok (.value r) w) : StepOk P o t m (.d (.one (.v r))) [] [] := by
  refine stepOk_pure fun E ρ t' m' a w hP ha _ hR => ?_
  have h1 := (opd_ok hR x).1
  rw [opd_agree ha hm, hx] at h1
  have e1 := (Rd.inv_v (show Rd _ _ _ _ from h1)).1
  exact ⟨r, hrun a w e1, Rd.v hr, fun _ h => h.elim⟩

theorem stepOk_move {P : Program} {o : Oper} {t : Nat → TV} {m : Nat → Mem} {x : Operand} (ho : o.op = .move x ∨ o.op = .assign x) : StepOk P o t m (opd t x) [] [] := by
  refine stepOk_pure fun E ρ t' m' a w hP ha _ hR => ?_
  have h1 := opd_ok hR x
  rw [opd_agree ha (by rcases ho with ho | ho <;> rw [ho] <;> simp [Op.operands])] at h1
  refine ⟨a.eval x, ?_, h1⟩
  rcases ho with ho | ho <;> simp [execOp, ho]

theorem stepOk_pick {P : Program} {o : Oper} {t : Nat → TV} {m : Nat → Mem} {c x y : Operand} (ho : o.op = .pick c x y) {q : Bool} (hc : opd t c = tbool q) : StepOk P o t m (bif q then opd t x else opd t y) [] [] := by
  refine stepOk_pure fun E ρ t' m' a w hP ha _ hR => ?_
  have h1 := (opd_ok hR c).1
  rw [opd_agree ha (by rw [ho]; simp [Op.operands]), hc] at h1
  have e1 := (Rd.inv_v (show Rd _ _ _ _ from h1)).1
  have hx := opd_ok hR x
  have hy := opd_ok hR y
  rw [opd_agree ha (by rw [ho]; simp [Op.operands])] at hx hy
  refine ⟨if q then a.eval x else a.eval y, ?_, ?_⟩
  · simp [execOp, ho, e1, asBool]
  · cases q
    · exact hy
    · exact hx

theorem addr_add (b off n : Nat) : (⟨b, off, none⟩ : Addr).add n = ⟨b, off + n, none⟩ := by
  unfold Addr.add; split <;> simp_all

theorem stepOk_extract {P : Program} {o : Oper} {t : Nat → TV} {m : Nat → Mem} {x : Operand} {i : Nat} (ho : o.op = .extract x i) {xs : List DV} (hx : opd t x = .tup xs) {v : DV} (hv : xs[i]? = some v) : StepOk P o t m (.d v) [] [] := by
  refine stepOk_pure fun E ρ t' m' a w hP ha _ hR => ?_
  have h1 := (opd_ok hR x).1
  rw [opd_agree ha (by rw [ho]; simp [Op.operands]), hx] at h1
  obtain ⟨us, e1, r1⟩ := h1
  obtain ⟨u, hu, hr⟩ := r1.get i v hv
  exact ⟨u, by simp [execOp, ho, e1, Instr.extract, hu], hr, fun _ h => h.elim⟩

theorem run_fieldPlace {P : Program} {w : World} (b off : Nat) (f : Field) (h : 0 < P.cellsOf f.type) : (fieldPlace ⟨b, off, none⟩ f).run P w = .ok ⟨b, off + f.offset, none⟩ w := by
  unfold Program.cellsOf at h
  cases hi : P.info? f.type with
  | none => simp [hi] at h
  | some i =>
    simp [hi] at h
    have h0 : i.size ≠ 0 := by omega
    simp [fieldPlace, sizeOf, typeInfo, hi, h0, addr_add]

/-- A step that gives the address of a part. -/
theorem run_fieldAt {P : Program} {ty : TypeId} {T : Ty} (hT : TyOk P ty T) {fs : List (Nat × TypeId × Nat)} (hk : T.kind = .str fs) {f off ft size : Nat} (hf : fs[f]? = some (off, ft, size)) (hs : 0 < size) (w : World) (b p : Nat) :
    (Instr.fieldAt ty (.pointer (some ⟨b, p, none⟩)) f).run P w = .ok (.pointer (some ⟨b, p + off, none⟩)) w := by
  have hkk := hT.kind
  rw [hk] at hkk
  obtain ⟨F, hu, hF, _⟩ := hkk
  have h1 : (F.toList.map (fun f => (f.offset, f.type, P.cellsOf f.type)))[f]? = some (off, ft, size) := by rw [hF]; exact hf
  rw [List.getElem?_map] at h1
  cases hq : F.toList[f]? with
  | none => simp [hq] at h1
  | some fld =>
    simp [hq] at h1
    obtain ⟨h2, h3, h4⟩ := h1
    have hp := run_fieldPlace (P := P) (w := w) b p fld (by rw [h4]; exact hs)
    have hq' : F[f]? = some fld := by simpa using hq
    simp [Instr.fieldAt, run_underlying hu, hq', Instr.sureAddr, hp, h2]

theorem stepOk_fieldAddr {P : Program} {o : Oper} {t : Nat → TV} {m : Nat → Mem} {TT : Tab} (hT : TabOk P TT) {ty : TypeId} {T : Ty} (hty : TT ty = some T) {fs : List (Nat × TypeId × Nat)} (hk : T.kind = .str fs) {f off ft size : Nat} (hf : fs[f]? = some (off, ft, size)) (hs : 0 < size) {x : Operand} (ho : o.op = .fieldAddr ty x f) :
    (∀ b p cs, opd t x = .ptr b p → (m b = .box cs ∨ m b = .ro cs) → StepOk P o t m (.ptr b (p + off)) [] [b]) ∧
    (∀ b g i p n k e get, opd t x = .ep b g i p → m b = .bld g n k e get → StepOk P o t m (.ep b g i (p + off)) [] [b]) ∧
    (∀ n cell, opd t x = .d (.one (.ad n cell)) → StepOk P o t m (.d (.one (.ad (n - off) fun j => cell (off + j)))) [] []) := by
  have hmx : x ∈ o.op.operands.toList := by rw [ho]; simp [Op.operands]
  have hTy := hT ty T hty
  have hexec : ∀ (a : Act) (w : World) (b p : Nat), a.eval x = .pointer (some ⟨b, p, none⟩) → (execOp a.eval o).run P w = .ok (.value (.pointer (some ⟨b, p + off, none⟩))) w := by
    intro a w b p hx
    simp [execOp, ho, hx, run_fieldAt hTy hk hf hs w b p]
  refine ⟨fun b p cs hx hb => ?_, fun b g i p n k e get hx hb => ?_, fun n cell hx => ?_⟩
  · refine stepOk_pure fun E ρ t' m' a w hP ha hm hR => ?_
    have h1 := (opd_ok hR x).1
    rw [opd_agree ha hmx, hx] at h1
    rcases hb with hb | hb
    · have hb' : m' b = .box cs := by rw [hm b (by simp)]; exact hb
      simp only [TOk, hb'] at h1
      obtain ⟨bl, c, r1, r2⟩ := h1
      exact ⟨_, hexec a w bl p r2, by simp only [TOk, hb']; exact ⟨bl, c, r1, rfl⟩, fun _ h => by cases h; rw [hb']; simp⟩
    · have hb' : m' b = .ro cs := by rw [hm b (by simp)]; exact hb
      simp only [TOk, hb'] at h1
      obtain ⟨bl, c, r1, r2⟩ := h1
      exact ⟨_, hexec a w bl p r2, by simp only [TOk, hb']; exact ⟨bl, c, r1, rfl⟩, fun _ h => by cases h; rw [hb']; simp⟩
  · refine stepOk_pure fun E ρ t' m' a w hP ha hm hR => ?_
    have h1 := (opd_ok hR x).1
    rw [opd_agree ha hmx, hx] at h1
    have hb' : m' b = .bld g n k e get := by rw [hm b (by simp)]; exact hb
    simp only [TOk, hb'] at h1
    obtain ⟨hin, bl, c, r1, r2⟩ := h1.2 trivial
    refine ⟨_, hexec a w bl _ r2, ?_, fun _ h => by cases h; rw [hb']; simp⟩
    simp only [TOk, hb']
    exact ⟨Nat.le_refl _, fun _ => ⟨hin, bl, c, r1, by rw [Nat.add_assoc]⟩⟩
  · refine stepOk_pure fun E ρ t' m' a w hP ha hm hR => ?_
    have h1 := (opd_ok hR x).1
    rw [opd_agree ha hmx, hx] at h1
    obtain ⟨b, p, xs, r1, r2, r3, r4⟩ := Rd.inv_ad (show Rd _ _ _ _ from h1)
    refine ⟨_, hexec a w b p r1, Rd.ad (fun j => xs (off + j)) r2 (fun j hj => ?_) (fun j hj => r4 _ (by omega)), fun _ h => h.elim⟩
    rw [Nat.add_assoc]
    exact r3 _ (by omega)

theorem run_part {P : Program} {ty : TypeId} {T : Ty} (hT : TyOk P ty T) (w : World) (xs : List Value) (off : Nat) (h : off + T.size ≤ xs.length) (h1 : T.kind.isAgg = false → T.size = 1) :
    (part ty xs.toArray off).run P w = .ok (pack T.kind.isAgg ((xs.drop off).take T.size)) w := by
  cases hq : T.kind.isAgg with
  | true =>
    simp [part, run_isAgg' hT, hq, run_sizeOf' hT, pack]
  | false =>
    have hs := h1 hq
    have hlt : off < xs.length := by omega
    have ht : (xs.drop off).take 1 = [xs[off]] := by rw [List.drop_eq_getElem_cons hlt]; rfl
    simp [part, run_isAgg' hT, hq, pack, hs, hlt, ht]

theorem stepOk_field {P : Program} {o : Oper} {t : Nat → TV} {m : Nat → Mem} {TT : Tab} (hT : TabOk P TT) {ty : TypeId} {T : Ty} (hty : TT ty = some T) {fs : List (Nat × TypeId × Nat)} (hk : T.kind = .str fs) {f off ft size : Nat} (hf : fs[f]? = some (off, ft, size)) {TF : Ty} (hft : TT ft = some TF) (hsz : TF.size = size) {x : Operand} (ho : o.op = .field ty x f)
    {cs : List SV} (hx : opd t x = .d (.agg cs)) (hle : off + size ≤ cs.length) {K : TV → Prop} (h : dataW TF ((cs.drop off).take size) K) : ∃ z, K z ∧ StepOk P o t m z [] [] := by
  have hmx : x ∈ o.op.operands.toList := by rw [ho]; simp [Op.operands]
  have hTy := hT ty T hty
  obtain ⟨y, hK, h1, hd⟩ := dataW_det h
  refine ⟨_, hK, stepOk_pure fun E ρ t' m' a w hP ha _ hR => ?_⟩
  have hv := (opd_ok hR x).1
  rw [opd_agree ha hmx, hx] at hv
  obtain ⟨xs, e1, r1⟩ := hv
  have hxl := r1.length
  have hkk := hTy.kind
  rw [hk] at hkk
  obtain ⟨F, hu, hF, _⟩ := hkk
  have g1 : (F.toList.map (fun f => (f.offset, f.type, P.cellsOf f.type)))[f]? = some (off, ft, size) := by rw [hF]; exact hf
  rw [List.getElem?_map] at g1
  cases hq : F.toList[f]? with
  | none => simp [hq] at g1
  | some fld =>
    simp [hq] at g1
    obtain ⟨g2, g3, g4⟩ := g1
    have hq' : F[f]? = some fld := by simpa using hq
    subst hsz
    have hp := run_part (P := P) (hT ft TF hft) w xs off (by omega) (fun e => by have := h1 e; simp at this; omega)
    refine ⟨_, ?_, hd _ w _ ((r1.drop off).take TF.size), fun _ h => h.elim⟩
    simp [execOp, ho, e1, Instr.field, run_underlying hu, hq', asAgg, g2, g3, hp]

theorem stepOk_index {P : Program} {o : Oper} {t : Nat → TV} {m : Nat → Mem} {TT : Tab} (hT : TabOk P TT) {ty : TypeId} {T : Ty} (hty : TT ty = some T) {len e : Nat} (hk : T.kind = .arr len e) {TE : Ty} (hte : TT e = some TE) {x i : Operand} (ho : o.op = .index ty x i)
    {cs : List SV} (hx : opd t x = .d (.agg cs)) {k : IntKind} {n : Int} (hi : opd t i = .d (.one (.v (.int k n)))) (hb : 0 ≤ n ∧ n < len ∧ n.toNat * TE.size + TE.size ≤ cs.length) {K : TV → Prop} (h : dataW TE ((cs.drop (n.toNat * TE.size)).take TE.size) K) : ∃ z, K z ∧ StepOk P o t m z [] [] := by
  have hmx : x ∈ o.op.operands.toList := by rw [ho]; simp [Op.operands]
  have hmi : i ∈ o.op.operands.toList := by rw [ho]; simp [Op.operands]
  have hTy := hT ty T hty
  obtain ⟨y, hK, h1, hd⟩ := dataW_det h
  refine ⟨_, hK, stepOk_pure fun E ρ t' m' a w hP ha _ hR => ?_⟩
  have hv := (opd_ok hR x).1
  have hv2 := (opd_ok hR i).1
  rw [opd_agree ha hmx, hx] at hv
  rw [opd_agree ha hmi, hi] at hv2
  have e2 := (Rd.inv_v (show Rd _ _ _ _ from hv2)).1
  obtain ⟨xs, e1, r1⟩ := hv
  have hxl := r1.length
  have hkk : P.underlying ty = some (.array len e) := by have := hTy.kind; rw [hk] at this; exact this
  have hp := run_part (P := P) (hT e TE hte) w xs (n.toNat * TE.size) (by omega) (fun e => by have := h1 e; simp at this; omega)
  refine ⟨_, ?_, hd _ w _ ((r1.drop _).take TE.size), fun _ h => h.elim⟩
  simp [execOp, ho, e1, e2, Instr.index, asIntOf, run_underlying hkk, hb.1, hb.2.1, run_sizeOf' (hT e TE hte), hp]

theorem stepOk_indexArr {P : Program} {o : Oper} {t : Nat → TV} {m : Nat → Mem} {TT : Tab} (hT : TabOk P TT) {ty : TypeId} {T : Ty} (hty : TT ty = some T) {len e : Nat} (hk : T.kind = .arr len e) {TE : Ty} (hte : TT e = some TE) {x i : Operand} (ho : o.op = .indexAddr ty x i)
    {k : IntKind} {n : Int} (hi : opd t i = .d (.one (.v (.int k n)))) (hn : 0 ≤ n ∧ n < len) :
    (∀ b p cs, opd t x = .ptr b p → (m b = .box cs ∨ m b = .ro cs) → StepOk P o t m (.ptr b (p + n.toNat * TE.size)) [] [b]) ∧
    (∀ b g r p n' k' e' get, opd t x = .ep b g r p → m b = .bld g n' k' e' get → StepOk P o t m (.ep b g r (p + n.toNat * TE.size)) [] [b]) ∧
    (∀ q cell, opd t x = .d (.one (.ad q cell)) → StepOk P o t m (.d (.one (.ad (q - n.toNat * TE.size) fun j => cell (n.toNat * TE.size + j)))) [] []) := by
  have hmx : x ∈ o.op.operands.toList := by rw [ho]; simp [Op.operands]
  have hmi : i ∈ o.op.operands.toList := by rw [ho]; simp [Op.operands]
  have hTy := hT ty T hty
  have hkk : P.underlying ty = some (.array len e) := by have := hTy.kind; rw [hk] at this; exact this
  have hexec : ∀ (a : Act) (w : World) (b p : Nat), a.eval x = .pointer (some ⟨b, p, none⟩) → a.eval i = .int k n → (execOp a.eval o).run P w = .ok (.value (.pointer (some ⟨b, p + n.toNat * TE.size, none⟩))) w := by
    intro a w b p hx hi
    simp [execOp, ho, hx, hi, Instr.indexAt, asIntOf, run_underlying hkk, Instr.sureAddr, hn.1, hn.2, run_sizeOf' (hT e TE hte), addr_add]
  refine ⟨fun b p cs hx hb => ?_, fun b g r p n' k' e' get hx hb => ?_, fun q cell hx => ?_⟩
  · refine stepOk_pure fun E ρ t' m' a w hP ha hm hR => ?_
    have h1 := (opd_ok hR x).1
    have h2 := (opd_ok hR i).1
    rw [opd_agree ha hmx, hx] at h1
    rw [opd_agree ha hmi, hi] at h2
    have e2 := (Rd.inv_v (show Rd _ _ _ _ from h2)).1
    rcases hb with hb | hb
    · have hb' : m' b = .box cs := by rw [hm b (by simp)]; exact hb
      simp only [TOk, hb'] at h1
      obtain ⟨bl, c, r1, r2⟩ := h1
      exact ⟨_, hexec a w bl p r2 e2, by simp only [TOk, hb']; exact ⟨bl, c, r1, rfl⟩, fun _ h => by cases h; rw [hb']; simp⟩
    · have hb' : m' b = .ro cs := by rw [hm b (by simp)]; exact hb
      simp only [TOk, hb'] at h1
      obtain ⟨bl, c, r1, r2⟩ := h1
      exact ⟨_, hexec a w bl p r2 e2, by simp only [TOk, hb']; exact ⟨bl, c, r1, rfl⟩, fun _ h => by cases h; rw [hb']; simp⟩
  · refine stepOk_pure fun E ρ t' m' a w hP ha hm hR => ?_
    have h1 := (opd_ok hR x).1
    have h2 := (opd_ok hR i).1
    rw [opd_agree ha hmx, hx] at h1
    rw [opd_agree ha hmi, hi] at h2
    have e2 := (Rd.inv_v (show Rd _ _ _ _ from h2)).1
    have hb' : m' b = .bld g n' k' e' get := by rw [hm b (by simp)]; exact hb
    simp only [TOk, hb'] at h1
    obtain ⟨hin, bl, c, r1, r2⟩ := h1.2 trivial
    refine ⟨_, hexec a w bl _ r2 e2, ?_, fun _ h => by cases h; rw [hb']; simp⟩
    simp only [TOk, hb']
    exact ⟨Nat.le_refl _, fun _ => ⟨hin, bl, c, r1, by rw [Nat.add_assoc]⟩⟩
  · refine stepOk_pure fun E ρ t' m' a w hP ha hm hR => ?_
    have h1 := (opd_ok hR x).1
    have h2 := (opd_ok hR i).1
    rw [opd_agree ha hmx, hx] at h1
    rw [opd_agree ha hmi, hi] at h2
    have e2 := (Rd.inv_v (show Rd _ _ _ _ from h2)).1
    obtain ⟨b, p, xs, r1, r2, r3, r4⟩ := Rd.inv_ad (show Rd _ _ _ _ from h1)
    refine ⟨_, hexec a w b p r1 e2, Rd.ad (fun j => xs (n.toNat * TE.size + j)) r2 (fun j hj => ?_) (fun j hj => r4 _ (by omega)), fun _ h => h.elim⟩
    rw [Nat.add_assoc]
    exact r3 _ (by omega)

theorem stepOk_indexSl {P : Program} {o : Oper} {t : Nat → TV} {m : Nat → Mem} {TT : Tab} (hT : TabOk P TT) {ty : TypeId} {T : Ty} (hty : TT ty = some T) {e : Nat} (hk : T.kind = .slc e) {TE : Ty} (hte : TT e = some TE) {x i : Operand} (ho : o.op = .indexAddr ty x i)
    {kk : IntKind} {q : Int} (hi : opd t i = .d (.one (.v (.int kk q)))) :
    (∀ n k get, opd t x = .d (.one (.sl n k get)) → k = TE.size → 0 ≤ q → q < n → StepOk P o t m (.d (.one (.ad k (get q.toNat)))) [] []) ∧
    (∀ b g n k e' get, opd t x = .hdl b g → m b = .bld g n k e' get → k = TE.size → 0 ≤ q → q < n → StepOk P o t m (.ep b g q.toNat 0) [] [b]) := by
  have hmx : x ∈ o.op.operands.toList := by rw [ho]; simp [Op.operands]
  have hmi : i ∈ o.op.operands.toList := by rw [ho]; simp [Op.operands]
  have hTy := hT ty T hty
  have hkk : P.underlying ty = some (.slice e) := by have := hTy.kind; rw [hk] at this; exact this
  have hexec : ∀ (a : Act) (w : World) (b p n c : Nat), a.eval x = .slice (some ⟨b, p, none⟩) n c → a.eval i = .int kk q → 0 ≤ q → q < n → (execOp a.eval o).run P w = .ok (.value (.pointer (some ⟨b, p + q.toNat * TE.size, none⟩))) w := by
    intro a w b p n c hx hi h0 h1
    simp [execOp, ho, hx, hi, Instr.indexAt, asIntOf, run_underlying hkk, h0, h1, run_sizeOf' (hT e TE hte), addr_add]
  refine ⟨fun n k get hx hk' h0 hn => ?_, fun b g n k e' get hx hb hk' h0 hn => ?_⟩
  · refine stepOk_pure fun E ρ t' m' a w hP ha hm hR => ?_
    have h1 := (opd_ok hR x).1
    have h2 := (opd_ok hR i).1
    rw [opd_agree ha hmx, hx] at h1
    rw [opd_agree ha hmi, hi] at h2
    have e2 := (Rd.inv_v (show Rd _ _ _ _ from h2)).1
    rcases Rd.inv_sl (show Rd _ _ _ _ from h1) with ⟨_, r0⟩ | ⟨_, _, _, r0⟩ | ⟨b, off, cap, xs, r1, r2, r3, r4, r5, r6⟩
    · omega
    · omega
    · refine ⟨_, hexec a w b off n cap r1 e2 h0 hn, Rd.ad (xs q.toNat) r2 (fun j hj => ?_) (fun j hj => r6 q.toNat (by omega) j hj), fun _ h => h.elim⟩
      rw [Nat.add_assoc, ← hk']
      exact r5 q.toNat (by omega) j hj
  · refine stepOk_pure fun E ρ t' m' a w hP ha hm hR => ?_
    have h1 := (opd_ok hR x).1
    have h2 := (opd_ok hR i).1
    rw [opd_agree ha hmx, hx] at h1
    rw [opd_agree ha hmi, hi] at h2
    have e2 := (Rd.inv_v (show Rd _ _ _ _ from h2)).1
    have hb' : m' b = .bld g n k e' get := by rw [hm b (by simp)]; exact hb
    simp only [TOk, hb'] at h1
    have h3 := h1.2 trivial
    have hmo := hR.mem b
    rw [hb'] at hmo
    rcases hmo with ⟨_, hn0⟩ | ⟨bl, cap, arr, hρ, _⟩
    · omega
    · rw [hρ] at h3
      refine ⟨_, hexec a w bl 0 n cap h3 e2 h0 hn, ?_, fun _ h => by cases h; rw [hb']; simp⟩
      simp only [TOk, hb']
      exact ⟨Nat.le_refl _, fun _ => ⟨by omega, bl, cap, hρ, by rw [← hk']; simp⟩⟩

theorem stepOk_slice {P : Program} {o : Oper} {t : Nat → TV} {m : Nat → Mem} {TT : Tab} (hT : TabOk P TT) {ty : TypeId} {T : Ty} (hty : TT ty = some T) {e : Nat} (hk : T.kind = .slc e) {x : Operand} {lo hi : Option Operand} (ho : o.op = .slice ty x lo hi none) {TE : Ty} (hte : TT e = some TE) {K : TV → Prop} (h : sliceW TE.size (opd t x) t lo hi K) : ∃ z, K z ∧ StepOk P o t m z [] [] := by
  have hmx : x ∈ o.op.operands.toList := by rw [ho]; simp [Op.operands]
  have hTy := hT ty T hty
  have hkk : P.underlying ty = some (.slice e) := by have := hTy.kind; rw [hk] at this; exact this
  -- the bounds, read off
  have hopt : ∀ (d : Nat) (b : Option Operand) (K : Nat → Int → Prop), (∀ y, b = some y → y ∈ o.op.operands.toList) → optW t d b K → ∃ (n : Nat) (z : Int), K n z ∧ n = z.toNat ∧ (b = none → z = d) ∧
      ∀ (E : Env) (ρ : Nat → Option (Nat × Nat)) (t' : Nat → TV) (m' : Nat → Mem) (a : Act) (w : World), Agree o t t' → Rel E ρ t' m' a w → ∀ y, b = some y → ∃ k, a.eval y = .int k z := by
    intro d b K hmem hb
    cases b with
    | none => exact ⟨d, d, hb, by simp, fun _ => rfl, fun _ _ _ _ _ _ _ _ y hy => by cases hy⟩
    | some y =>
      simp only [optW, boundW] at hb
      split at hb
      · rename_i k z hy
        refine ⟨z.toNat, z, hb, rfl, (fun e => by cases e), fun E ρ t' m' a w ha hR y' hy' => ?_⟩
        cases hy'
        have h1 := (opd_ok hR y).1
        rw [opd_agree ha (hmem y rfl), hy] at h1
        exact ⟨k, (Rd.inv_v (show Rd _ _ _ _ from h1)).1⟩
      · exact hb.elim
  have hmlo : ∀ y, lo = some y → y ∈ o.op.operands.toList := by intro y hy; rw [ho, hy]; simp [Op.operands]
  have hmhi : ∀ y, hi = some y → y ∈ o.op.operands.toList := by intro y hy; rw [ho, hy]; simp [Op.operands]
  unfold sliceW at h
  split at h
  · rename_i n k get hx
    replace h := bif_and h; obtain ⟨hkt, h⟩ := h
    have hkt := Nat.eq_of_beq_eq_true hkt
    obtain ⟨hh, hz, h, eh, hnh, hevh⟩ := hopt n hi _ hmhi h
    obtain ⟨ll, lz, h, el, hnl, hevl⟩ := hopt 0 lo _ hmlo h
    obtain ⟨⟨b1, b2, b3⟩, h⟩ := h
    refine ⟨_, h, stepOk_pure fun E ρ t' m' a w hP ha hm hR => ?_⟩
    have h1 := (opd_ok hR x).1
    rw [opd_agree ha hmx, hx] at h1
    have hbounds : ∀ cap, n ≤ cap → (Instr.sliceBounds true n cap (lo.map a.eval) (hi.map a.eval) none).run P w = .ok (ll, hh, cap) w := by
      intro cap hcap
      have e1 : ∀ y, hi = some y → (Instr.sliceBound (a.eval y) cap .sliceAcap).run P w = .ok hh w := by
        intro y hy
        obtain ⟨k', hk'⟩ := hevh E ρ t' m' a w ha hR y hy
        have c1 : 0 ≤ hz := by omega
        have c2 : hz ≤ (cap : Int) := by omega
        simp [Instr.sliceBound, hk', asIntOf, c1, c2, eh]
      have e2 : ∀ y, lo = some y → (Instr.sliceBound (a.eval y) hh .sliceB).run P w = .ok ll w := by
        intro y hy
        obtain ⟨k', hk'⟩ := hevl E ρ t' m' a w ha hR y hy
        have c2 : lz ≤ (hh : Int) := by omega
        simp [Instr.sliceBound, hk', asIntOf, b1, c2, el]
      cases hi with
      | none =>
        have hzn := hnh rfl
        have hhn : hh = n := by omega
        subst hhn
        cases lo with
        | none => have := hnl rfl; have : ll = 0 := by omega
                  subst this; simp [Instr.sliceBounds]
        | some y => simp [Instr.sliceBounds, e2 y rfl]
      | some yh =>
        cases lo with
        | none => have := hnl rfl; have : ll = 0 := by omega
                  subst this; simp [Instr.sliceBounds, e1 yh rfl]
        | some y => simp [Instr.sliceBounds, e1 yh rfl, e2 y rfl]
    rcases Rd.inv_sl (show Rd _ _ _ _ from h1) with ⟨r1, r0⟩ | ⟨ad, cap, r1, r0⟩ | ⟨b, off, cap, xs, r1, r2, r3, r4, r5, r6⟩
    rotate_left
    · have hb0 := hbounds cap (by omega)
      rw [r0] at hb0
      have hl0 : ll = 0 := by omega
      have hh0 : hh = 0 := by omega
      refine ⟨.slice (some ad) 0 cap, ?_, ?_, fun _ h => h.elim⟩
      · simp [execOp, ho, r1, Instr.sliceAt, Instr.slice, run_underlying hkk, hb0, run_sizeOf' (hT e TE hte), hl0, hh0, Addr.add]
      · show Rd _ _ _ _
        rw [hl0, hh0]
        exact Rd.emp ad cap k _
    rotate_left
    · have hb0 := hbounds 0 (by omega)
      rw [r0] at hb0
      have hl0 : ll = 0 := by omega
      have hh0 : hh = 0 := by omega
      refine ⟨.slice none 0 0, ?_, ?_, fun _ h => h.elim⟩
      · simp [execOp, ho, r1, Instr.sliceAt, Instr.slice, run_underlying hkk, hb0, run_sizeOf' (hT e TE hte), hl0, hh0]
      · show Rd _ _ _ _
        rw [hl0, hh0]
        exact Rd.nil k _
    · have hb0 := hbounds cap r3
      refine ⟨.slice (some ⟨b, if cap = ll then off else off + ll * TE.size, none⟩) (hh - ll) (cap - ll), ?_, ?_, fun _ h => h.elim⟩
      · simp [execOp, ho, r1, Instr.sliceAt, Instr.slice, run_underlying hkk, hb0, run_sizeOf' (hT e TE hte)]
        by_cases hc : cap = ll
        · simp [hc]
        · simp [hc, addr_add]
      · show Rd _ _ _ _
        refine Rd.sl (fun i j => xs (ll + i) j) r2 (by omega) (by omega) (fun i hi' j hj => ?_) (fun i hi' j hj => r6 (ll + i) (by omega) j hj)
        have hc : cap ≠ ll := by omega
        rw [if_neg hc, Nat.add_assoc, ← hkt, ← Nat.add_assoc (ll * k), ← Nat.add_mul]
        exact r5 (ll + i) (by omega) j hj
  · rename_i hx
    obtain ⟨hh, hz, g1, eh, hnh, hevh⟩ := hopt 0 hi _ hmhi h
    obtain ⟨ll, lz, g2, el, hnl, hevl⟩ := hopt 0 lo _ hmlo g1
    obtain ⟨⟨b1, b2⟩, g3⟩ := g2
    subst b1
    subst b2
    refine ⟨_, g3, stepOk_pure fun E ρ t' m' a w hP ha hm hR => ?_⟩
    have h1 := (opd_ok hR x).1
    rw [opd_agree ha hmx, hx] at h1
    have r1 := (Rd.inv_v (show Rd _ _ _ _ from h1)).1
    have hbounds : (Instr.sliceBounds true 0 0 (lo.map a.eval) (hi.map a.eval) none).run P w = .ok (0, 0, 0) w := by
      have e1 : ∀ y, hi = some y → (Instr.sliceBound (a.eval y) 0 .sliceAcap).run P w = .ok 0 w := by
        intro y hy
        obtain ⟨k', hk'⟩ := hevh E ρ t' m' a w ha hR y hy
        simp [Instr.sliceBound, hk', asIntOf]
      have e2 : ∀ y, lo = some y → (Instr.sliceBound (a.eval y) 0 .sliceB).run P w = .ok 0 w := by
        intro y hy
        obtain ⟨k', hk'⟩ := hevl E ρ t' m' a w ha hR y hy
        simp [Instr.sliceBound, hk', asIntOf]
      cases hi with
      | none => cases lo with
        | none => simp [Instr.sliceBounds]
        | some y => simp [Instr.sliceBounds, e2 y rfl]
      | some yh => cases lo with
        | none => simp [Instr.sliceBounds, e1 yh rfl]
        | some y => simp [Instr.sliceBounds, e1 yh rfl, e2 y rfl]
    refine ⟨.slice none 0 0, ?_, Rd.v rfl, fun _ h => h.elim⟩
    simp [execOp, ho, r1, Instr.sliceAt, Instr.slice, run_underlying hkk, hbounds, run_sizeOf' (hT e TE hte)]
  · exact h.elim

theorem minW_ok {P : Program} : ∀ (l : List TV) (k : IntKind) (x : Int) (K : Int → Prop), minW k x l K →
    ∃ n, K n ∧ ∀ (E : Env) (m : Nat → Mem) (ρ : Nat → Option (Nat × Nat)) (w : World) (vs : List Value), vs.length = l.length → (∀ (i : Nat) (v : Value) (tv : TV), vs[i]? = some v → l[i]? = some tv → TOk E m ρ w v tv) →
      ∀ w', (vs.foldlM Builtin.min2 (.int k x)).run P w' = .ok (.int k n) w'
  | [], k, x, K, h => ⟨x, h, fun E m ρ w vs hl _ w' => by
      obtain rfl : vs = [] := List.eq_nil_of_length_eq_zero hl
      simp⟩
  | y :: r, k, x, K, h => by
    simp only [minW] at h
    split at h
    · rename_i k' y'
      obtain ⟨n, h1, h2⟩ := minW_ok (P := P) r k _ K h
      refine ⟨n, h1, fun E m ρ w vs hl hv w' => ?_⟩
      match vs, hl, hv with
      | v :: vs, hl, hv =>
        have h0 := hv 0 v _ rfl rfl
        have e0 := (Rd.inv_v (show Rd _ _ _ _ from h0)).1
        have h3 := h2 E m ρ w vs (by simpa using hl) (fun i v tv a b => hv (i + 1) v tv (by simpa using a) (by simpa using b)) w'
        simp [List.foldlM_cons, e0, Builtin.min2, h3]
    · exact h.elim

theorem maxW_ok {P : Program} : ∀ (l : List TV) (k : IntKind) (x : Int) (K : Int → Prop), maxW k x l K →
    ∃ n, K n ∧ ∀ (E : Env) (m : Nat → Mem) (ρ : Nat → Option (Nat × Nat)) (w : World) (vs : List Value), vs.length = l.length → (∀ (i : Nat) (v : Value) (tv : TV), vs[i]? = some v → l[i]? = some tv → TOk E m ρ w v tv) →
      ∀ w', (vs.foldlM Builtin.max2 (.int k x)).run P w' = .ok (.int k n) w'
  | [], k, x, K, h => ⟨x, h, fun E m ρ w vs hl _ w' => by
      obtain rfl : vs = [] := List.eq_nil_of_length_eq_zero hl
      simp⟩
  | y :: r, k, x, K, h => by
    simp only [maxW] at h
    split at h
    · rename_i k' y'
      obtain ⟨n, h1, h2⟩ := maxW_ok (P := P) r k _ K h
      refine ⟨n, h1, fun E m ρ w vs hl hv w' => ?_⟩
      match vs, hl, hv with
      | v :: vs, hl, hv =>
        have h0 := hv 0 v _ rfl rfl
        have e0 := (Rd.inv_v (show Rd _ _ _ _ from h0)).1
        have h3 := h2 E m ρ w vs (by simpa using hl) (fun i v tv a b => hv (i + 1) v tv (by simpa using a) (by simpa using b)) w'
        simp only [gt_iff_lt] at h3
        simp [List.foldlM_cons, e0, Builtin.max2, h3]
    · exact h.elim

end Go.Vm
