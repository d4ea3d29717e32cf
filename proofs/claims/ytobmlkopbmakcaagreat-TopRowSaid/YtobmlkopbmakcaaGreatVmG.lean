/-
  An abstract walk over Go's operations: arithmetic, comparisons, addresses, parts.
  An abstract walk over Go's operations: slices that are being made; function values; calls.
-/
import Derived.Test.YtobmlkopbmakcaaGreatVmE
import Derived.Laws.AppendOwn
import Derived.Laws.OwnMore
namespace Go.Vm
set_option linter.unusedVariables false
set_option linter.unusedSimpArgs false
open Go Go.RowKit

theorem binW_ok {P : Program} {o : Oper} {t : Nat → TV} {m : Id → Mem} {op : BinOp} {ty ty' : TypeId} {x y : Operand} (ho : o.op = .binOp op ty x y ty') {K : TV → Prop} (h : binW op (opd t x) (opd t y) K) :
    ∃ z, K z ∧ StepOk P o t m z [] [] := by
  have hmx : x ∈ o.op.operands.toList := by rw [ho]; simp [Op.operands]
  have hmy : y ∈ o.op.operands.toList := by rw [ho]; simp [Op.operands]
  have key : ∀ (u v : Value) (r : Value), opd t x = .d (.one (.v u)) → opd t y = .d (.one (.v v)) → r.oneCell' = true → (∀ (w : World), ((do eqGuard op ty x y u v; binOp op ty u v : Sem Value)).run P w = .ok r w) → StepOk P o t m (.d (.one (.v r))) [] [] := by
    intro u v r hx hy hr hrun
    refine stepOk_pure fun E ρ t' m' a w hP ha _ hR => ?_
    have h1 := (opd_ok hR x).1
    have h2 := (opd_ok hR y).1
    rw [opd_agree ha hmx, hx] at h1
    rw [opd_agree ha hmy, hy] at h2
    have e1 := (Rd.inv_v (show Rd _ _ _ _ from h1)).1
    have e2 := (Rd.inv_v (show Rd _ _ _ _ from h2)).1
    refine ⟨r, ?_, Rd.v hr, fun _ h => h.elim⟩
    have := hrun w
    simp only [execOp, ho, e1, e2]
    rw [Sem.run_bind, this]
    rfl
  unfold binW at h
  split at h
  · rename_i k a hx
    split at h
    · rename_i k' b hy
      replace h := bif_and h; obtain ⟨hkk, h⟩ := h
      obtain rfl := kNum_inj hkk
      have hg : ∀ (w : World), (eqGuard op ty x y (.int k a) (.int k b)).run P w = .ok () w := by
        intro w
        cases op <;> simp [eqGuard]
      cases op with
      | add => exact ⟨_, h, key _ _ _ hx hy rfl (fun w => by simp [hg w, binOp, Op.intArith])⟩
      | sub => exact ⟨_, h, key _ _ _ hx hy rfl (fun w => by simp [hg w, binOp, Op.intArith])⟩
      | mul => exact ⟨_, h, key _ _ _ hx hy rfl (fun w => by simp [hg w, binOp, Op.intArith])⟩
      | quo =>
        obtain ⟨hne, h⟩ := h
        exact ⟨_, h, key _ _ _ hx hy rfl (fun w => by simp [hg w, binOp, Op.intDiv, hne])⟩
      | rem =>
        obtain ⟨hne, h⟩ := h
        exact ⟨_, h, key _ _ _ hx hy rfl (fun w => by simp [hg w, binOp, Op.intDiv, hne])⟩
      | eql => exact ⟨_, h, key _ _ _ hx hy rfl (fun w => by simp [hg w, binOp, Op.intCmp])⟩
      | neq => exact ⟨_, h, key _ _ _ hx hy rfl (fun w => by simp [hg w, binOp, Op.intCmp])⟩
      | lss => exact ⟨_, h, key _ _ _ hx hy rfl (fun w => by simp [hg w, binOp, Op.intCmp])⟩
      | leq => exact ⟨_, h, key _ _ _ hx hy rfl (fun w => by simp [hg w, binOp, Op.intCmp])⟩
      | gtr => exact ⟨_, h, key _ _ _ hx hy rfl (fun w => by simp [hg w, binOp, Op.intCmp])⟩
      | geq => exact ⟨_, h, key _ _ _ hx hy rfl (fun w => by simp [hg w, binOp, Op.intCmp])⟩
      | _ => exact h.elim
    · exact h.elim
  · rename_i a hx
    split at h
    · rename_i b hy
      have hg : ∀ (w : World), (eqGuard op ty x y (.string a) (.string b)).run P w = .ok () w := by
        intro w
        cases op <;> simp [eqGuard]
      cases op with
      | eql => exact ⟨_, h, key _ _ _ hx hy rfl (fun w => by simp [hg w, binOp, Op.stringOp])⟩
      | neq => exact ⟨_, h, key _ _ _ hx hy rfl (fun w => by simp [hg w, binOp, Op.stringOp])⟩
      | _ => exact h.elim
    · exact h.elim
  · exact h.elim

theorem eqW_ok {P : Program} {o : Oper} {t : Nat → TV} {m : Id → Mem} {op : BinOp} {ty ty' : TypeId} {x y : Operand} (ho : o.op = .binOp op ty x y ty') {xs ys : List SV} (hx : opd t x = .d (.agg xs)) (hy : opd t y = .d (.agg ys)) {b : Bool} (h : EqFact P ty xs ys b) :
    (op = .eql → StepOk P o t m (tbool b) [] []) ∧ (op = .neq → StepOk P o t m (tbool (!b)) [] []) := by
  have hmx : x ∈ o.op.operands.toList := by rw [ho]; simp [Op.operands]
  have hmy : y ∈ o.op.operands.toList := by rw [ho]; simp [Op.operands]
  obtain ⟨hgd, hrun⟩ := h
  have key : ∀ (b' : Bool), ((op = .eql ∧ b' = b) ∨ (op = .neq ∧ b' = !b)) → StepOk P o t m (tbool b') [] [] := by
    intro b' hb
    refine stepOk_pure fun E ρ t' m' a w hP ha _ hR => ?_
    have h1 := (opd_ok hR x).1
    have h2 := (opd_ok hR y).1
    rw [opd_agree ha hmx, hx] at h1
    rw [opd_agree ha hmy, hy] at h2
    obtain ⟨us, e1, r1⟩ := h1
    obtain ⟨vs, e2, r2⟩ := h2
    refine ⟨.bool b', ?_, Rd.v rfl, fun _ h => h.elim⟩
    have hr := hrun _ w us vs r1 r2
    rcases hb with ⟨rfl, rfl⟩ | ⟨rfl, rfl⟩
    · simp [execOp, ho, e1, e2, eqGuard, hgd, binOp, hr]
    · simp [execOp, ho, e1, e2, eqGuard, hgd, binOp, hr]
  exact ⟨fun e => key b (.inl ⟨e, rfl⟩), fun e => key (!b) (.inr ⟨e, rfl⟩)⟩

theorem eqBool_ok {P : Program} {o : Oper} {t : Nat → TV} {m : Id → Mem} {op : BinOp} {ty ty' : TypeId} {x y : Operand} (ho : o.op = .binOp op ty x y ty') {p q : Bool} (hx : opd t x = tbool p) (hy : opd t y = tbool q) (hu : P.underlying ty = some .bool) :
    (op = .eql → StepOk P o t m (tbool (p == q)) [] []) ∧ (op = .neq → StepOk P o t m (tbool (!(p == q))) [] []) := by
  have hmx : x ∈ o.op.operands.toList := by rw [ho]; simp [Op.operands]
  have hmy : y ∈ o.op.operands.toList := by rw [ho]; simp [Op.operands]
  have key : ∀ (b' : Bool), ((op = .eql ∧ b' = (p == q)) ∨ (op = .neq ∧ b' = !(p == q))) → StepOk P o t m (tbool b') [] [] := by
    intro b' hb
    refine stepOk_pure fun E ρ t' m' a w hP ha _ hR => ?_
    have h1 := (opd_ok hR x).1
    have h2 := (opd_ok hR y).1
    rw [opd_agree ha hmx, hx] at h1
    rw [opd_agree ha hmy, hy] at h2
    have e1 := (Rd.inv_v (show Rd _ _ _ _ from h1)).1
    have e2 := (Rd.inv_v (show Rd _ _ _ _ from h2)).1
    refine ⟨.bool b', ?_, Rd.v rfl, fun _ h => h.elim⟩
    have hr : (Op.equal ty (.bool p) (.bool q)).run P w = .ok (p == q) w := by
      unfold Op.equal Op.maxDepth
      exact run_equalIn_bool w 9999 ty p q hu
    rcases hb with ⟨rfl, rfl⟩ | ⟨rfl, rfl⟩
    · simp [execOp, ho, e1, e2, eqGuard, binOp, hr]
    · simp [execOp, ho, e1, e2, eqGuard, binOp, hr]
  exact ⟨fun e => key _ (.inl ⟨e, rfl⟩), fun e => key _ (.inr ⟨e, rfl⟩)⟩

/-- A step whose one operand is a very value, and whose run is known. -/
theorem stepOk_un {P : Program} {o : Oper} {t : Nat → TV} {m : Id → Mem} {x : Operand} (hm : x ∈ o.op.operands.toList) {u r : Value} (hx : opd t x = .d (.one (.v u))) (hr : r.oneCell' = true)
    (hrun : ∀ (a : Act) (w : World), a.eval x = u → (execOp a.eval o).run P w = .ok (.value r) w) : StepOk P o t m (.d (.one (.v r))) [] [] := by
  refine stepOk_pure fun E ρ t' m' a w hP ha _ hR => ?_
  have h1 := (opd_ok hR x).1
  rw [opd_agree ha hm, hx] at h1
  have e1 := (Rd.inv_v (show Rd _ _ _ _ from h1)).1
  exact ⟨r, hrun a w e1, Rd.v hr, fun _ h => h.elim⟩

theorem stepOk_move {P : Program} {o : Oper} {t : Nat → TV} {m : Id → Mem} {x : Operand} (ho : o.op = .move x ∨ o.op = .assign x) : StepOk P o t m (opd t x) [] [] := by
  refine stepOk_pure fun E ρ t' m' a w hP ha _ hR => ?_
  have h1 := opd_ok hR x
  rw [opd_agree ha (by rcases ho with ho | ho <;> rw [ho] <;> simp [Op.operands])] at h1
  refine ⟨a.eval x, ?_, h1⟩
  rcases ho with ho | ho <;> simp [execOp, ho]

theorem stepOk_pick {P : Program} {o : Oper} {t : Nat → TV} {m : Id → Mem} {c x y : Operand} (ho : o.op = .pick c x y) {q : Bool} (hc : opd t c = tbool q) : StepOk P o t m (bif q then opd t x else opd t y) [] [] := by
  refine stepOk_pure fun E ρ t' m' a w hP ha _ hR => ?_
  have h1 := (opd_ok hR c).1
  rw [opd_agree ha (by rw [ho]; simp [Op.operands]), hc] at h1
  have e1 := (Rd.inv_v (show Rd _ _ _ _ from h1)).1
  have hx := opd_ok hR x
  have hy := opd_ok hR y
  rw [opd_agree ha (by rw [ho]; simp [Op.operands])] at hx hy
  refine ⟨if q then a.eval x else a.eval y, ?_, ?_⟩
  · simp [execOp, ho, e1, asBool]
  · cases q
    · exact hy
    · exact hx

theorem addr_add (b off n : Nat) : (⟨b, off, none⟩ : Addr).add n = ⟨b, off + n, none⟩ := by
  unfold Addr.add; split <;> simp_all

theorem stepOk_extract {P : Program} {o : Oper} {t : Nat → TV} {m : Id → Mem} {x : Operand} {i : Nat} (ho : o.op = .extract x i) {xs : List DV} (hx : opd t x = .tup xs) {v : DV} (hv : xs[i]? = some v) : StepOk P o t m (.d v) [] [] := by
  refine stepOk_pure fun E ρ t' m' a w hP ha _ hR => ?_
  have h1 := (opd_ok hR x).1
  rw [opd_agree ha (by rw [ho]; simp [Op.operands]), hx] at h1
  obtain ⟨us, e1, r1⟩ := h1
  obtain ⟨u, hu, hr⟩ := r1.get i v hv
  exact ⟨u, by simp [execOp, ho, e1, Instr.extract, hu], hr, fun _ h => h.elim⟩

theorem run_fieldPlace {P : Program} {w : World} (b off : Nat) (f : Field) (h : 0 < P.cellsOf f.type) : (fieldPlace ⟨b, off, none⟩ f).run P w = .ok ⟨b, off + f.offset, none⟩ w := by
  unfold Program.cellsOf at h
  cases hi : P.info? f.type with
  | none => simp [hi] at h
  | some i =>
    simp [hi] at h
    have h0 : i.size ≠ 0 := by omega
    simp [fieldPlace, sizeOf, typeInfo, hi, h0, addr_add]

/-- A step that gives the address of a part. -/
theorem run_fieldAt {P : Program} {ty : TypeId} {T : Ty} (hT : TyOk P ty T) {fs : List (Nat × TypeId × Nat)} (hk : T.kind = .str fs) {f off ft size : Nat} (hf : fs[f]? = some (off, ft, size)) (hs : 0 < size) (w : World) (b p : Nat) :
    (Instr.fieldAt ty (.pointer (some ⟨b, p, none⟩)) f).run P w = .ok (.pointer (some ⟨b, p + off, none⟩)) w := by
  have hkk := hT.kind
  rw [hk] at hkk
  obtain ⟨F, hu, hF, _⟩ := hkk
  have h1 : (F.toList.map (fun f => (f.offset, f.type, P.cellsOf f.type)))[f]? = some (off, ft, size) := by rw [hF]; exact hf
  rw [List.getElem?_map] at h1
  cases hq : F.toList[f]? with
  | none => simp [hq] at h1
  | some fld =>
    simp [hq] at h1
    obtain ⟨h2, h3, h4⟩ := h1
    have hp := run_fieldPlace (P := P) (w := w) b p fld (by rw [h4]; exact hs)
    have hq' : F[f]? = some fld := by simpa using hq
    simp [Instr.fieldAt, run_underlying hu, hq', Instr.sureAddr, hp, h2]

theorem stepOk_fieldAddr {P : Program} {o : Oper} {t : Nat → TV} {m : Id → Mem} {TT : Tab} (hT : TabOk P TT) {ty : TypeId} {T : Ty} (hty : TT ty = some T) {fs : List (Nat × TypeId × Nat)} (hk : T.kind = .str fs) {f off ft size : Nat} (hf : fs[f]? = some (off, ft, size)) (hs : 0 < size) {x : Operand} (ho : o.op = .fieldAddr ty x f) :
    (∀ b p, opd t x = .ptr b p → (m b).boxy = true → StepOk P o t m (.ptr b (p + off)) [] [b.key]) ∧
    (∀ b g i p n k, opd t x = .ep b g i p → (m b).bldy = some (g, n, k) → StepOk P o t m (.ep b g i (p + off)) [] [b.key]) ∧
    (∀ n cell, opd t x = .d (.one (.ad n cell)) → StepOk P o t m (.d (.one (.ad (n - off) fun j => cell (off + j)))) [] []) := by
  have hmx : x ∈ o.op.operands.toList := by rw [ho]; simp [Op.operands]
  have hTy := hT ty T hty
  have hexec : ∀ (a : Act) (w : World) (b p : Nat), a.eval x = .pointer (some ⟨b, p, none⟩) → (execOp a.eval o).run P w = .ok (.value (.pointer (some ⟨b, p + off, none⟩))) w := by
    intro a w b p hx
    simp [execOp, ho, hx, run_fieldAt hTy hk hf hs w b p]
  refine ⟨fun b p hx hb => ?_, fun b g i p n k hx hb => ?_, fun n cell hx => ?_⟩
  · refine stepOk_pure fun E ρ t' m' a w hP ha hm hR => ?_
    have h1 := (opd_ok hR x).1
    rw [opd_agree ha hmx, hx] at h1
    rw [← hm.at b] at hb
    simp only [TOk] at h1
    rw [ptrOk_boxy hb] at h1
    obtain ⟨bl, c, r1, r2⟩ := h1
    exact ⟨_, hexec a w bl p r2, by simp only [TOk]; rw [ptrOk_boxy hb]; exact ⟨bl, c, r1, rfl⟩, fun _ h => by cases h; intro e; rw [e] at hb; simp [Mem.boxy] at hb⟩
  · refine stepOk_pure fun E ρ t' m' a w hP ha hm hR => ?_
    have h1 := (opd_ok hR x).1
    rw [opd_agree ha hmx, hx] at h1
    rw [← hm.at b] at hb
    rw [epOk_bldy hb] at h1
    obtain ⟨hin, bl, c, r1, r2⟩ := h1.2 rfl
    refine ⟨_, hexec a w bl _ r2, ?_, fun _ h => by cases h; exact (live_bldy hb).2⟩
    rw [epOk_bldy hb]
    exact ⟨Nat.le_refl _, fun _ => ⟨hin, bl, c, r1, by rw [Nat.add_assoc]⟩⟩
  · refine stepOk_pure fun E ρ t' m' a w hP ha hm hR => ?_
    have h1 := (opd_ok hR x).1
    rw [opd_agree ha hmx, hx] at h1
    obtain ⟨b, p, xs, r1, r2, r3, r4⟩ := Rd.inv_ad (show Rd _ _ _ _ from h1)
    refine ⟨_, hexec a w b p r1, Rd.ad (fun j => xs (off + j)) r2 (fun j hj => ?_) (fun j hj => r4 _ (by omega)), fun _ h => h.elim⟩
    rw [Nat.add_assoc]
    exact r3 _ (by omega)

theorem run_part {P : Program} {ty : TypeId} {T : Ty} (hT : TyOk P ty T) (w : World) (xs : List Value) (off : Nat) (h : off + T.size ≤ xs.length) (h1 : T.kind.isAgg = false → T.size = 1) :
    (part ty xs.toArray off).run P w = .ok (pack T.kind.isAgg ((xs.drop off).take T.size)) w := by
  cases hq : T.kind.isAgg with
  | true =>
    simp [part, run_isAgg' hT, hq, run_sizeOf' hT, pack]
  | false =>
    have hs := h1 hq
    have hlt : off < xs.length := by omega
    have ht : (xs.drop off).take 1 = [xs[off]] := by rw [List.drop_eq_getElem_cons hlt]; rfl
    simp [part, run_isAgg' hT, hq, pack, hs, hlt, ht]

theorem stepOk_field {P : Program} {o : Oper} {t : Nat → TV} {m : Id → Mem} {TT : Tab} (hT : TabOk P TT) {ty : TypeId} {T : Ty} (hty : TT ty = some T) {fs : List (Nat × TypeId × Nat)} (hk : T.kind = .str fs) {f off ft size : Nat} (hf : fs[f]? = some (off, ft, size)) {TF : Ty} (hft : TT ft = some TF) (hsz : TF.size = size) {x : Operand} (ho : o.op = .field ty x f)
    {cs : List SV} (hx : opd t x = .d (.agg cs)) (hle : off + size ≤ cs.length) {K : TV → Prop} (h : dataW TF ((cs.drop off).take size) K) : ∃ z, K z ∧ StepOk P o t m z [] [] := by
  have hmx : x ∈ o.op.operands.toList := by rw [ho]; simp [Op.operands]
  have hTy := hT ty T hty
  obtain ⟨y, hK, h1, hd⟩ := dataW_det h
  refine ⟨_, hK, stepOk_pure fun E ρ t' m' a w hP ha _ hR => ?_⟩
  have hv := (opd_ok hR x).1
  rw [opd_agree ha hmx, hx] at hv
  obtain ⟨xs, e1, r1⟩ := hv
  have hxl := r1.length
  have hkk := hTy.kind
  rw [hk] at hkk
  obtain ⟨F, hu, hF, _⟩ := hkk
  have g1 : (F.toList.map (fun f => (f.offset, f.type, P.cellsOf f.type)))[f]? = some (off, ft, size) := by rw [hF]; exact hf
  rw [List.getElem?_map] at g1
  cases hq : F.toList[f]? with
  | none => simp [hq] at g1
  | some fld =>
    simp [hq] at g1
    obtain ⟨g2, g3, g4⟩ := g1
    have hq' : F[f]? = some fld := by simpa using hq
    subst hsz
    have hp := run_part (P := P) (hT ft TF hft) w xs off (by omega) (fun e => by have := h1 e; simp at this; omega)
    refine ⟨_, ?_, hd _ w _ ((r1.drop off).take TF.size), fun _ h => h.elim⟩
    simp [execOp, ho, e1, Instr.field, run_underlying hu, hq', asAgg, g2, g3, hp]

theorem stepOk_index {P : Program} {o : Oper} {t : Nat → TV} {m : Id → Mem} {TT : Tab} (hT : TabOk P TT) {ty : TypeId} {T : Ty} (hty : TT ty = some T) {len e : Nat} (hk : T.kind = .arr len e) {TE : Ty} (hte : TT e = some TE) {x i : Operand} (ho : o.op = .index ty x i)
    {cs : List SV} (hx : opd t x = .d (.agg cs)) {k : IntKind} {n : Int} (hi : opd t i = .d (.one (.v (.int k n)))) (hb : 0 ≤ n ∧ n < len ∧ n.toNat * TE.size + TE.size ≤ cs.length) {K : TV → Prop} (h : dataW TE ((cs.drop (n.toNat * TE.size)).take TE.size) K) : ∃ z, K z ∧ StepOk P o t m z [] [] := by
  have hmx : x ∈ o.op.operands.toList := by rw [ho]; simp [Op.operands]
  have hmi : i ∈ o.op.operands.toList := by rw [ho]; simp [Op.operands]
  have hTy := hT ty T hty
  obtain ⟨y, hK, h1, hd⟩ := dataW_det h
  refine ⟨_, hK, stepOk_pure fun E ρ t' m' a w hP ha _ hR => ?_⟩
  have hv := (opd_ok hR x).1
  have hv2 := (opd_ok hR i).1
  rw [opd_agree ha hmx, hx] at hv
  rw [opd_agree ha hmi, hi] at hv2
  have e2 := (Rd.inv_v (show Rd _ _ _ _ from hv2)).1
  obtain ⟨xs, e1, r1⟩ := hv
  have hxl := r1.length
  have hkk : P.underlying ty = some (.array len e) := by have := hTy.kind; rw [hk] at this; exact this
  have hp := run_part (P := P) (hT e TE hte) w xs (n.toNat * TE.size) (by omega) (fun e => by have := h1 e; simp at this; omega)
  refine ⟨_, ?_, hd _ w _ ((r1.drop _).take TE.size), fun _ h => h.elim⟩
  simp [execOp, ho, e1, e2, Instr.index, asIntOf, run_underlying hkk, hb.1, hb.2.1, run_sizeOf' (hT e TE hte), hp]

theorem stepOk_indexArr {P : Program} {o : Oper} {t : Nat → TV} {m : Id → Mem} {TT : Tab} (hT : TabOk P TT) {ty : TypeId} {T : Ty} (hty : TT ty = some T) {len e : Nat} (hk : T.kind = .arr len e) {TE : Ty} (hte : TT e = some TE) {x i : Operand} (ho : o.op = .indexAddr ty x i)
    {k : IntKind} {n : Int} (hi : opd t i = .d (.one (.v (.int k n)))) (hn : 0 ≤ n ∧ n < len) :
    (∀ b p, opd t x = .ptr b p → (m b).boxy = true → StepOk P o t m (.ptr b (p + n.toNat * TE.size)) [] [b.key]) ∧
    (∀ b g r p n' k', opd t x = .ep b g r p → (m b).bldy = some (g, n', k') → StepOk P o t m (.ep b g r (p + n.toNat * TE.size)) [] [b.key]) ∧
    (∀ q cell q', opd t x = .d (.one (.ad q cell)) → q' ≤ q - n.toNat * TE.size → StepOk P o t m (.d (.one (.ad q' fun j => cell (n.toNat * TE.size + j)))) [] []) := by
  have hmx : x ∈ o.op.operands.toList := by rw [ho]; simp [Op.operands]
  have hmi : i ∈ o.op.operands.toList := by rw [ho]; simp [Op.operands]
  have hTy := hT ty T hty
  have hkk : P.underlying ty = some (.array len e) := by have := hTy.kind; rw [hk] at this; exact this
  have hexec : ∀ (a : Act) (w : World) (b p : Nat), a.eval x = .pointer (some ⟨b, p, none⟩) → a.eval i = .int k n → (execOp a.eval o).run P w = .ok (.value (.pointer (some ⟨b, p + n.toNat * TE.size, none⟩))) w := by
    intro a w b p hx hi
    simp [execOp, ho, hx, hi, Instr.indexAt, asIntOf, run_underlying hkk, Instr.sureAddr, hn.1, hn.2, run_sizeOf' (hT e TE hte), addr_add]
  refine ⟨fun b p hx hb => ?_, fun b g r p n' k' hx hb => ?_, fun q cell q' hx hq' => ?_⟩
  · refine stepOk_pure fun E ρ t' m' a w hP ha hm hR => ?_
    have h1 := (opd_ok hR x).1
    have h2 := (opd_ok hR i).1
    rw [opd_agree ha hmx, hx] at h1
    rw [opd_agree ha hmi, hi] at h2
    have e2 := (Rd.inv_v (show Rd _ _ _ _ from h2)).1
    rw [← hm.at b] at hb
    simp only [TOk] at h1
    rw [ptrOk_boxy hb] at h1
    obtain ⟨bl, c, r1, r2⟩ := h1
    exact ⟨_, hexec a w bl p r2 e2, by simp only [TOk]; rw [ptrOk_boxy hb]; exact ⟨bl, c, r1, rfl⟩, fun _ h => by cases h; intro e; rw [e] at hb; simp [Mem.boxy] at hb⟩
  · refine stepOk_pure fun E ρ t' m' a w hP ha hm hR => ?_
    have h1 := (opd_ok hR x).1
    have h2 := (opd_ok hR i).1
    rw [opd_agree ha hmx, hx] at h1
    rw [opd_agree ha hmi, hi] at h2
    have e2 := (Rd.inv_v (show Rd _ _ _ _ from h2)).1
    rw [← hm.at b] at hb
    rw [epOk_bldy hb] at h1
    obtain ⟨hin, bl, c, r1, r2⟩ := h1.2 rfl
    refine ⟨_, hexec a w bl _ r2 e2, ?_, fun _ h => by cases h; exact (live_bldy hb).2⟩
    rw [epOk_bldy hb]
    exact ⟨Nat.le_refl _, fun _ => ⟨hin, bl, c, r1, by rw [Nat.add_assoc]⟩⟩
  · refine stepOk_pure fun E ρ t' m' a w hP ha hm hR => ?_
    have h1 := (opd_ok hR x).1
    have h2 := (opd_ok hR i).1
    rw [opd_agree ha hmx, hx] at h1
    rw [opd_agree ha hmi, hi] at h2
    have e2 := (Rd.inv_v (show Rd _ _ _ _ from h2)).1
    obtain ⟨b, p, xs, r1, r2, r3, r4⟩ := Rd.inv_ad (show Rd _ _ _ _ from h1)
    refine ⟨_, hexec a w b p r1 e2, Rd.ad (fun j => xs (n.toNat * TE.size + j)) r2 (fun j hj => ?_) (fun j hj => r4 _ (by omega)), fun _ h => h.elim⟩
    rw [Nat.add_assoc]
    exact r3 _ (by omega)

theorem stepOk_indexSl {P : Program} {o : Oper} {t : Nat → TV} {m : Id → Mem} {TT : Tab} (hT : TabOk P TT) {ty : TypeId} {T : Ty} (hty : TT ty = some T) {e : Nat} (hk : T.kind = .slc e) {TE : Ty} (hte : TT e = some TE) {x i : Operand} (ho : o.op = .indexAddr ty x i)
    {kk : IntKind} {q : Int} (hi : opd t i = .d (.one (.v (.int kk q)))) :
    (∀ n k get, opd t x = .d (.one (.sl n k get)) → k = TE.size → 0 ≤ q → q < n → StepOk P o t m (.d (.one (.ad k (get q.toNat)))) [] []) ∧
    (∀ b g n k, opd t x = .hdl b g → (m b).bldy = some (g, n, k) → k = TE.size → 0 ≤ q → q < n → StepOk P o t m (.ep b g q.toNat 0) [] [b.key]) ∧
    (∀ b g lo n' n k, opd t x = .sub b g lo n' → (m b).bldy = some (g, n, k) → k = TE.size → 0 ≤ q → q < n' → StepOk P o t m (.ep b g (lo + q.toNat) 0) [] [b.key]) := by
  have hmx : x ∈ o.op.operands.toList := by rw [ho]; simp [Op.operands]
  have hmi : i ∈ o.op.operands.toList := by rw [ho]; simp [Op.operands]
  have hTy := hT ty T hty
  have hkk : P.underlying ty = some (.slice e) := by have := hTy.kind; rw [hk] at this; exact this
  have hexec : ∀ (a : Act) (w : World) (b p n c : Nat), a.eval x = .slice (some ⟨b, p, none⟩) n c → a.eval i = .int kk q → 0 ≤ q → q < n → (execOp a.eval o).run P w = .ok (.value (.pointer (some ⟨b, p + q.toNat * TE.size, none⟩))) w := by
    intro a w b p n c hx hi h0 h1
    simp [execOp, ho, hx, hi, Instr.indexAt, asIntOf, run_underlying hkk, h0, h1, run_sizeOf' (hT e TE hte), addr_add]
  refine ⟨fun n k get hx hk' h0 hn => ?_, fun b g n k hx hb hk' h0 hn => ?_, fun b g lo n' n k hx hb hk' h0 hn => ?_⟩
  · refine stepOk_pure fun E ρ t' m' a w hP ha hm hR => ?_
    have h1 := (opd_ok hR x).1
    have h2 := (opd_ok hR i).1
    rw [opd_agree ha hmx, hx] at h1
    rw [opd_agree ha hmi, hi] at h2
    have e2 := (Rd.inv_v (show Rd _ _ _ _ from h2)).1
    rcases Rd.inv_sl (show Rd _ _ _ _ from h1) with ⟨_, r0⟩ | ⟨_, _, _, r0⟩ | ⟨b, off, cap, xs, r1, r2, r3, r4, r5, r6⟩
    · omega
    · omega
    · refine ⟨_, hexec a w b off n cap r1 e2 h0 hn, Rd.ad (xs q.toNat) r2 (fun j hj => ?_) (fun j hj => r6 q.toNat (by omega) j hj), fun _ h => h.elim⟩
      rw [Nat.add_assoc, ← hk']
      exact r5 q.toNat (by omega) j hj
  · refine stepOk_pure fun E ρ t' m' a w hP ha hm hR => ?_
    have h1 := (opd_ok hR x).1
    have h2 := (opd_ok hR i).1
    rw [opd_agree ha hmx, hx] at h1
    rw [opd_agree ha hmi, hi] at h2
    have e2 := (Rd.inv_v (show Rd _ _ _ _ from h2)).1
    rw [← hm.at b] at hb
    simp only [TOk] at h1
    rw [hdlOk_bldy hb] at h1
    have h3 := h1.2.2 rfl
    rcases mem_bldy hb (hR.mem b) with ⟨_, hn0⟩ | ⟨bl, cap, arr, _, hρ, _⟩
    · omega
    · simp only [HdlAt, hρ] at h3
      refine ⟨_, hexec a w bl 0 n cap h3 e2 h0 hn, ?_, fun _ h => by cases h; exact (live_bldy hb).2⟩
      rw [epOk_bldy hb]
      exact ⟨Nat.le_refl _, fun _ => ⟨by omega, bl, cap, hρ, by rw [← hk']; simp⟩⟩
  · refine stepOk_pure fun E ρ t' m' a w hP ha hm hR => ?_
    have h1 := (opd_ok hR x).1
    have h2 := (opd_ok hR i).1
    rw [opd_agree ha hmx, hx] at h1
    rw [opd_agree ha hmi, hi] at h2
    have e2 := (Rd.inv_v (show Rd _ _ _ _ from h2)).1
    rw [← hm.at b] at hb
    simp only [TOk] at h1
    rw [subOk_bldy hb] at h1
    obtain ⟨hln, h3⟩ := h1.2.2 rfl
    rcases mem_bldy hb (hR.mem b) with ⟨_, hn0⟩ | ⟨bl, cap, arr, _, hρ, _, _, hnc, _⟩
    · omega
    · simp only [SubAt, hρ] at h3
      obtain ⟨ad, h3, h4⟩ := h3
      have h4 := h4 (.inl (by omega))
      subst h4
      refine ⟨_, hexec a w bl (lo * k) n' (cap - lo) h3 e2 h0 hn, ?_, fun _ h => by cases h; exact (live_bldy hb).2⟩
      rw [epOk_bldy hb]
      exact ⟨Nat.le_refl _, fun _ => ⟨by omega, bl, cap, hρ, by rw [← hk', Nat.add_mul, Nat.add_zero]⟩⟩

theorem stepOk_slice {P : Program} {o : Oper} {t : Nat → TV} {m : Id → Mem} {TT : Tab} (hT : TabOk P TT) {ty : TypeId} {T : Ty} (hty : TT ty = some T) {e : Nat} (hk : T.kind = .slc e) {x : Operand} {lo hi : Option Operand} (ho : o.op = .slice ty x lo hi none) {TE : Ty} (hte : TT e = some TE) {K : TV → Prop} (h : sliceW TE.size (opd t x) t lo hi K) : ∃ z, K z ∧ StepOk P o t m z [] [] := by
  have hmx : x ∈ o.op.operands.toList := by rw [ho]; simp [Op.operands]
  have hTy := hT ty T hty
  have hkk : P.underlying ty = some (.slice e) := by have := hTy.kind; rw [hk] at this; exact this
  -- the bounds, read off
  have hopt : ∀ (d : Nat) (b : Option Operand) (K : Nat → Int → Prop), (∀ y, b = some y → y ∈ o.op.operands.toList) → optW t d b K → ∃ (n : Nat) (z : Int), K n z ∧ n = z.toNat ∧ (b = none → z = d) ∧
      ∀ (E : Env) (ρ : Id → Option (Nat × Nat)) (t' : Nat → TV) (m' : Id → Mem) (a : Act) (w : World), Agree o t t' → Rel E ρ t' m' a w → ∀ y, b = some y → ∃ k, a.eval y = .int k z := by
    intro d b K hmem hb
    cases b with
    | none => exact ⟨d, d, hb, by simp, fun _ => rfl, fun _ _ _ _ _ _ _ _ y hy => by cases hy⟩
    | some y =>
      simp only [optW, boundW] at hb
      split at hb
      · rename_i k z hy
        refine ⟨z.toNat, z, hb, rfl, (fun e => by cases e), fun E ρ t' m' a w ha hR y' hy' => ?_⟩
        cases hy'
        have h1 := (opd_ok hR y).1
        rw [opd_agree ha (hmem y rfl), hy] at h1
        exact ⟨k, (Rd.inv_v (show Rd _ _ _ _ from h1)).1⟩
      · exact hb.elim
  have hmlo : ∀ y, lo = some y → y ∈ o.op.operands.toList := by intro y hy; rw [ho, hy]; simp [Op.operands]
  have hmhi : ∀ y, hi = some y → y ∈ o.op.operands.toList := by intro y hy; rw [ho, hy]; simp [Op.operands]
  unfold sliceW at h
  split at h
  · rename_i n k get hx
    replace h := bif_and h; obtain ⟨hkt, h⟩ := h
    have hkt := Nat.eq_of_beq_eq_true hkt
    obtain ⟨hh, hz, h, eh, hnh, hevh⟩ := hopt n hi _ hmhi h
    obtain ⟨ll, lz, h, el, hnl, hevl⟩ := hopt 0 lo _ hmlo h
    obtain ⟨⟨b1, b2, b3⟩, h⟩ := h
    refine ⟨_, h, stepOk_pure fun E ρ t' m' a w hP ha hm hR => ?_⟩
    have h1 := (opd_ok hR x).1
    rw [opd_agree ha hmx, hx] at h1
    have hbounds : ∀ cap, n ≤ cap → (Instr.sliceBounds true n cap (lo.map a.eval) (hi.map a.eval) none).run P w = .ok (ll, hh, cap) w := by
      intro cap hcap
      have e1 : ∀ y, hi = some y → (Instr.sliceBound (a.eval y) cap .sliceAcap).run P w = .ok hh w := by
        intro y hy
        obtain ⟨k', hk'⟩ := hevh E ρ t' m' a w ha hR y hy
        have c1 : 0 ≤ hz := by omega
        have c2 : hz ≤ (cap : Int) := by omega
        simp [Instr.sliceBound, hk', asIntOf, c1, c2, eh]
      have e2 : ∀ y, lo = some y → (Instr.sliceBound (a.eval y) hh .sliceB).run P w = .ok ll w := by
        intro y hy
        obtain ⟨k', hk'⟩ := hevl E ρ t' m' a w ha hR y hy
        have c2 : lz ≤ (hh : Int) := by omega
        simp [Instr.sliceBound, hk', asIntOf, b1, c2, el]
      cases hi with
      | none =>
        have hzn := hnh rfl
        have hhn : hh = n := by omega
        subst hhn
        cases lo with
        | none => have := hnl rfl; have : ll = 0 := by omega
                  subst this; simp [Instr.sliceBounds]
        | some y => simp [Instr.sliceBounds, e2 y rfl]
      | some yh =>
        cases lo with
        | none => have := hnl rfl; have : ll = 0 := by omega
                  subst this; simp [Instr.sliceBounds, e1 yh rfl]
        | some y => simp [Instr.sliceBounds, e1 yh rfl, e2 y rfl]
    rcases Rd.inv_sl (show Rd _ _ _ _ from h1) with ⟨r1, r0⟩ | ⟨ad, cap, r1, r0⟩ | ⟨b, off, cap, xs, r1, r2, r3, r4, r5, r6⟩
    rotate_left
    · have hb0 := hbounds cap (by omega)
      rw [r0] at hb0
      have hl0 : ll = 0 := by omega
      have hh0 : hh = 0 := by omega
      refine ⟨.slice (some ad) 0 cap, ?_, ?_, fun _ h => h.elim⟩
      · simp [execOp, ho, r1, Instr.sliceAt, Instr.slice, run_underlying hkk, hb0, run_sizeOf' (hT e TE hte), hl0, hh0, Addr.add]
      · show Rd _ _ _ _
        rw [hl0, hh0]
        exact Rd.emp ad cap k _
    rotate_left
    · have hb0 := hbounds 0 (by omega)
      rw [r0] at hb0
      have hl0 : ll = 0 := by omega
      have hh0 : hh = 0 := by omega
      refine ⟨.slice none 0 0, ?_, ?_, fun _ h => h.elim⟩
      · simp [execOp, ho, r1, Instr.sliceAt, Instr.slice, run_underlying hkk, hb0, run_sizeOf' (hT e TE hte), hl0, hh0]
      · show Rd _ _ _ _
        rw [hl0, hh0]
        exact Rd.nil k _
    · have hb0 := hbounds cap r3
      refine ⟨.slice (some ⟨b, if cap = ll then off else off + ll * TE.size, none⟩) (hh - ll) (cap - ll), ?_, ?_, fun _ h => h.elim⟩
      · simp [execOp, ho, r1, Instr.sliceAt, Instr.slice, run_underlying hkk, hb0, run_sizeOf' (hT e TE hte)]
        by_cases hc : cap = ll
        · simp [hc]
        · simp [hc, addr_add]
      · show Rd _ _ _ _
        refine Rd.sl (fun i j => xs (ll + i) j) r2 (by omega) (by omega) (fun i hi' j hj => ?_) (fun i hi' j hj => r6 (ll + i) (by omega) j hj)
        have hc : cap ≠ ll := by omega
        rw [if_neg hc, Nat.add_assoc, ← hkt, ← Nat.add_assoc (ll * k), ← Nat.add_mul]
        exact r5 (ll + i) (by omega) j hj
  · rename_i hx
    obtain ⟨hh, hz, g1, eh, hnh, hevh⟩ := hopt 0 hi _ hmhi h
    obtain ⟨ll, lz, g2, el, hnl, hevl⟩ := hopt 0 lo _ hmlo g1
    obtain ⟨⟨b1, b2⟩, g3⟩ := g2
    subst b1
    subst b2
    refine ⟨_, g3, stepOk_pure fun E ρ t' m' a w hP ha hm hR => ?_⟩
    have h1 := (opd_ok hR x).1
    rw [opd_agree ha hmx, hx] at h1
    have r1 := (Rd.inv_v (show Rd _ _ _ _ from h1)).1
    have hbounds : (Instr.sliceBounds true 0 0 (lo.map a.eval) (hi.map a.eval) none).run P w = .ok (0, 0, 0) w := by
      have e1 : ∀ y, hi = some y → (Instr.sliceBound (a.eval y) 0 .sliceAcap).run P w = .ok 0 w := by
        intro y hy
        obtain ⟨k', hk'⟩ := hevh E ρ t' m' a w ha hR y hy
        simp [Instr.sliceBound, hk', asIntOf]
      have e2 : ∀ y, lo = some y → (Instr.sliceBound (a.eval y) 0 .sliceB).run P w = .ok 0 w := by
        intro y hy
        obtain ⟨k', hk'⟩ := hevl E ρ t' m' a w ha hR y hy
        simp [Instr.sliceBound, hk', asIntOf]
      cases hi with
      | none => cases lo with
        | none => simp [Instr.sliceBounds]
        | some y => simp [Instr.sliceBounds, e2 y rfl]
      | some yh => cases lo with
        | none => simp [Instr.sliceBounds, e1 yh rfl]
        | some y => simp [Instr.sliceBounds, e1 yh rfl, e2 y rfl]
    refine ⟨.slice none 0 0, ?_, Rd.v rfl, fun _ h => h.elim⟩
    simp [execOp, ho, r1, Instr.sliceAt, Instr.slice, run_underlying hkk, hbounds, run_sizeOf' (hT e TE hte)]
  · exact h.elim

theorem bounds_run {P : Program} {w : World} {n cap : Nat} {lo hi : Option Value} {ll hh : Nat} {lz hz : Int} (el : ll = lz.toNat) (eh : hh = hz.toNat) (hlo : ∀ y, lo = some y → ∃ k, y = .int k lz) (hhi : ∀ y, hi = some y → ∃ k, y = .int k hz)
    (nlo : lo = none → lz = 0) (nhi : hi = none → hz = n) (b1 : 0 ≤ lz) (b2 : lz ≤ hz) (b3 : hz ≤ cap) : (Instr.sliceBounds true n cap lo hi none).run P w = .ok (ll, hh, cap) w := by
  have e1 : ∀ y, hi = some y → (Instr.sliceBound y cap .sliceAcap).run P w = .ok hh w := by
    intro y hy
    obtain ⟨k', hk'⟩ := hhi y hy
    have c1 : 0 ≤ hz := by omega
    simp [Instr.sliceBound, hk', asIntOf, c1, b3, eh]
  have e2 : ∀ y, lo = some y → (Instr.sliceBound y hh .sliceB).run P w = .ok ll w := by
    intro y hy
    obtain ⟨k', hk'⟩ := hlo y hy
    have c2 : lz ≤ (hh : Int) := by omega
    simp [Instr.sliceBound, hk', asIntOf, b1, c2, el]
  cases hi with
  | none =>
    have hzn := nhi rfl
    have hhn : hh = n := by omega
    subst hhn
    cases lo with
    | none => have := nlo rfl; have : ll = 0 := by omega
              subst this; simp [Instr.sliceBounds]
    | some y => simp [Instr.sliceBounds, e2 y rfl]
  | some yh =>
    cases lo with
    | none => have := nlo rfl; have : ll = 0 := by omega
              subst this; simp [Instr.sliceBounds, e1 yh rfl]
    | some y => simp [Instr.sliceBounds, e1 yh rfl, e2 y rfl]

theorem bounds3_run {P : Program} {w : World} {n cap : Nat} {lo : Option Value} {hi mx : Value} {ll : Nat} {lz hz mz : Int} (el : ll = lz.toNat) (hlo : ∀ y, lo = some y → ∃ k, y = .int k lz) (hhi : ∃ k, hi = .int k hz) (hmx : ∃ k, mx = .int k mz)
    (nlo : lo = none → lz = 0) (b1 : 0 ≤ lz) (b2 : lz ≤ hz) (b3 : hz ≤ mz) (b4 : mz ≤ cap) : (Instr.sliceBounds true n cap lo (some hi) (some mx)).run P w = .ok (ll, hz.toNat, mz.toNat) w := by
  obtain ⟨k1, rfl⟩ := hhi
  obtain ⟨k2, rfl⟩ := hmx
  have c1 : 0 ≤ hz := by omega
  have c2 : 0 ≤ mz := by omega
  have c3 : hz ≤ (mz.toNat : Int) := by omega
  have c4 : lz ≤ (hz.toNat : Int) := by omega
  cases lo with
  | none =>
    have := nlo rfl
    have : ll = 0 := by omega
    subst this
    have c3' : hz ≤ max mz 0 := by omega
    simp [Instr.sliceBounds, Instr.sliceBound, asIntOf, c1, c2, c3', b4]
  | some y =>
    obtain ⟨k3, rfl⟩ := hlo y rfl
    have c3' : hz ≤ max mz 0 := by omega
    have c4' : lz ≤ max hz 0 := by omega
    simp [Instr.sliceBounds, Instr.sliceBound, asIntOf, c1, c2, c3', c4', b1, b4, el]

theorem optW_ok {o : Oper} {t : Nat → TV} (d : Nat) (b : Option Operand) {K : Nat → Int → Prop} (hmem : ∀ y, b = some y → y ∈ o.op.operands.toList) (hb : optW t d b K) : ∃ (n : Nat) (z : Int), K n z ∧ n = z.toNat ∧ (b = none → z = d) ∧
    ∀ (E : Env) (ρ : Id → Option (Nat × Nat)) (t' : Nat → TV) (m' : Id → Mem) (a : Act) (w : World), Agree o t t' → Rel E ρ t' m' a w → ∀ y, b.map a.eval = some y → ∃ k, y = .int k z := by
  cases b with
  | none => exact ⟨d, d, hb, by simp, fun _ => rfl, fun _ _ _ _ _ _ _ _ y hy => by cases hy⟩
  | some y =>
    simp only [optW, boundW] at hb
    split at hb
    · rename_i k z hy
      refine ⟨z.toNat, z, hb, rfl, (fun e => by cases e), fun E ρ t' m' a w ha hR y' hy' => ?_⟩
      cases hy'
      have h1 := (opd_ok hR y).1
      rw [opd_agree ha (hmem y rfl), hy] at h1
      exact ⟨k, (Rd.inv_v (show Rd _ _ _ _ from h1)).1⟩
    · exact hb.elim

theorem boundW_ok {o : Oper} {t : Nat → TV} {b : Operand} {K : Nat → Int → Prop} (hmem : b ∈ o.op.operands.toList) (hb : boundW (opd t b) K) : ∃ (n : Nat) (z : Int), K n z ∧
    ∀ (E : Env) (ρ : Id → Option (Nat × Nat)) (t' : Nat → TV) (m' : Id → Mem) (a : Act) (w : World), Agree o t t' → Rel E ρ t' m' a w → ∃ k, a.eval b = .int k z := by
  unfold boundW at hb
  split at hb
  · rename_i k z hy
    refine ⟨z.toNat, z, hb, fun E ρ t' m' a w ha hR => ?_⟩
    have h1 := (opd_ok hR b).1
    rw [opd_agree ha hmem, hy] at h1
    exact ⟨k, (Rd.inv_v (show Rd _ _ _ _ from h1)).1⟩
  · exact hb.elim

/-- The header of a slice. -/
theorem lenW_ok {o : Oper} {t : Nat → TV} {m : Id → Mem} {x : Operand} (hmx : x ∈ o.op.operands.toList) {K : Nat → List Nat → Prop} (h : lenW m (opd t x) K) : ∃ n rd, K n rd ∧
    ∀ (E : Env) (ρ : Id → Option (Nat × Nat)) (t' : Nat → TV) (m' : Id → Mem) (a : Act) (w : World), Agree o t t' → Same rd m m' → Rel E ρ t' m' a w → ∃ ad cap, a.eval x = .slice ad n cap ∧ n ≤ cap ∧ (ad = none → n = 0) := by
  have hh : ∀ b g g' n k, opd t x = .hdl b g → (m b).bldy = some (g', n, k) → g = g' → ∀ (E : Env) (ρ : Id → Option (Nat × Nat)) (t' : Nat → TV) (m' : Id → Mem) (a : Act) (w : World), Agree o t t' → Same [b.key] m m' → Rel E ρ t' m' a w → ∃ ad cap, a.eval x = .slice ad n cap ∧ n ≤ cap ∧ (ad = none → n = 0) := by
    intro b g g' n k hx hb hg E ρ t' m' a w ha hm hR
    have h1 := (opd_ok hR x).1
    rw [opd_agree ha hmx, hx] at h1
    rw [← hm.at b] at hb
    simp only [TOk] at h1
    rw [hdlOk_bldy hb] at h1
    have h3 := h1.2.2 hg
    rcases mem_bldy hb (hR.mem b) with ⟨hρ, hn0⟩ | ⟨bl, cap, arr, _, hρ, _, _, hnc, _⟩
    · simp only [HdlAt, hρ] at h3
      subst hn0
      exact ⟨none, 0, h3, Nat.le_refl _, fun _ => rfl⟩
    · simp only [HdlAt, hρ] at h3
      exact ⟨_, cap, h3, hnc, fun e => by simp at e⟩
  have hs : ∀ b g g' lo n n' k, opd t x = .sub b g lo n → (m b).bldy = some (g', n', k) → g = g' → ∀ (E : Env) (ρ : Id → Option (Nat × Nat)) (t' : Nat → TV) (m' : Id → Mem) (a : Act) (w : World), Agree o t t' → Same [b.key] m m' → Rel E ρ t' m' a w → ∃ ad cap, a.eval x = .slice ad n cap ∧ n ≤ cap ∧ (ad = none → n = 0) := by
    intro b g g' lo n n' k hx hb hg E ρ t' m' a w ha hm hR
    have h1 := (opd_ok hR x).1
    rw [opd_agree ha hmx, hx] at h1
    rw [← hm.at b] at hb
    simp only [TOk] at h1
    rw [subOk_bldy hb] at h1
    obtain ⟨h2, h3⟩ := h1.2.2 hg
    rcases mem_bldy hb (hR.mem b) with ⟨hρ, hn0⟩ | ⟨bl, cap, arr, _, hρ, _, _, hnc, _⟩
    · simp only [SubAt, hρ] at h3
      have : n = 0 := by omega
      subst this
      exact ⟨none, 0, h3, Nat.le_refl _, fun _ => rfl⟩
    · simp only [SubAt, hρ] at h3
      obtain ⟨ad, h3, _⟩ := h3
      exact ⟨_, _, h3, by omega, fun e => by simp at e⟩
  unfold lenW at h
  split at h
  · rename_i n k get hx
    refine ⟨_, _, h, fun E ρ t' m' a w ha _ hR => ?_⟩
    have h1 := (opd_ok hR x).1
    rw [opd_agree ha hmx, hx] at h1
    rcases Rd.inv_sl (show Rd _ _ _ _ from h1) with ⟨r1, r0⟩ | ⟨ad, cap, r1, r0⟩ | ⟨b, off, cap, xs, r1, r2, r3, _⟩
    · subst r0; exact ⟨none, 0, r1, Nat.le_refl _, fun _ => rfl⟩
    · subst r0; exact ⟨some ad, cap, r1, Nat.zero_le _, fun _ => rfl⟩
    · exact ⟨_, cap, r1, r3, fun e => by simp at e⟩
  · rename_i hx
    refine ⟨_, _, h, fun E ρ t' m' a w ha _ hR => ?_⟩
    have h1 := (opd_ok hR x).1
    rw [opd_agree ha hmx, hx] at h1
    exact ⟨none, 0, (Rd.inv_v (show Rd _ _ _ _ from h1)).1, Nat.le_refl _, fun _ => rfl⟩
  · rename_i b g hx
    replace h := lookW_iff h
    split at h
    · rename_i g' n k e get hb
      replace h := bif_and h; obtain ⟨hk, h⟩ := h
      exact ⟨_, _, h, hh b g g' n k hx (by rw [hb]; rfl) (Nat.eq_of_beq_eq_true hk)⟩
    · rename_i g' n k e get hb
      replace h := bif_and h; obtain ⟨hk, h⟩ := h
      exact ⟨_, _, h, hh b g g' n k hx (by rw [hb]; rfl) (Nat.eq_of_beq_eq_true hk)⟩
    · exact h.elim
  · rename_i b g lo n hx
    replace h := lookW_iff h
    split at h
    · rename_i g' n' k e get hb
      replace h := bif_and h; obtain ⟨hk, h⟩ := h
      exact ⟨_, _, h, hs b g g' lo n n' k hx (by rw [hb]; rfl) (Nat.eq_of_beq_eq_true hk)⟩
    · rename_i g' n' k e get hb
      replace h := bif_and h; obtain ⟨hk, h⟩ := h
      exact ⟨_, _, h, hs b g g' lo n n' k hx (by rw [hb]; rfl) (Nat.eq_of_beq_eq_true hk)⟩
    · exact h.elim
  · exact h.elim

theorem stepOk_slice3 {P : Program} {o : Oper} {t : Nat → TV} {m : Id → Mem} {TT : Tab} (hT : TabOk P TT) {ty : TypeId} {T : Ty} (hty : TT ty = some T) {e : Nat} (hk : T.kind = .slc e) {TE : Ty} (hte : TT e = some TE) {x hi mx : Operand} {lo : Option Operand} (ho : o.op = .slice ty x lo (some hi) (some mx)) {K : Kont}
    (h : lenW m (opd t x) fun n rd => optW t 0 lo fun _ lI => boundW (opd t hi) fun _ hI => boundW (opd t mx) fun _ mI => Need (0 ≤ lI ∧ lI ≤ hI ∧ hI ≤ mI ∧ mI ≤ n) (K .any [] rd)) : ∃ z mo rd, K z mo rd ∧ StepOk P o t m z mo rd := by
  have hmx : x ∈ o.op.operands.toList := by rw [ho]; simp [Op.operands]
  have hkk : P.underlying ty = some (.slice e) := by have := (hT ty T hty).kind; rw [hk] at this; exact this
  obtain ⟨n, rd, h, hlen⟩ := lenW_ok hmx h
  obtain ⟨ll, lz, h, el, hnl, hevl⟩ := optW_ok (o := o) 0 lo (by intro y hy; rw [ho, hy]; simp [Op.operands]) h
  obtain ⟨hh, hz, h, hevh⟩ := boundW_ok (o := o) (by rw [ho]; simp [Op.operands]) h
  obtain ⟨mm, mz, h, hevm⟩ := boundW_ok (o := o) (by rw [ho]; simp [Op.operands]) h
  obtain ⟨⟨b1, b2, b3, b4⟩, h⟩ := h
  refine ⟨_, _, _, h, stepOk_pure fun E ρ t' m' a w hP ha hm hR => ?_⟩
  obtain ⟨ad, cap, e1, hnc, _⟩ := hlen E ρ t' m' a w ha hm hR
  have hb := bounds3_run (P := P) (w := w) (n := n) (cap := cap) (lo := lo.map a.eval) (hi := a.eval hi) (mx := a.eval mx) el (hevl E ρ t' m' a w ha hR) (hevh E ρ t' m' a w ha hR) (hevm E ρ t' m' a w ha hR) (fun e => by cases lo with | none => exact hnl rfl | some y => cases e) b1 b2 b3 (by omega)
  refine ⟨.slice (if mz.toNat = ll then ad else ad.map (·.add (ll * TE.size))) (hz.toNat - ll) (mz.toNat - ll), ?_, trivial, fun _ h => h.elim⟩
  simp [execOp, ho, e1, Instr.sliceAt, Instr.slice, run_underlying hkk, hb, run_sizeOf' (hT e TE hte)]

theorem run_equalIn_nil {P : Program} (w : World) (d : Nat) {ty e : TypeId} (hkk : P.underlying ty = some (.slice e)) (ad : Option Addr) (n cap : Nat) : (Op.equalIn (d + 1) ty (.slice ad n cap) (.slice none 0 0)).run P w = .ok ad.isNone w := by
  cases ad with
  | none => simp [Op.equalIn, run_underlying hkk]
  | some ad => simp [Op.equalIn, run_underlying hkk]

/-- A slice is compared with nil. -/
theorem stepOk_eqNil {P : Program} {o : Oper} {t : Nat → TV} {m : Id → Mem} {TT : Tab} (hT : TabOk P TT) {ty ty' : TypeId} {T : Ty} (hty : TT ty = some T) {e : Nat} (hk : T.kind = .slc e) {op : BinOp} {x y : Operand} (ho : o.op = .binOp op ty x y ty') (hy : opd t y = .d (.one (.v (.slice none 0 0)))) {neg : Bool} (hop : (op = .eql ∧ neg = false) ∨ (op = .neq ∧ neg = true)) {K : Kont}
    (h : lenW m (opd t x) fun n rd => K (.nb n neg) [] rd) : ∃ z mo rd, K z mo rd ∧ StepOk P o t m z mo rd := by
  have hmx : x ∈ o.op.operands.toList := by rw [ho]; simp [Op.operands]
  have hmy : y ∈ o.op.operands.toList := by rw [ho]; simp [Op.operands]
  have hkk : P.underlying ty = some (.slice e) := by have := (hT ty T hty).kind; rw [hk] at this; exact this
  obtain ⟨n, rd, h, hlen⟩ := lenW_ok hmx h
  refine ⟨_, _, _, h, stepOk_pure fun E ρ t' m' a w hP ha hm hR => ?_⟩
  obtain ⟨ad, cap, e1, hnc, hnil⟩ := hlen E ρ t' m' a w ha hm hR
  have h2 := (opd_ok hR y).1
  rw [opd_agree ha hmy, hy] at h2
  have e2 := (Rd.inv_v (show Rd _ _ _ _ from h2)).1
  have hr : (Op.equal ty (.slice ad n cap) (.slice none 0 0)).run P w = .ok ad.isNone w := by
    unfold Op.equal Op.maxDepth
    exact run_equalIn_nil w 9999 hkk ad n cap
  refine ⟨.bool (ad.isNone != neg), ?_, ⟨ad.isNone, rfl, fun hq => hnil (by simpa using hq)⟩, fun _ h => h.elim⟩
  rcases hop with ⟨rfl, rfl⟩ | ⟨rfl, rfl⟩
  · simp [execOp, ho, e1, e2, eqGuard, binOp, hr]
  · simp [execOp, ho, e1, e2, eqGuard, binOp, hr]

theorem stepOk_notNb {P : Program} {o : Oper} {t : Nat → TV} {m : Id → Mem} {ty : TypeId} {x : Operand} (ho : o.op = .unOp .not ty x) {n : Nat} {neg : Bool} (hx : opd t x = .nb n neg) : StepOk P o t m (.nb n (!neg)) [] [] := by
  have hmx : x ∈ o.op.operands.toList := by rw [ho]; simp [Op.operands]
  refine stepOk_pure fun E ρ t' m' a w hP ha hm hR => ?_
  have h1 := (opd_ok hR x).1
  rw [opd_agree ha hmx, hx] at h1
  obtain ⟨b, e1, e2⟩ := h1
  refine ⟨.bool (b != !neg), ?_, ⟨b, rfl, e2⟩, fun _ h => h.elim⟩
  simp [execOp, ho, e1, Op.unary]

/-- Some elements of a slice that is being made. -/
theorem stepOk_sliceR {P : Program} {o : Oper} {t : Nat → TV} {m : Id → Mem} {TT : Tab} (hT : TabOk P TT) {ty : TypeId} {T : Ty} (hty : TT ty = some T) {e : Nat} (hk : T.kind = .slc e) {TE : Ty} (hte : TT e = some TE) {x : Operand} {lo hi : Option Operand} (ho : o.op = .slice ty x lo hi none) {b : Id} {g lo0 n0 : Nat}
    (hx : (opd t x = .hdl b g ∧ lo0 = 0 ∧ ∃ n, (m b).bldy.map (·.2.1) = some n ∧ n0 = n) ∨ opd t x = .sub b g lo0 n0) {K : Kont} (h : sliceR TE.size m b g lo0 n0 t lo hi K) : ∃ z mo rd, K z mo rd ∧ StepOk P o t m z mo rd := by
  have hmx : x ∈ o.op.operands.toList := by rw [ho]; simp [Op.operands]
  have hkk : P.underlying ty = some (.slice e) := by have := (hT ty T hty).kind; rw [hk] at this; exact this
  unfold sliceR at h
  replace h := lookW_iff h
  split at h
  · rename_i g' n k e' get hb
    replace h := bif_and h; obtain ⟨hq, h⟩ := h
    simp only [Bool.and_eq_true] at hq
    obtain rfl := Nat.eq_of_beq_eq_true hq.1
    obtain rfl := Nat.eq_of_beq_eq_true hq.2
    obtain ⟨hh, hz, h, eh, hnh, hevh⟩ := optW_ok (o := o) n0 hi (by intro y hy; rw [ho, hy]; simp [Op.operands]) h
    obtain ⟨ll, lz, h, el, hnl, hevl⟩ := optW_ok (o := o) 0 lo (by intro y hy; rw [ho, hy]; simp [Op.operands]) h
    obtain ⟨⟨b1, b2, b3⟩, h⟩ := h
    -- the header, and what comes of it
    have hdr : ∀ E ρ t' m' a w, Agree o t t' → Same [b.key] m m' → Rel E ρ t' m' a w → (ρ b = none ∧ n = 0 ∧ (execOp a.eval o).run P w = .ok (.value (.slice none 0 0)) w) ∨
        ∃ bl cap ad, ρ b = some (bl, cap) ∧ n ≤ cap ∧ (execOp a.eval o).run P w = .ok (.value (.slice (some ad) (hh - ll) (cap - (lo0 + ll)))) w ∧ (lo0 + ll < cap ∨ lo0 + ll = 0 → ad = ⟨bl, (lo0 + ll) * TE.size, none⟩) := by
      intro E ρ t' m' a w ha hm hR
      have h1 := (opd_ok hR x).1
      rw [opd_agree ha hmx] at h1
      have hb' : m' b = .bld g n TE.size e' get := by rw [hm.at b]; exact hb
      have hby : (m' b).bldy = some (g, n, TE.size) := by rw [hb']; rfl
      have hcase : (ρ b = none ∧ n = 0 ∧ a.eval x = .slice none 0 0 ∧ n0 = 0) ∨ ∃ bl cap ad, ρ b = some (bl, cap) ∧ n ≤ cap ∧ a.eval x = .slice (some ad) n0 (cap - lo0) ∧ (lo0 < cap ∨ lo0 = 0 → ad = ⟨bl, lo0 * TE.size, none⟩) ∧ lo0 ≤ cap := by
        rcases hx with ⟨hx, rfl, n', hn', rfl⟩ | hx
        · rw [hb] at hn'
          obtain rfl : n = n0 := by simpa [Mem.bldy] using hn'
          rw [hx] at h1
          simp only [TOk] at h1
          rw [hdlOk_bldy hby] at h1
          have h3 := h1.2.2 rfl
          rcases mem_bldy hby (hR.mem b) with ⟨hρ, hn0⟩ | ⟨bl, cap, arr, _, hρ, _, _, hnc, _⟩
          · simp only [HdlAt, hρ] at h3
            subst hn0
            exact .inl ⟨hρ, rfl, h3, rfl⟩
          · simp only [HdlAt, hρ] at h3
            exact .inr ⟨bl, cap, _, hρ, hnc, h3, fun _ => by simp, Nat.zero_le _⟩
        · rw [hx] at h1
          simp only [TOk] at h1
          rw [subOk_bldy hby] at h1
          obtain ⟨hln, h3⟩ := h1.2.2 rfl
          rcases mem_bldy hby (hR.mem b) with ⟨hρ, hn0⟩ | ⟨bl, cap, arr, _, hρ, _, _, hnc, _⟩
          · simp only [SubAt, hρ] at h3
            exact .inl ⟨hρ, hn0, h3, by omega⟩
          · simp only [SubAt, hρ] at h3
            obtain ⟨ad, h3, h4⟩ := h3
            exact .inr ⟨bl, cap, ad, hρ, hnc, h3, h4, by omega⟩
      rcases hcase with ⟨hρ, hn0, hval, h00⟩ | ⟨bl, cap, ad, hρ, hnc, hval, had, hlc⟩
      · refine .inl ⟨hρ, hn0, ?_⟩
        have hrun := bounds_run (P := P) (w := w) (n := n0) (cap := 0) (lo := lo.map a.eval) (hi := hi.map a.eval) el eh (hevl E ρ t' m' a w ha hR) (hevh E ρ t' m' a w ha hR) (fun e => by cases lo with | none => exact hnl rfl | some y => cases e) (fun e => by cases hi with | none => exact hnh rfl | some y => cases e) b1 b2 (by omega)
        have hl0 : ll = 0 := by omega
        have hh0 : hh = 0 := by omega
        rw [h00] at hrun
        simp [execOp, ho, hval, Instr.sliceAt, Instr.slice, run_underlying hkk, hrun, run_sizeOf' (hT e TE hte), hl0, hh0]
      · have hrun := bounds_run (P := P) (w := w) (n := n0) (cap := cap - lo0) (lo := lo.map a.eval) (hi := hi.map a.eval) el eh (hevl E ρ t' m' a w ha hR) (hevh E ρ t' m' a w ha hR) (fun e => by cases lo with | none => exact hnl rfl | some y => cases e) (fun e => by cases hi with | none => exact hnh rfl | some y => cases e) b1 b2 (by omega)
        refine .inr ⟨bl, cap, if cap - lo0 = ll then ad else ad.add (ll * TE.size), hρ, hnc, ?_, fun hc => ?_⟩
        · simp only [execOp, ho, hval, Instr.sliceAt, Instr.slice, Sem.run_bind, run_underlying hkk, Result.andThen_ok, Option.map_none, hrun, run_sizeOf' (hT e TE hte), Sem.run_pure, Option.map_some]
          rw [show cap - lo0 - ll = cap - (lo0 + ll) by omega]
          by_cases hc : cap - lo0 = ll <;> simp [hc]
        · by_cases hcl : cap - lo0 = ll
          · rw [if_pos hcl]
            have hz0 : lo0 + ll = 0 := by omega
            have : lo0 = 0 := by omega
            have hl0 : ll = 0 := by omega
            rw [had (.inr this), hl0, Nat.add_zero]
          · rw [if_neg hcl, had (by omega), addr_add, Nat.add_mul]
    rcases h.h with h | ⟨h0, h⟩
    · refine ⟨_, _, _, h, stepOk_pure fun E ρ t' m' a w hP ha hm hR => ?_⟩
      have hb' : m' b = .bld g n TE.size e' get := by rw [hm.at b]; exact hb
      have hby : (m' b).bldy = some (g, n, TE.size) := by rw [hb']; rfl
      have hle : lo0 + ll + (hh - ll) ≤ n := by omega
      rcases hdr E ρ t' m' a w ha hm hR with ⟨hρ, hn0, hrun⟩ | ⟨bl, cap, ad, hρ, hnc, hrun, had⟩
      · refine ⟨_, hrun, ?_, fun _ h => by cases h; rw [hb']; simp⟩
        simp only [TOk]
        rw [subOk_bldy hby]
        refine ⟨rfl, Nat.le_refl _, fun _ => ⟨hle, ?_⟩⟩
        simp only [SubAt, hρ]
      · refine ⟨_, hrun, ?_, fun _ h => by cases h; rw [hb']; simp⟩
        simp only [TOk]
        rw [subOk_bldy hby]
        refine ⟨rfl, Nat.le_refl _, fun _ => ⟨hle, ?_⟩⟩
        simp only [SubAt, hρ]
        exact ⟨ad, rfl, had⟩
    · refine ⟨_, _, _, h, stepOk_mem fun E ρ t' m' a w hP ha hm hd hR => ?_⟩
      have hb' : m' b = .bld g n TE.size e' get := by rw [hm.at b]; exact hb
      have hby : (m' b).bldy = some (g, n, TE.size) := by rw [hb']; rfl
      have hnew : (Mem.bld (g + 2) hh TE.size e' get).bldy = some (g + 2, hh, TE.size) := rfl
      have hl0 : ll = 0 := by omega
      have hlo0 : lo0 = 0 := by omega
      have hR' := hR.regen hby (nm := .bld (g + 2) hh TE.size e' get) hnew (by omega) (by omega) (fun _ h => h.elim) (fun _ hL => by
        have hmo := hR.mem b
        rw [hb'] at hmo
        rcases hmo with ⟨h1, h2⟩ | ⟨bl, cap, arr, h1, h2, h3, h4, h5, h6⟩
        · exact .inl ⟨h1, by omega⟩
        · refine .inr ⟨bl, cap, arr, h1, h2, h3, by omega, h5, fun i hi j hj => ?_⟩
          obtain ⟨x, hx, hr⟩ := h6 i (by omega) j hj
          exact ⟨x, hx, hr.mono (fun b hb => ⟨hL b hb, rfl⟩)⟩)
      have hok : ∀ v, v.oneCell' = true → HdlAt ρ v b hh → TOk E (upd m' b (.bld (g + 2) hh TE.size e' get)) ρ w v (.hdl b (g + 2)) := fun v h1 h2 => by
        simp only [TOk]
        rw [hdlOk_bldy (by rw [upd_same]; exact hnew)]
        exact ⟨h1, Nat.le_refl _, fun _ => h2⟩
      have hcl : ∀ b', (TV.hdl b (g + 2)).refs b' → upd m' b (.bld (g + 2) hh TE.size e' get) b' ≠ .none := fun b' hb' => by cases hb'; rw [upd_same]; simp
      rcases hdr E ρ t' m' a w ha hm hR with ⟨hρ, hn0, hrun⟩ | ⟨bl, cap, ad, hρ, hnc, hrun, had⟩
      · exact ⟨_, _, _, _, hrun, .inl rfl, hR', hok _ rfl (by simp only [HdlAt, hρ]), hcl⟩
      · refine ⟨_, _, _, _, hrun, .inl rfl, hR', hok _ rfl ?_, hcl⟩
        simp only [HdlAt, hρ]
        rw [had (.inr h0), hl0, hlo0]
        simp
  · exact h.elim

theorem minW_ok {P : Program} : ∀ (l : List TV) (k : IntKind) (x : Int) (K : Int → Prop), minW k x l K →
    ∃ n, K n ∧ ∀ (E : Env) (m : Id → Mem) (ρ : Id → Option (Nat × Nat)) (w : World) (vs : List Value), vs.length = l.length → (∀ (i : Nat) (v : Value) (tv : TV), vs[i]? = some v → l[i]? = some tv → TOk E m ρ w v tv) →
      ∀ w', (vs.foldlM Builtin.min2 (.int k x)).run P w' = .ok (.int k n) w'
  | [], k, x, K, h => ⟨x, h, fun E m ρ w vs hl _ w' => by
      obtain rfl : vs = [] := List.eq_nil_of_length_eq_zero hl
      simp⟩
  | y :: r, k, x, K, h => by
    simp only [minW] at h
    split at h
    · rename_i k' y'
      obtain ⟨n, h1, h2⟩ := minW_ok (P := P) r k _ K h
      refine ⟨n, h1, fun E m ρ w vs hl hv w' => ?_⟩
      match vs, hl, hv with
      | v :: vs, hl, hv =>
        have h0 := hv 0 v _ rfl rfl
        have e0 := (Rd.inv_v (show Rd _ _ _ _ from h0)).1
        have h3 := h2 E m ρ w vs (by simpa using hl) (fun i v tv a b => hv (i + 1) v tv (by simpa using a) (by simpa using b)) w'
        simp [List.foldlM_cons, e0, Builtin.min2, h3]
    · exact h.elim

theorem maxW_ok {P : Program} : ∀ (l : List TV) (k : IntKind) (x : Int) (K : Int → Prop), maxW k x l K →
    ∃ n, K n ∧ ∀ (E : Env) (m : Id → Mem) (ρ : Id → Option (Nat × Nat)) (w : World) (vs : List Value), vs.length = l.length → (∀ (i : Nat) (v : Value) (tv : TV), vs[i]? = some v → l[i]? = some tv → TOk E m ρ w v tv) →
      ∀ w', (vs.foldlM Builtin.max2 (.int k x)).run P w' = .ok (.int k n) w'
  | [], k, x, K, h => ⟨x, h, fun E m ρ w vs hl _ w' => by
      obtain rfl : vs = [] := List.eq_nil_of_length_eq_zero hl
      simp⟩
  | y :: r, k, x, K, h => by
    simp only [maxW] at h
    split at h
    · rename_i k' y'
      obtain ⟨n, h1, h2⟩ := maxW_ok (P := P) r k _ K h
      refine ⟨n, h1, fun E m ρ w vs hl hv w' => ?_⟩
      match vs, hl, hv with
      | v :: vs, hl, hv =>
        have h0 := hv 0 v _ rfl rfl
        have e0 := (Rd.inv_v (show Rd _ _ _ _ from h0)).1
        have h3 := h2 E m ρ w vs (by simpa using hl) (fun i v tv a b => hv (i + 1) v tv (by simpa using a) (by simpa using b)) w'
        simp only [gt_iff_lt] at h3
        simp [List.foldlM_cons, e0, Builtin.max2, h3]
    · exact h.elim

end Go.Vm
namespace Go.Vm
set_option linter.unusedVariables false
set_option linter.unusedSimpArgs false
open Go Go.RowKit

theorem L_new {E : Env} {ρ : Id → Option (Nat × Nat)} {t : Nat → TV} {m : Id → Mem} {a : Act} {w w' : World} (h : Rel E ρ t m a w) (o : Id) (nm : Mem) (c : Nat)
    (hb : Below w.heap.size w w') (hgt : w.heap.size < w'.heap.size) : ∀ b, L E m ρ w b → L E (upd m o nm) (upd ρ o (some (w.heap.size, c))) w' b ∧ w'.heap[b]? = w.heap[b]? := by
  intro b hl
  have hlt := L_lt h hl
  refine ⟨⟨hl.1.imp id (fun h1 => h1.imp id (fun h1 => ⟨h1.1, by omega⟩)), fun o' c' l r => ?_⟩, hb.block b hlt⟩
  by_cases e : o' = o
  · subst e; rw [upd_same] at r; simp at r; omega
  · rw [upd_ne _ _ _ e] at l r; exact hl.2 o' c' l r

/-- The object is new, or begins a later generation. -/
structure NewGen (E : Env) (m : Id → Mem) (o : Id) (g : Nat) : Prop where
  one : g ≠ 1
  h : (m o = .none ∧ E.m0 o = .none) ∨ ∃ g0 n0 k0, (m o).bldy = some (g0, n0, k0) ∧ g0 < g
theorem NewGen.fresh {E : Env} {m : Id → Mem} {d : Nat} (h : m (.n d) = .none) (hd : d < E.N) : NewGen E m (.n d) 0 := ⟨by omega, .inl ⟨h, E.hm0 d (Nat.le_of_lt hd)⟩⟩
theorem NewGen.old {E : Env} {m : Id → Mem} {o : Id} {g n k : Nat} {e : TypeId} {get : Nat → Nat → SV} (h : m o = .bld g n k e get) : NewGen E m o (g + 2) := ⟨by omega, .inr ⟨g, n, k, by rw [h]; rfl, by omega⟩⟩

/-- A slice that is being made comes, or begins a new generation. -/
theorem Rel.newGen {E : Env} {ρ : Id → Option (Nat × Nat)} {t : Nat → TV} {m : Id → Mem} {a : Act} {w w' : World} (h : Rel E ρ t m a w) {o : Id} {g n k : Nat} {e : TypeId} {get : Nat → Nat → SV} {nr : Option (Nat × Nat)} (hok : NewGen E m o g)
    (hb : Bx E.w0.heap.size E.X w w')
    (hL : ∀ b, L E m ρ w b → L E (upd m o (.bld g n k e get)) (upd ρ o nr) w' b ∧ w'.heap[b]? = w.heap[b]?)
    (hother : ∀ o' b c, o' ≠ o → (m o').live → ρ o' = some (b, c) → w'.heap[b]? = w.heap[b]?)
    (hnew : ∀ b c, nr = some (b, c) → ((E.X b ∨ E.w0.heap.size ≤ b) ∧ b < w'.heap.size) ∧ ∀ o' c', o' ≠ o → (m o').live → ρ o' ≠ some (b, c'))
    (hmem : MemOk E (upd m o (.bld g n k e get)) (upd ρ o nr) w' o (.bld g n k e get)) : Rel E (upd ρ o nr) t (upd m o (.bld g n k e get)) a w' := by
  have hn' : (upd m o (.bld g n k e get) o).bldy = some (g, n, k) := by rw [upd_same]; rfl
  have hold : m o ≠ .none → ∃ g0 n0 k0, (m o).bldy = some (g0, n0, k0) ∧ g0 < g := fun hn => hok.h.resolve_left (fun h => hn h.1)
  refine h.one o _ nr hb hL hother (fun _ => hnew) (by simp) (fun _ h => h.elim) (fun e => ?_) (fun e => absurd e hok.one) hmem (fun hn => ?_) (fun x q i off hn => ?_) (fun x q lo c hn => ?_)
  · rcases hok.h with h1 | ⟨g0, n0, k0, h1, _⟩
    · exact h1.2
    · exact absurd e (live_bldy h1).2
  · obtain ⟨g0, n0, k0, h1, h2⟩ := hold hn
    exact newer_carry h1 hn' h2
  · obtain ⟨g0, n0, k0, h1, h2⟩ := hold hn
    exact newer_ep h1 hn' h2 x q i off
  · obtain ⟨g0, n0, k0, h1, h2⟩ := hold hn
    exact newer_sub h1 hn' h2 x q lo c

/-- A slice that is being made lies in a new block. -/
theorem Rel.newBld {E : Env} {ρ : Id → Option (Nat × Nat)} {t : Nat → TV} {m : Id → Mem} {a : Act} {w w' : World} (h : Rel E ρ t m a w) (o : Id) (g n k cap : Nat) (e : TypeId) (get : Nat → Nat → SV) (arr : Array Value)
    (hb : Below w.heap.size w w') (hgt : w.heap.size < w'.heap.size) (hblk : w'.heap[w.heap.size]? = some (.cells arr e (0, 0))) (hsz : arr.size = cap * k) (hn : n ≤ cap) (hc : cap ≤ maxLen)
    (hel : ∀ i, i < n → ∀ j, j < k → ∃ x, arr[i * k + j]? = some x ∧ Rd (L E m ρ w) w x (get i j)) (hok : NewGen E m o g) :
    Rel E (upd ρ o (some (w.heap.size, cap))) t (upd m o (.bld g n k e get)) a w' ∧ TOk E (upd m o (.bld g n k e get)) (upd ρ o (some (w.heap.size, cap))) w' (.slice (some ⟨w.heap.size, 0, none⟩) n cap) (.hdl o g) := by
  have hL := L_new h o (.bld g n k e get) cap hb hgt
  refine ⟨h.newGen hok (Bx.of hb h.below.size) hL ?_ ?_ ?_, ?_⟩
  · intro o' b c _ l r
    exact hb.block b (h.lo o' b c l r).2
  · intro b c hr
    simp only [Option.some.injEq, Prod.mk.injEq] at hr
    obtain ⟨rfl, rfl⟩ := hr
    exact ⟨⟨.inr h.below.size, hgt⟩, fun o' c' _ l r => absurd (h.lo o' _ c' l r).2 (Nat.lt_irrefl _)⟩
  · refine .inr ⟨w.heap.size, cap, arr, upd_same _ _ _, hblk, hsz, hn, hc, fun i hi j hj => ?_⟩
    obtain ⟨x, hx, hr⟩ := hel i hi j hj
    exact ⟨x, hx, hr.mono hL⟩
  · simp only [TOk, HdlOk, HdlAt, upd_same]; exact ⟨rfl, Nat.le_refl _, fun _ => trivial⟩

theorem L_same {E : Env} {ρ : Id → Option (Nat × Nat)} {m : Id → Mem} {w : World} (o : Id) (nm : Mem) (hlive : ∀ b c, ρ o = some (b, c) → (m o).live) :
    ∀ b, L E m ρ w b → L E (upd m o nm) ρ w b := by
  intro b hl
  refine ⟨hl.1, fun o' c' l r => ?_⟩
  by_cases e : o' = o
  · subst e; exact hl.2 o' c' (hlive b c' r) r
  · rw [upd_ne _ _ _ e] at l; exact hl.2 o' c' l r

/-- What is being made is nil still. -/
theorem Rel.nilBld {E : Env} {ρ : Id → Option (Nat × Nat)} {t : Nat → TV} {m : Id → Mem} {a : Act} {w : World} (h : Rel E ρ t m a w) (o : Id) (g k : Nat) (e : TypeId) (get : Nat → Nat → SV) (hok : NewGen E m o g) :
    Rel E (upd ρ o none) t (upd m o (.bld g 0 k e get)) a w ∧ TOk E (upd m o (.bld g 0 k e get)) (upd ρ o none) w (.slice none 0 0) (.hdl o g) := by
  have hL : ∀ b, L E m ρ w b → L E (upd m o (.bld g 0 k e get)) (upd ρ o none) w b ∧ w.heap[b]? = w.heap[b]? := by
    intro b hl
    refine ⟨⟨hl.1, fun o' c' l r => ?_⟩, rfl⟩
    by_cases e : o' = o
    · subst e; rw [upd_same] at r; simp at r
    · rw [upd_ne _ _ _ e] at l r; exact hl.2 o' c' l r
  refine ⟨h.newGen hok (Bx.refl _ _ _) hL (fun _ _ _ _ _ _ => rfl) (fun b c hr => by simp at hr) (.inl ⟨upd_same _ _ _, rfl⟩), ?_⟩
  simp only [TOk, HdlOk, HdlAt, upd_same]; exact ⟨rfl, Nat.le_refl _, fun _ => trivial⟩

/-- The row of what is being made is written in place. -/
theorem Rel.setBld' {E : Env} {ρ : Id → Option (Nat × Nat)} {t : Nat → TV} {m : Id → Mem} {a : Act} {w : World} (h : Rel E ρ t m a w) (o : Id) (hl : (m o).live) (g n k b cap : Nat) (hρ : ρ o = some (b, cap)) (e : TypeId) (get : Nat → Nat → SV) (old arr : Array Value)
    (hblk : w.heap[b]? = some (.cells old e (0, 0))) (hsz : arr.size = cap * k) (hn : n ≤ cap) (hc : cap ≤ maxLen)
    (hel : ∀ i, i < n → ∀ j, j < k → ∃ x, arr[i * k + j]? = some x ∧ Rd (L E m ρ w) w x (get i j)) (hok : NewGen E m o g) :
    Rel E (upd ρ o (some (b, cap))) t (upd m o (.bld g n k e get)) a (w.setRow b arr) := by
  obtain ⟨k1, k2, k3⟩ := L_store h hl hρ (.bld g n k e get) arr
  refine h.newGen hok k1 k2 k3 ?_ ?_
  · intro b' c' hr
    simp only [Option.some.injEq, Prod.mk.injEq] at hr
    obtain ⟨rfl, rfl⟩ := hr
    obtain ⟨q1, q2⟩ := h.lo o b cap hl hρ
    exact ⟨⟨q1, by simpa using q2⟩, fun o' c'' ho' l' r' => ho' (h.inj o' o b c'' cap l' hl r' hρ)⟩
  · refine .inr ⟨b, cap, arr, upd_same _ _ _, setRow_heap w b _ _ e _ hblk, hsz, hn, hc, fun i hi j hj => ?_⟩
    obtain ⟨x, hx, hr⟩ := hel i hi j hj
    exact ⟨x, hx, hr.mono k2⟩
theorem Rel.setBld {E : Env} {ρ : Id → Option (Nat × Nat)} {t : Nat → TV} {m : Id → Mem} {a : Act} {w : World} (h : Rel E ρ t m a w) (o : Id) (hl : (m o).live) (g n k b cap : Nat) (hρ : ρ o = some (b, cap)) (e : TypeId) (get : Nat → Nat → SV) (old arr : Array Value)
    (hblk : w.heap[b]? = some (.cells old e (0, 0))) (hsz : arr.size = cap * k) (hn : n ≤ cap) (hc : cap ≤ maxLen)
    (hel : ∀ i, i < n → ∀ j, j < k → ∃ x, arr[i * k + j]? = some x ∧ Rd (L E m ρ w) w x (get i j)) (hok : NewGen E m o g) :
    Rel E (upd ρ o (some (b, cap))) t (upd m o (.bld g n k e get)) a (w.setRow b arr) ∧ TOk E (upd m o (.bld g n k e get)) (upd ρ o (some (b, cap))) (w.setRow b arr) (.slice (some ⟨b, 0, none⟩) n cap) (.hdl o g) := by
  refine ⟨h.setBld' o hl g n k b cap hρ e get old arr hblk hsz hn hc hel hok, ?_⟩
  simp only [TOk, HdlOk, HdlAt, upd_same]; exact ⟨rfl, Nat.le_refl _, fun _ => trivial⟩

/-- The source of an append. -/
def SrcOk (S : Nat → Prop) (w : World) (v : Value) (n k : Nat) (get : Nat → Nat → SV) : Prop :=
  (v = .slice none 0 0 ∧ n = 0) ∨ ∃ (a : Addr) (cap : Nat) (xs : Nat → Nat → Value), v = .slice (some a) n cap ∧
    (∀ i, i < n → ∀ j, j < k → w.cell? (a.add (i * k + j)) = some (xs i j)) ∧ ∀ i, i < n → ∀ j, j < k → Rd S w (xs i j) (get i j)

theorem srcW_ok {o : Oper} {t : Nat → TV} {m : Id → Mem} {x : Operand} (hmx : x ∈ o.op.operands.toList) {k : Nat} {K : Nat → (Nat → Nat → SV) → List Nat → Prop} (h : srcW m k (opd t x) K) :
    ∃ n get rd, K n get rd ∧ ∀ (E : Env) (ρ : Id → Option (Nat × Nat)) (t' : Nat → TV) (m' : Id → Mem) (a : Act) (w : World), Agree o t t' → Same rd m m' → Rel E ρ t' m' a w → SrcOk (L E m' ρ w) w (a.eval x) n k get := by
  unfold srcW at h
  split at h
  · rename_i n k' get hx
    replace h := bif_and h; obtain ⟨hk, h⟩ := h
    obtain rfl := Nat.eq_of_beq_eq_true hk
    refine ⟨_, _, _, h, fun E ρ t' m' a w ha _ hR => ?_⟩
    have h1 := (opd_ok hR x).1
    rw [opd_agree ha hmx, hx] at h1
    rcases Rd.inv_sl (show Rd _ _ _ _ from h1) with h2 | ⟨ad, cap, r1, r0⟩ | ⟨b, off, cap, xs, r1, r2, r3, r4, r5, r6⟩
    · exact .inl h2
    · subst r0; exact .inr ⟨ad, cap, fun _ _ => Go.undef, r1, fun i hi => absurd hi (Nat.not_lt_zero i), fun i hi => absurd hi (Nat.not_lt_zero i)⟩
    · exact .inr ⟨⟨b, off, none⟩, cap, xs, r1, fun i hi j hj => by rw [addr_add]; exact r5 i hi j hj, r6⟩
  · rename_i hx
    refine ⟨_, _, _, h, fun E ρ t' m' a w ha _ hR => ?_⟩
    have h1 := (opd_ok hR x).1
    rw [opd_agree ha hmx, hx] at h1
    exact .inl ⟨(Rd.inv_v (show Rd _ _ _ _ from h1)).1, rfl⟩
  · rename_i b g hx
    replace h := lookW_iff h
    split at h
    · rename_i g' n k' e get hb
      replace h := bif_and h; obtain ⟨hk, h⟩ := h
      simp only [Bool.and_eq_true] at hk
      obtain rfl := Nat.eq_of_beq_eq_true hk.1
      obtain rfl := Nat.eq_of_beq_eq_true hk.2
      refine ⟨_, _, _, h, fun E ρ t' m' a w ha hm hR => ?_⟩
      have h1 := (opd_ok hR x).1
      rw [opd_agree ha hmx, hx] at h1
      have hb' : m' b = .bld g n k' e get := by rw [hm.at b]; exact hb
      simp only [TOk, HdlOk, HdlAt, hb'] at h1
      have h3 := h1.2.2 trivial
      have hmo := hR.mem b
      rw [hb'] at hmo
      rcases hmo with ⟨hρ, hn0⟩ | ⟨bl, cap, arr, hρ, hblk, hsz, hnc, hcm, hel⟩
      · rw [hρ] at h3
        subst hn0
        exact .inl ⟨h3, rfl⟩
      · rw [hρ] at h3
        refine .inr ⟨⟨bl, 0, none⟩, cap, fun i j => (arr[i * k' + j]?).getD Go.undef, h3, fun i hi j hj => ?_, fun i hi j hj => ?_⟩
        · obtain ⟨y, hy, _⟩ := hel i hi j hj
          simp [addr_add, World.cell?, hblk, hy]
        · obtain ⟨y, hy, hr⟩ := hel i hi j hj
          simp only [hy, Option.getD_some]; exact hr
    · exact h.elim
  · rename_i b g lo n hx
    replace h := lookW_iff h
    split at h
    · rename_i g' n' k' e get hb
      replace h := bif_and h; obtain ⟨hk, h⟩ := h
      simp only [Bool.and_eq_true] at hk
      obtain rfl := Nat.eq_of_beq_eq_true hk.1
      obtain rfl := Nat.eq_of_beq_eq_true hk.2
      refine ⟨_, _, _, h, fun E ρ t' m' a w ha hm hR => ?_⟩
      have h1 := (opd_ok hR x).1
      rw [opd_agree ha hmx, hx] at h1
      have hb' : m' b = .bld g n' k' e get := by rw [hm.at b]; exact hb
      simp only [TOk, SubOk, SubAt, hb'] at h1
      obtain ⟨hln, h3⟩ := h1.2.2 trivial
      have hmo := hR.mem b
      rw [hb'] at hmo
      rcases hmo with ⟨hρ, hn0⟩ | ⟨bl, cap, arr, hρ, hblk, hsz, hnc, hcm, hel⟩
      · rw [hρ] at h3
        exact .inl ⟨by simpa using h3, by omega⟩
      · rw [hρ] at h3
        obtain ⟨ad, h3, h4⟩ := h3
        refine .inr ⟨ad, cap - lo, fun i j => (arr[(lo + i) * k' + j]?).getD Go.undef, h3, fun i hi j hj => ?_, fun i hi j hj => ?_⟩
        · obtain ⟨y, hy, _⟩ := hel (lo + i) (by omega) j hj
          rw [h4 (.inl (by omega)), addr_add, ← Nat.add_assoc, ← Nat.add_mul]
          simp [World.cell?, hblk, hy]
        · obtain ⟨y, hy, hr⟩ := hel (lo + i) (by omega) j hj
          simp only [hy, Option.getD_some]; exact hr
    · exact h.elim
  · exact h.elim

/-- The cells of a source, as a list. -/
theorem src_list {S : Nat → Prop} {w : World} {a : Addr} {n k : Nat} {xs : Nat → Nat → Value} {get : Nat → Nat → SV}
    (hc : ∀ i, i < n → ∀ j, j < k → w.cell? (a.add (i * k + j)) = some (xs i j)) (hr : ∀ i, i < n → ∀ j, j < k → Rd S w (xs i j) (get i j)) :
    ∃ news : List Value, news.length = n * k ∧ (∀ j u, news[j]? = some u → w.cell? (a.add j) = some u) ∧ (∀ u ∈ news, u.oneCell' = true) ∧ ∀ i, i < n → ∀ j, j < k → news[i * k + j]? = some (xs i j) := by
  have hdiv : ∀ p, p < n * k → p / k < n ∧ p % k < k ∧ p / k * k + p % k = p := by
    intro p hp
    have hk : 0 < k := by
      rcases Nat.eq_zero_or_pos k with h | h
      · subst h; simp at hp
      · exact h
    refine ⟨(Nat.div_lt_iff_lt_mul hk).2 hp, Nat.mod_lt _ hk, ?_⟩
    rw [Nat.mul_comm]; exact Nat.div_add_mod p k
  refine ⟨(List.range (n * k)).map fun p => xs (p / k) (p % k), by simp, fun j u hu => ?_, fun u hu => ?_, fun i hi j hj => ?_⟩
  · simp only [List.getElem?_map] at hu
    by_cases hj : j < n * k
    · simp [hj] at hu
      obtain ⟨d1, d2, d3⟩ := hdiv j hj
      have := hc _ d1 _ d2
      rw [d3] at this
      rw [this, hu]
    · simp [hj] at hu
  · simp only [List.mem_map, List.mem_range] at hu
    obtain ⟨p, hp, rfl⟩ := hu
    obtain ⟨d1, d2, _⟩ := hdiv p hp
    exact (hr _ d1 _ d2).oneCell
  · have hlt : i * k + j < n * k := by
      have : (i + 1) * k ≤ n * k := Nat.mul_le_mul_right k hi
      rw [Nat.add_mul] at this
      omega
    have hk : 0 < k := by omega
    have e1 : (i * k + j) / k = i := by
      rw [Nat.mul_comm, Nat.mul_add_div hk, Nat.div_eq_of_lt hj, Nat.add_zero]
    have e2 : (i * k + j) % k = j := by rw [Nat.mul_comm, Nat.mul_add_mod, Nat.mod_eq_of_lt hj]
    simp [hlt, e1, e2]

/-- Of the second argument's type an append asks only whether it is a number. -/
theorem append_ty {P : Program} {ty ty' e e' : TypeId} (h : P.underlying ty = some (.slice e)) (h' : P.underlying ty' = some (.slice e')) {t : TypeId} {u v : Value} {w : World} :
    (Builtin.append_ #[ty, ty'] t #[u, v]).run P w = (Builtin.append_ #[ty, ty] t #[u, v]).run P w := by
  unfold Builtin.append_
  cases u <;> simp [run_underlying h, run_underlying h']
theorem run_append_empty {P : Program} {w : World} (t ty e : TypeId) (i : TypeInfo) (ht : P.underlying t = some (.slice e)) (hi : P.info? e = some i) (a : Addr) (c : Nat) :
    (Builtin.append_ #[t, t] ty #[.slice none 0 0, .slice (some a) 0 c]).run P w = .ok (.slice none 0 0) w := by
  simp [Builtin.append_, run_underlying ht, sizeOf, typeInfo, hi, Builtin.lenOf, Builtin.firstCells, loadCells, loadCellsFrom]
theorem run_append_none {P : Program} {w : World} (t ty e : TypeId) (i : TypeInfo) (ht : P.underlying t = some (.slice e)) (hi : P.info? e = some i) :
    (Builtin.append_ #[t, t] ty #[.slice none 0 0, .slice none 0 0]).run P w = .ok (.slice none 0 0) w := by
  simp [Builtin.append_, run_underlying ht, sizeOf, typeInfo, hi, Builtin.lenOf, Builtin.firstCells]
theorem run_append_src_none {P : Program} {w : World} (t ty e : TypeId) (i : TypeInfo) (ht : P.underlying t = some (.slice e)) (hi : P.info? e = some i) (b : Addr) (n cap : Nat) (h : n ≤ cap) :
    (Builtin.append_ #[t, t] ty #[.slice (some b) n cap, .slice none 0 0]).run P w = .ok (.slice (some b) n cap) w := by
  simp [Builtin.append_, run_underlying ht, sizeOf, typeInfo, hi, Builtin.lenOf, Builtin.firstCells, h, storeCells]

theorem below_drew_alloc (w : World) (o : Obj) : Below w.heap.size w (w.drew.alloc o) :=
  (((Below.refl w.heap.size w).drew).alloc (Nat.le_refl _) o)

theorem size_zero {P : Program} {t : TypeId} {T : Ty} (hT : TyOk P t T) {i : TypeInfo} {z : Value} (hi : P.info? t = some i) (hz : i.zero = some z) : z.cells.size = i.size := by
  obtain ⟨i', z', h1, h2, h3, h4, h5, h6, h7⟩ := hT.info
  rw [hi] at h1
  cases h1
  rw [hz] at h4
  cases h4
  rw [h7, h2]

theorem size_zeroCells' (z : Array Value) (n : Nat) : (Builtin.zeroCells z n).size = n * z.size := by simp [Builtin.zeroCells]

theorem stepOk_append {P : Program} {o : Oper} {t : Nat → TV} {m : Id → Mem} {TT : Tab} (hT : TabOk P TT) {ty : TypeId} {T : Ty} (hty : TT ty = some T) {e : Nat} (hk : T.kind = .slc e) {TE : Ty} (hte : TT e = some TE) {s x : Operand} {d : Nat} (hdd : o.dst = some d)
    {c : Call} (ho : o.op = .call c) (hcal : c.callee = .builtin .append) (hargs : c.args.toList = [s, x]) {ty' : TypeId} (hat : c.argTypes.toList = [ty, ty']) (hsl : ∃ e', P.underlying ty' = some (.slice e')) {K : Kont} (h : appendW TE e d m (opd t s) (opd t x) K) :
    ∃ z mo rd, K z mo rd ∧ StepOk P o t m z mo rd := by
  obtain ⟨e2, hsl⟩ := hsl
  have hma : c.args = #[s, x] := by rw [← Array.toArray_toList (xs := c.args), hargs]
  have hmt : c.argTypes = #[ty, ty'] := by rw [← Array.toArray_toList (xs := c.argTypes), hat]
  have hms : s ∈ o.op.operands.toList := by rw [ho]; simp [Op.operands, Call.operands, hcal, hma]
  have hmx : x ∈ o.op.operands.toList := by rw [ho]; simp [Op.operands, Call.operands, hcal, hma]
  have hTy := hT ty T hty
  have hkk : P.underlying ty = some (.slice e) := by have := hTy.kind; rw [hk] at this; exact this
  have hTE := hT e TE hte
  obtain ⟨ie, ze, g1, g2, g3, g4, _⟩ := hTE.info
  have hzs := size_zero hTE g1 g4
  have hexec : ∀ (a : Act) (w : World) (u v r : Value) (w' : World), a.eval s = u → a.eval x = v → (Builtin.append_ #[ty, ty] o.type #[u, v]).run P w = .ok r w' → (execOp a.eval o).run P w = .ok (.value r) w' := by
    intro a w u v r w' hu hv hr
    rw [← append_ty hkk hsl] at hr
    simp [execOp, ho, resolve, invoke, hcal, hma, hmt, builtin, hu, hv, hr]
  -- a new row behind nil, or behind what has no room
  have fresh : ∀ (E : Env) (ρ : Id → Option (Nat × Nat)) (t' : Nat → TV) (m' : Id → Mem) (a : Act) (w : World), Rel E ρ t' m' a w → ∀ (b : Id) (g n n' cap' : Nat) (get get' : Nat → Nat → SV) (olds news : List Value) (rest : Array Value),
      NewGen E m' b g →
      olds.length = n * TE.size → news.length = n' * TE.size → rest.size = (cap' - (n + n')) * TE.size → n + n' ≤ cap' → cap' ≤ maxLen →
      (∀ i, i < n → ∀ j, j < TE.size → ∃ y, olds[i * TE.size + j]? = some y ∧ Rd (L E m' ρ w) w y (get i j)) →
      (∀ i, i < n' → ∀ j, j < TE.size → ∃ y, news[i * TE.size + j]? = some y ∧ Rd (L E m' ρ w) w y (get' i j)) →
      ∃ ρ', Rel E ρ' t' (upd m' b (.bld g (n + n') TE.size e fun i j => bif Nat.blt i n then get i j else get' (i - n) j)) a (w.drew.alloc (.cells (olds.toArray ++ news.toArray ++ rest) e)) ∧
        TOk E (upd m' b (.bld g (n + n') TE.size e fun i j => bif Nat.blt i n then get i j else get' (i - n) j)) ρ' (w.drew.alloc (.cells (olds.toArray ++ news.toArray ++ rest) e)) (.slice (some ⟨w.heap.size, 0, none⟩) (n + n') cap') (.hdl b g) := by
    intro E ρ t' m' a w hR b g n n' cap' get get' olds news rest hslot ho1 hn1 hr1 hc1 hc2 hold hnew
    refine ⟨_, hR.newBld b g (n + n') TE.size cap' e _ (olds.toArray ++ news.toArray ++ rest) (below_drew_alloc w _) (by simp) (heap_alloc_new' w.drew _) ?_ hc1 hc2 ?_ hslot⟩
    · simp only [Array.size_append, List.size_toArray, ho1, hn1, hr1, ← Nat.add_mul]
      congr 1
      omega
    · intro i hi j hj
      by_cases hin : i < n
      · obtain ⟨y, hy, hr⟩ := hold i hin j hj
        refine ⟨y, ?_, ?_⟩
        · have hlt : i * TE.size + j < olds.length := by
            rcases Nat.lt_or_ge (i * TE.size + j) olds.length with h | h
            · exact h
            · rw [List.getElem?_eq_none h] at hy; simp at hy
          rw [Array.getElem?_append, if_pos (by simp; omega), Array.getElem?_append, if_pos (by simpa using hlt)]
          simpa using hy
        · show Rd _ _ y (bif _ then _ else _)
          rw [blt_t hin]; exact hr
      · obtain ⟨y, hy, hr⟩ := hnew (i - n) (by omega) j hj
        refine ⟨y, ?_, ?_⟩
        · have hlt : (i - n) * TE.size + j < news.length := by
            rcases Nat.lt_or_ge ((i - n) * TE.size + j) news.length with h | h
            · exact h
            · rw [List.getElem?_eq_none h] at hy; simp at hy
          have hsub : i * TE.size + j - olds.length = (i - n) * TE.size + j := by
            have : i * TE.size = n * TE.size + (i - n) * TE.size := by rw [← Nat.add_mul]; congr 1; omega
            omega
          have hge : ¬ i * TE.size + j < olds.length := by
            have : n * TE.size ≤ i * TE.size := Nat.mul_le_mul_right _ (by omega)
            omega
          rw [Array.getElem?_append, if_pos (by simp; omega), Array.getElem?_append, if_neg (by simpa using hge)]
          simp only [List.size_toArray, List.getElem?_toArray, hsub]
          exact hy
        · show Rd _ _ y (bif _ then _ else _)
          rw [blt_f hin]; exact hr
  unfold appendW at h
  split at h
  · -- behind nil
    rename_i hs
    split at h
    · rename_i hmd
      obtain ⟨n', get', rd, h, hsrc⟩ := srcW_ok (o := o) hmx h
      obtain ⟨⟨hby, hmax⟩, h⟩ := h
      refine ⟨_, _, _, h, stepOk_mem fun E ρ t' m' a w hP ha hm hd hR => ?_⟩
      have hmd' : m' (.n d) = .none := by rw [hm.at (.n d) (by simp [Id.key])]; exact hmd
      have h1 := (opd_ok hR s).1
      rw [opd_agree ha hms, hs] at h1
      have e1 := (Rd.inv_v (show Rd _ _ _ _ from h1)).1
      have hfr : NewGen E m' (.n d) 0 := .fresh hmd' (hd d hdd)
      have nilcase : n' = 0 → (Builtin.append_ #[ty, ty] o.type #[.slice none 0 0, a.eval x]).run P w = .ok (.slice none 0 0) w →
          ∃ n v w' ρ', (execOp a.eval o).run P w = .ok n w' ∧ (n = .value v ∨ (n = .skip ∧ v = Go.undef)) ∧ Rel E ρ' t' (upd m' (.n d) (.bld 0 n' TE.size e get')) a w' ∧ TOk E (upd m' (.n d) (.bld 0 n' TE.size e get')) ρ' w' v (.hdl d 0) ∧ ∀ b', (TV.hdl d 0).refs b' → upd m' (.n d) (.bld 0 n' TE.size e get') b' ≠ .none := by
        intro hn0 hrun
        subst hn0
        obtain ⟨k1, k2⟩ := hR.nilBld (.n d) 0 TE.size e get' hfr
        exact ⟨_, _, _, _, hexec a w _ _ _ _ e1 rfl hrun, .inl rfl, k1, k2, fun b' hb' => by cases hb'; rw [upd_same]; simp⟩
      rcases hsrc E ρ t' m' a w ha (hm.sub (fun k hk => by simp [hk])) hR with ⟨r1, r2⟩ | ⟨asrc, cap, xs, r1, r2, r3⟩
      · exact nilcase r2 (by rw [r1]; exact run_append_none ty o.type e ie hkk g1)
      · rcases Nat.eq_zero_or_pos n' with hn0 | hn0
        · refine nilcase hn0 ?_
          rw [r1, hn0]; exact run_append_empty ty o.type e ie hkk g1 _ _
        · obtain ⟨news, q1, q2, q3, q4⟩ := src_list r2 r3
          have hmax' : (n' : Int) ≤ 9223372036854775807 := by simp only [maxLen] at hmax; omega
          have hrun := run_append_nil (P := P) w ty o.type e ie ze hkk g1 g4 asrc n' cap news (by rw [g2]; exact q1) q2 hn0 hmax' (by rw [g3]; omega)
          have hcap := grownCap_ge w n' 0 e
          have hcm := grownCap_le_maxLen w n' 0 e hmax
          obtain ⟨k1, k2⟩ := fresh E ρ t' m' a w hR (.n d) 0 0 n' (grownCap w n' 0 e) (fun _ _ => .v Go.undef) get' [] news (Builtin.zeroCells ze.cells (grownCap w n' 0 e - n')) hfr (by simp) q1 (by rw [size_zeroCells', hzs, g2, Nat.zero_add]) (by omega) hcm
            (fun i hi => absurd hi (Nat.not_lt_zero i)) (fun i hi j hj => ⟨_, q4 i hi j hj, r3 i hi j hj⟩)
          have hfun : (fun i j => bif Nat.blt i 0 then SV.v Go.undef else get' (i - 0) j) = get' := by
            funext i j
            rw [blt_f (Nat.not_lt_zero i)]
            rfl
          rw [hfun, Nat.zero_add] at k2
          simp only [Array.empty_append] at k2
          refine ⟨_, _, _, k1, hexec a w _ _ _ _ e1 r1 hrun, .inl rfl, k2.1, k2.2, fun b' hb' => by cases hb'; rw [upd_same]; simp⟩
    · exact h.elim
  · -- behind what is being made
    rename_i b g hs
    replace h := lookW_iff h
    split at h
    · rename_i g' n k e' get hb
      replace h := bif_and h; obtain ⟨hk3, h⟩ := h
      simp only [Bool.and_eq_true] at hk3
      obtain rfl := Nat.eq_of_beq_eq_true hk3.1.1
      obtain rfl := Nat.eq_of_beq_eq_true hk3.1.2
      obtain rfl := Nat.eq_of_beq_eq_true hk3.2
      obtain ⟨n', get', rd, h, hsrc⟩ := srcW_ok (o := o) hmx h
      obtain ⟨⟨hby, hmax⟩, h⟩ := h
      refine ⟨_, _, _, h, stepOk_mem fun E ρ t' m' a w hP ha hm hd hR => ?_⟩
      have hb' : m' b = .bld g n TE.size e' get := by rw [hm.at b]; exact hb
      have h1 := (opd_ok hR s).1
      rw [opd_agree ha hms, hs] at h1
      simp only [TOk, HdlOk, HdlAt, hb'] at h1
      have h3 := h1.2.2 trivial
      have hso : NewGen E m' b (g + 2) := .old hb'
      have hne : ∀ b', (TV.hdl b (g + 2)).refs b' → upd m' b (.bld (g + 2) (n + n') TE.size e' fun i j => bif Nat.blt i n then get i j else get' (i - n) j) b' ≠ .none := fun b' hb' => by cases hb'; rw [upd_same]; simp
      have hmo := hR.mem b
      rw [hb'] at hmo
      rcases hmo with ⟨hρ, hn0⟩ | ⟨bl, cap, arr, hρ, hblk, hsz, hnc, hcm, hel⟩
      · rw [hρ] at h3
        subst hn0
        have nilcase : n' = 0 → (Builtin.append_ #[ty, ty] o.type #[.slice none 0 0, a.eval x]).run P w = .ok (.slice none 0 0) w →
            ∃ n v w' ρ', (execOp a.eval o).run P w = .ok n w' ∧ (n = .value v ∨ (n = .skip ∧ v = Go.undef)) ∧ Rel E ρ' t' (upd m' b (.bld (g + 2) (0 + n') TE.size e' fun i j => bif Nat.blt i 0 then get i j else get' (i - 0) j)) a w' ∧
              TOk E (upd m' b (.bld (g + 2) (0 + n') TE.size e' fun i j => bif Nat.blt i 0 then get i j else get' (i - 0) j)) ρ' w' v (.hdl b (g + 2)) ∧ ∀ b', (TV.hdl b (g + 2)).refs b' → upd m' b (.bld (g + 2) (0 + n') TE.size e' fun i j => bif Nat.blt i 0 then get i j else get' (i - 0) j) b' ≠ .none := by
          intro hn0 hrun
          subst hn0
          obtain ⟨k1, k2⟩ := hR.nilBld b (g + 2) TE.size e' (fun i j => bif Nat.blt i 0 then get i j else get' (i - 0) j) hso
          exact ⟨_, _, _, _, hexec a w _ _ _ _ h3 rfl hrun, .inl rfl, k1, k2, hne⟩
        rcases hsrc E ρ t' m' a w ha (hm.sub (fun k hk => by simp [hk])) hR with ⟨r1, r2⟩ | ⟨asrc, cap, xs, r1, r2, r3⟩
        · exact nilcase r2 (by rw [r1]; exact run_append_none ty o.type e' ie hkk g1)
        · rcases Nat.eq_zero_or_pos n' with hn0 | hn0
          · refine nilcase hn0 ?_
            rw [r1, hn0]; exact run_append_empty ty o.type e' ie hkk g1 _ _
          · obtain ⟨news, q1, q2, q3, q4⟩ := src_list r2 r3
            have hmax' : (n' : Int) ≤ 9223372036854775807 := by simp only [maxLen] at hmax; omega
            have hrun := run_append_nil (P := P) w ty o.type e' ie ze hkk g1 g4 asrc n' cap news (by rw [g2]; exact q1) q2 hn0 hmax' (by rw [g3]; rw [Nat.zero_add] at hby; omega)
            have hcap := grownCap_ge w n' 0 e'
            have hcm := grownCap_le_maxLen w n' 0 e' (by omega)
            obtain ⟨k1, k2⟩ := fresh E ρ t' m' a w hR b (g + 2) 0 n' (grownCap w n' 0 e') get get' [] news (Builtin.zeroCells ze.cells (grownCap w n' 0 e' - n')) hso (by simp) q1 (by rw [size_zeroCells', hzs, g2, Nat.zero_add]) (by omega) hcm
              (fun i hi => absurd hi (Nat.not_lt_zero i)) (fun i hi j hj => ⟨_, q4 i hi j hj, r3 i hi j hj⟩)
            simp only [Array.empty_append] at k2
            refine ⟨_, _, _, k1, hexec a w _ _ _ _ h3 r1 hrun, .inl rfl, k2.1, ?_, hne⟩
            have := k2.2
            rw [Nat.zero_add] at this ⊢
            exact this
      · rw [hρ] at h3
        rcases hsrc E ρ t' m' a w ha (hm.sub (fun k hk => by simp [hk])) hR with ⟨r1, r2⟩ | ⟨asrc, cap2, xs, r1, r2, r3⟩
        · subst r2
          have hrun := run_append_src_none (P := P) (w := w) ty o.type e' ie hkk g1 ⟨bl, 0, none⟩ n cap hnc
          have hself : w.setRow bl arr = w := setRow_self w bl arr e' (0, 0) hblk
          obtain ⟨k1, k2⟩ := hR.setBld b (mem_live_bld hb') (g + 2) (n + 0) TE.size bl cap hρ e' (fun i j => bif Nat.blt i n then get i j else get' (i - n) j) arr arr hblk hsz hnc hcm (fun i hi j hj => by
            obtain ⟨y, hy, hr⟩ := hel i hi j hj
            refine ⟨y, hy, ?_⟩
            rw [blt_t (show i < n from hi)]; exact hr) hso
          rw [hself] at k1 k2
          exact ⟨_, _, _, _, hexec a w _ _ _ _ h3 r1 hrun, .inl rfl, k1, k2, hne⟩
        · obtain ⟨news, q1, q2, q3, q4⟩ := src_list r2 r3
          by_cases hroom : n + n' ≤ cap
          · have hfit : n * TE.size + news.length ≤ arr.size := by rw [q1, hsz, ← Nat.add_mul]; exact Nat.mul_le_mul_right _ hroom
            have hrun := run_append_room (P := P) w ty o.type e' ie hkk g1 bl n cap arr hblk asrc n' cap2 news (by rw [g2]; exact q1) q2 q3 hroom (by rw [g2]; exact hfit)
            rw [g2] at hrun
            obtain ⟨k1, k2⟩ := hR.setBld b (mem_live_bld hb') (g + 2) (n + n') TE.size bl cap hρ e' (fun i j => bif Nat.blt i n then get i j else get' (i - n) j) arr (arr.toList.take (n * TE.size) ++ news ++ arr.toList.drop (n * TE.size + news.length)).toArray hblk
              (by simp; omega) hroom hcm (fun i hi j hj => by
                by_cases hin : i < n
                · obtain ⟨y, hy, hr⟩ := hel i hin j hj
                  refine ⟨y, ?_, by rw [blt_t hin]; exact hr⟩
                  have hlt : i * TE.size + j < n * TE.size := by
                    have : (i + 1) * TE.size ≤ n * TE.size := Nat.mul_le_mul_right _ hin
                    rw [Nat.add_mul] at this; omega
                  have hmin : min (n * TE.size) arr.size = n * TE.size := by omega
                  simp only [List.getElem?_toArray, List.append_assoc, List.getElem?_append, List.length_take, Array.length_toList, hmin, if_pos hlt, List.getElem?_take]
                  simpa using hy
                · have hn2 : i - n < n' := by omega
                  refine ⟨_, ?_, by rw [blt_f hin]; exact r3 (i - n) hn2 j hj⟩
                  have hge : ¬ i * TE.size + j < n * TE.size := by
                    have : n * TE.size ≤ i * TE.size := Nat.mul_le_mul_right _ (by omega)
                    omega
                  have hsub : i * TE.size + j - n * TE.size = (i - n) * TE.size + j := by
                    have : i * TE.size = n * TE.size + (i - n) * TE.size := by rw [← Nat.add_mul]; congr 1; omega
                    omega
                  have hlt : (i - n) * TE.size + j < news.length := by
                    rw [q1]
                    have : (i - n + 1) * TE.size ≤ n' * TE.size := Nat.mul_le_mul_right _ hn2
                    rw [Nat.add_mul] at this; omega
                  have hmin : min (n * TE.size) arr.size = n * TE.size := by omega
                  simp only [List.getElem?_toArray, List.append_assoc, List.getElem?_append, List.length_take, Array.length_toList, hmin, if_neg hge, hsub, if_pos hlt]
                  exact q4 (i - n) hn2 j hj) hso
            exact ⟨_, _, _, _, hexec a w _ _ _ _ h3 r1 hrun, .inl rfl, k1, k2, hne⟩
          · have hmax' : ((n + n' : Nat) : Int) ≤ 9223372036854775807 := by simp only [maxLen] at hmax; omega
            have holds : ∃ olds : List Value, olds.length = n * TE.size ∧ (∀ j v, olds[j]? = some v → w.cell? ((⟨bl, 0, none⟩ : Addr).add j) = some v) ∧ ∀ i, i < n → ∀ j, j < TE.size → ∃ y, olds[i * TE.size + j]? = some y ∧ Rd (L E m' ρ w) w y (get i j) := by
              have hle : n * TE.size ≤ arr.size := by rw [hsz]; exact Nat.mul_le_mul_right _ hnc
              refine ⟨arr.toList.take (n * TE.size), by simp; omega, fun j v hv => ?_, fun i hi j hj => ?_⟩
              · rw [List.getElem?_take] at hv
                split at hv
                · rw [addr_add]
                  have : arr[j]? = some v := by simpa using hv
                  simp [World.cell?, hblk, this]
                · simp at hv
              · obtain ⟨y, hy, hr⟩ := hel i hi j hj
                refine ⟨y, ?_, hr⟩
                have hlt : i * TE.size + j < n * TE.size := by
                  have : (i + 1) * TE.size ≤ n * TE.size := Nat.mul_le_mul_right _ hi
                  rw [Nat.add_mul] at this; omega
                rw [List.getElem?_take, if_pos hlt]
                simpa using hy
            obtain ⟨olds, p1, p2, p3⟩ := holds
            have hrun := run_append_grow (P := P) w ty o.type e' ie ze hkk g1 g4 ⟨bl, 0, none⟩ n cap olds (by rw [g2]; exact p1) p2 asrc n' cap2 news (by rw [g2]; exact q1) q2 (by omega) hmax' (by rw [g3]; exact growslice_fits (by omega) hby)
            have hcap := grownCap_ge w (n + n') cap e'
            have hcm' := grownCap_le_maxLen w (n + n') cap e' hmax
            obtain ⟨k1, k2⟩ := fresh E ρ t' m' a w hR b (g + 2) n n' (grownCap w (n + n') cap e') get get' olds news (Builtin.zeroCells ze.cells (grownCap w (n + n') cap e' - (n + n'))) hso p1 q1 (by rw [size_zeroCells', hzs, g2]) hcap hcm' p3 (fun i hi j hj => ⟨_, q4 i hi j hj, r3 i hi j hj⟩)
            exact ⟨_, _, _, k1, hexec a w _ _ _ _ h3 r1 hrun, .inl rfl, k2.1, k2.2, hne⟩
    · exact h.elim
  · -- behind a part of what is being made, in place
    rename_i b g lo n hs
    replace h := lookW_iff h
    split at h
    · rename_i g' N k e' get hb
      replace h := bif_and h; obtain ⟨hk3, h⟩ := h
      simp only [Bool.and_eq_true] at hk3
      obtain rfl := Nat.eq_of_beq_eq_true hk3.1.1
      obtain rfl := Nat.eq_of_beq_eq_true hk3.1.2
      obtain rfl := Nat.eq_of_beq_eq_true hk3.2
      obtain ⟨n', get', rd, h, hsrc⟩ := srcW_ok (o := o) hmx h
      obtain ⟨⟨hlo, hfit⟩, hK⟩ := h
      subst hlo
      refine ⟨_, _, _, hK, stepOk_mem fun E ρ t' m' a w hP ha hm hd hR => ?_⟩
      have hb' : m' b = .bld g N TE.size e' get := by rw [hm.at b]; exact hb
      have h1 := (opd_ok hR s).1
      rw [opd_agree ha hms, hs] at h1
      simp only [TOk, SubOk, SubAt, hb'] at h1
      obtain ⟨hln, h3⟩ := h1.2.2 trivial
      have hso : NewGen E m' b (g + 2) := .old hb'
      have hne : ∀ (G : Nat → Nat → SV) b', (TV.sub b (g + 2) 0 (n + n')).refs b' → upd m' b (.bld (g + 2) N TE.size e' G) b' ≠ .none := fun G b' hb' => by cases hb'; rw [upd_same]; simp
      have hmo := hR.mem b
      rw [hb'] at hmo
      rcases hmo with ⟨hρ, hn0⟩ | ⟨bl, cap, arr, hρ, hblk, hsz, hnc, hcm, hel⟩
      · rw [hρ] at h3
        subst hn0
        have hn0 : n = 0 := by omega
        have hn0' : n' = 0 := by omega
        subst hn0
        subst hn0'
        have nilcase : (Builtin.append_ #[ty, ty] o.type #[.slice none 0 0, a.eval x]).run P w = .ok (.slice none 0 0) w := by
          rcases hsrc E ρ t' m' a w ha (hm.sub (fun k hk => by simp [hk])) hR with ⟨r1, r2⟩ | ⟨asrc, cap, xs, r1, r2, r3⟩
          · rw [r1]; exact run_append_none ty o.type e' ie hkk g1
          · rw [r1]; exact run_append_empty ty o.type e' ie hkk g1 _ _
        obtain ⟨k1, _⟩ := hR.nilBld b (g + 2) TE.size e' (fun i j => bif Nat.blt i 0 then get i j else bif Nat.blt i (0 + 0) then get' (i - 0) j else get i j) hso
        refine ⟨_, _, _, _, hexec a w _ _ _ _ h3 rfl nilcase, .inl rfl, k1, ?_, hne _⟩
        simp only [TOk, SubOk, SubAt, upd_same]
        exact ⟨rfl, Nat.le_refl _, fun _ => ⟨by omega, trivial⟩⟩
      · rw [hρ] at h3
        obtain ⟨ad, h3, h4⟩ := h3
        have h4 := h4 (.inr trivial)
        rw [Nat.zero_mul] at h4
        subst h4
        rw [Nat.sub_zero] at h3
        have htok : ∀ (G : Nat → Nat → SV) (w' : World), TOk E (upd m' b (.bld (g + 2) N TE.size e' G)) (upd ρ b (some (bl, cap))) w' (.slice (some ⟨bl, 0, none⟩) (n + n') cap) (.sub b (g + 2) 0 (n + n')) := fun G w' => by
          simp only [TOk, SubOk, SubAt, upd_same]
          exact ⟨rfl, Nat.le_refl _, fun _ => ⟨by omega, ⟨bl, 0, none⟩, by simp, fun _ => by simp⟩⟩
        rcases hsrc E ρ t' m' a w ha (hm.sub (fun k hk => by simp [hk])) hR with ⟨r1, r2⟩ | ⟨asrc, cap2, xs, r1, r2, r3⟩
        · subst r2
          have hrun := run_append_src_none (P := P) (w := w) ty o.type e' ie hkk g1 ⟨bl, 0, none⟩ n cap (by omega)
          have hself : w.setRow bl arr = w := setRow_self w bl arr e' (0, 0) hblk
          have k1 := hR.setBld' b (mem_live_bld hb') (g + 2) N TE.size bl cap hρ e' (fun i j => bif Nat.blt i n then get i j else bif Nat.blt i (n + 0) then get' (i - n) j else get i j) arr arr hblk hsz hnc hcm (fun i hi j hj => by
            obtain ⟨y, hy, hr⟩ := hel i hi j hj
            refine ⟨y, hy, ?_⟩
            rw [Nat.add_zero]
            cases Nat.blt i n <;> exact hr) hso
          rw [hself] at k1
          exact ⟨_, _, _, _, hexec a w _ _ _ _ h3 r1 hrun, .inl rfl, k1, htok _ w, hne _⟩
        · obtain ⟨news, q1, q2, q3, q4⟩ := src_list r2 r3
          have hroom : n + n' ≤ cap := by omega
          have hfit' : n * TE.size + news.length ≤ arr.size := by rw [q1, hsz, ← Nat.add_mul]; exact Nat.mul_le_mul_right _ hroom
          have hrun := run_append_room (P := P) w ty o.type e' ie hkk g1 bl n cap arr hblk asrc n' cap2 news (by rw [g2]; exact q1) q2 q3 hroom (by rw [g2]; exact hfit')
          rw [g2] at hrun
          have k1 := hR.setBld' b (mem_live_bld hb') (g + 2) N TE.size bl cap hρ e' (fun i j => bif Nat.blt i n then get i j else bif Nat.blt i (n + n') then get' (i - n) j else get i j) arr (arr.toList.take (n * TE.size) ++ news ++ arr.toList.drop (n * TE.size + news.length)).toArray hblk
            (by simp; omega) hnc hcm (fun i hi j hj => by
              have hmin : min (n * TE.size) arr.size = n * TE.size := by omega
              by_cases hin : i < n
              · obtain ⟨y, hy, hr⟩ := hel i hi j hj
                refine ⟨y, ?_, by rw [blt_t hin]; exact hr⟩
                have hlt : i * TE.size + j < n * TE.size := by
                  have : (i + 1) * TE.size ≤ n * TE.size := Nat.mul_le_mul_right _ hin
                  rw [Nat.add_mul] at this; omega
                simp only [List.getElem?_toArray, List.append_assoc, List.getElem?_append, List.length_take, Array.length_toList, hmin, if_pos hlt, List.getElem?_take]
                simpa using hy
              · have hge : ¬ i * TE.size + j < n * TE.size := by
                  have : n * TE.size ≤ i * TE.size := Nat.mul_le_mul_right _ (by omega)
                  omega
                have hsub : i * TE.size + j - n * TE.size = (i - n) * TE.size + j := by
                  have : i * TE.size = n * TE.size + (i - n) * TE.size := by rw [← Nat.add_mul]; congr 1; omega
                  omega
                by_cases hn2 : i < n + n'
                · refine ⟨_, ?_, by rw [blt_f hin, blt_t hn2]; exact r3 (i - n) (by omega) j hj⟩
                  have hlt : (i - n) * TE.size + j < news.length := by
                    rw [q1]
                    have : (i - n + 1) * TE.size ≤ n' * TE.size := Nat.mul_le_mul_right _ (by omega)
                    rw [Nat.add_mul] at this; omega
                  simp only [List.getElem?_toArray, List.append_assoc, List.getElem?_append, List.length_take, Array.length_toList, hmin, if_neg hge, hsub, if_pos hlt]
                  exact q4 (i - n) (by omega) j hj
                · obtain ⟨y, hy, hr⟩ := hel i hi j hj
                  refine ⟨y, ?_, by rw [blt_f hin, blt_f hn2]; exact hr⟩
                  have hge2 : ¬ (i - n) * TE.size + j < news.length := by
                    rw [q1]
                    have : n' * TE.size ≤ (i - n) * TE.size := Nat.mul_le_mul_right _ (by omega)
                    omega
                  simp only [List.getElem?_toArray, List.append_assoc, List.getElem?_append, List.length_take, Array.length_toList, hmin, if_neg hge, hsub, if_neg hge2, List.getElem?_drop]
                  rw [show n * TE.size + news.length + ((i - n) * TE.size + j - news.length) = i * TE.size + j by omega]
                  simpa using hy) hso
          exact ⟨_, _, _, _, hexec a w _ _ _ _ h3 r1 hrun, .inl rfl, k1, htok _ _, hne _⟩
    · exact h.elim
  · exact h.elim

/-- append(nil, make([]E, n)...). -/
theorem run_append_zeros {P : Program} (w : World) (t zt ty e : TypeId) (i : TypeInfo) (z : Value) (kd : IntKind) (ht : P.underlying t = some (.slice e)) (hzt : P.underlying zt = some (.int kd)) (hi : P.info? e = some i) (hz : i.zero = some z) (hpos : 0 < i.size)
    (n : Nat) (h0 : 0 < n) (h63 : (n : Int) ≤ 9223372036854775807) (h48 : n * i.bytes ≤ 140737488355328) :
    (Builtin.append_ #[t, zt] ty #[.slice none 0 0, .int .i64 n]).run P w =
      .ok (.slice (some ⟨w.heap.size, 0, none⟩) n (grownCap w n 0 e)) (w.drew.alloc (.cells (Builtin.zeroCells z.cells n ++ Builtin.zeroCells z.cells (grownCap w n 0 e - n)) e)) := by
  have hn : n ≠ 0 := by omega
  have hwrap : IntKind.i64.wrap (n : Int) = n := by
    simp only [IntKind.wrap, IntKind.signed, IntKind.bits]
    simp
    omega
  have hneg : ¬ ((n : Int) < 0) := by omega
  have h48a : ¬ (281474976710656 < (n : Int) * (i.bytes : Int)) := by
    rw [← Int.natCast_mul]; omega
  have h63' : ¬ (9223372036854775807 < (n : Int)) := by omega
  have h48' : ¬ (281474976710656 < Builtin.nextslicecap n 0 * i.bytes) := by rw [nextslicecap_zero h0]; omega
  have hs0 : i.size ≠ 0 := by omega
  simp [Builtin.append_, run_underlying ht, run_underlying hzt, sizeOf, typeInfo, zeroValue, hi, hz, hn, asInt, hwrap, hneg, h48a, h63', h48', asIntOf, Question.forced, run_firstCells_none, newRow, grownCap]
  intro h; exact absurd h (Nat.ne_of_gt (Nat.mul_pos h0 hpos))

theorem zeroCells_get (z : Array Value) (n i j : Nat) (hi : i < n) (hj : j < z.size) : (Builtin.zeroCells z n)[i * z.size + j]? = z[j]? := by
  have hm : (i * z.size + j) % z.size = j := by rw [Nat.mul_comm, Nat.mul_add_mod, Nat.mod_eq_of_lt hj]
  have hlt : i * z.size + j < n * z.size := by
    have : (i + 1) * z.size ≤ n * z.size := Nat.mul_le_mul_right _ hi
    rw [Nat.add_mul] at this; omega
  simp only [Builtin.zeroCells, Array.getElem?_map]
  simp [hlt, hm, hj]

theorem stepOk_appendZ {P : Program} {o : Oper} {t : Nat → TV} {m : Id → Mem} {TT : Tab} (hT : TabOk P TT) {ty ty' : TypeId} {T TZ : Ty} (hty : TT ty = some T) {e : Nat} (hk : T.kind = .slc e) {TE : Ty} (hte : TT e = some TE) (htz : TT ty' = some TZ) (hkz : TZ.kind = .int .i64) {s x : Operand} {d : Nat} (hdd : o.dst = some d)
    {c : Call} (ho : o.op = .call c) (hcal : c.callee = .builtin .append) (hargs : c.args.toList = [s, x]) (hat : c.argTypes.toList = [ty, ty']) {K : Kont} (h : appendZ TE e d m (opd t s) (opd t x) K) :
    ∃ z mo rd, K z mo rd ∧ StepOk P o t m z mo rd := by
  have hma : c.args = #[s, x] := by rw [← Array.toArray_toList (xs := c.args), hargs]
  have hmt : c.argTypes = #[ty, ty'] := by rw [← Array.toArray_toList (xs := c.argTypes), hat]
  have hms : s ∈ o.op.operands.toList := by rw [ho]; simp [Op.operands, Call.operands, hcal, hma]
  have hmx : x ∈ o.op.operands.toList := by rw [ho]; simp [Op.operands, Call.operands, hcal, hma]
  have hkk : P.underlying ty = some (.slice e) := by have := (hT ty T hty).kind; rw [hk] at this; exact this
  have hkz' : P.underlying ty' = some (.int .i64) := by have := (hT ty' TZ htz).kind; rw [hkz] at this; exact this
  unfold appendZ at h
  split at h
  · rename_i n hs hx hm0
    obtain ⟨⟨hn, hby, hmax, hpos⟩, h⟩ := h
    refine ⟨_, _, _, h, stepOk_mem fun E ρ t' m' a w hP ha hm hd hR => ?_⟩
    have hmd : m' (.n d) = .none := by rw [hm.at (.n d) (by simp [Id.key])]; exact hm0
    have h1 := (opd_ok hR s).1
    rw [opd_agree ha hms, hs] at h1
    have e1 := (Rd.inv_v (show Rd _ _ _ _ from h1)).1
    have h2 := (opd_ok hR x).1
    rw [opd_agree ha hmx, hx] at h2
    have e2 := (Rd.inv_v (show Rd _ _ _ _ from h2)).1
    obtain ⟨ie, ze, g1, g2, g3, g4, g5, hz⟩ := zero_rd (hT e TE hte) (L E m' ρ w) w
    have hnn : (n.toNat : Int) = n := by omega
    have hby' : n.toNat * ie.bytes ≤ 140737488355328 := by
      rw [g3]
      have : ((n.toNat * TE.bytes : Nat) : Int) = n * TE.bytes := by rw [Int.natCast_mul, hnn]
      omega
    have hmx' : n.toNat ≤ maxLen := by omega
    have hrun := run_append_zeros (P := P) w ty ty' o.type e ie ze .i64 hkk hkz' g1 g4 (by omega) n.toNat (by omega) (by simp only [maxLen] at hmx'; omega) hby'
    rw [hnn] at hrun
    have hcap := grownCap_ge w n.toNat 0 e
    have hcm := grownCap_le_maxLen w n.toNat 0 e hmx'
    have hzl := hz.length
    simp only [Array.length_toList] at hzl
    obtain ⟨k1, k2⟩ := hR.newBld (.n d) 0 n.toNat TE.size (grownCap w n.toNat 0 e) e (fun _ j => TE.zero.getD j (.v Go.undef)) (Builtin.zeroCells ze.cells n.toNat ++ Builtin.zeroCells ze.cells (grownCap w n.toNat 0 e - n.toNat)) (below_drew_alloc w _) (by simp) (heap_alloc_new' w.drew _) (by
        rw [Array.size_append, size_zeroCells', size_zeroCells', g5, ← Nat.add_mul]; congr 1; omega) hcap hcm (fun i hi j hj => by
        obtain ⟨y, hy1, hy2⟩ := hz.getElemRd j (by omega)
        refine ⟨y, ?_, hy2⟩
        have hlt : i * TE.size + j < n.toNat * TE.size := by
          have : (i + 1) * TE.size ≤ n.toNat * TE.size := Nat.mul_le_mul_right _ hi
          rw [Nat.add_mul] at this; omega
        rw [Array.getElem?_append, if_pos (by rw [size_zeroCells', g5]; exact hlt), ← g5, zeroCells_get _ _ _ _ hi (by omega)]
        simpa using hy1) (NewGen.fresh hmd (hd d hdd))
    refine ⟨_, _, _, _, ?_, .inl rfl, k1, k2, fun b' hb' => by cases hb'; rw [upd_same]; simp⟩
    simp [execOp, ho, resolve, invoke, hcal, hma, hmt, builtin, e1, e2, hrun]
  · exact h.elim

/-- clear(s), for a part of what is being made. -/
theorem stepOk_clear {P : Program} {o : Oper} {t : Nat → TV} {m : Id → Mem} {TT : Tab} (hT : TabOk P TT) {ty : TypeId} {T : Ty} (hty : TT ty = some T) {e : Nat} (hk : T.kind = .slc e) {TE : Ty} (hte : TT e = some TE) {x : Operand}
    {c : Call} (ho : o.op = .call c) (hcal : c.callee = .builtin .clear) (hargs : c.args.toList = [x]) (hat : c.argTypes.toList = [ty]) {b : Id} {g lo n N : Nat} {get : Nat → Nat → SV} (hx : opd t x = .sub b g lo n) (hb : m b = .bld g N TE.size e get) :
    StepOk P o t m .any [(b, .bld g N TE.size e fun i j => bif Nat.ble lo i && Nat.blt i (lo + n) then TE.zero.getD j (.v Go.undef) else get i j)] [b.key] := by
  have hma : c.args = #[x] := by rw [← Array.toArray_toList (xs := c.args), hargs]
  have hmt : c.argTypes = #[ty] := by rw [← Array.toArray_toList (xs := c.argTypes), hat]
  have hmx : x ∈ o.op.operands.toList := by rw [ho]; simp [Op.operands, Call.operands, hcal, hma]
  have hkk : P.underlying ty = some (.slice e) := by have := (hT ty T hty).kind; rw [hk] at this; exact this
  refine stepOk_mem fun E ρ t' m' a w hP ha hm hd hR => ?_
  have hb' : m' b = .bld g N TE.size e get := by rw [hm.at b]; exact hb
  have h1 := (opd_ok hR x).1
  rw [opd_agree ha hmx, hx] at h1
  simp only [TOk, SubOk, SubAt, hb'] at h1
  obtain ⟨hln, h3⟩ := h1.2.2 trivial
  have hexec : ∀ (u : Value) (w' : World), a.eval x = u → (Builtin.clear_ #[ty] o.type #[u]).run P w = .ok (.tuple #[]) w' → (execOp a.eval o).run P w = .ok (.value (.tuple #[])) w' := by
    intro u w' hu hr
    simp [execOp, ho, resolve, invoke, hcal, hma, hmt, builtin, hu, hr]
  have hmo := hR.mem b
  rw [hb'] at hmo
  have hfun : n = 0 → (fun i j => bif Nat.ble lo i && Nat.blt i (lo + n) then TE.zero.getD j (.v Go.undef) else get i j) = get := by
    intro h0
    funext i j
    subst h0
    have : (Nat.ble lo i && Nat.blt i (lo + 0)) = false := by
      by_cases h : lo ≤ i
      · rw [blt_f (show ¬ i < lo + 0 by omega), Bool.and_false]
      · rw [ble_f h]; rfl
    rw [this]; rfl
  rcases hmo with ⟨hρ, hn0⟩ | ⟨bl, cap, arr, hρ, hblk, hsz, hnc, hcm, hel⟩
  · rw [hρ] at h3
    have h0 : n = 0 := by omega
    rw [hfun h0, ← hb', upd_self]
    exact ⟨_, _, w, ρ, hexec _ w h3 (by simp [Builtin.clear_, run_underlying hkk]), .inl rfl, hR, trivial, fun _ h => h.elim⟩
  · rw [hρ] at h3
    obtain ⟨ad, h3, h4⟩ := h3
    rcases Nat.eq_zero_or_pos n with h0 | h0
    · rw [hfun h0, ← hb', upd_self]
      subst h0
      exact ⟨_, _, w, ρ, hexec _ w h3 (by simp [Builtin.clear_, run_underlying hkk]), .inl rfl, hR, trivial, fun _ h => h.elim⟩
    · obtain ⟨ie, ze, g1, g2, g3, g4, g5, hz⟩ := zero_rd (hT e TE hte) (L E m' ρ w) w
      have hzl := hz.length
      simp only [Array.length_toList] at hzl
      have had := h4 (.inl (by omega))
      subst had
      have hzc : Builtin.zeroCells ze.cells n = (repeatV n ze.cells.toList).toArray := by
        have hpos : 0 < ze.cells.size ∨ ze.cells.size = 0 := by omega
        rcases hpos with hpos | hpos
        · exact made_repeat ze.cells n hpos
        · have h1 : ze.cells = #[] := Array.eq_empty_of_size_eq_zero hpos
          apply Array.ext'
          rw [h1]
          have : ∀ n, repeatV n ([] : List Value) = [] := fun n => by induction n with
            | zero => rfl
            | succ n ih => simp [repeatV, ih]
          simp [this, Builtin.zeroCells]
      have hus := RdL_repeat hz n
      have hul : (repeatV n ze.cells.toList).length = n * TE.size := by rw [length_repeatV]; simp [g5]
      have hfit : lo * TE.size + (repeatV n ze.cells.toList).length ≤ arr.size := by
        rw [hul, hsz, ← Nat.add_mul]
        exact Nat.mul_le_mul_right _ (by omega)
      have hst := run_storeCells_at (P := P) bl (lo * TE.size) e (repeatV n ze.cells.toList) 0 arr w hblk (by simpa using hfit) hus.oneCell
      simp only [Nat.add_zero] at hst
      have hrun : (Builtin.clear_ #[ty] o.type #[.slice (some ⟨bl, lo * TE.size, none⟩) n (cap - lo)]).run P w = .ok (.tuple #[]) (w.setRow bl (setCells arr.toList (lo * TE.size) (repeatV n ze.cells.toList)).toArray) := by
        have hn0 : n ≠ 0 := by omega
        rw [setCells_eq _ _ _ (by simpa using hfit)]
        simp [Builtin.clear_, run_underlying hkk, zeroValue, typeInfo, g1, g4, hzc, hn0, hst]
      have hby : (m' b).bldy = some (g, N, TE.size) := by rw [hb']; rfl
      refine ⟨_, _, _, upd ρ b (some (bl, cap)), hexec _ _ h3 hrun, .inl rfl, hR.setShape (mem_live_bld hb') hρ _ _ (.bldy hby rfl) (fun _ h => h.elim) (fun hL _ => ?_), trivial, fun _ h => h.elim⟩
      refine .inr ⟨bl, cap, _, upd_same _ _ _, setRow_heap w bl _ _ e _ hblk, by simp [length_setCells, hsz], hnc, hcm, fun i hi j hj => ?_⟩
      have hgt := getElem?_setCells (repeatV n ze.cells.toList) arr.toList (lo * TE.size) (by simpa using hfit) (i * TE.size + j)
      rw [hul] at hgt
      by_cases hin : lo ≤ i ∧ i < lo + n
      · obtain ⟨y, hy1, hy2⟩ := hz.getElemRd j (by omega)
        refine ⟨y, ?_, ?_⟩
        · have q1 : lo * TE.size ≤ i * TE.size := Nat.mul_le_mul_right _ hin.1
          have q2 : (i - lo) * TE.size + TE.size ≤ n * TE.size := by
            have : (i - lo + 1) * TE.size ≤ n * TE.size := Nat.mul_le_mul_right _ (by omega)
            rwa [Nat.add_mul, Nat.one_mul] at this
          have q3 : (i - lo) * TE.size = i * TE.size - lo * TE.size := Nat.sub_mul _ _ _
          rw [if_pos (by omega)] at hgt
          rw [getElem?_repeatV _ (by simp; omega) _ _ (by simp [g5]; omega)] at hgt
          rw [show i * TE.size + j - lo * TE.size = (i - lo) * TE.size + j by omega] at hgt
          simp only [Array.length_toList, g5] at hgt
          rw [show ((i - lo) * TE.size + j) % TE.size = j by rw [Nat.mul_comm, Nat.mul_add_mod, Nat.mod_eq_of_lt hj]] at hgt
          simpa [hgt] using hy1
        · show Rd _ _ y (bif _ then _ else _)
          rw [ble_t hin.1, blt_t hin.2]
          exact hy2.mono hL
      · obtain ⟨y, hy1, hy2⟩ := hel i hi j hj
        refine ⟨y, ?_, ?_⟩
        · have : ¬ (lo * TE.size ≤ i * TE.size + j ∧ i * TE.size + j < lo * TE.size + n * TE.size) := by
            rw [← Nat.add_mul]
            by_cases h1 : i < lo
            · have : (i + 1) * TE.size ≤ lo * TE.size := Nat.mul_le_mul_right _ h1
              rw [Nat.add_mul] at this; omega
            · have : (lo + n) * TE.size ≤ i * TE.size := Nat.mul_le_mul_right _ (by omega)
              omega
          rw [if_neg this] at hgt
          simpa [hgt] using hy1
        · show Rd _ _ y (bif _ then _ else _)
          have : (Nat.ble lo i && Nat.blt i (lo + n)) = false := by
            by_cases h : lo ≤ i
            · rw [blt_f (by omega), Bool.and_false]
            · rw [ble_f h]; rfl
          rw [this]
          exact hy2.mono hL
end Go.Vm
