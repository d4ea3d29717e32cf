/-
  An evaluator for closed runs: every operation is true of the machine.
  An evaluator for closed runs: regions in whatever order (VmJ's and VmK's theory for this evaluator's states).
  An evaluator for closed runs: calls.
  An evaluator for closed runs: regions are true of the machine.
  An evaluator for closed runs: regions and code are true of the machine.
  An evaluator for closed runs: code is true of the machine.
  An evaluator for closed runs: whole functions.
  An evaluator for closed runs: the walk's contracts as the evaluator's.
-/
import Derived.Test.YtobmlkopbmakcaaGreatCvI
import Derived.Test.YtobmlkopbmakcaaGreatVmL
namespace Go.Cv
open Go Go.RowKit Go.Vm

theorem pure_indexPtr {P : Program} {TT : Tab} (hT : TabOk P TT) {o : Oper} {g : Operand → Tv} {ty : TypeId} {T : Ty} (hty : TT ty = some T) {len e : Nat} (hk : T.kind = .arr len e) {TE : Ty} (hte : TT e = some TE) {x i : Operand} (ho : o.op = .indexAddr ty x i)
    {kk : IntKind} {q : Int} (hi : g i = wv (.int kk q)) {ob p : Nat} (hx : g x = .d (.one (.ptr ob p))) (h0 : 0 ≤ q) (hn : q < len) : PureOk P o g (.d (.one (.ptr ob (p + q.toNat * TE.size)))) := by
  intro ρ w ev hev
  have e1 := hev x (by rw [ho]; simp [Op.operands])
  have e2 := hev i (by rw [ho]; simp [Op.operands])
  rw [hx] at e1; rw [hi] at e2
  have e2 := w_inv e2
  obtain ⟨b, off, c, hr, e1⟩ := ptr_inv e1
  have hkk : P.underlying ty = some (.array len e) := by have := (hT ty T hty).kind; rw [hk] at this; exact this
  refine ⟨.pointer (some ⟨b, off + p + q.toNat * TE.size, none⟩), ?_, b, off, c, hr, by rw [Nat.add_assoc]⟩
  simp [execOp, ho, e1, e2, Instr.indexAt, Instr.sureAddr, asIntOf, run_underlying hkk, h0, hn, run_sizeOf' (hT e TE hte), addr_add]
section
variable {C : Cfg} {o : Oper} {t : Nat → Tv} {m : Nat → Ob} {d : Nat} {r : Tv} {mo : List (Nat × Ob)} {rd : List Nat}
abbrev Goal (C : Cfg) (o : Oper) (t : Nat → Tv) (m : Nat → Ob) (r : Tv) (mo : List (Nat × Ob)) (rd : List Nat) : Prop := StepOk C.P o t m r mo rd
theorem ret_step {x : Tv} (h : ret x = some (r, mo, rd)) (hp : PureOk C.P o (opd t) x) : Goal C o t m r mo rd := by
  cases h; exact hp.step

theorem pickE_ok {c a b : Operand} (ho : o.op = .pick c a b) (h : pickE (opd t c) (opd t a) (opd t b) = some (r, mo, rd)) : Goal C o t m r mo rd := by
  unfold pickE at h
  split at h
  · rename_i q hc
    have hp := pure_pick (P := C.P) (g := opd t) ho hc
    cases q
    · exact ret_step h hp
    · exact ret_step h hp
  · cases h
theorem extractE_ok {x : Operand} {i : Nat} (ho : o.op = .extract x i) (h : extractE (opd t x) i = some (r, mo, rd)) : Goal C o t m r mo rd := by
  unfold extractE at h
  split at h
  · rename_i vs hx
    split at h
    · rename_i v hv
      exact ret_step h (pure_extract ho hx hv)
    · cases h
  · cases h
theorem nilCheckE_ok {x : Operand} (ho : o.op = .nilCheck x) (h : nilCheckE (opd t x) = some (r, mo, rd)) : Goal C o t m r mo rd := by
  unfold nilCheckE at h
  split at h
  · rename_i ob p hx; exact ret_step h ((pure_nilCheck ho).1 _ _ hx)
  · rename_i f caps hx; exact ret_step h ((pure_nilCheck ho).2 _ _ hx)
  · cases h
theorem unE_ok {op : UnOp} {ty : TypeId} {x : Operand} (ho : o.op = .unOp op ty x) (h : unE op (opd t x) = some (r, mo, rd)) : Goal C o t m r mo rd := by
  unfold unE at h
  split at h
  · rename_i b hx; exact ret_step h (pure_not ho hx)
  · rename_i k n hx; exact ret_step h (pure_neg ho hx)
  · cases h
theorem convE_ok {src dst : TypeId} {x : Operand} (ho : o.op = .convert src dst x) (h : convE C.TT src dst (opd t x) = some (r, mo, rd)) : Goal C o t m r mo rd := by
  unfold convE at h
  split at h
  · rename_i T S k n hT hS hx
    split at h
    · rename_i k1 k2 h1 h2
      exact ret_step h (pure_convert C.hT hT hS (isInt_ok h1) (isInt_ok h2) ho hx)
    · cases h
  · cases h
theorem fieldAddrE_ok {ty : TypeId} {x : Operand} {f : Nat} (ho : o.op = .fieldAddr ty x f) (h : fieldAddrE C.TT ty f (opd t x) = some (r, mo, rd)) : Goal C o t m r mo rd := by
  unfold fieldAddrE at h
  split at h
  · rename_i T ob p hT hx
    split at h
    · rename_i fs hfs
      split at h
      · rename_i off ft size hf
        replace h := bif_some h; obtain ⟨hb, h⟩ := h
        exact ret_step h (pure_fieldAddr C.hT hT (isStr_ok hfs) hf (lt_of_blt hb) ho hx)
      · cases h
    · cases h
  · cases h
theorem fieldE_ok {ty : TypeId} {x : Operand} {f : Nat} (ho : o.op = .field ty x f) (h : fieldE C.TT ty f (opd t x) = some (r, mo, rd)) : Goal C o t m r mo rd := by
  unfold fieldE at h
  split at h
  · rename_i T cs hT hx
    split at h
    · rename_i fs hfs
      split at h
      · rename_i off ft size hf
        split at h
        · rename_i TF hTF
          replace h := bif_some h; obtain ⟨hb, h⟩ := h
          split at h
          · rename_i v hv
            exact ret_step h (pure_field C.hT hT (isStr_ok hfs) hf hTF (Nat.eq_of_beq_eq_true hb) ho hx hv)
          · cases h
        · cases h
      · cases h
    · cases h
  · cases h
theorem indexAddrE_ok {ty : TypeId} {x i : Operand} (ho : o.op = .indexAddr ty x i) (h : indexAddrE C.TT ty (opd t x) (opd t i) = some (r, mo, rd)) : Goal C o t m r mo rd := by
  unfold indexAddrE at h
  split at h
  · rename_i T ob k p n full kk q hT hx hi
    split at h
    · rename_i e he
      split at h
      · rename_i TE hTE
        replace h := bif_some h; obtain ⟨hb, h⟩ := h
        simp only [Bool.and_eq_true] at hb
        exact ret_step h (pure_indexSl C.hT hT (isSlc_ok he) hTE ho hi hx (Nat.eq_of_beq_eq_true hb.1.1) (leB_ok hb.1.2) (of_decide_eq_true hb.2))
      · cases h
    · cases h
  · rename_i T ob p kk q hT hx hi
    split at h
    · rename_i len e he
      split at h
      · rename_i TE hTE
        replace h := bif_some h; obtain ⟨hb, h⟩ := h
        simp only [Bool.and_eq_true] at hb
        exact ret_step h (pure_indexPtr C.hT hT (isArr_ok he) hTE ho hi hx (leB_ok hb.1) (of_decide_eq_true hb.2))
      · cases h
    · cases h
  · cases h
theorem indexE_ok {ty : TypeId} {x i : Operand} (ho : o.op = .index ty x i) (h : indexE C.TT ty (opd t x) (opd t i) = some (r, mo, rd)) : Goal C o t m r mo rd := by
  unfold indexE at h
  split at h
  · rename_i T cs kk q hT hx hi
    split at h
    · rename_i len e he
      split at h
      · rename_i TE hTE
        replace h := bif_some h; obtain ⟨hb, h⟩ := h
        simp only [Bool.and_eq_true] at hb
        split at h
        · rename_i v hv
          exact ret_step h (pure_indexArr C.hT hT (isArr_ok he) hTE ho hx hi ⟨leB_ok hb.1.1, of_decide_eq_true hb.1.2, Nat.le_of_ble_eq_true hb.2⟩ hv)
        · cases h
      · cases h
    · cases h
  · cases h
theorem eqNot_step {op : BinOp} {b : Bool} (h : eqNot op b = some (r, mo, rd)) (h1 : op = .eql → PureOk C.P o (opd t) (wb b)) (h2 : op = .neq → PureOk C.P o (opd t) (wb (!b))) : Goal C o t m r mo rd := by
  unfold eqNot at h
  split at h
  · exact ret_step h (h1 rfl)
  · exact ret_step h (h2 rfl)
  · cases h
theorem binE_ok {op : BinOp} {ty ty' : TypeId} {x y : Operand} (ho : o.op = .binOp op ty x y ty') (h : binE C op ty (opd t x) (opd t y) = some (r, mo, rd)) : Goal C o t m r mo rd := by
  unfold binE at h
  split at h
  · rename_i ds hy
    split at h
    · rename_i cs hx
      split at h
      · rename_i n l l' hn hl hl'
        replace h := bif_some h; obtain ⟨hb, h⟩ := h
        simp only [Bool.and_eq_true] at hb
        have := pure_eqAgg C ho hx hy hn hl hl' (Nat.eq_of_beq_eq_true hb.1) (Nat.eq_of_beq_eq_true hb.2)
        exact eqNot_step h this.1 this.2
      · cases h
    · cases h
  · rename_i v hy
    split at h
    · split at h
      · rename_i T b hT hb
        split at h
        · rename_i e he
          have := pure_eqNil C.hT (g := opd t) hT (isSlc_ok he) ho hy hb
          exact eqNot_step h this.1 this.2
        · cases h
      · cases h
    · rename_i q
      split at h
      · rename_i p hx
        split at h
        · rename_i hu
          have := pure_eqBool (P := C.P) (g := opd t) ho hx hy hu
          exact eqNot_step h this.1 this.2
        · cases h
      · cases h
    · split at h
      · rename_i u hx
        split at h
        · rename_i w hw
          exact ret_step h (pure_bin ho hx hy hw)
        · cases h
      · cases h
    · cases h
  · cases h
theorem buildE_ok {ty : TypeId} {parts : Array (Nat × Operand)} (ho : o.op = .build ty parts) (h : buildE C.TT ty (opd t) parts.toList = some (r, mo, rd)) : Goal C o t m r mo rd := by
  unfold buildE at h
  split at h
  · rename_i T hT
    split at h
    · rename_i z hz
      split at h
      · rename_i fs hfs
        split at h
        · rename_i cs hcs
          exact ret_step h (pure_buildStr C.hT hT (isStr_ok hfs) ho hz hcs)
        · cases h
      · split at h
        · rename_i n e he
          split at h
          · rename_i TE hTE
            split at h
            · rename_i cs hcs
              exact ret_step h (pure_buildArr C.hT hT (isArr_ok he) hTE ho hz hcs)
            · cases h
          · cases h
        · cases h
    · cases h
  · cases h
theorem loadE_ok {ty : TypeId} {x : Operand} (ho : o.op = .load ty x) (h : loadE C.TT m ty (opd t x) = some (r, mo, rd)) : Goal C o t m r mo rd := by
  unfold loadE at h
  split at h
  · rename_i T ob p hT hx
    split at h
    · rename_i cs hr
      split at h
      · rename_i v hv
        cases h
        exact step_load C hT ho hx hr hv
      · cases h
    · cases h
  · cases h
theorem storeE_ok {ty : TypeId} {x y : Operand} (ho : o.op = .store ty x y) (h : storeE C.TT m ty (opd t x) (opd t y) = some (r, mo, rd)) : Goal C o t m r mo rd := by
  unfold storeE at h
  split at h
  · rename_i T ob p l hT hx hl
    split at h
    · rename_i e k n ex cs hm
      replace h := bif_some h; obtain ⟨hb, h⟩ := h
      simp only [Bool.and_eq_true] at hb
      cases h
      exact step_store C hT ho hx hl (Nat.eq_of_beq_eq_true hb.1) hm (Nat.le_of_ble_eq_true hb.2)
    · cases h
  · cases h
theorem allocE_ok {e : TypeId} (ho : o.op = .alloc e) (h : allocE C.TT m d e = some (r, mo, rd)) : Goal C o t m r mo rd := by
  unfold allocE at h
  split at h
  · rename_i T hT
    split at h
    · rename_i z hz
      replace h := bif_some h; obtain ⟨hb, h⟩ := h
      cases h
      exact step_alloc C hT ho (isNone_ok hb) hz
    · cases h
  · cases h
theorem boxE_ok {e : TypeId} {x : Operand} (ho : o.op = .box e x) (h : boxE m d e (opd t x) = some (r, mo, rd)) : Goal C o t m r mo rd := by
  unfold boxE at h
  split at h
  · rename_i l hl
    replace h := bif_some h; obtain ⟨hb, h⟩ := h
    cases h
    exact step_box C ho (isNone_ok hb) hl
  · cases h
theorem buildSliceE_ok {ty : TypeId} {len : Nat} {parts : Array (Nat × Operand)} (ho : o.op = .buildSlice ty len parts) (h : buildSliceE C.TT m d ty len (opd t) parts.toList = some (r, mo, rd)) : Goal C o t m r mo rd := by
  unfold buildSliceE at h
  split at h
  · rename_i T hT
    split at h
    · rename_i e he
      split at h
      · rename_i TE hTE
        split at h
        · rename_i hp
          replace h := bif_some h; obtain ⟨hb, h⟩ := h
          cases h
          exact step_emptySlice C hT (isSlc_ok he) hTE ho (isNone_ok hb) hp
        · split at h
          · rename_i z hz
            replace h := bif_some h; obtain ⟨hb, h⟩ := h
            simp only [Bool.and_eq_true] at hb
            split at h
            · rename_i cs hcs
              cases h
              exact step_buildSlice C hT (isSlc_ok he) hTE ho (isNone_ok hb.1.1.1) hz (Nat.le_of_ble_eq_true hb.1.1.2) (lt_of_blt hb.1.2) (lt_of_blt hb.2) hcs
            · cases h
          · cases h
      · cases h
    · cases h
  · cases h
theorem makeSliceE_ok {ty : TypeId} {x y : Operand} (ho : o.op = .makeSlice ty x y) (h : makeSliceE C.TT m d ty (opd t x) (opd t y) = some (r, mo, rd)) : Goal C o t m r mo rd := by
  unfold makeSliceE at h
  split at h
  · rename_i T k n k' n' hT hx hy
    split at h
    · rename_i e he
      split at h
      · rename_i TE hTE
        split at h
        · rename_i z hz
          replace h := bif_some h; obtain ⟨hb, h⟩ := h
          simp only [Bool.and_eq_true, beq_iff_eq] at hb
          obtain ⟨⟨⟨⟨⟨b1, b2⟩, b3⟩, b4⟩, b5⟩, b6⟩ := hb
          subst b2
          cases h
          exact step_makeSlice C hT (isSlc_ok he) hTE ho (isNone_ok b1) hz hx hy (of_decide_eq_true b3) (lt_of_blt b4) (leB_ok b5) (leB_ok b6)
        · cases h
      · cases h
    · cases h
  · cases h
theorem sliceOpE_ok {ty : TypeId} {x : Operand} {lo hi : Option Operand} (ho : o.op = .slice ty x lo hi none) (h : sliceOpE C.TT ty (opd t x) (opd t) lo hi = some (r, mo, rd)) : Goal C o t m r mo rd := by
  unfold sliceOpE at h
  split at h
  · rename_i T hT
    split at h
    · rename_i e he
      split at h
      · rename_i TE hTE
        split at h
        · rename_i v hv
          exact ret_step h (pure_slice C.hT hT (isSlc_ok he) hTE ho hv)
        · cases h
      · cases h
    · cases h
  · cases h
theorem slice3OpE_ok {ty : TypeId} {x hi mx : Operand} {lo : Option Operand} (ho : o.op = .slice ty x lo (some hi) (some mx)) (h : slice3OpE C.TT ty (opd t x) (opd t) lo hi mx = some (r, mo, rd)) : Goal C o t m r mo rd := by
  unfold slice3OpE at h
  split at h
  · rename_i T hT
    split at h
    · rename_i e he
      split at h
      · rename_i TE hTE
        split at h
        · rename_i v hv
          exact ret_step h (pure_slice3 C.hT hT (isSlc_ok he) hTE ho hv)
        · cases h
      · cases h
    · cases h
  · cases h
theorem lookupE_ok {ty : TypeId} {x y : Operand} (ho : o.op = .lookup ty x y false) (h : lookupE C m ty (opd t x) (opd t y) = some (r, mo, rd)) : Goal C o t m r mo rd := by
  unfold lookupE at h
  split at h
  · rename_i k e n z ob ks hty hx hy
    split at h
    · rename_i es l hm hl
      replace h := bif_some h; obtain ⟨hb, h⟩ := h
      split at h
      · rename_i v hv
        cases h
        exact step_lookup C hty ho hx hm hy hl (Nat.eq_of_beq_eq_true hb) hv
      · cases h
    · cases h
  · cases h
theorem mapUpdateE_ok {ty : TypeId} {x y v : Operand} (ho : o.op = .mapUpdate ty x y v) (h : mapUpdateE C m ty (opd t x) (opd t y) (opd t v) = some (r, mo, rd)) : Goal C o t m r mo rd := by
  unfold mapUpdateE at h
  split at h
  · rename_i k e n z ob ks c hty hx hy hv
    split at h
    · rename_i es l hm hl
      replace h := bif_some h; obtain ⟨hb, h⟩ := h
      split at h
      · rename_i hf
        cases h
        exact step_mapUpdate C hty ho hx hm hy hl (Nat.eq_of_beq_eq_true hb) hf hv
      · cases h
    · cases h
  · cases h
theorem appendE_ok {ty ty' : TypeId} {s x : Operand} {c : Call} (ho : o.op = .call c) (hcal : c.callee = .builtin .append) (hargs : c.args.toList = [s, x]) (hat : c.argTypes.toList = [ty, ty']) (h : appendE C.TT m d ty ty' (opd t s) (opd t x) = some (r, mo, rd)) : Goal C o t m r mo rd := by
  unfold appendE at h
  split at h
  · rename_i T hT
    split at h
    · rename_i e he
      have hk := isSlc_ok he
      split at h
      · rename_i TE TZ hTE hTZ
        split at h
        · rename_i e2 he2
          have hsl : ∃ e', C.P.underlying ty' = some (.slice e') := ⟨e2, by have := (C.hT ty' TZ hTZ).kind; rw [isSlc_ok he2] at this; exact this⟩
          split at h
          · rename_i l rd' hx
            split at h
            · rename_i b hb
              cases h
              exact step_append0 C hT hk hTE ho hcal hargs hat hsl hx (by rw [hb]; simp)
            · cases h
          · rename_i n l rd' hx
            split at h
            · rename_i hs
              replace h := bif_some h; obtain ⟨hb, h⟩ := h
              simp only [Bool.and_eq_true] at hb
              cases h
              exact step_appendNil C hT hk hTE ho hcal hargs hat hsl hx hs (isNone_ok hb.1.1) (Nat.succ_pos _) (Nat.le_of_ble_eq_true hb.1.2) (Nat.le_of_ble_eq_true hb.2)
            · rename_i ob k n0 full hs
              split at h
              · rename_i e' k' N ex cs hm
                replace h := bif_some h; obtain ⟨hb, h⟩ := h
                simp only [Bool.and_eq_true] at hb
                obtain ⟨⟨b1, b2⟩, b3⟩ := hb
                obtain rfl := Nat.eq_of_beq_eq_true b1
                obtain rfl := Nat.eq_of_beq_eq_true b2
                obtain rfl := Nat.eq_of_beq_eq_true b3
                cases hq : (!full && Nat.ble (n0 + (n + 1)) N) with
                | true =>
                  rw [hq] at h
                  simp only [Bool.and_eq_true, Bool.not_eq_true'] at hq
                  obtain ⟨rfl, hq⟩ := hq
                  cases h
                  exact step_appendIn C hT hk hTE ho hcal hargs hat hsl hx hs hm (Nat.succ_pos _) (Nat.le_of_ble_eq_true hq)
                | false =>
                  rw [hq] at h
                  replace h := bif_some h; obtain ⟨hb, h⟩ := h
                  simp only [Bool.and_eq_true] at hb
                  obtain ⟨⟨⟨c1, c2⟩, c3⟩, c4⟩ := hb
                  cases hw : (full || (ex && Nat.beq n0 N)) with
                  | true =>
                    rw [hw] at h
                    cases h
                    refine step_appendGrow C hT hk hTE ho hcal hargs hat hsl hx hs hm (isNone_ok c1) (Nat.succ_pos _) (Nat.le_of_ble_eq_true c4) ?_ (Nat.le_of_ble_eq_true c2) (Nat.le_of_ble_eq_true c3)
                    simp only [Bool.or_eq_true, Bool.and_eq_true] at hw
                    exact hw.imp id (fun h => ⟨h.1, Nat.eq_of_beq_eq_true h.2⟩)
                  | false =>
                    rw [hw] at h
                    replace h := bif_some h; obtain ⟨hb, h⟩ := h
                    simp only [Bool.and_eq_true, Bool.not_eq_true'] at hb
                    obtain ⟨⟨d1, rfl⟩, rfl⟩ := hb
                    obtain rfl := Nat.eq_of_beq_eq_true d1
                    cases h
                    exact step_appendNew C hT hk hTE ho hcal hargs hat hsl hx hs hm (isNone_ok c1) (Nat.succ_pos _) (Nat.le_of_ble_eq_true c2) (Nat.le_of_ble_eq_true c3)
              · cases h
            · cases h
          · cases h
        · split at h
          · rename_i n z hi hs hx hz
            replace h := bif_some h; obtain ⟨hb, h⟩ := h
            simp only [Bool.and_eq_true] at hb
            obtain ⟨⟨⟨⟨b1, b2⟩, b3⟩, b4⟩, b5⟩ := hb
            cases h
            exact step_appendZ C hT hk hTE hTZ (isInt_ok hi) ho hcal hargs hat hz (isNone_ok b1) hs hx (of_decide_eq_true b2) (leB_ok b3) (Nat.le_of_ble_eq_true b4) (lt_of_blt b5)
          · cases h
      · cases h
    · cases h
  · cases h
theorem clearE_ok {ty : TypeId} {x : Operand} {c : Call} (ho : o.op = .call c) (hcal : c.callee = .builtin .clear) (hargs : c.args.toList = [x]) (hat : c.argTypes.toList = [ty]) (h : clearE C.TT m ty (opd t x) = some (r, mo, rd)) : Goal C o t m r mo rd := by
  unfold clearE at h
  split at h
  · rename_i T hT
    split at h
    · rename_i e he
      have hk := isSlc_ok he
      split at h
      · rename_i h0
        cases h
        exact step_clear0 C hT hk ho hcal hargs hat h0
      · split at h
        · rename_i TE ob k p n full hTE hx
          split at h
          · rename_i z e' k' N ex cs hz hm
            replace h := bif_some h; obtain ⟨hb, h⟩ := h
            simp only [Bool.and_eq_true] at hb
            obtain ⟨⟨⟨⟨⟨b1, b2⟩, b3⟩, b4⟩, b5⟩, b6⟩ := hb
            obtain rfl := Nat.eq_of_beq_eq_true b1
            obtain rfl := Nat.eq_of_beq_eq_true b2
            obtain rfl := Nat.eq_of_beq_eq_true b3
            cases h
            exact step_clear C hT hk hTE ho hcal hargs hat hz hx hm (lt_of_blt b4) (lt_of_blt b5) (Nat.le_of_ble_eq_true b6)
          · cases h
        · cases h
    · cases h
  · cases h
theorem builtinE_ok {b : Builtin} {c : Call} (ho : o.op = .call c) (hcal : c.callee = .builtin b) (h : builtinE C.TT m d (opd t) b c.args.toList c.argTypes.toList = some (r, mo, rd)) : Goal C o t m r mo rd := by
  unfold builtinE at h
  split at h
  · rename_i x ty hargs hat
    split at h
    · rename_i T n hT hn
      split at h
      · rename_i e he
        exact ret_step h (pure_len C.hT hT (isSlc_ok he) ho hcal hargs hat hn)
      · cases h
    · cases h
  · rename_i x ty hargs hat
    split at h
    · rename_i T hT hx
      split at h
      · rename_i e he
        exact ret_step h (pure_capNil C.hT hT (isSlc_ok he) ho hcal hargs hat hx)
      · cases h
    · cases h
  · rename_i x y hargs
    split at h
    · rename_i hx hy
      exact ret_step h ((pure_min ho hargs hx hy).1 hcal)
    · cases h
  · rename_i x y hargs
    split at h
    · rename_i hx hy
      exact ret_step h ((pure_min ho hargs hx hy).2 hcal)
    · cases h
  · rename_i s x ty ty' hargs hat
    exact appendE_ok ho hcal hargs hat h
  · rename_i x ty hargs hat
    exact clearE_ok ho hcal hargs hat h
  · cases h
theorem opE_ok (h : opE C o t m d = some (r, mo, rd)) : StepOk C.P o t m r mo rd := by
  unfold opE at h
  split at h
  · rename_i x ho; exact ret_step h (pure_move (.inl ho))
  · rename_i x ho; exact ret_step h (pure_move (.inr ho))
  · rename_i ho; exact pickE_ok ho h
  · rename_i ho; exact allocE_ok ho h
  · rename_i ho; exact boxE_ok ho h
  · rename_i ho; exact buildE_ok ho h
  · rename_i ho; exact buildSliceE_ok ho h
  · rename_i ho; exact loadE_ok ho h
  · rename_i ho; exact storeE_ok ho h
  · rename_i ho; exact nilCheckE_ok ho h
  · rename_i ho; exact binE_ok ho h
  · rename_i ho; exact unE_ok ho h
  · rename_i ho; exact convE_ok ho h
  · rename_i f first captured ho
    split at h
    · rename_i caps hf hc
      exact ret_step h (pure_makeFunc ho hf hc)
    · cases h
  · rename_i ho
    replace h := bif_some h; obtain ⟨hb, h⟩ := h
    cases h
    exact step_makeMap C ho (isNone_ok hb)
  · rename_i ho; exact makeSliceE_ok ho h
  · rename_i ho; exact sliceOpE_ok ho h
  · rename_i ho; exact slice3OpE_ok ho h
  · rename_i ho; exact fieldAddrE_ok ho h
  · rename_i ho; exact fieldE_ok ho h
  · rename_i ho; exact indexAddrE_ok ho h
  · rename_i ho; exact indexE_ok ho h
  · rename_i ho; exact lookupE_ok ho h
  · rename_i ho; exact mapUpdateE_ok ho h
  · rename_i ho; exact extractE_ok ho h
  · rename_i c ho
    split at h
    · rename_i b hcal
      exact builtinE_ok ho hcal h
    · cases h
  · cases h
end
end Go.Cv
namespace Go.Cv
open Go Go.RowKit Go.Vm

structure Ent where
  dst : Option Nat
  x : Tv
  mo : List (Nat × Ob)
  rdS : List Nat
  rdM : List Nat

def Ent.mask (e : Ent) : Nat × Nat := (maskS e.rdS ||| maskM e.rdM, maskS (dstL e.dst) ||| maskM (e.mo.map fun p => p.1))

def EntOk (P : Program) (N : Nat) (ops : Array Oper) (o : Oper) (e : Ent) (t : Nat → Tv) (m : Nat → Ob) : Prop :=
  ∀ (E : Env) (ρ : Rho) (t' : Nat → Tv) (m' : Nat → Ob) (a : Act) (w : World), E.P = P → E.N = N → (∀ s ∈ e.rdS, t' s = t s) → Same e.rdM m m' → Rel E ρ t' m' a w →
    ∀ (K : Act → World → Prop) (Q : Exit → Act → World → Prop), (∀ ρ' a' w', Rel E ρ' (putT t' e.dst e.x) (putM m' e.mo) a' w' → K a' w') →
      if Region.wanted o (yielded ops a.tmps) then o.wp P a w K Q else K (a.put o.dst Go.undef) w

inductive Ents (P : Program) (N : Nat) (ops : Array Oper) : List Oper → List Ent → (Nat → Tv) → (Nat → Ob) → (Nat → Tv) → (Nat → Ob) → Prop where
  | nil (t : Nat → Tv) (m : Nat → Ob) : Ents P N ops [] [] t m t m
  | cons {o : Oper} {e : Ent} {os : List Oper} {es : List Ent} {t t' : Nat → Tv} {m m' : Nat → Ob} (h : EntOk P N ops o e t m) (hr : Ents P N ops os es (putT t e.dst e.x) (putM m e.mo) t' m') : Ents P N ops (o :: os) (e :: es) t m t' m'

theorem ents_list {P : Program} {N : Nat} {ops : Array Oper} {os : List Oper} {es : List Ent} {t t' : Nat → Tv} {m m' : Nat → Ob} (h : Ents P N ops os es t m t' m') :
    ∀ (E : Env) (ρ : Rho) (a : Act) (w : World), E.P = P → E.N = N → Rel E ρ t m a w → ∀ (Q : Exit → Act → World → Prop), (∀ ρ' a' w', Rel E ρ' t' m' a' w' → Q .normal a' w') → wpList P ops Q os a w := by
  induction h with
  | nil t m => intro E ρ a w _ _ hR Q hQ; exact hQ ρ a w hR
  | @cons o e os es t t' m m' he hr ih =>
    intro E ρ a w hP hN hR Q hQ
    have h1 := he E ρ t m a w hP hN (fun _ _ => rfl) (fun _ _ => rfl) hR (wpList P ops Q os) Q (fun ρ' a' w' hR' => ih E ρ' a' w' hP hN hR' Q hQ)
    unfold wpList
    split
    · rename_i hw; rw [if_pos hw] at h1; exact .inl h1
    · rename_i hw; rw [if_neg hw] at h1; exact h1

def wS (e : Ent) (s : Nat) : Prop := e.dst = some s
def wM (e : Ent) (o : Nat) : Prop := o ∈ e.mo.map (·.1)

theorem conf_slot {a b : Ent} {s : Nat} (h : wS a s ∧ (s ∈ b.rdS ∨ wS b s) ∨ s ∈ a.rdS ∧ wS b s) : conf a.mask b.mask = true := by
  have hw : ∀ e : Ent, wS e s → e.mask.2.testBit (2 * s) = true := fun e he => by
    unfold wS at he
    simp only [Ent.mask, he, dstL, Nat.testBit_or]
    simp [testBit_maskS (l := [s]) (s := s) (by simp)]
  have hr : ∀ e : Ent, s ∈ e.rdS → e.mask.1.testBit (2 * s) = true := fun e he => by
    simp only [Ent.mask, Nat.testBit_or, testBit_maskS he, Bool.true_or]
  refine conf_of (2 * s) ?_
  rcases h with ⟨h1, h2 | h2⟩ | ⟨h1, h2⟩
  · exact .inl ⟨hw a h1, .inl (hr b h2)⟩
  · exact .inl ⟨hw a h1, .inr (hw b h2)⟩
  · exact .inr ⟨hr a h1, hw b h2⟩

theorem conf_obj {a b : Ent} {s : Nat} (h : wM a s ∧ (s ∈ b.rdM ∨ wM b s) ∨ s ∈ a.rdM ∧ wM b s) : conf a.mask b.mask = true := by
  have hw : ∀ e : Ent, wM e s → e.mask.2.testBit (2 * s + 1) = true := fun e he => by
    unfold wM at he
    obtain ⟨p, hp, rfl⟩ := List.mem_map.1 he
    simp only [Ent.mask, Nat.testBit_or, testBit_maskM (List.mem_map.2 ⟨p, hp, rfl⟩), Bool.or_true]
  have hr : ∀ e : Ent, s ∈ e.rdM → e.mask.1.testBit (2 * s + 1) = true := fun e he => by
    simp only [Ent.mask, Nat.testBit_or, testBit_maskM he, Bool.or_true]
  refine conf_of (2 * s + 1) ?_
  rcases h with ⟨h1, h2 | h2⟩ | ⟨h1, h2⟩
  · exact .inl ⟨hw a h1, .inl (hr b h2)⟩
  · exact .inl ⟨hw a h1, .inr (hw b h2)⟩
  · exact .inr ⟨hr a h1, hw b h2⟩

def fT : List Ent → (Nat → Bool) → Nat → (Nat → Tv) → Nat → Tv
  | [], _, _, t => t
  | e :: es, S, k, t => fT es S (k + 1) (if S k then putT t e.dst e.x else t)
def fM : List Ent → (Nat → Bool) → Nat → (Nat → Ob) → Nat → Ob
  | [], _, _, m => m
  | e :: es, S, k, m => fM es S (k + 1) (if S k then putM m e.mo else m)

theorem putT_ne {t : Nat → Tv} {d : Option Nat} {x : Tv} {s : Nat} (h : d ≠ some s) : putT t d x s = t s := by
  cases d with
  | none => rfl
  | some k => exact updN_ne _ _ (fun e => h (by rw [e]))
theorem putT_eq {t : Nat → Tv} {d : Option Nat} {x : Tv} {s : Nat} (h : d = some s) : putT t d x s = x := by
  subst h; exact updN_same _ _ _
theorem putM_ne : ∀ {mo : List (Nat × Ob)} {m : Nat → Ob} {o : Nat}, o ∉ mo.map (·.1) → putM m mo o = m o
  | [], _, _, _ => rfl
  | (o', x) :: r, m, o, h => by
    simp only [List.map_cons, List.mem_cons, not_or] at h
    simp only [putM]
    rw [putM_ne h.2, updN_ne _ _ h.1]
theorem putM_eq : ∀ {mo : List (Nat × Ob)} {m m' : Nat → Ob} {o : Nat}, o ∈ mo.map (·.1) → putM m mo o = putM m' mo o
  | [], _, _, _, h => by simp at h
  | (o', x) :: r, m, m', o, h => by
    simp only [putM]
    by_cases hr : o ∈ r.map (·.1)
    · exact putM_eq hr
    · rw [putM_ne hr, putM_ne hr]
      have e : o = o' := by
        simp only [List.map_cons, List.mem_cons] at h
        rcases h with h | h
        · exact h
        · exact absurd h hr
      subst e
      rw [updN_same, updN_same]

theorem fT_agree : ∀ (es : List Ent) (S S' : Nat → Bool) (k : Nat) (t t' : Nat → Tv) (s : Nat), t s = t' s → (∀ i e, es[i]? = some e → wS e s → S (k + i) = S' (k + i)) → fT es S k t s = fT es S' k t' s
  | [], _, _, _, _, _, _, h, _ => h
  | e :: es, S, S', k, t, t', s, h, hw => by
    simp only [fT]
    refine fT_agree es S S' (k + 1) _ _ s ?_ (fun i e' hi hws => by
      have := hw (i + 1) e' (by simpa using hi) hws
      rwa [show k + (i + 1) = k + 1 + i by omega] at this)
    by_cases hws : wS e s
    · have h0 := hw 0 e rfl hws
      simp only [Nat.add_zero] at h0
      rw [h0]
      split
      · rw [putT_eq hws, putT_eq hws]
      · exact h
    · have hne : e.dst ≠ some s := hws
      have e1 : (if S k = true then putT t e.dst e.x else t) s = t s := by split; exact putT_ne hne; rfl
      have e2 : (if S' k = true then putT t' e.dst e.x else t') s = t' s := by split; exact putT_ne hne; rfl
      rw [e1, e2, h]

theorem fM_agree : ∀ (es : List Ent) (S S' : Nat → Bool) (k : Nat) (m m' : Nat → Ob) (o : Nat), m o = m' o → (∀ i e, es[i]? = some e → wM e o → S (k + i) = S' (k + i)) → fM es S k m o = fM es S' k m' o
  | [], _, _, _, _, _, _, h, _ => h
  | e :: es, S, S', k, m, m', o, h, hw => by
    simp only [fM]
    refine fM_agree es S S' (k + 1) _ _ o ?_ (fun i e' hi hws => by
      have := hw (i + 1) e' (by simpa using hi) hws
      rwa [show k + (i + 1) = k + 1 + i by omega] at this)
    by_cases hws : wM e o
    · have h0 := hw 0 e rfl hws
      simp only [Nat.add_zero] at h0
      rw [h0]
      split
      · exact putM_eq hws
      · exact h
    · have hne : o ∉ e.mo.map (·.1) := hws
      have e1 : (if S k = true then putM m e.mo else m) o = m o := by split; exact putM_ne hne; rfl
      have e2 : (if S' k = true then putM m' e.mo else m') o = m' o := by split; exact putM_ne hne; rfl
      rw [e1, e2, h]

theorem fT_off (es : List Ent) (S : Nat → Bool) (k : Nat) (t : Nat → Tv) (s : Nat) (h : ∀ i e, es[i]? = some e → wS e s → S (k + i) = false) : fT es S k t s = t s := by
  induction es generalizing k t with
  | nil => rfl
  | cons e es ih =>
    simp only [fT]
    rw [ih (k + 1) _ (fun i e' hi hws => by
      have := h (i + 1) e' (by simpa using hi) hws
      rwa [show k + (i + 1) = k + 1 + i by omega] at this)]
    by_cases hws : wS e s
    · have h0 := h 0 e rfl hws
      simp only [Nat.add_zero] at h0
      rw [h0]; rfl
    · split
      · exact putT_ne hws
      · rfl
theorem fM_off (es : List Ent) (S : Nat → Bool) (k : Nat) (m : Nat → Ob) (o : Nat) (h : ∀ i e, es[i]? = some e → wM e o → S (k + i) = false) : fM es S k m o = m o := by
  induction es generalizing k m with
  | nil => rfl
  | cons e es ih =>
    simp only [fM]
    rw [ih (k + 1) _ (fun i e' hi hws => by
      have := h (i + 1) e' (by simpa using hi) hws
      rwa [show k + (i + 1) = k + 1 + i by omega] at this)]
    by_cases hws : wM e o
    · have h0 := h 0 e rfl hws
      simp only [Nat.add_zero] at h0
      rw [h0]; rfl
    · split
      · exact putM_ne hws
      · rfl

theorem fT_last : ∀ (es : List Ent) (S : Nat → Bool) (k : Nat) (t : Nat → Tv) (s : Nat) (i : Nat) (e : Ent), es[i]? = some e → wS e s → S (k + i) = true → (∀ j e', es[j]? = some e' → i < j → wS e' s → S (k + j) = false) → fT es S k t s = e.x
  | [], _, _, _, _, i, e, h, _, _, _ => by simp at h
  | e0 :: es, S, k, t, s, 0, e, h, hw, hs, hl => by
    simp at h; subst h
    simp only [fT]
    rw [fT_off es S (k + 1) _ s (fun j e' hj hws => by
      have := hl (j + 1) e' (by simpa using hj) (by omega) hws
      rwa [show k + (j + 1) = k + 1 + j by omega] at this)]
    simp only [Nat.add_zero] at hs
    rw [hs]
    exact putT_eq hw
  | e0 :: es, S, k, t, s, i + 1, e, h, hw, hs, hl => by
    simp only [fT]
    exact fT_last es S (k + 1) _ s i e (by simpa using h) hw (by rwa [show k + (i + 1) = k + 1 + i by omega] at hs) (fun j e' hj hij hws => by
      have := hl (j + 1) e' (by simpa using hj) (by omega) hws
      rwa [show k + (j + 1) = k + 1 + j by omega] at this)
theorem fM_last : ∀ (es : List Ent) (S : Nat → Bool) (k : Nat) (m m' : Nat → Ob) (o : Nat) (i : Nat) (e : Ent), es[i]? = some e → wM e o → S (k + i) = true → (∀ j e', es[j]? = some e' → i < j → wM e' o → S (k + j) = false) → fM es S k m o = putM m' e.mo o
  | [], _, _, _, _, _, i, e, h, _, _, _ => by simp at h
  | e0 :: es, S, k, m, m', o, 0, e, h, hw, hs, hl => by
    simp at h; subst h
    simp only [fM]
    rw [fM_off es S (k + 1) _ o (fun j e' hj hws => by
      have := hl (j + 1) e' (by simpa using hj) (by omega) hws
      rwa [show k + (j + 1) = k + 1 + j by omega] at this)]
    simp only [Nat.add_zero] at hs
    rw [hs]
    exact putM_eq hw
  | e0 :: es, S, k, m, m', o, i + 1, e, h, hw, hs, hl => by
    simp only [fM]
    exact fM_last es S (k + 1) _ m' o i e (by simpa using h) hw (by rwa [show k + (i + 1) = k + 1 + i by omega] at hs) (fun j e' hj hij hws => by
      have := hl (j + 1) e' (by simpa using hj) (by omega) hws
      rwa [show k + (j + 1) = k + 1 + j by omega] at this)

theorem Ents.length {P : Program} {N : Nat} {ops : Array Oper} {os : List Oper} {es : List Ent} {t t' : Nat → Tv} {m m' : Nat → Ob} (h : Ents P N ops os es t m t' m') : es.length = os.length := by
  induction h with
  | nil => rfl
  | cons _ _ ih => simp [ih]

theorem Ents.final {P : Program} {N : Nat} {ops : Array Oper} {os : List Oper} {es : List Ent} {t t' : Nat → Tv} {m m' : Nat → Ob} (h : Ents P N ops os es t m t' m') : ∀ (S : Nat → Bool) (k : Nat), (∀ i, i < es.length → S (k + i) = true) → fT es S k t = t' ∧ fM es S k m = m' := by
  induction h with
  | nil => intro S k _; exact ⟨rfl, rfl⟩
  | @cons o e os es t t' m m' he hr ih =>
    intro S k hS
    have h0 := hS 0 (by simp)
    simp only [Nat.add_zero] at h0
    simp only [fT, fM, h0, if_true]
    exact ih S (k + 1) (fun i hi => by
      have := hS (i + 1) (by simpa using hi)
      rwa [show k + (i + 1) = k + 1 + i by omega] at this)

theorem Ents.at {P : Program} {N : Nat} {ops : Array Oper} {os : List Oper} {es : List Ent} {t t' : Nat → Tv} {m m' : Nat → Ob} (h : Ents P N ops os es t m t' m') : ∀ (k i : Nat) (o : Oper) (e : Ent), os[i]? = some o → es[i]? = some e →
    EntOk P N ops o e (fT es (fun j => decide (j < k + i)) k t) (fM es (fun j => decide (j < k + i)) k m) := by
  induction h with
  | nil => intro k i o e h; simp at h
  | @cons o0 e0 os es t t' m m' he hr ih =>
    intro k i o e ho hi
    cases i with
    | zero =>
      simp at ho hi
      subst ho; subst hi
      have h1 : fT (e0 :: es) (fun j => decide (j < k + 0)) k t = t := by
        funext s
        exact fT_off _ _ _ _ _ (fun i _ _ _ => by simp)
      have h2 : fM (e0 :: es) (fun j => decide (j < k + 0)) k m = m := by
        funext s
        exact fM_off _ _ _ _ _ (fun i _ _ _ => by simp)
      rw [h1, h2]
      exact he
    | succ i =>
      have := ih (k + 1) i o e (by simpa using ho) (by simpa using hi)
      simp only [fT, fM, show k < k + (i + 1) from by omega, decide_true, if_true]
      rwa [show k + 1 + i = k + (i + 1) by omega] at this
theorem ents_any {P : Program} {N : Nat} {ops : Array Oper} {es : List Ent} {t t' : Nat → Tv} {m m' : Nat → Ob} (h : Ents P N ops ops.toList es t m t' m') (hc : chk ops.toList (es.map Ent.mask) = true)
    {E : Env} (hP : E.P = P) (hN : E.N = N) {Q : Exit → Act → World → Prop} (hQ : ∀ ρ' a' w', Rel E ρ' t' m' a' w' → Q .normal a' w') :
    ∀ (fuel : Nat) (listed : Array Bool) (ρ : Rho) (a : Act) (w : World), listed.size = ops.size → leftN ops.size listed = fuel →
      (∀ i (o : Oper), ops.toList[i]? = some o → listed.getD i false = true → ∀ e ∈ o.after.toList, Region.binds .any e = true → listed.getD e.on false = true) →
      Rel E ρ (fT es (fun i => listed.getD i false) 0 t) (fM es (fun i => listed.getD i false) 0 m) a w → wpAny P .any ops Q fuel listed a w := by
  have hel : es.length = ops.size := by rw [h.length]; simp
  -- what the check has held
  have hc' : ∀ j, j < ops.size → (∀ o, ops.toList[j]? = some o → ∀ e ∈ o.after.toList, Region.binds .any e = true → e.on < j) ∧
      ∀ i, i < j → ∀ ei ej, es[i]? = some ei → es[j]? = some ej → conf ei.mask ej.mask = true → ((befs ops.toList []).getD j 0).testBit i = true := by
    intro j hj
    unfold chk at hc
    simp only [List.all_eq_true, List.mem_range, Bool.and_eq_true] at hc
    obtain ⟨c1, c2⟩ := hc j (by simpa using hj)
    refine ⟨fun o ho e he hb => ?_, fun i hi ei ej h1 h2 hcf => ?_⟩
    · rw [ho] at c1
      simp only [Option.map_some, Option.getD_some, List.all_eq_true] at c1
      have := c1 e he
      rw [hb] at this
      exact lt_of_blt (by simpa using this)
    · have := c2 i hi
      have e1 : (es.map Ent.mask).getD i (0, 0) = ei.mask := by simp [List.getD, h1]
      have e2 : (es.map Ent.mask).getD j (0, 0) = ej.mask := by simp [List.getD, h2]
      rw [e1, e2, hcf] at this
      simpa using this
  intro fuel
  induction fuel with
  | zero =>
    intro listed ρ a w hs hleft hclo hR
    have hall : ∀ i, i < ops.size → listed.getD i true = true := leftN_zero hleft
    refine ⟨?_, ?_⟩
    · rw [List.eq_nil_iff_forall_not_mem]
      intro i hi
      have := Vm.mem_ready.1 hi
      rw [hall i this.1] at this
      simp at this
    · have hf := h.final (fun i => listed.getD i false) 0 (fun i hi => by
        rw [Nat.zero_add]
        have := hall i (by omega)
        have hlt : i < listed.size := by omega
        simp only [Array.getD_eq_getD_getElem?, Array.getElem?_eq_getElem hlt, Option.getD_some] at this ⊢
        exact this)
      rw [hf.1, hf.2] at hR
      exact hQ ρ a w hR
  | succ fuel ih =>
    intro listed ρ a w hs hleft hclo hR
    have hgd : ∀ i, i < ops.size → listed.getD i false = listed.getD i true := fun i hi => by
      have hlt : i < listed.size := by omega
      simp [Array.getD_eq_getD_getElem?, Array.getElem?_eq_getElem hlt]
    refine ⟨fun hr => ?_, fun i hi => ?_⟩
    · -- some one is ready while any is left
      exfalso
      have hex : ∃ i, i < ops.size ∧ listed.getD i true = false := by
        refine Classical.byContradiction fun hn => ?_
        have hz : leftN ops.size listed = 0 := by
          unfold leftN
          rw [List.length_eq_zero_iff, List.filter_eq_nil_iff]
          intro i hi
          cases hb : listed.getD i true with
          | true => simp
          | false => exact absurd ⟨i, by simpa using hi, hb⟩ hn
        omega
      have hmin : ∀ n, (∃ i, i ≤ n ∧ i < ops.size ∧ listed.getD i true = false) → ∃ i, i < ops.size ∧ listed.getD i true = false ∧ ∀ j, j < i → listed.getD j true = true := by
        intro n
        induction n with
        | zero => rintro ⟨i, h1, h2, h3⟩; exact ⟨i, h2, h3, fun j hj => by omega⟩
        | succ n ihn =>
          rintro ⟨i, h1, h2, h3⟩
          by_cases hp : ∃ i, i ≤ n ∧ i < ops.size ∧ listed.getD i true = false
          · exact ihn hp
          · refine ⟨i, h2, h3, fun j hj => ?_⟩
            cases hb : listed.getD j true with
            | true => rfl
            | false => exact absurd ⟨j, by omega, by omega, hb⟩ hp
      obtain ⟨i0, hi0, hl0⟩ := hex
      obtain ⟨i, hi, hl, hm⟩ := hmin i0 ⟨i0, Nat.le_refl _, hi0, hl0⟩
      have : i ∈ Region.ready .any ops listed := Vm.mem_ready.2 ⟨hi, hl, fun o ho e he hb => by
        have hlt := (hc' i hi).1 o (by simpa using ho) e he hb
        rw [hgd _ (by omega)]
        exact hm _ hlt⟩
      rw [hr] at this
      simp at this
    · obtain ⟨hin, hl, hdeps⟩ := Vm.mem_ready.1 hi
      have hlf : listed.getD i false = false := by rw [hgd i hin]; exact hl
      have hoi : ops[i]? = some ops[i] := by simp [hin]
      have hoi' : ops.toList[i]? = some ops[i] := by simp [hin]
      have hei : es[i]? = some es[i] := by simp [show i < es.length by omega]
      -- what stands before i is done; what is done behind i does not meet it
      have hbef : ∀ p, ((befs ops.toList []).getD i 0).testBit p = true → listed.getD p false = true :=
        befs_closed (fun j => listed.getD j false = true) (fun j o ho hj e he hb => hclo j o ho hj e he hb) _ [] ops.toList [] rfl rfl rfl (fun _ _ h => absurd h (Nat.not_lt_zero _)) i ops[i] hoi' (fun e he hb => hdeps ops[i] hoi e he hb)
      have hbefS : ∀ j, j < ops.size → listed.getD j false = true → ∀ p, ((befs ops.toList []).getD j 0).testBit p = true → listed.getD p false = true := by
        intro j hj hlj
        have hoj' : ops.toList[j]? = some ops[j] := by simp [hj]
        exact befs_closed (fun j => listed.getD j false = true) (fun j o ho hj e he hb => hclo j o ho hj e he hb) _ [] ops.toList [] rfl rfl rfl (fun _ _ h => absurd h (Nat.not_lt_zero _)) j ops[j] hoj' (fun e he hb => hclo j ops[j] hoj' hlj e he hb)
      have hlow : ∀ j ej, j < i → es[j]? = some ej → conf ej.mask es[i].mask = true → listed.getD j false = true := fun j ej hji hej hcf => hbef j ((hc' i hin).2 j hji ej es[i] hej hei hcf)
      have hhigh : ∀ j ej, i < j → es[j]? = some ej → conf es[i].mask ej.mask = true → listed.getD j false = false := fun j ej hij hej hcf => by
        have hj : j < ops.size := by have := (List.getElem?_eq_some_iff.1 hej).1; omega
        cases hb : listed.getD j false with
        | false => rfl
        | true =>
          have := hbefS j hj hb i ((hc' j hj).2 i hij es[i] ej hei hej hcf)
          rw [hlf] at this
          simp at this
      have hat := h.at 0 i ops[i] es[i] hoi' hei
      rw [Nat.zero_add] at hat
      have hagS : ∀ s ∈ es[i].rdS, fT es (fun i => listed.getD i false) 0 t s = fT es (fun j => decide (j < i)) 0 t s := fun s hs =>
        fT_agree es _ _ 0 t t s rfl (fun j ej hej hws => by
          rw [Nat.zero_add]
          rcases Nat.lt_trichotomy j i with hji | hji | hji
          · rw [hlow j ej hji hej (conf_slot (s := s) (.inl ⟨hws, .inl hs⟩))]; simp [hji]
          · subst hji; rw [hlf]; simp
          · rw [hhigh j ej hji hej (conf_slot (s := s) (.inr ⟨hs, hws⟩))]; simp; omega)
      have hagM : ∀ b : Nat, b ∈ es[i].rdM → fM es (fun i => listed.getD i false) 0 m b = fM es (fun j => decide (j < i)) 0 m b := fun b hb =>
        fM_agree es _ _ 0 m m b rfl (fun j ej hej hws => by
          rw [Nat.zero_add]
          rcases Nat.lt_trichotomy j i with hji | hji | hji
          · rw [hlow j ej hji hej (conf_obj (s := b) (.inl ⟨hws, .inl hb⟩))]; simp [hji]
          · subst hji; rw [hlf]; simp
          · rw [hhigh j ej hji hej (conf_obj (s := b) (.inr ⟨hb, hws⟩))]; simp; omega)
      have hset : ∀ j, (listed.setIfInBounds i true).getD j false = if j = i then true else listed.getD j false := by
        intro j
        simp only [Array.getD_eq_getD_getElem?, Array.getElem?_setIfInBounds]
        by_cases h : i = j
        · subst h; simp [hs, hin]
        · have : j ≠ i := fun e => h e.symm
          simp [h, this]
      have hnewT : fT es (fun j => (listed.setIfInBounds i true).getD j false) 0 t = putT (fT es (fun i => listed.getD i false) 0 t) es[i].dst es[i].x := by
        funext s
        by_cases hws : wS es[i] s
        · rw [putT_eq hws]
          refine fT_last es _ 0 t s i es[i] hei hws (by rw [Nat.zero_add, hset]; simp) (fun j ej hej hij hwj => ?_)
          rw [Nat.zero_add, hset, if_neg (by omega)]
          exact hhigh j ej hij hej (conf_slot (s := s) (.inl ⟨hws, .inr hwj⟩))
        · rw [putT_ne hws]
          refine fT_agree es _ _ 0 t t s rfl (fun j ej hej hwj => ?_)
          rw [Nat.zero_add, hset]
          by_cases hji : j = i
          · subst hji
            rw [hei] at hej
            simp at hej
            subst hej
            exact absurd hwj hws
          · rw [if_neg hji]
      have hnewM : fM es (fun j => (listed.setIfInBounds i true).getD j false) 0 m = putM (fM es (fun i => listed.getD i false) 0 m) es[i].mo := by
        funext s
        by_cases hws : wM es[i] s
        · refine fM_last es _ 0 m _ s i es[i] hei hws (by rw [Nat.zero_add, hset]; simp) (fun j ej hej hij hwj => ?_)
          rw [Nat.zero_add, hset, if_neg (by omega)]
          exact hhigh j ej hij hej (conf_obj (s := s) (.inl ⟨hws, .inr hwj⟩))
        · rw [putM_ne hws]
          refine fM_agree es _ _ 0 m m s rfl (fun j ej hej hwj => ?_)
          rw [Nat.zero_add, hset]
          by_cases hji : j = i
          · subst hji
            rw [hei] at hej
            simp at hej
            subst hej
            exact absurd hwj hws
          · rw [if_neg hji]
      have hgo := hat E ρ _ _ a w hP hN hagS hagM hR (wpAny P .any ops Q fuel (listed.setIfInBounds i true)) Q (fun ρ' a' w' hR' => by
        refine ih _ ρ' a' w' (by simp [hs]) (by have := leftN_step hs hin hl; omega) ?_ (by rw [hnewT, hnewM]; exact hR')
        intro j o ho hlj e he hb
        rw [hset] at hlj ⊢
        by_cases hej : e.on = i
        · rw [if_pos hej]
        · rw [if_neg hej]
          by_cases hji : j = i
          · subst hji
            rw [hoi'] at ho
            simp at ho
            subst ho
            exact hdeps ops[j] hoi e he hb
          · rw [if_neg hji] at hlj
            exact hclo j o ho hlj e he hb)
      unfold wpOp
      rw [hoi]
      simp only
      split
      · rename_i hw; rw [if_pos hw] at hgo; exact .inl hgo
      · rename_i hw; rw [if_neg hw] at hgo; exact hgo

end Go.Cv
namespace Go.Cv
open Go Go.RowKit Go.Vm

/-! ### what a value or an object refers to -/
theorem PtrV.congr {ρ ρ' : Rho} {x : Value} {q : Nat × Nat} (h : ρ' q.1 = ρ q.1) (hx : PtrV ρ x q) : PtrV ρ' x q := by
  obtain ⟨b, off, c, h1, h2⟩ := hx
  exact ⟨b, off, c, h.trans h1, h2⟩
theorem caps_congr {ρ ρ' : Rho} {xs : List Value} {caps : List (Nat × Nat)} (h : ∀ o ∈ caps.map (·.1), ρ' o = ρ o) (hx : All2 (PtrV ρ) xs caps) : All2 (PtrV ρ') xs caps := by
  induction hx with
  | nil => exact .nil
  | cons h1 _ ih => exact .cons (h1.congr (h _ (by simp))) (ih (fun o ho => h o (by simp at ho ⊢; exact .inr ho)))
theorem CeOk.congr {ρ ρ' : Rho} {x : Value} {c : Ce} (h : ∀ o ∈ ceRefs c, ρ' o = ρ o) (hx : CeOk ρ x c) : CeOk ρ' x c := by
  cases c with
  | w y => exact hx
  | ptr o p => exact PtrV.congr (h o (by simp [ceRefs])) hx
  | slc o k p n full => obtain ⟨b, off, c, a, h1, r⟩ := hx; exact ⟨b, off, c, a, (h o (by simp [ceRefs])).trans h1, r⟩
  | map o => obtain ⟨b, off, c, h1, r⟩ := hx; exact ⟨b, off, c, (h o (by simp [ceRefs])).trans h1, r⟩
  | fn f caps => obtain ⟨xs, h1, r⟩ := hx; exact ⟨xs, h1, caps_congr h r⟩
theorem mem_csRefs {c : Ce} {o : Nat} : ∀ {cs : List Ce}, c ∈ cs → o ∈ ceRefs c → o ∈ csRefs cs
  | [], h, _ => by simp at h
  | x :: r, h, ho => by
    simp only [csRefs, List.mem_append]
    rcases List.mem_cons.1 h with rfl | h
    · exact .inl ho
    · exact .inr (mem_csRefs h ho)
theorem CsOk.congr {ρ ρ' : Rho} {xs : List Value} {cs : List Ce} (h : ∀ o ∈ csRefs cs, ρ' o = ρ o) (hx : CsOk ρ xs cs) : CsOk ρ' xs cs := by
  induction hx with
  | nil => exact .nil
  | cons h1 _ ih => exact .cons (h1.congr (fun o ho => h o (by simp [csRefs, ho]))) (ih (fun o ho => h o (by simp [csRefs, ho])))
theorem DvOk.congr {ρ ρ' : Rho} {x : Value} {v : Dv} (h : ∀ o ∈ dvRefs v, ρ' o = ρ o) (hx : DvOk ρ x v) : DvOk ρ' x v := by
  cases v with
  | one c => exact CeOk.congr h hx
  | agg cs => obtain ⟨xs, h1, r⟩ := hx; exact ⟨xs, h1, r.congr h⟩
theorem DsOk.congr {ρ ρ' : Rho} {xs : List Value} {vs : List Dv} (h : ∀ o ∈ dsRefs vs, ρ' o = ρ o) (hx : All2 (DvOk ρ) xs vs) : All2 (DvOk ρ') xs vs := by
  induction hx with
  | nil => exact .nil
  | cons h1 _ ih => exact .cons (h1.congr (fun o ho => h o (by simp [dsRefs, ho]))) (ih (fun o ho => h o (by simp [dsRefs, ho])))
theorem TvOk.congr {ρ ρ' : Rho} {x : Value} {v : Tv} (h : ∀ o ∈ tvRefs v, ρ' o = ρ o) (hx : TvOk ρ x v) : TvOk ρ' x v := by
  cases v with
  | un => trivial
  | d v => exact DvOk.congr h hx
  | tup vs => obtain ⟨xs, h1, r⟩ := hx; exact ⟨xs, h1, DsOk.congr h r⟩
theorem TsOk.congr {ρ ρ' : Rho} {xs : List Value} {vs : List Tv} (h : ∀ o ∈ tsRefs vs, ρ' o = ρ o) (hx : All2 (TvOk ρ) xs vs) : All2 (TvOk ρ') xs vs := by
  induction hx with
  | nil => exact .nil
  | cons h1 _ ih => exact .cons (h1.congr (fun o ho => h o (by simp [tsRefs, ho]))) (ih (fun o ho => h o (by simp [tsRefs, ho])))
theorem EsOk.congr {ρ ρ' : Rho} {xs : List MapEntry} {es : List (List Ce × Ce)} (h : ∀ o ∈ esRefs es, ρ' o = ρ o) (hx : All2 (EnOk ρ) xs es) : All2 (EnOk ρ') xs es := by
  induction hx with
  | nil => exact .nil
  | cons h1 _ ih =>
    obtain ⟨ks, e1, e2, e3⟩ := h1
    exact .cons ⟨ks, e1, e2.congr (fun o ho => h o (by simp [esRefs, ho])), e3.congr (fun o ho => h o (by simp [esRefs, ho]))⟩ (ih (fun o ho => h o (by simp [esRefs, ho])))
theorem ObOk.congr {ρ ρ' : Rho} {w : World} {o : Nat} {x : Ob} (ho : ρ' o = ρ o) (h : ∀ o' ∈ obRefs x, ρ' o' = ρ o') (hx : ObOk ρ w o x) : ObOk ρ' w o x := by
  cases x with
  | none => exact ho.trans hx
  | dead => trivial
  | arr e k n ex cs =>
    obtain ⟨b, c, arr, h1, h2, h3, h4, h5, h6, h7, h8⟩ := hx
    exact ⟨b, c, arr, ho.trans h1, h2, h3, h4, h5, h6, h7, fun j y hy => let ⟨v, q1, q2⟩ := h8 j y hy; ⟨v, q1, q2.congr (fun o' ho' => h o' (mem_csRefs (List.mem_of_getElem? hy) ho'))⟩⟩
  | ro cs =>
    obtain ⟨b, off, c, h1, hc, h8⟩ := hx
    exact ⟨b, off, c, ho.trans h1, hc, fun j y hy => let ⟨v, q1, q2⟩ := h8 j y hy; ⟨v, q1, q2.congr (fun o' ho' => h o' (mem_csRefs (List.mem_of_getElem? hy) ho'))⟩⟩
  | map es =>
    obtain ⟨b, off, c, ens, clock, h1, h2, h3⟩ := hx
    exact ⟨b, off, c, ens, clock, ho.trans h1, h2, EsOk.congr h h3⟩

/-! ### contracts -/
structure MemRel (E : Env) (ρ : Rho) (m : Nat → Ob) (w : World) : Prop where
  bx : Bx E.w0.heap.size E.X E.w0 w
  own : ∀ o b off c, (m o).live = true → ρ o = some (b, off, c) → (E.X b ∨ E.w0.heap.size ≤ b) ∧ b < w.heap.size
  ros : ∀ o b off c, (m o).there = true → ρ o = some (b, off, c) → (E.X b ∨ E.S b ∨ E.w0.heap.size ≤ b) ∧ b < w.heap.size
  inj : ∀ o o' b off c off' c', (m o).live = true → (m o').there = true → ρ o = some (b, off, c) → ρ o' = some (b, off', c') → o = o'
  ext : ∀ o q, E.ρ0 o = some q → ρ o = some q
  ob : ∀ o, ObOk ρ w o (m o)
def Exact (P : Program) (f : FuncId) (args : List Tv) (m : Nat → Ob) (r : Tv) (m' : Nat → Ob) : Prop :=
  Enters P f ∧ ∀ (E : Env) (ρ : Rho) (w : World) (vs : List Value), E.P = P → E.w0 = w → E.ρ0 = ρ → MemRel E ρ m w → All2 (TvOk ρ) vs args →
    Calls P f vs.toArray w fun e w' => ∃ v ρ', e = .returned v ∧ TvOk ρ' v r ∧ MemRel E ρ' m' w'

def onL (L : List Nat) (m : Nat → Ob) (o : Nat) : Ob := if o ∈ L then m o else .none
open Classical in
theorem mem_call {E : Env} {ρ : Rho} {t : Nat → Tv} {m : Nat → Ob} {a : Act} {w : World} (hR : Rel E ρ t m a w) {L A : List Nat} {args : List Tv} {r : Tv} {M' : Nat → Ob} {f : FuncId} (hP : E.P = E.P)
    (l1 : ∀ o ∈ tsRefs args, o ∈ L) (l2 : ∀ o ∈ L, ∀ o' ∈ obRefs (m o), o' ∈ L) (hx : Exact E.P f args (onL L m) r M')
    (a1 : ∀ o ∈ tvRefs r, o ∈ A) (a2 : ∀ o ∈ L, o ∈ A) (a3 : ∀ o ∈ A, ∀ o' ∈ obRefs (M' o), o' ∈ A) (a5 : ∀ o ∈ A, o ∉ L → m o = .none) {vs : List Value} (hvs : All2 (TvOk ρ) vs args) :
    Calls E.P f vs.toArray w fun e w' => ∃ v ρ'', e = .returned v ∧ TvOk ρ'' v r ∧ Rel E ρ'' t (fun o => if o ∈ A then M' o else m o) a w' := by
  let ρL : Rho := fun o => if o ∈ L then ρ o else none
  have hLe : ∀ o ∈ L, ρL o = ρ o := fun o ho => by show (if o ∈ L then ρ o else none) = ρ o; rw [if_pos ho]
  have hLn : ∀ o, o ∉ L → ρL o = none := fun o ho => by show (if o ∈ L then ρ o else none) = none; rw [if_neg ho]
  let X' : Nat → Prop := fun b => ∃ o ∈ L, (m o).live = true ∧ ∃ off c, ρ o = some (b, off, c)
  let S' : Nat → Prop := fun b => ∃ o ∈ L, (m o).there = true ∧ ∃ off c, ρ o = some (b, off, c)
  have hX' : ∀ b, X' b → b < w.heap.size := fun b ⟨o, _, h1, off, c, h2⟩ => (hR.own o b off c h1 h2).2
  have hS' : ∀ b, S' b → b < w.heap.size := fun b ⟨o, _, h1, off, c, h2⟩ => (hR.ros o b off c h1 h2).2
  let E' : Env := ⟨E.P, 0, w, X', S', hX', hS', ρL⟩
  have hon : ∀ o ∈ L, onL L m o = m o := fun o ho => by simp only [onL, if_pos ho]
  have hoff : ∀ o, o ∉ L → onL L m o = .none := fun o ho => by simp only [onL, if_neg ho]
  have inL : ∀ {o}, (onL L m o).there = true → o ∈ L := fun {o} h => by
    by_cases ho : o ∈ L
    · exact ho
    · rw [hoff o ho] at h; cases h
  have hM : MemRel E' ρL (onL L m) w := by
    refine ⟨Bx.refl _ _ _, fun o b off c h1 h2 => ?_, fun o b off c h1 h2 => ?_, fun o o' b off c off' c' h1 h2 q1 q2 => ?_, fun o q h => h, fun o => ?_⟩
    · have ho := inL (live_there h1)
      rw [hon o ho] at h1; rw [hLe o ho] at h2
      exact ⟨.inl ⟨o, ho, h1, off, c, h2⟩, (hR.own o b off c h1 h2).2⟩
    · have ho := inL h1
      rw [hon o ho] at h1; rw [hLe o ho] at h2
      exact ⟨.inr (.inl ⟨o, ho, h1, off, c, h2⟩), (hR.ros o b off c h1 h2).2⟩
    · have ho := inL (live_there h1)
      have ho' := inL h2
      rw [hon o ho] at h1; rw [hLe o ho] at q1
      rw [hon o' ho'] at h2; rw [hLe o' ho'] at q2
      exact hR.inj _ _ _ _ _ _ _ h1 h2 q1 q2
    · by_cases ho : o ∈ L
      · rw [hon o ho]
        exact (hR.ob o).congr (hLe o ho) (fun o' ho' => hLe o' (l2 o ho o' ho'))
      · rw [hoff o ho]; exact hLn o ho
  have hv := TsOk.congr (ρ' := ρL) (fun o ho => hLe o (l1 o ho)) hvs
  refine (hx.2 E' ρL w vs rfl rfl rfl hM hv).mono fun e w' ⟨v, ρ', he, hv', hM'⟩ => ?_
  let ρ2 : Rho := fun o => if o ∈ A then ρ' o else ρ o
  have h2A : ∀ o ∈ A, ρ2 o = ρ' o := fun o ho => by show (if o ∈ A then ρ' o else ρ o) = ρ' o; rw [if_pos ho]
  have h2n : ∀ o, o ∉ A → ρ2 o = ρ o := fun o ho => by show (if o ∈ A then ρ' o else ρ o) = ρ o; rw [if_neg ho]
  have hsub : Sub ρ ρ2 := by
    intro o q hq
    by_cases ho : o ∈ A
    · rw [h2A o ho]
      by_cases hl : o ∈ L
      · exact hM'.ext o q ((hLe o hl).trans hq)
      · have hn := hR.ob o
        rw [a5 o ho hl] at hn
        have hn : ρ o = none := hn
        rw [hn] at hq; cases hq
    · rw [h2n o ho]; exact hq
  have hX : ∀ b, E'.X b → (E.X b ∨ E.w0.heap.size ≤ b) := fun b ⟨o, _, h1, off, c, h2⟩ => (hR.own o b off c h1 h2).1
  have hS : ∀ b, E'.S b → (E.X b ∨ E.S b ∨ E.w0.heap.size ≤ b) := fun b ⟨o, _, h1, off, c, h2⟩ => (hR.ros o b off c h1 h2).1
  have hw0 := hR.bx.size
  have hw1 := hM'.bx.size
  have notX : ∀ o b off c, o ∉ A → (m o).there = true → ρ o = some (b, off, c) → ¬ E'.X b := by
    rintro o b off c ho h1 h2 ⟨o', hl, q1, off', c', q2⟩
    exact ho (a2 _ (hR.inj _ _ _ _ _ _ _ q1 h1 q2 h2 ▸ hl))
  refine ⟨v, ρ2, he, hv'.congr (fun o ho => h2A o (a1 o ho)), ?_, ?_, ?_, ?_, ?_, ?_, hR.defers, hR.size, fun i => (hR.slots i).sub hsub⟩
  · exact hR.bx.trans (hM'.bx.mono hw0 (fun b hb hxb => by
      rcases hX b hxb with h | h
      · exact h
      · omega))
  · intro o b off c h1 h2
    by_cases ho : o ∈ A
    · simp only [if_pos ho] at h1
      rw [h2A o ho] at h2
      obtain ⟨q1, q2⟩ := hM'.own o b off c h1 h2
      refine ⟨?_, q2⟩
      rcases q1 with q1 | q1
      · exact hX b q1
      · exact .inr (Nat.le_trans hw0 q1)
    · simp only [if_neg ho] at h1
      rw [h2n o ho] at h2
      obtain ⟨q1, q2⟩ := hR.own o b off c h1 h2
      exact ⟨q1, Nat.lt_of_lt_of_le q2 hw1⟩
  · intro o b off c h1 h2
    by_cases ho : o ∈ A
    · simp only [if_pos ho] at h1
      rw [h2A o ho] at h2
      obtain ⟨q1, q2⟩ := hM'.ros o b off c h1 h2
      refine ⟨?_, q2⟩
      rcases q1 with q1 | q1 | q1
      · exact (hX b q1).imp id .inr
      · exact hS b q1
      · exact .inr (.inr (Nat.le_trans hw0 q1))
    · simp only [if_neg ho] at h1
      rw [h2n o ho] at h2
      obtain ⟨q1, q2⟩ := hR.ros o b off c h1 h2
      exact ⟨q1, Nat.lt_of_lt_of_le q2 hw1⟩
  · intro o1 o2 b off1 c1 off2 c2 h1 h2 q1 q2
    by_cases e1 : o1 ∈ A
    · simp only [if_pos e1] at h1
      rw [h2A o1 e1] at q1
      by_cases e2 : o2 ∈ A
      · simp only [if_pos e2] at h2
        rw [h2A o2 e2] at q2
        exact hM'.inj _ _ _ _ _ _ _ h1 h2 q1 q2
      · simp only [if_neg e2] at h2
        rw [h2n o2 e2] at q2
        exfalso
        have hb := (hR.ros o2 b off2 c2 h2 q2).2
        rcases (hM'.own o1 b off1 c1 h1 q1).1 with q | q
        · exact notX o2 b off2 c2 e2 h2 q2 q
        · exact absurd hb (Nat.not_lt.2 q)
    · simp only [if_neg e1] at h1
      rw [h2n o1 e1] at q1
      by_cases e2 : o2 ∈ A
      · simp only [if_pos e2] at h2
        rw [h2A o2 e2] at q2
        exfalso
        have hb := (hR.own o1 b off1 c1 h1 q1).2
        rcases (hM'.ros o2 b off2 c2 h2 q2).1 with q | q | q
        · exact notX o1 b off1 c1 e1 (live_there h1) q1 q
        · obtain ⟨o', hl, p1, off', c', p2⟩ := q
          exact e1 (a2 _ ((hR.inj _ _ _ _ _ _ _ h1 p1 q1 p2) ▸ hl))
        · exact absurd hb (Nat.not_lt.2 q)
      · simp only [if_neg e2] at h2
        rw [h2n o2 e2] at q2
        exact hR.inj _ _ _ _ _ _ _ h1 h2 q1 q2
  · exact fun o q hq => hsub o q (hR.ext o q hq)
  · intro o
    by_cases ho : o ∈ A
    · simp only [if_pos ho]
      exact (hM'.ob o).congr (h2A o ho) (fun o' ho' => h2A o' (a3 o ho o' ho'))
    · simp only [if_neg ho]
      refine (hR.ob o).carry hsub (fun hq => ?_) (fun b off c h1 h2 => ?_)
      · rw [h2n o ho]
        have := hR.ob o
        rw [hq] at this
        exact this
      · exact hM'.bx.block b (hR.ros o b off c h1 h2).2 (notX o b off c ho h1 h2)
end Go.Cv
namespace Go.Cv
open Go Go.RowKit Go.Vm

theorem memB_iff {o : Nat} : ∀ {L : List Nat}, memB o L = true ↔ o ∈ L
  | [] => by simp [memB]
  | k :: r => by
    simp only [memB, Bool.or_eq_true, List.mem_cons, memB_iff (L := r)]
    constructor
    · rintro (h | h)
      · exact .inl (Nat.eq_of_beq_eq_true h).symm
      · exact .inr h
    · rintro (h | h)
      · subst h; exact .inl (Nat.beq_refl _)
      · exact .inr h
theorem subB_ok : ∀ {l L : List Nat}, subB l L = true → ∀ o ∈ l, o ∈ L
  | [], _, _, o, h => by simp at h
  | x :: r, L, h, o, ho => by
    simp only [subB, Bool.and_eq_true] at h
    rcases List.mem_cons.1 ho with rfl | ho
    · exact memB_iff.1 h.1
    · exact subB_ok h.2 o ho
theorem closedB_ok {M : Ml} {L : List Nat} : ∀ {l : List Nat}, closedB M L l = true → ∀ o ∈ l, ∀ o' ∈ obRefs (mg M o), o' ∈ L
  | [], _, o, h => by simp at h
  | x :: r, h, o, ho => by
    simp only [closedB, Bool.and_eq_true] at h
    rcases List.mem_cons.1 ho with rfl | ho
    · exact subB_ok h.1
    · exact closedB_ok h.2 o ho
theorem noneB_ok {M : Ml} {L : List Nat} : ∀ {l : List Nat}, noneB M L l = true → ∀ o ∈ l, o ∉ L → mg M o = .none
  | [], _, o, h => by simp at h
  | x :: r, h, o, ho => by
    simp only [noneB, Bool.and_eq_true, Bool.or_eq_true] at h
    rcases List.mem_cons.1 ho with rfl | ho
    · intro hl
      rcases h.1 with h1 | h1
      · exact absurd (memB_iff.1 h1) hl
      · exact isNone_ok h1
    · exact noneB_ok h.2 o ho
theorem mg_pick (M : Ml) : ∀ (L : List Nat), mg (pickM M L) = onL L (mg M)
  | [] => by funext o; simp [pickM, mg, onL]
  | x :: r => by
    funext o
    simp only [pickM, mg, mg_pick M r]
    by_cases h : x = o
    · subst h; simp [onL]
    · have hb : Nat.beq x o = false := by
        cases hb : Nat.beq x o with
        | false => rfl
        | true => exact absurd (Nat.eq_of_beq_eq_true hb) h
      rw [hb, cond_false]
      simp only [onL, List.mem_cons]
      by_cases h2 : o ∈ r
      · simp [h2]
      · have : o ≠ x := fun e => h e.symm
        simp [h2, this]
theorem mg_set (x : Ob) (o : Nat) : ∀ (M : Ml), mg (mset x o M) = updN (mg M) o x
  | [] => by
    funext i
    simp only [mset, mg, updN]
    by_cases h : o = i
    · subst h; simp
    · have h1 : Nat.beq o i = false := by
        cases hb : Nat.beq o i with
        | false => rfl
        | true => exact absurd (Nat.eq_of_beq_eq_true hb) h
      have h2 : Nat.beq i o = false := by
        cases hb : Nat.beq i o with
        | false => rfl
        | true => exact absurd (Nat.eq_of_beq_eq_true hb).symm h
      simp [h1, h2]
  | (k, y) :: r => by
    funext i
    simp only [mset]
    cases hk : Nat.beq k o with
    | true =>
      have hk := Nat.eq_of_beq_eq_true hk
      subst hk
      simp only [cond_true, mg, updN]
      cases hi : Nat.beq i k with
      | true => rw [Nat.eq_of_beq_eq_true hi]; simp
      | false =>
        have h2 : Nat.beq k i = false := by
          cases hb : Nat.beq k i with
          | false => rfl
          | true => rw [Nat.eq_of_beq_eq_true hb] at hi; simp at hi
        simp [h2]
    | false =>
      simp only [cond_false, mg, mg_set x o r, updN]
      cases hi : Nat.beq i o with
      | true =>
        rw [Nat.eq_of_beq_eq_true hi, hk]; simp
      | false => cases Nat.beq k i <;> simp
theorem mg_sets : ∀ (mo : Ml) (M : Ml), mg (msets M mo) = putM (mg M) mo
  | [], _ => rfl
  | (o, x) :: r, M => by
    simp only [msets, putM, mg_sets r, mg_set]
open Classical in
theorem putM_pick (M : Ml) : ∀ (A : List Nat) (m : Nat → Ob), putM m (pickM M A) = fun o => if o ∈ A then mg M o else m o
  | [], m => by funext o; simp [pickM, putM]
  | x :: r, m => by
    funext o
    simp only [pickM, putM, putM_pick M r]
    by_cases h : o ∈ r
    · simp [h]
    · by_cases h2 : o = x
      · subst h2; simp [h, updN_same]
      · simp [h, h2, updN_ne]

/-! ### sameness -/
theorem beqB_eq {a b : Bool} (h : beqB a b = true) : a = b := by cases a <;> cases b <;> simp [beqB] at h ⊢
theorem wSame_ok {x y : Value} (h : wSame x y = true) : x = y := by
  unfold wSame at h
  split at h
  · simp only [Bool.and_eq_true, beq_iff_eq] at h
    rw [kNum_inj h.1, h.2]
  · rw [beqB_eq h]
  · rfl
  · cases h
theorem capsSame_ok : ∀ {l r : List (Nat × Nat)}, capsSame l r = true → l = r
  | [], [], _ => rfl
  | [], _ :: _, h => by simp [capsSame] at h
  | _ :: _, [], h => by simp [capsSame] at h
  | (a, b) :: l, (c, d) :: r, h => by
    simp only [capsSame, Bool.and_eq_true] at h
    rw [Nat.eq_of_beq_eq_true h.1.1, Nat.eq_of_beq_eq_true h.1.2, capsSame_ok h.2]
theorem ceSame_ok {c d : Ce} (h : ceSame c d = true) : c = d := by
  unfold ceSame at h
  split at h
  · rw [wSame_ok h]
  · simp only [Bool.and_eq_true] at h
    rw [Nat.eq_of_beq_eq_true h.1, Nat.eq_of_beq_eq_true h.2]
  · simp only [Bool.and_eq_true] at h
    obtain ⟨⟨⟨⟨h1, h2⟩, h3⟩, h4⟩, h5⟩ := h
    rw [Nat.eq_of_beq_eq_true h1, Nat.eq_of_beq_eq_true h2, Nat.eq_of_beq_eq_true h3, Nat.eq_of_beq_eq_true h4, beqB_eq h5]
  · rw [Nat.eq_of_beq_eq_true h]
  · simp only [Bool.and_eq_true] at h
    rw [Nat.eq_of_beq_eq_true h.1, capsSame_ok h.2]
  · cases h
theorem csSame_ok : ∀ {l r : List Ce}, csSame l r = true → l = r
  | [], [], _ => rfl
  | [], _ :: _, h => by simp [csSame] at h
  | _ :: _, [], h => by simp [csSame] at h
  | _ :: _, _ :: _, h => by
    simp only [csSame, Bool.and_eq_true] at h
    rw [ceSame_ok h.1, csSame_ok h.2]
theorem esSame_ok : ∀ {l r : List (List Ce × Ce)}, esSame l r = true → l = r
  | [], [], _ => rfl
  | [], _ :: _, h => by simp [esSame] at h
  | _ :: _, [], h => by simp [esSame] at h
  | (a, b) :: _, (c, d) :: _, h => by
    simp only [esSame, Bool.and_eq_true] at h
    rw [csSame_ok h.1.1, ceSame_ok h.1.2, esSame_ok h.2]
theorem obSame_ok {x y : Ob} (h : obSame x y = true) : x = y := by
  unfold obSame at h
  split at h
  · rfl
  · rfl
  · simp only [Bool.and_eq_true] at h
    obtain ⟨⟨⟨⟨h1, h2⟩, h3⟩, h4⟩, h5⟩ := h
    rw [Nat.eq_of_beq_eq_true h1, Nat.eq_of_beq_eq_true h2, Nat.eq_of_beq_eq_true h3, beqB_eq h4, csSame_ok h5]
  · rw [csSame_ok h]
  · rw [esSame_ok h]
  · cases h
open Classical in
theorem putM_changed {M M' : Ml} : ∀ (A : List Nat) (m : Nat → Ob), (∀ o ∈ A, m o = mg M o ∨ m o = mg M' o) → putM m (changed M (pickM M' A)) = fun o => if o ∈ A then mg M' o else m o
  | [], m, _ => by funext o; simp [pickM, changed, putM]
  | x :: r, m, h => by
    simp only [pickM, changed]
    cases hs : obSame (mg M x) (mg M' x) with
    | true =>
      have hx := obSame_ok hs
      rw [cond_true, putM_changed r m (fun o ho => h o (by simp [ho]))]
      funext o
      by_cases h1 : o ∈ r
      · simp [h1]
      · by_cases h2 : o = x
        · subst h2
          have := h o (by simp)
          rw [hx, or_self] at this
          simp [h1, this]
        · simp [h1, h2]
    | false =>
      rw [cond_false]
      simp only [putM]
      rw [putM_changed r _ (fun o ho => by
        by_cases h2 : o = x
        · subst h2; rw [updN_same]; exact .inr rfl
        · rw [updN_ne _ _ h2]; exact h o (by simp [ho]))]
      funext o
      by_cases h1 : o ∈ r
      · simp [h1]
      · by_cases h2 : o = x
        · subst h2; simp [h1, updN_same]
        · simp [h1, h2, updN_ne]

/-! ### slots -/
theorem beqD (a b : Nat) : Nat.beq a b = decide (a = b) := by
  cases h : Nat.beq a b with
  | true => rw [Nat.eq_of_beq_eq_true h]; simp
  | false =>
    have : a ≠ b := by rintro rfl; simp at h
    simp [this]
theorem get_nil (i : Nat) : Tr.nil.get i = .tup [] := rfl
theorem get_nd (x : Tv) (l r : Tr) (i : Nat) : (Tr.nd x l r).get i = bif Nat.beq i 0 then x else bif Nat.beq (i % 2) 1 then l.get (i / 2) else r.get (i / 2 - 1) := rfl
theorem set_nd (f : Nat) (x : Tv) (l r : Tr) (k : Nat) (v : Tv) : Tr.set (f + 1) (.nd x l r) k v = bif Nat.beq k 0 then .nd v l r else bif Nat.beq (k % 2) 1 then .nd x (Tr.set f l (k / 2) v) r else .nd x l (Tr.set f r (k / 2 - 1) v) := rfl
theorem set_nil (f k : Nat) (v : Tv) : Tr.set (f + 1) .nil k v = Tr.set (f + 1) (.nd (.tup []) .nil .nil) k v := rfl
theorem get_nil_nd (i : Nat) : (Tr.nd (.tup []) .nil .nil).get i = Tr.nil.get i := by
  rw [get_nd]
  simp only [get_nil]
  cases Nat.beq i 0 <;> cases Nat.beq (i % 2) 1 <;> rfl
theorem tr_set_get : ∀ (f : Nat) (t : Tr) (k : Nat) (v : Tv), k + 1 < 2 ^ f → ∀ i, (Tr.set f t k v).get i = updN t.get k v i
  | 0, t, k, v, h, i => by simp at h
  | f + 1, t, k, v, h, i => by
    have hp : 2 ^ (f + 1) = 2 * 2 ^ f := by rw [Nat.pow_succ]; omega
    have key : ∀ (x : Tv) (l r : Tr), (Tr.set (f + 1) (.nd x l r) k v).get i = updN (Tr.nd x l r).get k v i := by
      intro x l r
      rw [set_nd]
      simp only [updN, beqD]
      by_cases k0 : k = 0
      · subst k0
        simp only [decide_true, cond_true, get_nd, beqD]
        by_cases i0 : i = 0
        · simp [i0]
        · simp [i0]
      · by_cases ko : k % 2 = 1
        · simp only [k0, ko, decide_false, decide_true, cond_true, cond_false, get_nd, beqD]
          by_cases i0 : i = 0
          · subst i0
            have : ¬ (0 = k) := fun e => k0 e.symm
            simp [this]
          · by_cases io : i % 2 = 1
            · have hg := tr_set_get f l (k / 2) v (by omega) (i / 2)
              simp only [i0, io, decide_false, decide_true, cond_true, cond_false]
              rw [hg]
              simp only [updN, beqD]
              by_cases e : i = k
              · simp [e]
              · have : ¬ (i / 2 = k / 2) := by omega
                simp [e, this]
            · have : ¬ (i = k) := by omega
              simp [i0, io, this]
        · simp only [k0, ko, decide_false, cond_false, get_nd, beqD]
          by_cases i0 : i = 0
          · subst i0
            have : ¬ (0 = k) := fun e => k0 e.symm
            simp [this]
          · by_cases io : i % 2 = 1
            · have : ¬ (i = k) := by omega
              simp [i0, io, this]
            · have hg := tr_set_get f r (k / 2 - 1) v (by omega) (i / 2 - 1)
              simp only [i0, io, decide_false, cond_false]
              rw [hg]
              simp only [updN, beqD]
              by_cases e : i = k
              · simp [e]
              · have : ¬ (i / 2 - 1 = k / 2 - 1) := by omega
                simp [e, this]
    cases t with
    | nd x l r => exact key x l r
    | nil =>
      rw [set_nil, key]
      simp only [updN, get_nil_nd]
theorem putS_get {t : Tr} {d : Option Nat} {x : Tv} (h : ∀ k, d = some k → k < 4000) : (putS t d x).get = putT t.get d x := by
  cases d with
  | none => rfl
  | some k =>
    funext i
    exact tr_set_get 12 t k x (by have := h k rfl; omega) i

/-! ### calls -/
def EvOk (P : Program) (ev : CallF) : Prop := ∀ f args M nx r M' nx', ev f args M nx = .ok (r, M', nx') → Exact P f args (mg M) r (mg M')
theorem bif_ok {b : Bool} {α : Type} {x : Rs α} {l : List Nat} {y : α} (h : (bif b then x else .err l) = .ok y) : b = true ∧ x = .ok y := by
  cases b with
  | true => exact ⟨rfl, h⟩
  | false => cases h
theorem all2_args {ρ : Rho} {t : Nat → Tv} {ev : Operand → Value} {xs : List Value} {caps : List (Nat × Nat)} (hc : All2 (PtrV ρ) xs caps) : ∀ (l : List Operand), (∀ y ∈ l, TvOk ρ (ev y) (opd t y)) → All2 (TvOk ρ) (l.map ev ++ xs) (appT (opdsT t l) (capsT caps))
  | [], _ => by
    simp only [List.map_nil, List.nil_append, opdsT, appT]
    induction hc with
    | nil => exact .nil
    | cons h1 _ ih => exact .cons h1 ih
  | y :: r, h => .cons (h y (by simp)) (all2_args hc r (fun z hz => h z (by simp [hz])))
theorem stepE_ok {C : Cfg} {ev : CallF} (hev : EvOk C.P ev) {draw : Bool} {o : Oper} {s : St} {x : Tv} {mo : Ml} {rd : List Nat} {nx : Nat} (h : stepE C ev draw o s = .ok (x, mo, rd, nx)) : StepOk C.P o s.t.get (mg s.M) x mo rd := by
  unfold stepE at h
  split at h
  · rename_i f args tys ho
    split at h
    · rename_i g caps hf
      unfold callE at h
      replace h := bif_ok h
      obtain ⟨hL, h⟩ := h
      generalize hLd : reach s.M fuelR (tsRefs (appT (opdsT s.t.get args.toList) (capsT caps))) [] = L at h hL
      simp only [Bool.and_eq_true] at hL
      split at h
      · rename_i r M' nx' hc
        replace h := bif_ok h
        obtain ⟨hA, h⟩ := h
        generalize hAd : reach M' fuelR (tvRefs r ++ L) [] = A at h hA
        simp only [Bool.and_eq_true] at hA
        obtain ⟨⟨⟨a1, a2⟩, a3⟩, a5⟩ := hA
        have hx := hev _ _ _ _ _ _ _ hc
        rw [mg_pick] at hx
        cases h
        intro E ρ t' m' a w hP ha hm hd hR K Q hK
        have hfm : f ∈ o.op.operands.toList := by rw [ho]; simp [Op.operands, Call.operands]
        have hargm : ∀ y ∈ args.toList, y ∈ o.op.operands.toList := fun y hy => by rw [ho]; simp [Op.operands, Call.operands]; right; simpa using hy
        have e1 := opd_ok hR f
        rw [opd_agree ha hfm, hf] at e1
        obtain ⟨xs, e1, e2⟩ := e1
        have hsA := subB_ok a2
        have hon : onL L m' = onL L (mg s.M) := by
          funext i
          simp only [onL]
          split
          · rename_i hi; exact hm i (hsA i hi)
          · rfl
        have hvs := all2_args (t := s.t.get) (ev := a.eval) e2 args.toList (fun y hy => by rw [← opd_agree ha (hargm y hy)]; exact opd_ok hR y)
        have hcall := mem_call (A := rd) hR rfl (subB_ok hL.1) (fun i hi o' ho' => by rw [hm i (hsA i hi)] at ho'; exact closedB_ok hL.2 i hi o' ho') (by rw [hon, hP]; exact hx) (subB_ok a1) hsA (closedB_ok a3) (fun i hi hl => by rw [hm i hi]; exact noneB_ok a5 i hi hl) hvs
        rw [hP] at hcall
        unfold Oper.wp
        rw [exec_func ho rfl a w xs e1, callFunc_enters hx.1, Oper.upon_enter]
        refine hcall.mono fun e w' ⟨v, ρ', he, hv, hR'⟩ => ?_
        subst he
        refine hK ρ' _ w' (Rel.put ?_ hd hv)
        have hfin : putM m' (bif draw then changed s.M (pickM M' rd) else pickM M' rd) = fun o => if o ∈ rd then mg M' o else m' o := by
          cases draw with
          | true => rw [cond_true, putM_changed rd m' (fun i hi => .inl (hm i hi))]
          | false => rw [cond_false, putM_pick]
        rw [hfin]
        exact hR'
      · cases h
    · cases h
  · split at h
    · rename_i hop
      cases h
      exact opE_ok hop
    · cases h
end Go.Cv
namespace Go.Cv
open Go Go.RowKit Go.Vm

theorem wantE_ok {ops : Array Oper} {o : Oper} {s : St} {b : Bool} {gs : List Nat} (h : wantE ops o s = some (b, gs)) {E : Env} {ρ : Rho} {t' : Nat → Tv} {m' : Nat → Ob} {a : Act} {w : World} (hg : ∀ k ∈ gs, t' k = s.t.get k) (hR : Rel E ρ t' m' a w) : Region.wanted o (yielded ops a.tmps) = b := by
  unfold wantE at h
  split at h
  · rename_i hgd
    cases h
    simp [Region.wanted, hgd]
  · rename_i j want hgd
    split at h
    · rename_i g hj
      split at h
      · rename_i q hq
        cases h
        have hs := hR.slots g
        rw [hg g (by simp), hq] at hs
        have hv := w_inv hs
        simp [Region.wanted, hgd, (yielded_eq hj).1 q hv]
        cases q <;> cases want <;> rfl
      · rename_i hq
        cases h
        have hs := hR.slots g
        rw [hg g (by simp), hq] at hs
        obtain ⟨xs, hv, hx⟩ := hs
        cases hx
        simp [Region.wanted, hgd, (yielded_eq hj).2 hv]
      · cases h
    · cases h
theorem oneE_ok {C : Cfg} {ev : CallF} (hev : EvOk C.P ev) {N : Nat} (hN : N ≤ 4000) {ops : Array Oper} {draw : Bool} {o : Oper} {s s' : St} {tr tr' : Vm.Trace} (h : oneE C ev N ops draw o s tr = .ok (s', tr')) :
    ∃ e : Ent, EntOk C.P N ops o e s.t.get (mg s.M) ∧ e.dst = o.dst ∧ s'.t.get = putT s.t.get e.dst e.x ∧ mg s'.M = putM (mg s.M) e.mo ∧ tr' = bif draw then e.mask :: tr else tr := by
  unfold oneE at h
  replace h := bif_ok h
  obtain ⟨hd, h⟩ := h
  have hdst : ∀ k, o.dst = some k → k < N := by
    intro k hk
    rw [hk] at hd
    exact lt_of_blt hd
  split at h
  · rename_i gs hw
    split at h
    · rename_i x mo rd nx hs
      have hstep := stepE_ok hev hs
      refine ⟨⟨o.dst, x, mo, gs ++ tmpsOf o.op.operands.toList, rd⟩, ?_, rfl, ?_, ?_, ?_⟩
      · intro E ρ t' m' a w hP hEN hS hM hR K Q hK
        rw [if_pos (wantE_ok hw (fun k hk => hS k (by simp [hk])) hR)]
        exact hstep E ρ t' m' a w hP (fun k hk => hS k (by simp [mem_tmpsOf hk])) hM (fun k hk => by rw [hEN]; exact hdst k hk) hR K Q hK
      · cases h; exact putS_get (fun k hk => Nat.lt_of_lt_of_le (hdst k hk) hN)
      · cases h; exact mg_sets _ _
      · cases h; cases draw <;> rfl
    · cases h
  · rename_i gs hw
    cases h
    refine ⟨⟨o.dst, .tup [], [], gs, []⟩, ?_, rfl, ?_, rfl, ?_⟩
    · intro E ρ t' m' a w hP hEN hS hM hR K Q hK
      have hwn := wantE_ok hw (fun k hk => hS k hk) hR
      rw [if_neg (by rw [hwn]; simp)]
      exact hK ρ _ w (hR.put (fun k hk => by rw [hEN]; exact hdst k hk) ⟨[], rfl, .nil⟩)
    · exact putS_get (fun k hk => Nat.lt_of_lt_of_le (hdst k hk) hN)
    · cases draw
      · rfl
      · simp [Ent.mask, maskM]
  · cases h
theorem opsE_ok {C : Cfg} {ev : CallF} (hev : EvOk C.P ev) {N : Nat} (hN : N ≤ 4000) {ops : Array Oper} {draw : Bool} : ∀ (os : List Oper) (s s' : St) (tr tr' : Vm.Trace), opsE C ev N ops draw os s tr = .ok (s', tr') →
    ∃ es, Ents C.P N ops os es s.t.get (mg s.M) s'.t.get (mg s'.M) ∧ tr' = bif draw then (es.map Ent.mask).reverse ++ tr else tr
  | [], s, s', tr, tr', h => by
    cases h
    exact ⟨[], .nil _ _, by cases draw <;> rfl⟩
  | o :: r, s, s', tr, tr', h => by
    have h : (match oneE C ev N ops draw o s tr with
      | .ok (s, tr) => opsE C ev N ops draw r s tr
      | .err l => .err l) = .ok (s', tr') := h
    cases hq : oneE C ev N ops draw o s tr with
    | err l => rw [hq] at h; cases h
    | ok p =>
      obtain ⟨s1, tr1⟩ := p
      rw [hq] at h
      obtain ⟨e, h1, h2, h3, h4, h5⟩ := oneE_ok hev hN hq
      obtain ⟨es, k1, k2⟩ := opsE_ok hev hN r s1 s' tr1 tr' h
      rw [h3, h4] at k1
      refine ⟨e :: es, .cons h1 k1, ?_⟩
      rw [k2, h5]
      cases draw <;> simp
end Go.Cv
namespace Go.Cv
open Go Go.RowKit Go.Vm

theorem Rel.drew {E : Env} {ρ : Rho} {t : Nat → Tv} {m : Nat → Ob} {a : Act} {w : World} (h : Rel E ρ t m a w) : Rel E ρ t m a { w with drawn := w.drawn + 1 } :=
  ⟨⟨h.bx.os, h.bx.tape, h.bx.output, h.bx.size, h.bx.block⟩, h.own, h.ros, h.inj, h.ext, fun o => (h.ob o).carry (Sub.refl _) (fun hq => by have := h.ob o; rw [hq] at this; exact this) (fun _ _ _ _ _ => rfl), h.defers, h.size, h.slots⟩
theorem drawAny {P : Program} {N : Nat} {ops : Array Oper} {es : List Ent} {t t' : Nat → Tv} {m m' : Nat → Ob} {Q : Exit → Act → World → Prop} (h1 : Ents P N ops ops.toList es t m t' m')
    (hck : chk ops.toList (es.map Ent.mask) = true) {E : Env} {ρ : Rho} {a : Act} {w : World} (hP : E.P = P) (hN : E.N = N) (hR : Rel E ρ t m a w) (hQ : ∀ ρ' a' w', Rel E ρ' t' m' a' w' → Q .normal a' w') :
    wpAny P .any ops Q ops.size (Array.replicate ops.size false) a { w with drawn := w.drawn + 1 } := by
  have hfalse : ∀ i, (Array.replicate ops.size false).getD i false = false := by
    intro i
    by_cases hi : i < ops.size
    · simp [Array.getD_eq_getD_getElem?, hi]
    · rw [Array.getD_eq_getD_getElem?, Array.getElem?_eq_none (by simp; omega)]; rfl
  have hS : (fun i => (Array.replicate ops.size false).getD i false) = fun _ => false := funext hfalse
  refine ents_any h1 hck hP hN hQ ops.size _ ρ a _ (by simp) ?_ ?_ ?_
  · unfold leftN
    have : (List.range ops.size).filter (fun i => !(Array.replicate ops.size false).getD i true) = List.range ops.size := by
      rw [List.filter_eq_self]
      intro i hi
      have : i < ops.size := by simpa using hi
      simp [Array.getD_eq_getD_getElem?, this]
    rw [this]; simp
  · intro i o _ hl
    rw [hfalse] at hl
    simp at hl
  · have e1 : fT es (fun i => (Array.replicate ops.size false).getD i false) 0 t = t := by
      rw [hS]; funext s; exact fT_off _ _ _ _ _ (fun _ _ _ _ => rfl)
    have e2 : fM es (fun i => (Array.replicate ops.size false).getD i false) 0 m = m := by
      rw [hS]; funext s; exact fM_off _ _ _ _ _ (fun _ _ _ _ => rfl)
    rw [e1, e2]
    exact hR.drew
def exOf : Ex → Exit
  | .normal => .normal
  | .exit i => .exit i
  | .ret => .ret
def PostE (E : Env) (e : Ex) (s : St) (x : Exit) (a : Act) (w : World) : Prop := x = exOf e ∧ ∃ ρ, Rel E ρ s.t.get (mg s.M) a w
theorem loopE_succ (f : St → Rs (Ex × St)) (n : Nat) (s : St) : loopE f (n + 1) s = match f s with
    | .ok (.normal, s) => loopE f n s
    | r => r := rfl
theorem codeE_ok {C : Cfg} (hmix : C.P.follows .mixedOrders = true) {ev : CallF} (hev : EvOk C.P ev) {N : Nat} (hN : N ≤ 4000) : ∀ (c : Code) (s : St) (e : Ex) (s' : St), codeE C ev N c s = .ok (e, s') →
    ∀ (E : Env) (ρ : Rho) (a : Act) (w : World), E.P = C.P → E.N = N → Rel E ρ s.t.get (mg s.M) a w → c.wp C.P (PostE E e s') a w := by
  intro c
  induction c with
  | skip => intro s e s' h E ρ a w _ _ hR; cases h; exact wp_skip ⟨rfl, ρ, hR⟩
  | region id ops draw =>
    intro s e s' h E ρ a w hP hEN hR
    have h : (match opsE C ev N ops draw ops.toList s [] with
      | .ok (s, tr) => bif draw then (bif chk ops.toList tr.reverse then .ok (.normal, s) else .err [id, 16]) else .ok (.normal, s)
      | .err l => .err (id :: l)) = (Rs.ok (e, s') : Rs (Ex × St)) := h
    split at h
    · rename_i s1 tr hq
      obtain ⟨es, h1, h2⟩ := opsE_ok hev hN ops.toList s s1 [] tr hq
      cases draw with
      | false =>
        cases h
        exact wp_region_list (ents_list h1 E ρ a w hP hEN hR _ (fun ρ' a' w' hR' => ⟨rfl, ρ', hR'⟩))
      | true =>
        replace h := bif_ok h
        obtain ⟨hck, h⟩ := h
        cases h
        simp only [cond_true, List.append_nil] at h2
        rw [h2, List.reverse_reverse] at hck
        exact wp_region_any hmix (drawAny h1 hck hP hEN hR (fun ρ' a' w' hR' => ⟨rfl, ρ', hR'⟩))
    · cases h
  | seq x y ihx ihy =>
    intro s e s' h E ρ a w hP hEN hR
    have h : (match codeE C ev N x s with
      | .ok (.normal, s) => codeE C ev N y s
      | r => r) = .ok (e, s') := h
    cases hq : codeE C ev N x s with
    | err l => rw [hq] at h; cases h
    | ok p =>
      obtain ⟨e1, s1⟩ := p
      rw [hq] at h
      refine wp_seq (wp_mono (ihx s e1 s1 hq E ρ a w hP hEN hR) ?_)
      rintro ex a' w' ⟨rfl, ρ', hR'⟩
      cases e1 with
      | normal => exact ihy s1 e s' h E ρ' a' w' hP hEN hR'
      | exit i => cases h; exact ⟨rfl, ρ', hR'⟩
      | ret => cases h; exact ⟨rfl, ρ', hR'⟩
  | cond c x y ihx ihy =>
    intro s e s' h E ρ a w hP hEN hR
    have h : (match opd s.t.get c with
      | .d (.one (.w (.bool q))) => bif q then codeE C ev N x s else codeE C ev N y s
      | _ => .err [7]) = .ok (e, s') := h
    split at h
    · rename_i q hq
      have hv := opd_ok hR c
      rw [hq] at hv
      refine wp_cond (t := q) (w_inv hv) ?_
      cases q with
      | true => exact ihx s e s' h E ρ a w hP hEN hR
      | false => exact ihy s e s' h E ρ a w hP hEN hR
    · cases h
  | block id x ihx =>
    intro s e s' h E ρ a w hP hEN hR
    have h : (match codeE C ev N x s with
      | .ok (.exit i, s) => bif Nat.beq i id then Rs.ok (.normal, s) else Rs.ok (.exit i, s)
      | r => r) = (Rs.ok (e, s') : Rs (Ex × St)) := h
    cases hq : codeE C ev N x s with
    | err l => rw [hq] at h; cases h
    | ok p =>
      obtain ⟨e1, s1⟩ := p
      rw [hq] at h
      refine wp_block (wp_mono (ihx s e1 s1 hq E ρ a w hP hEN hR) ?_)
      rintro ex a' w' ⟨rfl, ρ', hR'⟩
      cases e1 with
      | normal => cases h; exact ⟨rfl, ρ', hR'⟩
      | exit i =>
        show (if i = id then PostE E e s' .normal a' w' else PostE E e s' (.exit i) a' w')
        simp only at h
        by_cases hi : i = id
        · subst hi
          rw [if_pos rfl]
          simp only [Nat.beq_refl, cond_true] at h
          cases h
          exact ⟨rfl, ρ', hR'⟩
        · rw [if_neg hi]
          simp only [beq_f hi, cond_false] at h
          cases h
          exact ⟨rfl, ρ', hR'⟩
      | ret => cases h; exact ⟨rfl, ρ', hR'⟩
  | loop x ihx =>
    intro s e s' h E ρ a w hP hEN hR
    have h : loopE (codeE C ev N x) 1000 s = .ok (e, s') := h
    let rank : Act → World → Nat → Prop := fun a w n => ∃ ρ s, loopE (codeE C ev N x) n s = .ok (e, s') ∧ Rel E ρ s.t.get (mg s.M) a w
    refine wp_loop (fun a w => ∃ n, rank a w n) (fun a w => leastOf (rank a w)) ⟨1000, ρ, s, h, hR⟩ ?_
    intro a' w' hex
    obtain ⟨hl, _⟩ := leastOf_spec hex
    obtain ⟨ρ1, s1, h1, hR1⟩ := hl
    generalize hn : leastOf (rank a' w') = n at h1
    cases n with
    | zero => cases h1
    | succ n =>
      rw [loopE_succ] at h1
      cases hq : codeE C ev N x s1 with
      | err l => rw [hq] at h1; cases h1
      | ok p =>
        obtain ⟨e1, s2⟩ := p
        rw [hq] at h1
        refine wp_mono (ihx s1 e1 s2 hq E ρ1 a' w' hP hEN hR1) ?_
        rintro ex a2 w2 ⟨rfl, ρ2, hR2⟩
        cases e1 with
        | normal =>
          have hr : rank a2 w2 n := ⟨ρ2, s2, h1, hR2⟩
          refine ⟨⟨n, hr⟩, ?_⟩
          have := (leastOf_spec (p := rank a2 w2) ⟨_, hr⟩).2 _ hr
          show leastOf (rank a2 w2) < n + 1
          omega
        | exit i => cases h1; exact ⟨rfl, ρ2, hR2⟩
        | ret => cases h1; exact ⟨rfl, ρ2, hR2⟩
  | exit id => intro s e s' h E ρ a w _ _ hR; cases h; exact wp_exit ⟨rfl, ρ, hR⟩
  | ret => intro s e s' h E ρ a w _ _ hR; cases h; exact wp_ret ⟨rfl, ρ, hR⟩
  | rangeFunc f ps sa bd _ _ => intro s e s' h; cases h
  | scope bd ih =>
    intro s e s' h E ρ a w hP hEN hR
    refine wp_scope_straight (wp_mono (ih s e s' h E ρ a w hP hEN hR) ?_)
    rintro ex a' w' ⟨rfl, ρ', hR'⟩
    cases e <;> exact ⟨rfl, ρ', hR'⟩
  | label l => intro s e s' h E ρ a w _ _ hR; cases h; exact wp_label ⟨rfl, ρ, hR⟩
  | goto l => intro s e s' h; cases h
  | refuse why => intro s e s' h; cases h
end Go.Cv
namespace Go.Cv
open Go Go.RowKit Go.Vm

theorem lenT_eq : ∀ (l : List Tv), lenT l = l.length
  | [] => rfl
  | _ :: r => by simp [lenT, lenT_eq r]
theorem argT_get : ∀ (args : List Tv) (k : Nat) (t : Tr), k + args.length ≤ 4000 → (∀ i, k ≤ i → t.get i = .tup []) → ∀ i, (argT k args t).get i = if i < k then t.get i else (args[i - k]?).getD (.tup [])
  | [], k, t, _, h, i => by
    simp only [argT]
    split
    · rfl
    · simp; exact h i (by omega)
  | x :: r, k, t, hk, h, i => by
    simp only [argT]
    simp only [List.length_cons] at hk
    have hset := tr_set_get 12 t k x (by omega)
    rw [argT_get r (k + 1) _ (by omega) (fun j hj => by rw [hset]; rw [updN_ne _ _ (by omega)]; exact h j (by omega)) i]
    by_cases h1 : i < k
    · rw [if_pos (by omega), if_pos h1, hset, updN_ne _ _ (by omega)]
    · rw [if_neg h1]
      by_cases h2 : i = k
      · subst h2; rw [if_pos (by omega), hset, updN_same]; simp
      · rw [if_neg (by omega), show i - k = (i - (k + 1)) + 1 by omega]
        simp
theorem resE_ok {C : Cfg} {s : St} {E : Env} {ρ : Rho} {a : Act} {w : World} (hP : E.P = C.P) (hR : Rel E ρ s.t.get (mg s.M) a w) : ∀ (rs : List ResultVar) (l : List Dv), resE C s rs = some l → ∃ vs : List Value, All2 (DvOk ρ) vs l ∧ (rs.mapM (resF a.tmps)).run C.P w = .ok vs w
  | [], l, h => by cases h; exact ⟨[], .nil, rfl⟩
  | .tmp k :: r, l, h => by
    simp only [resE] at h
    split at h
    · rename_i v l' h1 h2
      cases h
      obtain ⟨vs, q1, q2⟩ := resE_ok hP hR r l' h2
      have hs := hR.slots k
      rw [h1] at hs
      refine ⟨a.tmps.getD k Go.undef :: vs, .cons hs q1, ?_⟩
      simp only [List.mapM_cons, resF, Sem.run_bind, Sem.run_pure, Result.andThen_ok]
      rw [show (List.mapM (resF a.tmps) r).run C.P w = _ from q2]
      rfl
    · cases h
  | .cell ad ty :: r, l, h => by
    simp only [resE] at h
    split at h
    · rename_i v mo rd l' h1 h2
      cases h
      obtain ⟨vs, q1, q2⟩ := resE_ok hP hR r l' h2
      let o : Oper := ⟨none, .load ty (.tmp ad), 0, "", #[], none⟩
      unfold loadE at h1
      split at h1
      · rename_i T ob p hT hx
        split at h1
        · rename_i cs hr
          split at h1
          · rename_i v' hv
            cases h1
            have e1 := hR.slots ad
            rw [hx] at e1
            obtain ⟨b, off, c, hρ, e1⟩ := ptr_inv e1
            obtain ⟨p1, p2, p3⟩ := packD_ok hv
            obtain ⟨b', off', c', hρ', xs, r1, r2⟩ := part_ok (hR.ob ob) hr p T.size
            rw [hρ] at hρ'
            cases hρ'
            have hl := all2_length r1
            have hload := run_loadVar' (P := C.P) (C.hT ty T hT) w b (off + p) xs (by rw [hl]; exact p1) (fun e => by rw [hl]; exact p2 e) r2
            refine ⟨pack T.kind.isAgg xs :: vs, .cons (p3 ρ xs r1) q1, ?_⟩
            have hres : (resF a.tmps (.cell ad ty)).run C.P w = .ok (pack T.kind.isAgg xs) w := by
              simp [resF, e1, asAddr, hload]
            rw [List.mapM_cons, Sem.run_bind, hres, Result.andThen_ok, Sem.run_bind, q2]
            rfl
          · cases h1
        · cases h1
      · cases h1
    · cases h

theorem bodyE_ok {C : Cfg} (hmix : C.P.follows .mixedOrders = true) {ev : CallF} (hev : EvOk C.P ev) {f : FuncId} {fn : Func} {b : Code} (hf : C.P.funcs[f]? = some fn) (hb : fn.body = some b) (hname : (fn.name == "runtime.NumGoroutine") = false)
    {args : List Tv} {M M' : Ml} {nx nx' : Nat} {r : Tv} (h : bodyE C ev f fn b args M nx = .ok (r, M', nx')) : Exact C.P f args (mg M) r (mg M') := by
  unfold bodyE at h
  replace h := bif_ok h
  obtain ⟨hn, h⟩ := h
  simp only [Bool.and_eq_true] at hn
  have hlen : args.length ≤ fn.ntmps := by rw [← lenT_eq]; exact Nat.le_of_ble_eq_true hn.1
  have hN : fn.ntmps ≤ 4000 := Nat.le_of_ble_eq_true hn.2
  refine ⟨⟨fn, hf, hname, by rw [hb]; rfl⟩, fun E ρ w vs hP hw hρ hM hvs => ?_⟩
  refine calls_of_wp hf hb ?_
  have hvl := all2_length hvs
  let E1 : Env := ⟨E.P, fn.ntmps, E.w0, E.X, E.S, E.hX, E.hS, E.ρ0⟩
  have hR : Rel E1 ρ (argT 0 args .nil).get (mg M) { tmps := vs.toArray ++ Array.replicate (fn.ntmps - vs.toArray.size) Go.undef, defers := [] } w := by
    refine ⟨hM.bx, hM.own, hM.ros, hM.inj, hM.ext, hM.ob, rfl, ?_, fun i => ?_⟩
    · show (vs.toArray ++ Array.replicate (fn.ntmps - vs.toArray.size) Go.undef).size = fn.ntmps
      simp; omega
    · rw [argT_get args 0 .nil (by omega) (fun i _ => get_nil i) i, if_neg (Nat.not_lt_zero i), Nat.sub_zero]
      cases hv : args[i]? with
      | some v =>
        obtain ⟨x, hx, hxr⟩ := all2_get hvs i v hv
        have hlt := (List.getElem?_eq_some_iff.1 hx).1
        have e1 : (vs.toArray ++ Array.replicate (fn.ntmps - vs.toArray.size) Go.undef).getD i Go.undef = x := by
          rw [Array.getD_eq_getD_getElem?, Array.getElem?_append, if_pos (by simpa using hlt)]
          simp [hx]
        rw [e1]
        exact hxr
      | none =>
        have hge : args.length ≤ i := List.getElem?_eq_none_iff.1 hv
        have e1 : (vs.toArray ++ Array.replicate (fn.ntmps - vs.toArray.size) Go.undef).getD i Go.undef = Go.undef := by
          rw [Array.getD_eq_getD_getElem?, Array.getElem?_append, if_neg (by simp; omega)]
          by_cases hi : i - vs.toArray.size < fn.ntmps - vs.toArray.size
          · rw [Array.getElem?_eq_getElem (by simpa using hi)]; simp
          · rw [Array.getElem?_eq_none (by simpa using hi)]; rfl
        rw [e1]
        exact ⟨[], rfl, .nil⟩
  have fin : ∀ (e : Ex) (s : St), codeE C ev fn.ntmps b { t := argT 0 args .nil, M := M, nx := nx } = .ok (e, s) → (e = .normal ∨ e = .ret) → ∀ l, resE C s fn.results.toList = some l → tupE l = r → s.M = M' →
      b.wp C.P (bodyPost C.P fn fun e w' => ∃ v ρ', e = .returned v ∧ TvOk ρ' v r ∧ MemRel E ρ' (mg M') w') { tmps := vs.toArray ++ Array.replicate (fn.ntmps - vs.toArray.size) Go.undef, defers := [] } w := by
    intro e s hc he l hl htl hMs
    refine wp_mono (codeE_ok hmix hev hN b _ e s hc E1 ρ _ w hP rfl hR) ?_
    rintro ex a' w' ⟨rfl, ρ', hR'⟩
    obtain ⟨us, q1, q2⟩ := resE_ok (E := E1) hP hR' fn.results.toList l hl
    have hq := results_run q2
    have hval : ∃ v, (results fn a'.tmps).run C.P w' = .ok v w' ∧ TvOk ρ' v r := by
      rw [hq, ← htl]
      match l, us, q1 with
      | [], _, q1 => cases q1; exact ⟨.tuple #[], by simp, [], rfl, .nil⟩
      | [y], _, q1 =>
        cases q1 with
        | cons g1 g2 => cases g2; exact ⟨_, by simp, g1⟩
      | y :: z :: l, _, q1 =>
        cases q1 with
        | cons g1 g2 =>
          cases g2 with
          | @cons u2 _ us2 _ g3 g4 => exact ⟨.tuple (_ :: u2 :: us2).toArray, by simp, _, rfl, .cons g1 (.cons g3 g4)⟩
    obtain ⟨v, hv1, hv2⟩ := hval
    have hpost : a'.defers = [] ∧ ∃ v, (results fn a'.tmps).run C.P w' = .ok v w' ∧ ∃ v' ρ'', Ending.returned v = .returned v' ∧ TvOk ρ'' v' r ∧ MemRel E ρ'' (mg M') w' :=
      ⟨hR'.defers, v, hv1, v, ρ', rfl, hv2, by rw [← hMs]; exact ⟨hR'.bx, hR'.own, hR'.ros, hR'.inj, hR'.ext, hR'.ob⟩⟩
    rcases he with rfl | rfl
    · exact hpost
    · exact hpost
  cases hc : codeE C ev fn.ntmps b { t := argT 0 args .nil, M := M, nx := nx } with
  | err l => rw [hc] at h; cases h
  | ok p =>
    obtain ⟨e, s⟩ := p
    rw [hc] at h
    cases e with
    | exit i => cases h
    | normal =>
      simp only at h
      cases hl : resE C s fn.results.toList with
      | none => rw [hl] at h; cases h
      | some l => rw [hl] at h; cases h; exact fin _ s hc (.inl rfl) l hl rfl rfl
    | ret =>
      simp only at h
      cases hl : resE C s fn.results.toList with
      | none => rw [hl] at h; cases h
      | some l => rw [hl] at h; cases h; exact fin _ s hc (.inr rfl) l hl rfl rfl

theorem fnE_ok {C : Cfg} (hmix : C.P.follows .mixedOrders = true) {bodies : FuncId → Option (Func × Code)} (hbod : ∀ f fn b, bodies f = some (fn, b) → C.P.funcs[f]? = some fn ∧ fn.body = some b ∧ (fn.name == "runtime.NumGoroutine") = false)
    {foreign : FuncId → Option (List Tv → Ml → Nat → Rs (Tv × Ml × Nat))} (hfor : ∀ f g, foreign f = some g → ∀ args M nx r M' nx', g args M nx = .ok (r, M', nx') → Exact C.P f args (mg M) r (mg M')) : ∀ n, EvOk C.P (fnE C bodies foreign n)
  | 0, f, args, M, nx, r, M', nx', h => by cases h
  | n + 1, f, args, M, nx, r, M', nx', h => by
    have h : (match foreign f with
      | some g => g args M nx
      | none => match bodies f with
        | some (fn, b) => bodyE C (fnE C bodies foreign n) f fn b args M nx
        | none => .err [14, f]) = .ok (r, M', nx') := h
    split at h
    · rename_i g hg
      exact hfor f g hg _ _ _ _ _ _ h
    · split at h
      · rename_i fn b hb
        obtain ⟨h1, h2, h3⟩ := hbod f fn b hb
        exact bodyE_ok hmix (fnE_ok hmix hbod hfor n) h1 h2 h3 h
      · cases h
end Go.Cv
namespace Go.Cv
open Go Go.RowKit Go.Vm

def Ob.toRo : Ob → Ob
  | .arr _ _ _ _ cs => .ro cs
  | .map _ => .dead
  | x => x
theorem toRo_live (x : Ob) : x.toRo.live = false := by cases x <;> rfl
theorem toRo_there {x : Ob} (h : x.toRo.there = true) : x.there = true := by cases x <;> first | rfl | exact h
theorem ObOk.toRo {ρ : Rho} {w : World} {o : Nat} {x : Ob} (h : ObOk ρ w o x) : ObOk ρ w o x.toRo := by
  cases x with
  | arr e k n ex cs =>
    obtain ⟨b, c, arr, h1, h2, h3, h4, h5, h6, h7, h8⟩ := h
    refine ⟨b, 0, c, h1, h5, fun j y hy => ?_⟩
    obtain ⟨v, q1, q2⟩ := h8 j y hy
    exact ⟨v, by simp [World.cell?, h2, q1], q2⟩
  | map es => trivial
  | none => exact h
  | dead => exact h
  | ro cs => exact h
theorem MemRel.toRo {E : Env} {ρ : Rho} {m : Nat → Ob} {w : World} (h : MemRel E ρ m w) : MemRel E ρ (fun o => (m o).toRo) w :=
  ⟨h.bx, fun o b off c h1 _ => absurd h1 (by rw [toRo_live]; simp), fun o b off c h1 h2 => h.ros o b off c (toRo_there h1) h2, fun o o' b off c off' c' h1 _ _ _ => absurd h1 (by rw [toRo_live]; simp), h.ext, fun o => (h.ob o).toRo⟩
theorem MemRel.below {E : Env} {ρ : Rho} {m : Nat → Ob} {w w' : World} (h : MemRel E ρ m w) (hb : Below w.heap.size w w') : MemRel E ρ m w' := by
  have hs := hb.size
  refine ⟨h.bx.trans (Bx.of hb h.bx.size), fun o b off c h1 h2 => ?_, fun o b off c h1 h2 => ?_, h.inj, h.ext, fun o => ?_⟩
  · obtain ⟨q1, q2⟩ := h.own o b off c h1 h2
    exact ⟨q1, by omega⟩
  · obtain ⟨q1, q2⟩ := h.ros o b off c h1 h2
    exact ⟨q1, by omega⟩
  · refine (h.ob o).carry (Sub.refl _) (fun hq => ?_) (fun b off c h1 h2 => hb.block b (h.ros o b off c h1 h2).2)
    have := h.ob o
    rw [hq] at this
    exact this
theorem MemRel.ro {E : Env} {ρ : Rho} {m : Nat → Ob} {w : World} {nx : Nat} (h : MemRel E ρ m w) (hl : ∀ o, (m o).live = false) (hn : m nx = .none) {b off cap : Nat} (hb : (E.X b ∨ E.S b ∨ E.w0.heap.size ≤ b) ∧ b < w.heap.size) (hcap : cap ≤ maxLen) {cs : List Ce}
    (hc : ∀ j y, cs[j]? = some y → ∃ v, w.cell? ⟨b, off + j, none⟩ = some v ∧ CeOk ρ v y) :
    Sub ρ (updN ρ nx (some (b, off, cap))) ∧ MemRel E (updN ρ nx (some (b, off, cap))) (updN m nx (.ro cs)) w := by
  have hn' : ρ nx = none := by have := h.ob nx; rw [hn] at this; exact this
  have hs : Sub ρ (updN ρ nx (some (b, off, cap))) := by
    intro o' q hq
    have : o' ≠ nx := by rintro rfl; rw [hn'] at hq; cases hq
    rw [updN_ne _ _ this]; exact hq
  have hl' : ∀ o, (updN m nx (.ro cs) o).live = false := fun o => by
    by_cases e : o = nx
    · subst e; rw [updN_same]; rfl
    · rw [updN_ne _ _ e]; exact hl o
  refine ⟨hs, h.bx, fun o b off c h1 _ => (by rw [hl' o] at h1; cases h1), fun o b' off' c' h1 h2 => ?_, fun o o' b off c off' c' h1 _ _ _ => (by rw [hl' o] at h1; cases h1), fun o q hq => hs _ _ (h.ext o q hq), fun o => ?_⟩
  · by_cases e : o = nx
    · subst e
      rw [updN_same] at h2
      simp at h2
      obtain ⟨rfl, _, _⟩ := h2
      exact hb
    · rw [updN_ne _ _ e] at h1 h2
      exact h.ros o b' off' c' h1 h2
  · by_cases e : o = nx
    · subst e
      rw [updN_same]
      exact ⟨b, off, cap, updN_same _ _ _, hcap, fun j y hy => let ⟨v, q1, q2⟩ := hc j y hy; ⟨v, q1, q2.sub hs⟩⟩
    · rw [updN_ne _ _ e]
      refine (h.ob o).carry hs (fun hq => ?_) (fun _ _ _ _ _ => rfl)
      rw [updN_ne _ _ e]
      have := h.ob o
      rw [hq] at this
      exact this

def Args (args : List Tv) (m : Nat → Ob) (dargs : List DV) : Prop :=
  ∀ (E : Env) (ρ : Rho) (w : World) (vs : List Value), E.w0 = w → MemRel E ρ m w → All2 (TvOk ρ) vs args → DRdL (fun b => E.X b ∨ E.S b) w vs dargs

theorem exact_word {P : Program} {f : FuncId} {args : List Tv} {m : Nat → Ob} {dargs : List DV} {x : Value} (hd : Det P f dargs (.d (.one (.v x)))) (ha : Args args m dargs) : Exact P f args m (wv x) m := by
  refine ⟨hd.1, fun E ρ w vs hP hw hρ hM hvs => ?_⟩
  subst hw
  refine (hd.2 _ (fun b => E.X b ∨ E.S b) vs (fun b hb => hb.elim (E.hX b) (E.hS b)) (ha E ρ _ vs rfl hM hvs)).mono fun e w' ⟨v, he, hb, hv⟩ => ?_
  exact ⟨v, ρ, he, hv.inv_v, hM.below hb⟩
def Flat (n k : Nat) (get : Nat → Nat → SV) (cs : List Ce) : Prop := cs.length = n * k ∧ ∀ i, i < n → ∀ j, j < k → ∃ v, get i j = .v v ∧ cs[i * k + j]? = some (.w v)
theorem flat_in {E : Env} {ρ : Rho} {m : Nat → Ob} {w : World} {nx : Nat} (h : MemRel E ρ m w) (hl : ∀ o, (m o).live = false) (hn : m nx = .none) {S : Nat → Prop} (hS : ∀ b, S b → (E.X b ∨ E.S b ∨ E.w0.heap.size ≤ b) ∧ b < w.heap.size)
    {x : Value} {n k : Nat} {get : Nat → Nat → SV} {cs : List Ce} (hn0 : 0 < n) (hk0 : 0 < k) (hf : Flat n k get cs) (hr : Rd S w x (.sl n k get)) :
    ∃ ρ', Sub ρ ρ' ∧ MemRel E ρ' (updN m nx (.ro cs)) w ∧ CeOk ρ' x (.slc nx k 0 n false) := by
  rcases hr.inv_sl with ⟨_, h0⟩ | ⟨_, _, _, h0⟩ | ⟨b, off, cap, xs, hx, hb, h1, h2, h3, h4⟩
  · omega
  · omega
  · obtain ⟨hs, hM⟩ := h.ro (b := b) (off := off) (cap := cap) (cs := cs) hl hn (hS b hb) h2 (fun j y hy => by
      have hj : j < n * k := by
        rw [← hf.1]
        exact (List.getElem?_eq_some_iff.1 hy).1
      have hi : j / k < n := Nat.div_lt_of_lt_mul (by rw [Nat.mul_comm]; exact hj)
      have hjk : j % k < k := Nat.mod_lt _ hk0
      have he : j / k * k + j % k = j := by rw [Nat.mul_comm]; exact Nat.div_add_mod j k
      obtain ⟨v, q1, q2⟩ := hf.2 _ hi _ hjk
      rw [he] at q2
      rw [q2] at hy
      cases hy
      have q3 := h4 _ hi _ hjk
      rw [q1] at q3
      have q4 := h3 _ hi _ hjk
      rw [he] at q4
      exact ⟨_, q4, q3.inv_v⟩)
    refine ⟨_, hs, hM, b, off, cap, ⟨b, off, none⟩, updN_same _ _ _, by simp [hx], by omega, fun _ => by simp⟩
theorem exact_flat {P : Program} {f : FuncId} {args : List Tv} {m : Nat → Ob} {dargs : List DV} {n k nx : Nat} {get : Nat → Nat → SV} {cs : List Ce} (hd : Det P f dargs (.d (.one (.sl n k get)))) (ha : Args args m dargs) (hn : m nx = .none) (hn0 : 0 < n) (hk0 : 0 < k) (hf : Flat n k get cs) :
    Exact P f args m (.d (.one (.slc nx k 0 n false))) (updN (fun o => (m o).toRo) nx (.ro cs)) := by
  refine ⟨hd.1, fun E ρ w vs hP hw hρ hM hvs => ?_⟩
  subst hw
  refine (hd.2 _ (fun b => E.X b ∨ E.S b) vs (fun b hb => hb.elim (E.hX b) (E.hS b)) (ha E ρ _ vs rfl hM hvs)).mono fun e w' ⟨v, he, hb, hv⟩ => ?_
  have hs := hb.size
  obtain ⟨ρ', h1, h2, h3⟩ := flat_in (nx := nx) (hM.below hb).toRo (fun o => toRo_live _) (by show (m nx).toRo = _; rw [hn]; rfl) (fun b h => by
    rcases h with (h | h) | h
    · exact ⟨.inl h, Nat.lt_of_lt_of_le (E.hX b h) hs⟩
    · exact ⟨.inr (.inl h), Nat.lt_of_lt_of_le (E.hS b h) hs⟩
    · exact ⟨.inr (.inr h.1), h.2⟩) hn0 hk0 hf hv
  exact ⟨v, ρ', he, h3, h2⟩
theorem exact_pair {P : Program} {f : FuncId} {args : List Tv} {m : Nat → Ob} {dargs : List DV} {n k nx : Nat} {get : Nat → Nat → SV} {cs : List Ce} {y : Value} (hd : Det P f dargs (.tup [.one (.sl n k get), .one (.v y)])) (ha : Args args m dargs) (hn : m nx = .none) (hn0 : 0 < n) (hk0 : 0 < k) (hf : Flat n k get cs) :
    Exact P f args m (.tup [.one (.slc nx k 0 n false), .one (.w y)]) (updN (fun o => (m o).toRo) nx (.ro cs)) := by
  refine ⟨hd.1, fun E ρ w vs hP hw hρ hM hvs => ?_⟩
  subst hw
  refine (hd.2 _ (fun b => E.X b ∨ E.S b) vs (fun b hb => hb.elim (E.hX b) (E.hS b)) (ha E ρ _ vs rfl hM hvs)).mono fun e w' ⟨v, he, hb, xs, hx, hv⟩ => ?_
  have hs := hb.size
  cases hv with
  | cons hv1 hv2 =>
    cases hv2 with
    | cons hv2 hv3 =>
      cases hv3
      obtain ⟨ρ', h1, h2, h3⟩ := flat_in (nx := nx) (hM.below hb).toRo (fun o => toRo_live _) (by show (m nx).toRo = _; rw [hn]; rfl) (fun b h => by
        rcases h with (h | h) | h
        · exact ⟨.inl h, Nat.lt_of_lt_of_le (E.hX b h) hs⟩
        · exact ⟨.inr (.inl h), Nat.lt_of_lt_of_le (E.hS b h) hs⟩
        · exact ⟨.inr (.inr h.1), h.2⟩) hn0 hk0 hf hv1
      exact ⟨v, ρ', he, ⟨_, hx, .cons h3 (.cons (Rd.inv_v hv2) .nil)⟩, h2⟩
theorem exact_nest {P : Program} {f : FuncId} {args : List Tv} {m : Nat → Ob} {dargs : List DV} {n k nx : Nat} {get : Nat → Nat → SV} {g : Nat → Nat → SV} {cs : List Ce} (hg : g 0 0 = .sl n k get) (hd : Det P f dargs (.d (.one (.sl 1 1 g)))) (ha : Args args m dargs) (hn : m nx = .none) (hn' : m (nx + 1) = .none) (hn0 : 0 < n) (hk0 : 0 < k) (hf : Flat n k get cs) :
    Exact P f args m (.d (.one (.slc (nx + 1) 1 0 1 false))) (updN (updN (fun o => (m o).toRo) nx (.ro cs)) (nx + 1) (.ro [.slc nx k 0 n false])) := by
  refine ⟨hd.1, fun E ρ w vs hP hw hρ hM hvs => ?_⟩
  subst hw
  refine (hd.2 _ (fun b => E.X b ∨ E.S b) vs (fun b hb => hb.elim (E.hX b) (E.hS b)) (ha E ρ _ vs rfl hM hvs)).mono fun e w' ⟨v, he, hb, hv⟩ => ?_
  have hs := hb.size
  have hSS : ∀ b, (fun b => (E.X b ∨ E.S b) ∨ E.w0.heap.size ≤ b ∧ b < w'.heap.size) b → (E.X b ∨ E.S b ∨ E.w0.heap.size ≤ b) ∧ b < w'.heap.size := fun b h => by
    rcases h with (h | h) | h
    · exact ⟨.inl h, Nat.lt_of_lt_of_le (E.hX b h) hs⟩
    · exact ⟨.inr (.inl h), Nat.lt_of_lt_of_le (E.hS b h) hs⟩
    · exact ⟨.inr (.inr h.1), h.2⟩
  rcases Rd.inv_sl hv with ⟨_, h0⟩ | ⟨_, _, _, h0⟩ | ⟨b, off, cap, xs, hx, hb', h1, h2, h3, h4⟩
  · omega
  · omega
  · have q := h4 0 (by omega) 0 (by omega)
    rw [hg] at q
    obtain ⟨ρ1, p1, p2, p3⟩ := flat_in (nx := nx) (hM.below hb).toRo (fun o => toRo_live _) (by show (m nx).toRo = _; rw [hn]; rfl) hSS hn0 hk0 hf q
    obtain ⟨s1, s2⟩ := p2.ro (nx := nx + 1) (b := b) (off := off) (cap := cap) (cs := [.slc nx k 0 n false]) (fun o => by
      by_cases e : o = nx
      · subst e; rw [updN_same]; rfl
      · rw [updN_ne _ _ e]; exact toRo_live _) (by rw [updN_ne _ _ (by omega)]; show (m (nx + 1)).toRo = _; rw [hn']; rfl) (hSS b hb') h2 (fun j y hy => by
        cases j with
        | zero =>
          simp at hy
          subst hy
          exact ⟨_, by simpa using h3 0 (by omega) 0 (by omega), p3⟩
        | succ j => simp at hy)
    exact ⟨v, _, he, ⟨b, off, cap, ⟨b, off, none⟩, updN_same _ _ _, by simp [hx], by omega, fun _ => by simp⟩, s2⟩
end Go.Cv
