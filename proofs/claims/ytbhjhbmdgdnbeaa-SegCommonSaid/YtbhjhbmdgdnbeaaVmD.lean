/-
  An abstract walk over Go's operations: the steps that make or write memory.
-/
import Derived.Test.YtbhjhbmdgdnbeaaVmC
namespace Go.Vm
open Go Go.RowKit

theorem heap_alloc_new' (w : World) (o : Obj) : (w.alloc o).heap[w.heap.size]? = some o := by
  show (w.heap.push o)[w.heap.size]? = some o
  simp
theorem heap_alloc_old' (w : World) (o : Obj) (k : Nat) (h : k < w.heap.size) : (w.alloc o).heap[k]? = w.heap[k]? := Below.heap_alloc w o k h
theorem below_alloc (w : World) (o : Obj) : Below w.heap.size w (w.alloc o) := (Below.refl _ w).alloc (Nat.le_refl _) o

theorem L_alloc {E : Env} {ρ : Nat → Option (Nat × Nat)} {t : Nat → TV} {m : Nat → Mem} {a : Act} {w w' : World} (h : Rel E ρ t m a w) (o : Nat) (nm : Mem) (c : Nat) (hm : ¬ (m o).live)
    (hb : Below w.heap.size w w') (hgt : w.heap.size < w'.heap.size) : ∀ b, L E m ρ w b → L E (upd m o nm) (upd ρ o (some (w.heap.size, c))) w' b ∧ w'.heap[b]? = w.heap[b]? := by
  intro b hl
  have hlt := L_lt h hl
  refine ⟨⟨hl.1.imp id (fun h1 => ⟨h1.1, by omega⟩), fun o' c' l r => ?_⟩, hb.block b hlt⟩
  by_cases e : o' = o
  · subst e; rw [upd_same] at r; simp at r; omega
  · rw [upd_ne _ _ _ e] at l r; exact hl.2 o' c' l r

/-- A new variable of the call's own. -/
theorem Rel.allocBox {E : Env} {ρ : Nat → Option (Nat × Nat)} {t : Nat → TV} {m : Nat → Mem} {a : Act} {w : World} (h : Rel E ρ t m a w) (o : Nat) (hm : m o = .none) (xs : List Value) (cs : List SV) (e : TypeId)
    (hx : RdL (L E m ρ w) w xs cs) : Rel E (upd ρ o (some (w.heap.size, 0))) t (upd m o (.box cs)) a (w.alloc (.cells xs.toArray e)) := by
  have hnl : ¬ (m o).live := by rw [hm]; exact id
  have hL := L_alloc h o (.box cs) 0 hnl (below_alloc w (.cells xs.toArray e)) (by simp)
  refine h.one o _ _ ((below_alloc w _).mono h.below.size) hL ?_ ?_ (by simp) ?_ ?_
  · intro o' b c _ l r
    exact heap_alloc_old' w _ b (h.lo o' b c l r).2
  · intro _ b c hr
    simp only [Option.some.injEq, Prod.mk.injEq] at hr
    obtain ⟨rfl, rfl⟩ := hr
    refine ⟨⟨h.below.size, by simp⟩, fun o' c' _ l r => ?_⟩
    exact absurd (h.lo o' _ c' l r).2 (Nat.lt_irrefl _)
  · exact ⟨w.heap.size, 0, xs, e, upd_same _ _ _, heap_alloc_new' w _, hx.mono hL⟩
  · intro i hr
    exact absurd hm (h.clean i o hr)

theorem setCells_eq {α : Type} : ∀ (ys xs : List α) (i : Nat), i + ys.length ≤ xs.length → setCells xs i ys = xs.take i ++ ys ++ xs.drop (i + ys.length)
  | [], xs, i, _ => by simp [setCells]
  | y :: ys, xs, i, h => by
    simp only [List.length_cons] at h
    rw [setCells, setCells_eq ys (xs.set i y) (i + 1) (by simp; omega)]
    apply List.ext_getElem?
    intro k
    simp only [List.length_cons, List.getElem?_append, List.length_take, List.length_set, List.length_append, List.getElem?_take, List.getElem?_drop, List.getElem?_set]
    have e1 : min (i + 1) xs.length = i + 1 := by omega
    have e2 : min i xs.length = i := by omega
    rw [e1, e2]
    by_cases h1 : k < i
    · simp [h1, show k < i + 1 by omega, show k < i + 1 + ys.length by omega, show k < i + (ys.length + 1) by omega, show ¬ i = k by omega]
    · by_cases h2 : k = i
      · subst h2
        simp [show k < k + 1 + ys.length by omega, show k < xs.length by omega]
      · by_cases h3 : k < i + 1 + ys.length
        · simp [h1, h3, show ¬ k < i + 1 by omega, show k < i + (ys.length + 1) by omega, show k - i = (k - (i + 1)) + 1 by omega]
        · simp [h3, show ¬ k < i + (ys.length + 1) by omega, show ¬ i = i + 1 + ys.length + (k - (i + 1 + ys.length)) by omega]
          congr 1
          omega

theorem getElem?_setCells {α : Type} (ys xs : List α) (i : Nat) (h : i + ys.length ≤ xs.length) (p : Nat) : (setCells xs i ys)[p]? = if i ≤ p ∧ p < i + ys.length then ys[p - i]? else xs[p]? := by
  rw [setCells_eq ys xs i h]
  simp only [List.append_assoc, List.getElem?_append, List.length_take, List.getElem?_take, List.getElem?_drop]
  rw [show min i xs.length = i by omega]
  by_cases h1 : p < i
  · simp [h1, show ¬ i ≤ p by omega]
  · by_cases h2 : p < i + ys.length
    · simp [h1, h2, show i ≤ p by omega, show p - i < ys.length by omega]
    · simp [h1, h2, show ¬ p - i < ys.length by omega]
      congr 1
      omega

theorem cellsW_det {x : TV} {K : List SV → Prop} (h : x.cellsW K) : ∃ l, K l ∧ ∀ (E : Env) (m : Nat → Mem) (ρ : Nat → Option (Nat × Nat)) (w : World) (v : Value), TOk E m ρ w v x → ∃ us : List Value, v.cells = us.toArray ∧ RdL (L E m ρ w) w us l := by
  unfold TV.cellsW at h
  split at h
  · rename_i c
    refine ⟨_, h, fun E m ρ w v hv => ⟨[v], ?_, .cons hv .nil⟩⟩
    have h1 := Rd.oneCell (show Rd _ _ v c from hv)
    cases v <;> first | rfl | (simp [Value.oneCell'] at h1)
  · rename_i cs
    refine ⟨_, h, fun E m ρ w v hv => ?_⟩
    obtain ⟨xs, rfl, hr⟩ := hv
    exact ⟨xs, rfl, hr⟩
  · exact h.elim

theorem putM_one (m : Nat → Mem) (o : Nat) (x : Mem) : putM m [(o, x)] = upd m o x := rfl

/-- The step leaves a world in which one object is new or turned. -/
theorem stepOk_mem {P : Program} {o : Oper} {t : Nat → TV} {m : Nat → Mem} {x : TV} {b : Nat} {nm : Mem} {rd : List Nat}
    (h : ∀ E ρ t' m' a w, E.P = P → Agree o t t' → (∀ b ∈ rd, m' b = m b) → Rel E ρ t' m' a w →
      ∃ n v w' ρ', (execOp a.eval o).run P w = .ok n w' ∧ (n = .value v ∨ (n = .skip ∧ v = Go.undef)) ∧ Rel E ρ' t' (upd m' b nm) a w' ∧ TOk E (upd m' b nm) ρ' w' v x ∧ ∀ b', x.refs b' → upd m' b nm b' ≠ .none) :
    StepOk P o t m x [(b, nm)] rd := by
  intro E ρ t' m' a w hP ha hm hd hR K Q hK
  obtain ⟨n, v, w', ρ', h1, h2, h3, h4, h5⟩ := h E ρ t' m' a w hP ha hm hR
  unfold Oper.wp
  rw [h1]
  rcases h2 with rfl | ⟨rfl, rfl⟩
  · exact hK ρ' _ w' (h3.put hd h4 h5)
  · exact hK ρ' _ w' (h3.put hd h4 h5)

theorem stepOk_alloc {P : Program} {o : Oper} {t : Nat → TV} {m : Nat → Mem} {TT : Tab} (hT : TabOk P TT) {e : TypeId} {T : Ty} (hty : TT e = some T) (ho : o.op = .alloc e) {d : Nat} (hm : m d = .none) :
    StepOk P o t m (.ptr d 0) [(d, .box T.zero)] [d] := by
  obtain ⟨i, z, h1, h2, h3, h4, h5, h6, h7⟩ := (hT e T hty).info
  refine stepOk_mem fun E ρ t' m' a w hP ha hm' hR => ?_
  have hmd : m' d = .none := by rw [hm' d (by simp)]; exact hm
  have hz : RdL (L E m' ρ w) w z.cells.toList T.zero := by
    rw [← h5]
    have h6' : ∀ x ∈ z.cells.toList, x.oneCell' = true := fun x hx => List.all_eq_true.1 h6 x hx
    revert h6'
    generalize z.cells.toList = l
    intro h6'
    induction l with
    | nil => exact .nil
    | cons x l ih => exact .cons (.v (h6' x (by simp))) (ih (fun y hy => h6' y (by simp [hy])))
  have hR' := hR.allocBox d hmd z.cells.toList T.zero e hz
  refine ⟨_, .pointer (some ⟨w.heap.size, 0, none⟩), _, _, ?_, .inl rfl, hR', ?_, ?_⟩
  · simp [execOp, ho, Instr.alloc, zeroValue, typeInfo, h1, h4, newVar, newRow]
  · simp only [TOk, upd_same]; exact ⟨_, _, rfl, rfl⟩
  · intro b' hb'; cases hb'; rw [upd_same]; simp

theorem stepOk_box {P : Program} {o : Oper} {t : Nat → TV} {m : Nat → Mem} {e : TypeId} {x : Operand} (ho : o.op = .box e x) {d : Nat} (hm : m d = .none) {K : List SV → Prop}
    (h : (opd t x).cellsW K) : ∃ l, K l ∧ StepOk P o t m (.ptr d 0) [(d, .box l)] [d] := by
  obtain ⟨l, hK, hl⟩ := cellsW_det h
  refine ⟨l, hK, stepOk_mem fun E ρ t' m' a w hP ha hm' hR => ?_⟩
  have hmd : m' d = .none := by rw [hm' d (by simp)]; exact hm
  have hv := (opd_ok hR x).1
  rw [opd_agree ha (by rw [ho]; simp [Op.operands])] at hv
  obtain ⟨us, h1, h2⟩ := hl E m' ρ w _ hv
  have hR' := hR.allocBox d hmd us l e h2
  refine ⟨_, .pointer (some ⟨w.heap.size, 0, none⟩), _, _, ?_, .inl rfl, hR', ?_, ?_⟩
  · simp [execOp, ho, Instr.box, newVar, newRow, h1]
  · simp only [TOk, upd_same]; exact ⟨_, _, rfl, rfl⟩
  · intro b' hb'; cases hb'; rw [upd_same]; simp

/-- A store into one of the call's own objects turns nothing else. -/
theorem L_store {E : Env} {ρ : Nat → Option (Nat × Nat)} {t : Nat → TV} {m : Nat → Mem} {a : Act} {w : World} (h : Rel E ρ t m a w) {o b c : Nat} (hl : (m o).live) (hρ : ρ o = some (b, c)) (nm : Mem) (r : Array Value) :
    Below E.w0.heap.size w (w.setRow b r) ∧ (∀ b', L E m ρ w b' → L E (upd m o nm) (upd ρ o (some (b, c))) (w.setRow b r) b' ∧ (w.setRow b r).heap[b']? = w.heap[b']?) ∧
      (∀ o' b' c', o' ≠ o → (m o').live → ρ o' = some (b', c') → (w.setRow b r).heap[b']? = w.heap[b']?) := by
  obtain ⟨h1, h2⟩ := h.lo o b c hl hρ
  refine ⟨⟨rfl, rfl, rfl, by simp, fun k hk => setRow_other w b k r (by omega)⟩, fun b' hb' => ⟨⟨?_, fun o' c' l r' => ?_⟩, setRow_other w b b' r (fun e => hb'.2 o c hl (e ▸ hρ))⟩, fun o' b' c' ho l r' => setRow_other w b b' r (fun e => ho (h.inj o' o b' c' c l hl r' (e ▸ hρ)))⟩
  · exact hb'.1.imp id (fun h => ⟨h.1, by simpa using h.2⟩)
  · by_cases e : o' = o
    · subst e
      rw [upd_same] at r'
      simp only [Option.some.injEq, Prod.mk.injEq] at r'
      exact hb'.2 o' c hl (by rw [hρ, r'.1])
    · rw [upd_ne _ _ _ e] at l r'; exact hb'.2 o' c' l r'

theorem run_storeVar' {P : Program} {t : TypeId} {T : Ty} (hT : TyOk P t T) (w : World) (b off : Nat) (cur : Array Value) (e : TypeId) (hb : w.heap[b]? = some (.cells cur e (0, 0))) (v : Value) (us : List Value) (hv : v.cells = us.toArray) (hl : us.length = T.size)
    (hfit : off + us.length ≤ cur.size) (h1 : ∀ x ∈ us, x.oneCell' = true) : (storeVar t ⟨b, off, none⟩ v).run P w = .ok () (w.setRow b (setCells cur.toList off us).toArray) := by
  have hr := run_storeCells_at (P := P) b off e us 0 cur w hb (by omega) h1
  rw [setCells_eq us cur.toList off (by simpa using hfit)]
  simp only [Nat.add_zero] at hr
  simp only [storeVar, Sem.run_bind, run_sizeOf' hT, Result.andThen_ok, hv, List.size_toArray, ← hl, ne_eq, not_true, if_false]
  exact hr

theorem RdL.getElemRd {S : Nat → Prop} {w : World} {xs : List Value} {cs : List SV} (hr : RdL S w xs cs) (j : Nat) (hj : j < cs.length) : ∃ x, xs[j]? = some x ∧ Rd S w x (cs.getD j (.v Go.undef)) := by
  obtain ⟨x, h1, h2⟩ := hr.get j cs[j] (by simp [hj])
  exact ⟨x, h1, by simpa [List.getD, hj] using h2⟩

theorem stepOk_store {P : Program} {o : Oper} {t : Nat → TV} {m : Nat → Mem} {TT : Tab} (hT : TabOk P TT) {ty : TypeId} {T : Ty} (hty : TT ty = some T) {x y : Operand} (ho : o.op = .store ty x y) {K : Kont}
    (h : storeW T m (opd t x) (opd t y) K) : ∃ z mo rd, K z mo rd ∧ StepOk P o t m z mo rd := by
  have hTy := hT ty T hty
  have hmx : x ∈ o.op.operands.toList := by rw [ho]; simp [Op.operands]
  have hmy : y ∈ o.op.operands.toList := by rw [ho]; simp [Op.operands]
  unfold storeW at h
  obtain ⟨l, h, hl⟩ := cellsW_det h
  replace h := bif_and h; obtain ⟨hsz, h⟩ := h
  have hsz' : l.length = T.size := Nat.eq_of_beq_eq_true hsz
  split at h
  · rename_i b off hx
    split at h
    · rename_i cs hb
      replace h := bif_and h; obtain ⟨hle, h⟩ := h
      have hle' : off + l.length ≤ cs.length := Nat.le_of_ble_eq_true hle
      rw [setC_eq] at h
      refine ⟨_, _, _, h, stepOk_mem fun E ρ t' m' a w hP ha hm hR => ?_⟩
      have hv := (opd_ok hR x).1
      have hu := (opd_ok hR y).1
      have hb' : m' b = .box cs := by rw [hm b (by simp)]; exact hb
      rw [opd_agree ha hmx, hx] at hv
      rw [opd_agree ha hmy] at hu
      simp only [TOk, hb'] at hv
      obtain ⟨bl, c, hρ, hval⟩ := hv
      obtain ⟨us, hu1, hu2⟩ := hl E m' ρ w _ hu
      have hmo := hR.mem b
      rw [hb'] at hmo
      obtain ⟨bl', c', xs, e, hρ', hblk, hrd⟩ := hmo
      rw [hρ] at hρ'
      obtain ⟨rfl, rfl⟩ : bl = bl' ∧ c = c' := by simpa using hρ'
      have hlive := mem_live_box hb'
      obtain ⟨k1, k2, k3⟩ := L_store hR hlive hρ (.box (setCells cs off l)) (setCells xs off us).toArray
      have hun := hrd.length
      have hul := hu2.length
      have hst := run_storeVar' hTy w bl off xs.toArray e hblk _ us hu1 (by omega) (by simp; omega) hu2.oneCell
      refine ⟨.skip, Go.undef, w.setRow bl (setCells xs off us).toArray, upd ρ b (some (bl, c)), ?_, .inr ⟨rfl, rfl⟩, hR.one b _ _ k1 k2 k3 ?_ (by simp) ?_ ?_, trivial, fun _ h => h.elim⟩
      · simp [execOp, ho, hval, Instr.storeAt, Instr.sureAddr, hst]
      · intro _ b' c' hr
        simp only [Option.some.injEq, Prod.mk.injEq] at hr
        obtain ⟨rfl, rfl⟩ := hr
        obtain ⟨q1, q2⟩ := hR.lo b bl c hlive hρ
        exact ⟨⟨q1, by simpa using q2⟩, fun o' c'' ho' l' r' => ho' (hR.inj o' b bl c'' c l' hlive r' hρ)⟩
      · exact ⟨bl, c, _, e, upd_same _ _ _, setRow_heap w bl _ _ e _ hblk, (RdL.setCells (hu2.mono k2) off (hrd.mono k2))⟩
      · intro i hr
        have hs := hR.slots i
        revert hs hr
        cases t' i with
        | ptr o' p => intro hr; cases hr; intro hs; simp only [TOk, hb', upd_same] at hs ⊢; rw [hρ] at hs; exact hs
        | hdl o' g => intro hr; cases hr; intro hs; simp only [TOk, upd_same]
        | ep o' g i f => intro hr; cases hr; intro hs; simp only [TOk, upd_same]
        | _ => intro hr; exact hr.elim
    · exact h.elim
  · rename_i b g i off hx
    split at h
    · rename_i g' n k e get hb
      replace h := bif_and h; obtain ⟨hle, h⟩ := h
      simp only [Bool.and_eq_true] at hle
      obtain rfl : g = g' := Nat.eq_of_beq_eq_true hle.1
      have hle' : off + l.length ≤ k := Nat.le_of_ble_eq_true hle.2
      refine ⟨_, _, _, h, stepOk_mem fun E ρ t' m' a w hP ha hm hR => ?_⟩
      have hv := (opd_ok hR x).1
      have hu := (opd_ok hR y).1
      have hb' : m' b = .bld g n k e get := by rw [hm b (by simp)]; exact hb
      rw [opd_agree ha hmx, hx] at hv
      rw [opd_agree ha hmy] at hu
      simp only [TOk, hb'] at hv
      obtain ⟨hin, bl, c, hρ, hval⟩ := hv.2 trivial
      obtain ⟨us, hu1, hu2⟩ := hl E m' ρ w _ hu
      have hmo := hR.mem b
      rw [hb'] at hmo
      rcases hmo with ⟨hn, _⟩ | ⟨bl', c', arr, hρ', hblk, hasz, hnc, hcm, hel⟩
      · rw [hρ] at hn; simp at hn
      · rw [hρ] at hρ'
        obtain ⟨rfl, rfl⟩ : bl = bl' ∧ c = c' := by simpa using hρ'
        have hlive := mem_live_bld hb'
        obtain ⟨k1, k2, k3⟩ := L_store hR hlive hρ (.bld g n k e fun i' j => bif Nat.beq i' i && Nat.ble off j && Nat.blt j (off + l.length) then l.getD (j - off) (.v Go.undef) else get i' j) (setCells arr.toList (i * k + off) us).toArray
        have hul := hu2.length
        have hroom : i * k + off + us.length ≤ arr.size := by
          have : (i + 1) * k ≤ c * k := Nat.mul_le_mul_right k (by omega)
          rw [Nat.add_mul] at this
          omega
        have hst := run_storeVar' hTy w bl (i * k + off) arr e hblk _ us hu1 (by omega) hroom hu2.oneCell
        refine ⟨.skip, Go.undef, w.setRow bl (setCells arr.toList (i * k + off) us).toArray, upd ρ b (some (bl, c)), ?_, .inr ⟨rfl, rfl⟩, hR.one b _ _ k1 k2 k3 ?_ (by simp) ?_ ?_, trivial, fun _ h => h.elim⟩
        · simp [execOp, ho, hval, Instr.storeAt, Instr.sureAddr, hst]
        · intro _ b' c' hr
          simp only [Option.some.injEq, Prod.mk.injEq] at hr
          obtain ⟨rfl, rfl⟩ := hr
          obtain ⟨q1, q2⟩ := hR.lo b bl c hlive hρ
          exact ⟨⟨q1, by simpa using q2⟩, fun o' c'' ho' l' r' => ho' (hR.inj o' b bl c'' c l' hlive r' hρ)⟩
        · refine .inr ⟨bl, c, _, upd_same _ _ _, setRow_heap w bl _ _ e _ hblk, by simp [length_setCells, hasz], hnc, hcm, fun i' hi' j hj => ?_⟩
          have hgt := getElem?_setCells us arr.toList (i * k + off) (by simpa using hroom) (i' * k + j)
          by_cases hc : i' = i ∧ off ≤ j ∧ j < off + l.length
          · obtain ⟨rfl, hj1, hj2⟩ := hc
            obtain ⟨v, hv1, hv2⟩ := hu2.getElemRd (j - off) (by omega)
            refine ⟨v, ?_, ?_⟩
            · rw [if_pos (by omega), show i' * k + j - (i' * k + off) = j - off by omega] at hgt
              simpa [hgt] using hv1
            · have e1 : (Nat.beq i' i' && Nat.ble off j && Nat.blt j (off + l.length)) = true := by
                simp [hj1, hj2]
              show Rd _ _ v (bif _ then _ else _)
              rw [e1]
              exact hv2.mono k2
          · obtain ⟨v, hv1, hv2⟩ := hel i' hi' j hj
            refine ⟨v, ?_, ?_⟩
            · have hne : ¬ (i * k + off ≤ i' * k + j ∧ i' * k + j < i * k + off + us.length) := by
                rcases Nat.lt_trichotomy i' i with h1 | h1 | h1
                · have : (i' + 1) * k ≤ i * k := Nat.mul_le_mul_right k h1
                  rw [Nat.add_mul] at this
                  omega
                · subst h1
                  omega
                · have : (i + 1) * k ≤ i' * k := Nat.mul_le_mul_right k h1
                  rw [Nat.add_mul] at this
                  omega
              rw [if_neg hne] at hgt
              simpa [hgt] using hv1
            · have e1 : (Nat.beq i' i && Nat.ble off j && Nat.blt j (off + l.length)) = false := by
                simp only [Bool.and_eq_false_iff]
                by_cases q1 : i' = i
                · by_cases q2 : off ≤ j
                  · right
                    exact blt_f fun q3 => hc ⟨q1, q2, q3⟩
                  · left; right
                    exact ble_f q2
                · left; left
                  exact beq_f q1
              show Rd _ _ v (bif _ then _ else _)
              rw [e1]
              exact hv2.mono k2
        · intro i' hr
          have hs := hR.slots i'
          revert hs hr
          cases t' i' with
          | ptr o' p => intro hr; cases hr; intro hs; simp only [TOk, hb'] at hs
          | hdl o' g => intro hr; cases hr; intro hs; simp only [TOk, hb', upd_same] at hs ⊢; rw [hρ] at hs; exact hs
          | ep o' g i f => intro hr; cases hr; intro hs; simp only [TOk, hb', upd_same] at hs ⊢; rw [hρ] at hs; exact hs
          | _ => intro hr; exact hr.elim
    · exact h.elim
  · exact h.elim
end Go.Vm
