/-
  An abstract walk over Go's operations: slices whose cells lead to objects are made and appended to.
-/
import Derived.Test.YtgmlblmkcbcgaaaVmM
namespace Go.Vm
set_option linter.unusedVariables false
set_option linter.unusedSimpArgs false
open Go Go.RowKit

theorem NewGen.oldC {E : Env} {m : Id → Mem} {o : Id} {g n k : Nat} {e : TypeId} {get : Nat → Nat → CV} (h : m o = .bldc g n k e get) : NewGen E m o (g + 2) := ⟨by omega, .inr ⟨g, n, k, by rw [h]; rfl, by omega⟩⟩
/-- The same for cells that may lead to objects. -/
theorem Rel.newGenC {E : Env} {ρ : Id → Option (Nat × Nat)} {t : Nat → TV} {m : Id → Mem} {a : Act} {w w' : World} (h : Rel E ρ t m a w) {o : Id} {g n k : Nat} {e : TypeId} {get : Nat → Nat → CV} {nr : Option (Nat × Nat)} (hok : NewGen E m o g)
    (hb : Bx E.w0.heap.size E.X w w')
    (hL : ∀ b, L E m ρ w b → L E (upd m o (.bldc g n k e get)) (upd ρ o nr) w' b ∧ w'.heap[b]? = w.heap[b]?)
    (hother : ∀ o' b c, o' ≠ o → (m o').live → ρ o' = some (b, c) → w'.heap[b]? = w.heap[b]?)
    (hnew : ∀ b c, nr = some (b, c) → ((E.X b ∨ E.w0.heap.size ≤ b) ∧ b < w'.heap.size) ∧ ∀ o' c', o' ≠ o → (m o').live → ρ o' ≠ some (b, c'))
    (hclean : ∀ o', (Mem.bldc g n k e get).refs o' → m o' ≠ .none)
    (hmem : (∀ o', m o' ≠ .none → Carry m (upd m o (.bldc g n k e get)) ρ (upd ρ o nr) o') → MemOk E (upd m o (.bldc g n k e get)) (upd ρ o nr) w' o (.bldc g n k e get)) : Rel E (upd ρ o nr) t (upd m o (.bldc g n k e get)) a w' := by
  have hn' : (upd m o (.bldc g n k e get) o).bldy = some (g, n, k) := by rw [upd_same]; rfl
  have hold : m o ≠ .none → ∃ g0 n0 k0, (m o).bldy = some (g0, n0, k0) ∧ g0 < g := fun hn => hok.h.resolve_left (fun h => hn h.1)
  have hcar : ∀ o', m o' ≠ .none → Carry m (upd m o (.bldc g n k e get)) ρ (upd ρ o nr) o' := fun o' hn => by
    by_cases e1 : o' = o
    · subst e1
      obtain ⟨g0, n0, k0, h1, h2⟩ := hold hn
      exact newer_carry h1 hn' h2
    · exact Carry.same (upd_ne _ _ _ e1) (upd_ne _ _ _ e1)
  refine h.one o _ nr hb hL hother (fun _ => hnew) (by simp) (fun o' hr => .inr (hclean o' hr)) (fun e => ?_) (fun e => absurd e hok.one) (hmem hcar) (fun hn => hcar o hn) (fun x q i off hn => ?_) (fun x q lo c hn => ?_)
  · rcases hok.h with h1 | ⟨g0, n0, k0, h1, _⟩
    · exact h1.2
    · exact absurd e (live_bldy h1).2
  · obtain ⟨g0, n0, k0, h1, h2⟩ := hold hn
    exact newer_ep h1 hn' h2 x q i off
  · obtain ⟨g0, n0, k0, h1, h2⟩ := hold hn
    exact newer_sub h1 hn' h2 x q lo c
theorem Rel.newBldC {E : Env} {ρ : Id → Option (Nat × Nat)} {t : Nat → TV} {m : Id → Mem} {a : Act} {w w' : World} (h : Rel E ρ t m a w) (o : Id) (g n k cap : Nat) (e : TypeId) (get : Nat → Nat → CV) (arr : Array Value)
    (hb : Below w.heap.size w w') (hgt : w.heap.size < w'.heap.size) (hblk : w'.heap[w.heap.size]? = some (.cells arr e (0, 0))) (hsz : arr.size = cap * k) (hn : n ≤ cap) (hc : cap ≤ maxLen)
    (hclean : ∀ o', (Mem.bldc g n k e get).refs o' → m o' ≠ .none)
    (hel : ∀ i, i < n → ∀ j, j < k → ∃ x, arr[i * k + j]? = some x ∧ CVk (L E m ρ w) m ρ w x (get i j)) (hok : NewGen E m o g) :
    Rel E (upd ρ o (some (w.heap.size, cap))) t (upd m o (.bldc g n k e get)) a w' ∧ TOk E (upd m o (.bldc g n k e get)) (upd ρ o (some (w.heap.size, cap))) w' (.slice (some ⟨w.heap.size, 0, none⟩) n cap) (.hdl o g) := by
  have hL := L_new h o (.bldc g n k e get) cap hb hgt
  refine ⟨h.newGenC hok (Bx.of hb h.below.size) hL ?_ ?_ hclean (fun hcar => ?_), ?_⟩
  · intro o' b c _ l r
    exact hb.block b (h.lo o' b c l r).2
  · intro b c hr
    simp only [Option.some.injEq, Prod.mk.injEq] at hr
    obtain ⟨rfl, rfl⟩ := hr
    exact ⟨⟨.inr h.below.size, hgt⟩, fun o' c' _ l r => absurd (h.lo o' _ c' l r).2 (Nat.lt_irrefl _)⟩
  · refine .inr ⟨w.heap.size, cap, arr, upd_same _ _ _, hblk, hsz, hn, hc, fun i hi j hj => ?_⟩
    obtain ⟨x, hx, hr⟩ := hel i hi j hj
    exact ⟨x, hx, hr.mono hL (fun o' ho' => hcar o' (hclean o' ⟨i, j, hi, hj, ho'⟩))⟩
  · simp only [TOk, HdlOk, HdlAt, upd_same]; exact ⟨rfl, Nat.le_refl _, fun _ => trivial⟩
theorem Rel.setBldC {E : Env} {ρ : Id → Option (Nat × Nat)} {t : Nat → TV} {m : Id → Mem} {a : Act} {w : World} (h : Rel E ρ t m a w) (o : Id) (hl : (m o).live) (g n k b cap : Nat) (hρ : ρ o = some (b, cap)) (e : TypeId) (get : Nat → Nat → CV) (old arr : Array Value)
    (hblk : w.heap[b]? = some (.cells old e (0, 0))) (hsz : arr.size = cap * k) (hn : n ≤ cap) (hc : cap ≤ maxLen)
    (hclean : ∀ o', (Mem.bldc g n k e get).refs o' → m o' ≠ .none)
    (hel : ∀ i, i < n → ∀ j, j < k → ∃ x, arr[i * k + j]? = some x ∧ CVk (L E m ρ w) m ρ w x (get i j)) (hok : NewGen E m o g) :
    Rel E (upd ρ o (some (b, cap))) t (upd m o (.bldc g n k e get)) a (w.setRow b arr) ∧ TOk E (upd m o (.bldc g n k e get)) (upd ρ o (some (b, cap))) (w.setRow b arr) (.slice (some ⟨b, 0, none⟩) n cap) (.hdl o g) := by
  obtain ⟨k1, k2, k3⟩ := L_store h hl hρ (.bldc g n k e get) arr
  refine ⟨h.newGenC hok k1 k2 k3 ?_ hclean (fun hcar => ?_), ?_⟩
  · intro b' c' hr
    simp only [Option.some.injEq, Prod.mk.injEq] at hr
    obtain ⟨rfl, rfl⟩ := hr
    obtain ⟨q1, q2⟩ := h.lo o b cap hl hρ
    exact ⟨⟨q1, by simpa using q2⟩, fun o' c'' ho' l' r' => ho' (h.inj o' o b c'' cap l' hl r' hρ)⟩
  · refine .inr ⟨b, cap, arr, upd_same _ _ _, setRow_heap w b _ _ e _ hblk, hsz, hn, hc, fun i hi j hj => ?_⟩
    obtain ⟨x, hx, hr⟩ := hel i hi j hj
    exact ⟨x, hx, hr.mono k2 (fun o' ho' => hcar o' (hclean o' ⟨i, j, hi, hj, ho'⟩))⟩
  · simp only [TOk, HdlOk, HdlAt, upd_same]; exact ⟨rfl, Nat.le_refl _, fun _ => trivial⟩

theorem made1 (z v : Value) : Array.foldl (fun (cs : Array Value) (x : Value × Nat) => cs.setIfInBounds x.snd x.fst) #[z] (#[v].zipIdx) 0 1 = #[v] := rfl
theorem stepOk_buildH {P : Program} {o : Oper} {t : Nat → TV} {m : Id → Mem} {TT : Tab} (hT : TabOk P TT) {ty : TypeId} {parts : Array (Nat × Operand)} {len : Nat} (ho : o.op = .buildSlice ty len parts) {K : Kont} (h : buildH TT ty len parts.toList t m o.dst K) :
    ∃ z mo rd, K z mo rd ∧ StepOk P o t m z mo rd := by
  unfold buildH at h
  split at h
  · rename_i T d hty hdd
    split at h
    · rename_i e hk
      split at h
      · rename_i TE hte
        split at h
        · rename_i x hp hm
          split at h
          · rename_i b g hx
            replace h := bif_and h; obtain ⟨hs, h⟩ := h
            simp only [Bool.and_eq_true] at hs
            obtain rfl := Nat.eq_of_beq_eq_true hs.1
            have hsz := Nat.eq_of_beq_eq_true hs.2
            have hTy := hT ty T hty
            have hkk : P.underlying ty = some (.slice e) := by have := hTy.kind; rw [hk] at this; exact this
            have hpe : parts = #[(0, x)] := by rw [← Array.toArray_toList (xs := parts), hp]
            refine ⟨_, _, _, h, ?_⟩
            refine stepOk_mem fun E ρ t' m' a w hP ha hm' hd hR => ?_
            have hmd : m' (.n d) = .none := by rw [hm'.at (.n d) (by simp [Id.key])]; exact hm
            have hmx : x ∈ o.op.operands.toList := by rw [ho]; simp [Op.operands, hpe]
            have h1 := (opd_ok hR x).1
            have h2 := (opd_ok hR x).2
            rw [opd_agree ha hmx, hx] at h1 h2
            obtain ⟨ie, ze, g1, g2, g3, g4, g5, hz⟩ := zero_rd (hT e TE hte) (L E m' ρ w) w
            have hzl := hz.length
            have hz1 : ze.cells.size = 1 := by rw [g5, hsz]
            have hone : (a.eval x).oneCell' = true := h1.1
            obtain ⟨k1, k2⟩ := hR.newBldC (.n d) 0 1 1 1 e (fun _ _ => .hdl b g) #[a.eval x] (below_alloc w (.cells #[a.eval x] e)) (by simp) (heap_alloc_new' w _) (by simp) (Nat.le_refl _) (by simp [maxLen])
              (fun o' hr => by obtain ⟨_, _, _, _, hr⟩ := hr; exact h2 o' hr)
              (fun i hi j hj => by
                obtain rfl : i = 0 := by omega
                obtain rfl : j = 0 := by omega
                exact ⟨_, rfl, h1⟩) (NewGen.fresh hmd (hd d hdd))
            refine ⟨_, _, _, _, ?_, .inl rfl, k1, k2, fun b' hb' => by cases hb'; rw [upd_same]; simp⟩
            simp [execOp, ho, hpe, Instr.buildSlice, run_underlying hkk, run_sizeOf' (hT e TE hte), hsz, zeroValue, typeInfo, g1, g4, hz1, newRow, Instr.fill]
            rw [cells_one hone]
            simp [made1]
            have hr1 : Array.range 1 = #[0] := rfl
            rw [hr1, show (Array.map (fun x => ze.cells[x % 1]!) #[0]).setIfInBounds 0 (a.eval x) = #[a.eval x] by simp [Array.setIfInBounds]]
          · exact h.elim
        · exact h.elim
      · exact h.elim
    · exact h.elim
  · exact h.elim

theorem stepOk_appendC {P : Program} {o : Oper} {t : Nat → TV} {m : Id → Mem} {TT : Tab} (hT : TabOk P TT) {ty : TypeId} {T : Ty} (hty : TT ty = some T) {e : Nat} (hk : T.kind = .slc e) {TE : Ty} (hte : TT e = some TE) {s x : Operand} {d : Nat} (hdd : o.dst = some d)
    {c : Call} (ho : o.op = .call c) (hcal : c.callee = .builtin .append) (hargs : c.args.toList = [s, x]) (hat : c.argTypes.toList = [ty, ty]) {K : Kont} (h : appendC TE e m (opd t s) (opd t x) K) :
    ∃ z mo rd, K z mo rd ∧ StepOk P o t m z mo rd := by
  have hma : c.args = #[s, x] := by rw [← Array.toArray_toList (xs := c.args), hargs]
  have hmt : c.argTypes = #[ty, ty] := by rw [← Array.toArray_toList (xs := c.argTypes), hat]
  have hms : s ∈ o.op.operands.toList := by rw [ho]; simp [Op.operands, Call.operands, hcal, hma]
  have hmx : x ∈ o.op.operands.toList := by rw [ho]; simp [Op.operands, Call.operands, hcal, hma]
  have hTy := hT ty T hty
  have hkk : P.underlying ty = some (.slice e) := by have := hTy.kind; rw [hk] at this; exact this
  have hTE := hT e TE hte
  obtain ⟨ie, ze, g1, g2, g3, g4, _⟩ := hTE.info
  have hzs := size_zero hTE g1 g4
  have hexec : ∀ (a : Act) (w : World) (u v r : Value) (w' : World), a.eval s = u → a.eval x = v → (Builtin.append_ #[ty, ty] o.type #[u, v]).run P w = .ok r w' → (execOp a.eval o).run P w = .ok (.value r) w' := by
    intro a w u v r w' hu hv hr
    simp [execOp, ho, resolve, invoke, hcal, hma, hmt, builtin, hu, hv, hr]
  unfold appendC at h
  split at h
  · rename_i b g b2 gx hs hx
    replace h := lookW_iff h
    split at h
    · rename_i g1' n k e' get hb
      replace h := lookW_iff h
      split at h
      · rename_i g2' n' k' e2 get' hb2
        replace h := bif_and h; obtain ⟨hq, h⟩ := h
        simp only [Bool.and_eq_true] at hq
        obtain ⟨⟨q1, q2⟩, ⟨q3, q4⟩, q5, q6⟩ := hq
        obtain rfl := Nat.eq_of_beq_eq_true q1
        obtain rfl := Nat.eq_of_beq_eq_true q2
        obtain rfl := Nat.eq_of_beq_eq_true q3
        obtain rfl := Nat.eq_of_beq_eq_true q4
        obtain rfl := Nat.eq_of_beq_eq_true q5
        have hn0 : 0 < n' := lt_of_blt q6
        obtain ⟨⟨hby, hmax⟩, h⟩ := h
        refine ⟨_, _, _, h, stepOk_mem fun E ρ t' m' a w hP ha hm hd hR => ?_⟩
        have hb' : m' b = .bldc g n TE.size e' get := by rw [hm b (by simp)]; exact hb
        have hb2' : m' b2 = .bldc gx n' TE.size e2 get' := by rw [hm b2 (by simp)]; exact hb2
        have h1 := (opd_ok hR s).1
        rw [opd_agree ha hms, hs] at h1
        simp only [TOk, HdlOk, HdlAt, hb'] at h1
        have h3 := h1.2.2 trivial
        have h1x := (opd_ok hR x).1
        rw [opd_agree ha hmx, hx] at h1x
        simp only [TOk, HdlOk, HdlAt, hb2'] at h1x
        have h3x := h1x.2.2 trivial
        have hso : NewGen E m' b (g + 2) := .oldC hb'
        have hne : ∀ b', (TV.hdl b (g + 2)).refs b' → upd m' b (.bldc (g + 2) (n + n') TE.size e' fun i j => bif Nat.blt i n then get i j else get' (i - n) j) b' ≠ .none := fun b' hb' => by cases hb'; rw [upd_same]; simp
        have hclean : ∀ o', (Mem.bldc (g + 2) (n + n') TE.size e' fun i j => bif Nat.blt i n then get i j else get' (i - n) j).refs o' → m' o' ≠ .none := by
          rintro o' ⟨i, j, hi, hj, hr⟩
          replace hr : (bif Nat.blt i n then get i j else get' (i - n) j).refs o' := hr
          cases hin : Nat.blt i n with
          | true =>
            rw [hin] at hr
            exact hR.cleanM b o' (by rw [hb']; exact ⟨i, j, lt_of_blt hin, hj, hr⟩)
          | false =>
            rw [hin] at hr
            have hni : ¬ i < n := fun q => by rw [blt_t q] at hin; cases hin
            exact hR.cleanM b2 o' (by rw [hb2']; exact ⟨i - n, j, by omega, hj, hr⟩)
        -- the source
        have hmx := hR.mem b2
        rw [hb2'] at hmx
        rcases hmx with ⟨_, hn1⟩ | ⟨bx, capx, arx, hρx, hblkx, hszx, hncx, hcmx, helx⟩
        · omega
        rw [hρx] at h3x
        have r2 : ∀ i, i < n' → ∀ j, j < TE.size → w.cell? ((⟨bx, 0, none⟩ : Addr).add (i * TE.size + j)) = some ((arx[i * TE.size + j]?).getD Go.undef) := fun i hi j hj => by
          obtain ⟨y, hy, _⟩ := helx i hi j hj
          rw [addr_add]
          simp [World.cell?, hblkx, hy]
        have r3 : ∀ i, i < n' → ∀ j, j < TE.size → CVk (L E m' ρ w) m' ρ w ((arx[i * TE.size + j]?).getD Go.undef) (get' i j) := fun i hi j hj => by
          obtain ⟨y, hy, hr⟩ := helx i hi j hj
          simp only [hy, Option.getD_some]; exact hr
        obtain ⟨news, q1, q2, q3, q4⟩ := src_list (S := fun _ => True) (get := fun i j => .v ((arx[i * TE.size + j]?).getD Go.undef)) r2 (fun i hi j hj => Rd.v (r3 i hi j hj).oneCell)
        -- a new row
        have fresh : ∀ (cap' : Nat) (olds : List Value) (rest : Array Value),
            olds.length = n * TE.size → rest.size = (cap' - (n + n')) * TE.size → n + n' ≤ cap' → cap' ≤ maxLen →
            (∀ i, i < n → ∀ j, j < TE.size → ∃ y, olds[i * TE.size + j]? = some y ∧ CVk (L E m' ρ w) m' ρ w y (get i j)) →
            ∃ ρ', Rel E ρ' t' (upd m' b (.bldc (g + 2) (n + n') TE.size e' fun i j => bif Nat.blt i n then get i j else get' (i - n) j)) a (w.drew.alloc (.cells (olds.toArray ++ news.toArray ++ rest) e')) ∧
              TOk E (upd m' b (.bldc (g + 2) (n + n') TE.size e' fun i j => bif Nat.blt i n then get i j else get' (i - n) j)) ρ' (w.drew.alloc (.cells (olds.toArray ++ news.toArray ++ rest) e')) (.slice (some ⟨w.heap.size, 0, none⟩) (n + n') cap') (.hdl b (g + 2)) := by
          intro cap' olds rest ho1 hr1 hc1 hc2 hold
          refine ⟨_, hR.newBldC b (g + 2) (n + n') TE.size cap' e' _ (olds.toArray ++ news.toArray ++ rest) (below_drew_alloc w _) (by simp) (heap_alloc_new' w.drew _) ?_ hc1 hc2 hclean ?_ hso⟩
          · simp only [Array.size_append, List.size_toArray, ho1, q1, hr1, ← Nat.add_mul]
            congr 1
            omega
          · intro i hi j hj
            by_cases hin : i < n
            · obtain ⟨y, hy, hr⟩ := hold i hin j hj
              refine ⟨y, ?_, ?_⟩
              · have hlt : i * TE.size + j < olds.length := by
                  rcases Nat.lt_or_ge (i * TE.size + j) olds.length with h | h
                  · exact h
                  · rw [List.getElem?_eq_none h] at hy; simp at hy
                rw [Array.getElem?_append, if_pos (by simp; omega), Array.getElem?_append, if_pos (by simpa using hlt)]
                simpa using hy
              · show CVk _ _ _ _ y (bif _ then _ else _)
                rw [blt_t hin]; exact hr
            · have hy := q4 (i - n) (by omega) j hj
              refine ⟨(arx[(i - n) * TE.size + j]?).getD Go.undef, ?_, ?_⟩
              · have hlt : (i - n) * TE.size + j < news.length := by
                  rcases Nat.lt_or_ge ((i - n) * TE.size + j) news.length with h | h
                  · exact h
                  · rw [List.getElem?_eq_none h] at hy; simp at hy
                have hsub : i * TE.size + j - olds.length = (i - n) * TE.size + j := by
                  have : i * TE.size = n * TE.size + (i - n) * TE.size := by rw [← Nat.add_mul]; congr 1; omega
                  omega
                have hge : ¬ i * TE.size + j < olds.length := by
                  have : n * TE.size ≤ i * TE.size := Nat.mul_le_mul_right _ (by omega)
                  omega
                rw [Array.getElem?_append, if_pos (by simp; omega), Array.getElem?_append, if_neg (by simpa using hge)]
                simp only [List.size_toArray, List.getElem?_toArray, hsub]
                exact hy
              · show CVk _ _ _ _ _ (bif _ then _ else _)
                rw [blt_f hin]; exact r3 (i - n) (by omega) j hj
        have hmo := hR.mem b
        rw [hb'] at hmo
        rcases hmo with ⟨hρ, hn0'⟩ | ⟨bl, cap, arr, hρ, hblk, hsz, hnc, hcm, hel⟩
        · rw [hρ] at h3
          subst hn0'
          have hmax' : (n' : Int) ≤ 9223372036854775807 := by simp only [maxLen] at hmax; omega
          have hrun := run_append_nil (P := P) w ty o.type e' ie ze hkk g1 g4 ⟨bx, 0, none⟩ n' capx news (by rw [g2]; exact q1) q2 hn0 hmax' (by rw [g3]; rw [Nat.zero_add] at hby; omega)
          have hcap := grownCap_ge w n' 0 e'
          have hcm := grownCap_le_maxLen w n' 0 e' (by omega)
          obtain ⟨ρ', k1, k2⟩ := fresh (grownCap w n' 0 e') [] (Builtin.zeroCells ze.cells (grownCap w n' 0 e' - n')) (by simp) (by rw [size_zeroCells', hzs, g2, Nat.zero_add]) (by omega) hcm (fun i hi => absurd hi (Nat.not_lt_zero i))
          simp only [Array.empty_append] at k1 k2
          refine ⟨_, _, _, _, hexec a w _ _ _ _ h3 h3x hrun, .inl rfl, k1, ?_, hne⟩
          have := k2
          rw [Nat.zero_add] at this ⊢
          exact this
        · rw [hρ] at h3
          by_cases hroom : n + n' ≤ cap
          · have hfit : n * TE.size + news.length ≤ arr.size := by rw [q1, hsz, ← Nat.add_mul]; exact Nat.mul_le_mul_right _ hroom
            have hrun := run_append_room (P := P) w ty o.type e' ie hkk g1 bl n cap arr hblk ⟨bx, 0, none⟩ n' capx news (by rw [g2]; exact q1) q2 q3 hroom (by rw [g2]; exact hfit)
            rw [g2] at hrun
            obtain ⟨k1, k2⟩ := hR.setBldC b (mem_live_bldc hb') (g + 2) (n + n') TE.size bl cap hρ e' (fun i j => bif Nat.blt i n then get i j else get' (i - n) j) arr (arr.toList.take (n * TE.size) ++ news ++ arr.toList.drop (n * TE.size + news.length)).toArray hblk
              (by simp; omega) hroom hcm hclean (fun i hi j hj => by
                by_cases hin : i < n
                · obtain ⟨y, hy, hr⟩ := hel i hin j hj
                  refine ⟨y, ?_, by rw [blt_t hin]; exact hr⟩
                  have hlt : i * TE.size + j < n * TE.size := by
                    have : (i + 1) * TE.size ≤ n * TE.size := Nat.mul_le_mul_right _ hin
                    rw [Nat.add_mul] at this; omega
                  have hmin : min (n * TE.size) arr.size = n * TE.size := by omega
                  simp only [List.getElem?_toArray, List.append_assoc, List.getElem?_append, List.length_take, Array.length_toList, hmin, if_pos hlt, List.getElem?_take]
                  simpa using hy
                · have hn2 : i - n < n' := by omega
                  refine ⟨_, ?_, by rw [blt_f hin]; exact r3 (i - n) hn2 j hj⟩
                  have hge : ¬ i * TE.size + j < n * TE.size := by
                    have : n * TE.size ≤ i * TE.size := Nat.mul_le_mul_right _ (by omega)
                    omega
                  have hsub : i * TE.size + j - n * TE.size = (i - n) * TE.size + j := by
                    have : i * TE.size = n * TE.size + (i - n) * TE.size := by rw [← Nat.add_mul]; congr 1; omega
                    omega
                  have hlt : (i - n) * TE.size + j < news.length := by
                    rw [q1]
                    have : (i - n + 1) * TE.size ≤ n' * TE.size := Nat.mul_le_mul_right _ hn2
                    rw [Nat.add_mul] at this; omega
                  have hmin : min (n * TE.size) arr.size = n * TE.size := by omega
                  simp only [List.getElem?_toArray, List.append_assoc, List.getElem?_append, List.length_take, Array.length_toList, hmin, if_neg hge, hsub, if_pos hlt]
                  exact q4 (i - n) hn2 j hj) hso
            exact ⟨_, _, _, _, hexec a w _ _ _ _ h3 h3x hrun, .inl rfl, k1, k2, hne⟩
          · have hmax' : ((n + n' : Nat) : Int) ≤ 9223372036854775807 := by simp only [maxLen] at hmax; omega
            have holds : ∃ olds : List Value, olds.length = n * TE.size ∧ (∀ j v, olds[j]? = some v → w.cell? ((⟨bl, 0, none⟩ : Addr).add j) = some v) ∧ ∀ i, i < n → ∀ j, j < TE.size → ∃ y, olds[i * TE.size + j]? = some y ∧ CVk (L E m' ρ w) m' ρ w y (get i j) := by
              have hle : n * TE.size ≤ arr.size := by rw [hsz]; exact Nat.mul_le_mul_right _ hnc
              refine ⟨arr.toList.take (n * TE.size), by simp; omega, fun j v hv => ?_, fun i hi j hj => ?_⟩
              · rw [List.getElem?_take] at hv
                split at hv
                · rw [addr_add]
                  have : arr[j]? = some v := by simpa using hv
                  simp [World.cell?, hblk, this]
                · simp at hv
              · obtain ⟨y, hy, hr⟩ := hel i hi j hj
                refine ⟨y, ?_, hr⟩
                have hlt : i * TE.size + j < n * TE.size := by
                  have : (i + 1) * TE.size ≤ n * TE.size := Nat.mul_le_mul_right _ hi
                  rw [Nat.add_mul] at this; omega
                rw [List.getElem?_take, if_pos hlt]
                simpa using hy
            obtain ⟨olds, p1, p2, p3⟩ := holds
            have hrun := run_append_grow (P := P) w ty o.type e' ie ze hkk g1 g4 ⟨bl, 0, none⟩ n cap olds (by rw [g2]; exact p1) p2 ⟨bx, 0, none⟩ n' capx news (by rw [g2]; exact q1) q2 (by omega) hmax' (by rw [g3]; exact growslice_fits (by omega) hby)
            have hcap := grownCap_ge w (n + n') cap e'
            have hcm' := grownCap_le_maxLen w (n + n') cap e' hmax
            obtain ⟨ρ', k1, k2⟩ := fresh (grownCap w (n + n') cap e') olds (Builtin.zeroCells ze.cells (grownCap w (n + n') cap e' - (n + n'))) p1 (by rw [size_zeroCells', hzs, g2]) hcap hcm' p3
            exact ⟨_, _, _, _, hexec a w _ _ _ _ h3 h3x hrun, .inl rfl, k1, k2, hne⟩
      · exact h.elim
    · exact h.elim
  · exact h.elim
end Go.Vm
