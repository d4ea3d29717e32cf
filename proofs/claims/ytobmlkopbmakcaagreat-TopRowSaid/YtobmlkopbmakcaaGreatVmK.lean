/-
  An abstract walk over Go's operations: slices whose cells lead to objects are made and appended to.
  An abstract walk over Go's operations: every step that the walk takes is true of the machine.
  An abstract walk over Go's code: regions in whatever order, branches, loops, whole functions.
  An abstract walk over Go's code: regions in whatever order, branches, loops, whole functions.
-/
import Derived.Test.YtobmlkopbmakcaaGreatVmM
namespace Go.Vm
set_option linter.unusedVariables false
set_option linter.unusedSimpArgs false
open Go Go.RowKit

theorem NewGen.oldC {E : Env} {m : Id → Mem} {o : Id} {g n k : Nat} {e : TypeId} {get : Nat → Nat → CV} (h : m o = .bldc g n k e get) : NewGen E m o (g + 2) := ⟨by omega, .inr ⟨g, n, k, by rw [h]; rfl, by omega⟩⟩
/-- The same for cells that may lead to objects. -/
theorem Rel.newGenC {E : Env} {ρ : Id → Option (Nat × Nat)} {t : Nat → TV} {m : Id → Mem} {a : Act} {w w' : World} (h : Rel E ρ t m a w) {o : Id} {g n k : Nat} {e : TypeId} {get : Nat → Nat → CV} {nr : Option (Nat × Nat)} (hok : NewGen E m o g)
    (hb : Bx E.w0.heap.size E.X w w')
    (hL : ∀ b, L E m ρ w b → L E (upd m o (.bldc g n k e get)) (upd ρ o nr) w' b ∧ w'.heap[b]? = w.heap[b]?)
    (hother : ∀ o' b c, o' ≠ o → (m o').live → ρ o' = some (b, c) → w'.heap[b]? = w.heap[b]?)
    (hnew : ∀ b c, nr = some (b, c) → ((E.X b ∨ E.w0.heap.size ≤ b) ∧ b < w'.heap.size) ∧ ∀ o' c', o' ≠ o → (m o').live → ρ o' ≠ some (b, c'))
    (hclean : ∀ o', (Mem.bldc g n k e get).refs o' → m o' ≠ .none)
    (hmem : (∀ o', m o' ≠ .none → Carry m (upd m o (.bldc g n k e get)) ρ (upd ρ o nr) o') → MemOk E (upd m o (.bldc g n k e get)) (upd ρ o nr) w' o (.bldc g n k e get)) : Rel E (upd ρ o nr) t (upd m o (.bldc g n k e get)) a w' := by
  have hn' : (upd m o (.bldc g n k e get) o).bldy = some (g, n, k) := by rw [upd_same]; rfl
  have hold : m o ≠ .none → ∃ g0 n0 k0, (m o).bldy = some (g0, n0, k0) ∧ g0 < g := fun hn => hok.h.resolve_left (fun h => hn h.1)
  have hcar : ∀ o', m o' ≠ .none → Carry m (upd m o (.bldc g n k e get)) ρ (upd ρ o nr) o' := fun o' hn => by
    by_cases e1 : o' = o
    · subst e1
      obtain ⟨g0, n0, k0, h1, h2⟩ := hold hn
      exact newer_carry h1 hn' h2
    · exact Carry.same (upd_ne _ _ _ e1) (upd_ne _ _ _ e1)
  refine h.one o _ nr hb hL hother (fun _ => hnew) (by simp) (fun o' hr => .inr (hclean o' hr)) (fun e => ?_) (fun e => absurd e hok.one) (hmem hcar) (fun hn => hcar o hn) (fun x q i off hn => ?_) (fun x q lo c hn => ?_)
  · rcases hok.h with h1 | ⟨g0, n0, k0, h1, _⟩
    · exact h1.2
    · exact absurd e (live_bldy h1).2
  · obtain ⟨g0, n0, k0, h1, h2⟩ := hold hn
    exact newer_ep h1 hn' h2 x q i off
  · obtain ⟨g0, n0, k0, h1, h2⟩ := hold hn
    exact newer_sub h1 hn' h2 x q lo c
theorem Rel.newBldC {E : Env} {ρ : Id → Option (Nat × Nat)} {t : Nat → TV} {m : Id → Mem} {a : Act} {w w' : World} (h : Rel E ρ t m a w) (o : Id) (g n k cap : Nat) (e : TypeId) (get : Nat → Nat → CV) (arr : Array Value)
    (hb : Below w.heap.size w w') (hgt : w.heap.size < w'.heap.size) (hblk : w'.heap[w.heap.size]? = some (.cells arr e (0, 0))) (hsz : arr.size = cap * k) (hn : n ≤ cap) (hc : cap ≤ maxLen)
    (hclean : ∀ o', (Mem.bldc g n k e get).refs o' → m o' ≠ .none)
    (hel : ∀ i, i < n → ∀ j, j < k → ∃ x, arr[i * k + j]? = some x ∧ CVk (L E m ρ w) m ρ w x (get i j)) (hok : NewGen E m o g) :
    Rel E (upd ρ o (some (w.heap.size, cap))) t (upd m o (.bldc g n k e get)) a w' ∧ TOk E (upd m o (.bldc g n k e get)) (upd ρ o (some (w.heap.size, cap))) w' (.slice (some ⟨w.heap.size, 0, none⟩) n cap) (.hdl o g) := by
  have hL := L_new h o (.bldc g n k e get) cap hb hgt
  refine ⟨h.newGenC hok (Bx.of hb h.below.size) hL ?_ ?_ hclean (fun hcar => ?_), ?_⟩
  · intro o' b c _ l r
    exact hb.block b (h.lo o' b c l r).2
  · intro b c hr
    simp only [Option.some.injEq, Prod.mk.injEq] at hr
    obtain ⟨rfl, rfl⟩ := hr
    exact ⟨⟨.inr h.below.size, hgt⟩, fun o' c' _ l r => absurd (h.lo o' _ c' l r).2 (Nat.lt_irrefl _)⟩
  · refine .inr ⟨w.heap.size, cap, arr, upd_same _ _ _, hblk, hsz, hn, hc, fun i hi j hj => ?_⟩
    obtain ⟨x, hx, hr⟩ := hel i hi j hj
    exact ⟨x, hx, hr.mono hL (fun o' ho' => hcar o' (hclean o' ⟨i, j, hi, hj, ho'⟩))⟩
  · simp only [TOk, HdlOk, HdlAt, upd_same]; exact ⟨rfl, Nat.le_refl _, fun _ => trivial⟩
theorem Rel.setBldC {E : Env} {ρ : Id → Option (Nat × Nat)} {t : Nat → TV} {m : Id → Mem} {a : Act} {w : World} (h : Rel E ρ t m a w) (o : Id) (hl : (m o).live) (g n k b cap : Nat) (hρ : ρ o = some (b, cap)) (e : TypeId) (get : Nat → Nat → CV) (old arr : Array Value)
    (hblk : w.heap[b]? = some (.cells old e (0, 0))) (hsz : arr.size = cap * k) (hn : n ≤ cap) (hc : cap ≤ maxLen)
    (hclean : ∀ o', (Mem.bldc g n k e get).refs o' → m o' ≠ .none)
    (hel : ∀ i, i < n → ∀ j, j < k → ∃ x, arr[i * k + j]? = some x ∧ CVk (L E m ρ w) m ρ w x (get i j)) (hok : NewGen E m o g) :
    Rel E (upd ρ o (some (b, cap))) t (upd m o (.bldc g n k e get)) a (w.setRow b arr) ∧ TOk E (upd m o (.bldc g n k e get)) (upd ρ o (some (b, cap))) (w.setRow b arr) (.slice (some ⟨b, 0, none⟩) n cap) (.hdl o g) := by
  obtain ⟨k1, k2, k3⟩ := L_store h hl hρ (.bldc g n k e get) arr
  refine ⟨h.newGenC hok k1 k2 k3 ?_ hclean (fun hcar => ?_), ?_⟩
  · intro b' c' hr
    simp only [Option.some.injEq, Prod.mk.injEq] at hr
    obtain ⟨rfl, rfl⟩ := hr
    obtain ⟨q1, q2⟩ := h.lo o b cap hl hρ
    exact ⟨⟨q1, by simpa using q2⟩, fun o' c'' ho' l' r' => ho' (h.inj o' o b c'' cap l' hl r' hρ)⟩
  · refine .inr ⟨b, cap, arr, upd_same _ _ _, setRow_heap w b _ _ e _ hblk, hsz, hn, hc, fun i hi j hj => ?_⟩
    obtain ⟨x, hx, hr⟩ := hel i hi j hj
    exact ⟨x, hx, hr.mono k2 (fun o' ho' => hcar o' (hclean o' ⟨i, j, hi, hj, ho'⟩))⟩
  · simp only [TOk, HdlOk, HdlAt, upd_same]; exact ⟨rfl, Nat.le_refl _, fun _ => trivial⟩

theorem made1 (z v : Value) : Array.foldl (fun (cs : Array Value) (x : Value × Nat) => cs.setIfInBounds x.snd x.fst) #[z] (#[v].zipIdx) 0 1 = #[v] := rfl
theorem stepOk_buildH {P : Program} {o : Oper} {t : Nat → TV} {m : Id → Mem} {TT : Tab} (hT : TabOk P TT) {ty : TypeId} {parts : Array (Nat × Operand)} {len : Nat} (ho : o.op = .buildSlice ty len parts) {K : Kont} (h : buildH TT ty len parts.toList t m o.dst K) :
    ∃ z mo rd, K z mo rd ∧ StepOk P o t m z mo rd := by
  unfold buildH at h
  split at h
  · rename_i T d hty hdd
    split at h
    · rename_i e hk
      split at h
      · rename_i TE hte
        split at h
        · rename_i x hp hm
          split at h
          · rename_i b g hx
            replace h := bif_and h; obtain ⟨hs, h⟩ := h
            simp only [Bool.and_eq_true] at hs
            obtain rfl := Nat.eq_of_beq_eq_true hs.1
            have hsz := Nat.eq_of_beq_eq_true hs.2
            have hTy := hT ty T hty
            have hkk : P.underlying ty = some (.slice e) := by have := hTy.kind; rw [hk] at this; exact this
            have hpe : parts = #[(0, x)] := by rw [← Array.toArray_toList (xs := parts), hp]
            refine ⟨_, _, _, h, ?_⟩
            refine stepOk_mem fun E ρ t' m' a w hP ha hm' hd hR => ?_
            have hmd : m' (.n d) = .none := by rw [hm'.at (.n d) (by simp [Id.key])]; exact hm
            have hmx : x ∈ o.op.operands.toList := by rw [ho]; simp [Op.operands, hpe]
            have h1 := (opd_ok hR x).1
            have h2 := (opd_ok hR x).2
            rw [opd_agree ha hmx, hx] at h1 h2
            obtain ⟨ie, ze, g1, g2, g3, g4, g5, hz⟩ := zero_rd (hT e TE hte) (L E m' ρ w) w
            have hzl := hz.length
            have hz1 : ze.cells.size = 1 := by rw [g5, hsz]
            have hone : (a.eval x).oneCell' = true := h1.1
            obtain ⟨k1, k2⟩ := hR.newBldC (.n d) 0 1 1 1 e (fun _ _ => .hdl b g) #[a.eval x] (below_alloc w (.cells #[a.eval x] e)) (by simp) (heap_alloc_new' w _) (by simp) (Nat.le_refl _) (by simp [maxLen])
              (fun o' hr => by obtain ⟨_, _, _, _, hr⟩ := hr; exact h2 o' hr)
              (fun i hi j hj => by
                obtain rfl : i = 0 := by omega
                obtain rfl : j = 0 := by omega
                exact ⟨_, rfl, h1⟩) (NewGen.fresh hmd (hd d hdd))
            refine ⟨_, _, _, _, ?_, .inl rfl, k1, k2, fun b' hb' => by cases hb'; rw [upd_same]; simp⟩
            simp [execOp, ho, hpe, Instr.buildSlice, run_underlying hkk, run_sizeOf' (hT e TE hte), hsz, zeroValue, typeInfo, g1, g4, hz1, newRow, Instr.fill]
            rw [cells_one hone]
            simp [made1]
            have hr1 : Array.range 1 = #[0] := rfl
            rw [hr1, show (Array.map (fun x => ze.cells[x % 1]!) #[0]).setIfInBounds 0 (a.eval x) = #[a.eval x] by simp [Array.setIfInBounds]]
          · exact h.elim
        · exact h.elim
      · exact h.elim
    · exact h.elim
  · exact h.elim

theorem stepOk_appendC {P : Program} {o : Oper} {t : Nat → TV} {m : Id → Mem} {TT : Tab} (hT : TabOk P TT) {ty : TypeId} {T : Ty} (hty : TT ty = some T) {e : Nat} (hk : T.kind = .slc e) {TE : Ty} (hte : TT e = some TE) {s x : Operand} {d : Nat} (hdd : o.dst = some d)
    {c : Call} (ho : o.op = .call c) (hcal : c.callee = .builtin .append) (hargs : c.args.toList = [s, x]) (hat : c.argTypes.toList = [ty, ty]) {K : Kont} (h : appendC TE e m (opd t s) (opd t x) K) :
    ∃ z mo rd, K z mo rd ∧ StepOk P o t m z mo rd := by
  have hma : c.args = #[s, x] := by rw [← Array.toArray_toList (xs := c.args), hargs]
  have hmt : c.argTypes = #[ty, ty] := by rw [← Array.toArray_toList (xs := c.argTypes), hat]
  have hms : s ∈ o.op.operands.toList := by rw [ho]; simp [Op.operands, Call.operands, hcal, hma]
  have hmx : x ∈ o.op.operands.toList := by rw [ho]; simp [Op.operands, Call.operands, hcal, hma]
  have hTy := hT ty T hty
  have hkk : P.underlying ty = some (.slice e) := by have := hTy.kind; rw [hk] at this; exact this
  have hTE := hT e TE hte
  obtain ⟨ie, ze, g1, g2, g3, g4, _⟩ := hTE.info
  have hzs := size_zero hTE g1 g4
  have hexec : ∀ (a : Act) (w : World) (u v r : Value) (w' : World), a.eval s = u → a.eval x = v → (Builtin.append_ #[ty, ty] o.type #[u, v]).run P w = .ok r w' → (execOp a.eval o).run P w = .ok (.value r) w' := by
    intro a w u v r w' hu hv hr
    simp [execOp, ho, resolve, invoke, hcal, hma, hmt, builtin, hu, hv, hr]
  unfold appendC at h
  split at h
  · rename_i b g b2 gx hs hx
    replace h := lookW_iff h
    split at h
    · rename_i g1' n k e' get hb
      replace h := lookW_iff h
      split at h
      · rename_i g2' n' k' e2 get' hb2
        replace h := bif_and h; obtain ⟨hq, h⟩ := h
        simp only [Bool.and_eq_true] at hq
        obtain ⟨⟨q1, q2⟩, ⟨q3, q4⟩, q5, q6⟩ := hq
        obtain rfl := Nat.eq_of_beq_eq_true q1
        obtain rfl := Nat.eq_of_beq_eq_true q2
        obtain rfl := Nat.eq_of_beq_eq_true q3
        obtain rfl := Nat.eq_of_beq_eq_true q4
        obtain rfl := Nat.eq_of_beq_eq_true q5
        have hn0 : 0 < n' := lt_of_blt q6
        obtain ⟨⟨hby, hmax⟩, h⟩ := h
        refine ⟨_, _, _, h, stepOk_mem fun E ρ t' m' a w hP ha hm hd hR => ?_⟩
        have hb' : m' b = .bldc g n TE.size e' get := by rw [hm b (by simp)]; exact hb
        have hb2' : m' b2 = .bldc gx n' TE.size e2 get' := by rw [hm b2 (by simp)]; exact hb2
        have h1 := (opd_ok hR s).1
        rw [opd_agree ha hms, hs] at h1
        simp only [TOk, HdlOk, HdlAt, hb'] at h1
        have h3 := h1.2.2 trivial
        have h1x := (opd_ok hR x).1
        rw [opd_agree ha hmx, hx] at h1x
        simp only [TOk, HdlOk, HdlAt, hb2'] at h1x
        have h3x := h1x.2.2 trivial
        have hso : NewGen E m' b (g + 2) := .oldC hb'
        have hne : ∀ b', (TV.hdl b (g + 2)).refs b' → upd m' b (.bldc (g + 2) (n + n') TE.size e' fun i j => bif Nat.blt i n then get i j else get' (i - n) j) b' ≠ .none := fun b' hb' => by cases hb'; rw [upd_same]; simp
        have hclean : ∀ o', (Mem.bldc (g + 2) (n + n') TE.size e' fun i j => bif Nat.blt i n then get i j else get' (i - n) j).refs o' → m' o' ≠ .none := by
          rintro o' ⟨i, j, hi, hj, hr⟩
          replace hr : (bif Nat.blt i n then get i j else get' (i - n) j).refs o' := hr
          cases hin : Nat.blt i n with
          | true =>
            rw [hin] at hr
            exact hR.cleanM b o' (by rw [hb']; exact ⟨i, j, lt_of_blt hin, hj, hr⟩)
          | false =>
            rw [hin] at hr
            have hni : ¬ i < n := fun q => by rw [blt_t q] at hin; cases hin
            exact hR.cleanM b2 o' (by rw [hb2']; exact ⟨i - n, j, by omega, hj, hr⟩)
        -- the source
        have hmx := hR.mem b2
        rw [hb2'] at hmx
        rcases hmx with ⟨_, hn1⟩ | ⟨bx, capx, arx, hρx, hblkx, hszx, hncx, hcmx, helx⟩
        · omega
        rw [hρx] at h3x
        have r2 : ∀ i, i < n' → ∀ j, j < TE.size → w.cell? ((⟨bx, 0, none⟩ : Addr).add (i * TE.size + j)) = some ((arx[i * TE.size + j]?).getD Go.undef) := fun i hi j hj => by
          obtain ⟨y, hy, _⟩ := helx i hi j hj
          rw [addr_add]
          simp [World.cell?, hblkx, hy]
        have r3 : ∀ i, i < n' → ∀ j, j < TE.size → CVk (L E m' ρ w) m' ρ w ((arx[i * TE.size + j]?).getD Go.undef) (get' i j) := fun i hi j hj => by
          obtain ⟨y, hy, hr⟩ := helx i hi j hj
          simp only [hy, Option.getD_some]; exact hr
        obtain ⟨news, q1, q2, q3, q4⟩ := src_list (S := fun _ => True) (get := fun i j => .v ((arx[i * TE.size + j]?).getD Go.undef)) r2 (fun i hi j hj => Rd.v (r3 i hi j hj).oneCell)
        -- a new row
        have fresh : ∀ (cap' : Nat) (olds : List Value) (rest : Array Value),
            olds.length = n * TE.size → rest.size = (cap' - (n + n')) * TE.size → n + n' ≤ cap' → cap' ≤ maxLen →
            (∀ i, i < n → ∀ j, j < TE.size → ∃ y, olds[i * TE.size + j]? = some y ∧ CVk (L E m' ρ w) m' ρ w y (get i j)) →
            ∃ ρ', Rel E ρ' t' (upd m' b (.bldc (g + 2) (n + n') TE.size e' fun i j => bif Nat.blt i n then get i j else get' (i - n) j)) a (w.drew.alloc (.cells (olds.toArray ++ news.toArray ++ rest) e')) ∧
              TOk E (upd m' b (.bldc (g + 2) (n + n') TE.size e' fun i j => bif Nat.blt i n then get i j else get' (i - n) j)) ρ' (w.drew.alloc (.cells (olds.toArray ++ news.toArray ++ rest) e')) (.slice (some ⟨w.heap.size, 0, none⟩) (n + n') cap') (.hdl b (g + 2)) := by
          intro cap' olds rest ho1 hr1 hc1 hc2 hold
          refine ⟨_, hR.newBldC b (g + 2) (n + n') TE.size cap' e' _ (olds.toArray ++ news.toArray ++ rest) (below_drew_alloc w _) (by simp) (heap_alloc_new' w.drew _) ?_ hc1 hc2 hclean ?_ hso⟩
          · simp only [Array.size_append, List.size_toArray, ho1, q1, hr1, ← Nat.add_mul]
            congr 1
            omega
          · intro i hi j hj
            by_cases hin : i < n
            · obtain ⟨y, hy, hr⟩ := hold i hin j hj
              refine ⟨y, ?_, ?_⟩
              · have hlt : i * TE.size + j < olds.length := by
                  rcases Nat.lt_or_ge (i * TE.size + j) olds.length with h | h
                  · exact h
                  · rw [List.getElem?_eq_none h] at hy; simp at hy
                rw [Array.getElem?_append, if_pos (by simp; omega), Array.getElem?_append, if_pos (by simpa using hlt)]
                simpa using hy
              · show CVk _ _ _ _ y (bif _ then _ else _)
                rw [blt_t hin]; exact hr
            · have hy := q4 (i - n) (by omega) j hj
              refine ⟨(arx[(i - n) * TE.size + j]?).getD Go.undef, ?_, ?_⟩
              · have hlt : (i - n) * TE.size + j < news.length := by
                  rcases Nat.lt_or_ge ((i - n) * TE.size + j) news.length with h | h
                  · exact h
                  · rw [List.getElem?_eq_none h] at hy; simp at hy
                have hsub : i * TE.size + j - olds.length = (i - n) * TE.size + j := by
                  have : i * TE.size = n * TE.size + (i - n) * TE.size := by rw [← Nat.add_mul]; congr 1; omega
                  omega
                have hge : ¬ i * TE.size + j < olds.length := by
                  have : n * TE.size ≤ i * TE.size := Nat.mul_le_mul_right _ (by omega)
                  omega
                rw [Array.getElem?_append, if_pos (by simp; omega), Array.getElem?_append, if_neg (by simpa using hge)]
                simp only [List.size_toArray, List.getElem?_toArray, hsub]
                exact hy
              · show CVk _ _ _ _ _ (bif _ then _ else _)
                rw [blt_f hin]; exact r3 (i - n) (by omega) j hj
        have hmo := hR.mem b
        rw [hb'] at hmo
        rcases hmo with ⟨hρ, hn0'⟩ | ⟨bl, cap, arr, hρ, hblk, hsz, hnc, hcm, hel⟩
        · rw [hρ] at h3
          subst hn0'
          have hmax' : (n' : Int) ≤ 9223372036854775807 := by simp only [maxLen] at hmax; omega
          have hrun := run_append_nil (P := P) w ty o.type e' ie ze hkk g1 g4 ⟨bx, 0, none⟩ n' capx news (by rw [g2]; exact q1) q2 hn0 hmax' (by rw [g3]; rw [Nat.zero_add] at hby; omega)
          have hcap := grownCap_ge w n' 0 e'
          have hcm := grownCap_le_maxLen w n' 0 e' (by omega)
          obtain ⟨ρ', k1, k2⟩ := fresh (grownCap w n' 0 e') [] (Builtin.zeroCells ze.cells (grownCap w n' 0 e' - n')) (by simp) (by rw [size_zeroCells', hzs, g2, Nat.zero_add]) (by omega) hcm (fun i hi => absurd hi (Nat.not_lt_zero i))
          simp only [Array.empty_append] at k1 k2
          refine ⟨_, _, _, _, hexec a w _ _ _ _ h3 h3x hrun, .inl rfl, k1, ?_, hne⟩
          have := k2
          rw [Nat.zero_add] at this ⊢
          exact this
        · rw [hρ] at h3
          by_cases hroom : n + n' ≤ cap
          · have hfit : n * TE.size + news.length ≤ arr.size := by rw [q1, hsz, ← Nat.add_mul]; exact Nat.mul_le_mul_right _ hroom
            have hrun := run_append_room (P := P) w ty o.type e' ie hkk g1 bl n cap arr hblk ⟨bx, 0, none⟩ n' capx news (by rw [g2]; exact q1) q2 q3 hroom (by rw [g2]; exact hfit)
            rw [g2] at hrun
            obtain ⟨k1, k2⟩ := hR.setBldC b (mem_live_bldc hb') (g + 2) (n + n') TE.size bl cap hρ e' (fun i j => bif Nat.blt i n then get i j else get' (i - n) j) arr (arr.toList.take (n * TE.size) ++ news ++ arr.toList.drop (n * TE.size + news.length)).toArray hblk
              (by simp; omega) hroom hcm hclean (fun i hi j hj => by
                by_cases hin : i < n
                · obtain ⟨y, hy, hr⟩ := hel i hin j hj
                  refine ⟨y, ?_, by rw [blt_t hin]; exact hr⟩
                  have hlt : i * TE.size + j < n * TE.size := by
                    have : (i + 1) * TE.size ≤ n * TE.size := Nat.mul_le_mul_right _ hin
                    rw [Nat.add_mul] at this; omega
                  have hmin : min (n * TE.size) arr.size = n * TE.size := by omega
                  simp only [List.getElem?_toArray, List.append_assoc, List.getElem?_append, List.length_take, Array.length_toList, hmin, if_pos hlt, List.getElem?_take]
                  simpa using hy
                · have hn2 : i - n < n' := by omega
                  refine ⟨_, ?_, by rw [blt_f hin]; exact r3 (i - n) hn2 j hj⟩
                  have hge : ¬ i * TE.size + j < n * TE.size := by
                    have : n * TE.size ≤ i * TE.size := Nat.mul_le_mul_right _ (by omega)
                    omega
                  have hsub : i * TE.size + j - n * TE.size = (i - n) * TE.size + j := by
                    have : i * TE.size = n * TE.size + (i - n) * TE.size := by rw [← Nat.add_mul]; congr 1; omega
                    omega
                  have hlt : (i - n) * TE.size + j < news.length := by
                    rw [q1]
                    have : (i - n + 1) * TE.size ≤ n' * TE.size := Nat.mul_le_mul_right _ hn2
                    rw [Nat.add_mul] at this; omega
                  have hmin : min (n * TE.size) arr.size = n * TE.size := by omega
                  simp only [List.getElem?_toArray, List.append_assoc, List.getElem?_append, List.length_take, Array.length_toList, hmin, if_neg hge, hsub, if_pos hlt]
                  exact q4 (i - n) hn2 j hj) hso
            exact ⟨_, _, _, _, hexec a w _ _ _ _ h3 h3x hrun, .inl rfl, k1, k2, hne⟩
          · have hmax' : ((n + n' : Nat) : Int) ≤ 9223372036854775807 := by simp only [maxLen] at hmax; omega
            have holds : ∃ olds : List Value, olds.length = n * TE.size ∧ (∀ j v, olds[j]? = some v → w.cell? ((⟨bl, 0, none⟩ : Addr).add j) = some v) ∧ ∀ i, i < n → ∀ j, j < TE.size → ∃ y, olds[i * TE.size + j]? = some y ∧ CVk (L E m' ρ w) m' ρ w y (get i j) := by
              have hle : n * TE.size ≤ arr.size := by rw [hsz]; exact Nat.mul_le_mul_right _ hnc
              refine ⟨arr.toList.take (n * TE.size), by simp; omega, fun j v hv => ?_, fun i hi j hj => ?_⟩
              · rw [List.getElem?_take] at hv
                split at hv
                · rw [addr_add]
                  have : arr[j]? = some v := by simpa using hv
                  simp [World.cell?, hblk, this]
                · simp at hv
              · obtain ⟨y, hy, hr⟩ := hel i hi j hj
                refine ⟨y, ?_, hr⟩
                have hlt : i * TE.size + j < n * TE.size := by
                  have : (i + 1) * TE.size ≤ n * TE.size := Nat.mul_le_mul_right _ hi
                  rw [Nat.add_mul] at this; omega
                rw [List.getElem?_take, if_pos hlt]
                simpa using hy
            obtain ⟨olds, p1, p2, p3⟩ := holds
            have hrun := run_append_grow (P := P) w ty o.type e' ie ze hkk g1 g4 ⟨bl, 0, none⟩ n cap olds (by rw [g2]; exact p1) p2 ⟨bx, 0, none⟩ n' capx news (by rw [g2]; exact q1) q2 (by omega) hmax' (by rw [g3]; exact growslice_fits (by omega) hby)
            have hcap := grownCap_ge w (n + n') cap e'
            have hcm' := grownCap_le_maxLen w (n + n') cap e' hmax
            obtain ⟨ρ', k1, k2⟩ := fresh (grownCap w (n + n') cap e') olds (Builtin.zeroCells ze.cells (grownCap w (n + n') cap e' - (n + n'))) p1 (by rw [size_zeroCells', hzs, g2]) hcap hcm' p3
            exact ⟨_, _, _, _, hexec a w _ _ _ _ h3 h3x hrun, .inl rfl, k1, k2, hne⟩
      · exact h.elim
    · exact h.elim
  · exact h.elim
end Go.Vm
namespace Go.Vm
set_option linter.unusedVariables false
set_option linter.unusedSimpArgs false
open Go Go.RowKit

theorem stepOk_makeSlice {P : Program} {o : Oper} {t : Nat → TV} {m : Id → Mem} {TT : Tab} (hT : TabOk P TT) {ty : TypeId} {T : Ty} (hty : TT ty = some T) {e : Nat} (hk : T.kind = .slc e) {TE : Ty} (hte : TT e = some TE) {x y : Operand} (ho : o.op = .makeSlice ty x y) {d : Nat} (hdd : o.dst = some d) (hm : m (.n d) = .none)
    {kn kc : IntKind} {n c : Int} (hx : opd t x = .d (.one (.v (.int kn n)))) (hy : opd t y = .d (.one (.v (.int kc c)))) (hb : 0 ≤ n ∧ n ≤ c ∧ (TE.bytes : Int) * c ≤ 281474976710656 ∧ c ≤ 9223372036854775807) :
    StepOk P o t m (.hdl d 0) [(.n d, .bld 0 n.toNat TE.size e fun _ j => TE.zero.getD j (.v Go.undef))] [d] := by
  have hTy := hT ty T hty
  have hkk : P.underlying ty = some (.slice e) := by have := hTy.kind; rw [hk] at this; exact this
  refine stepOk_mem fun E ρ t' m' a w hP ha hm' hd hR => ?_
  have hmd : m' (.n d) = .none := by rw [hm'.at (.n d) (by simp [Id.key])]; exact hm
  have h1 := (opd_ok hR x).1
  have h2 := (opd_ok hR y).1
  rw [opd_agree ha (by rw [ho]; simp [Op.operands]), hx] at h1
  rw [opd_agree ha (by rw [ho]; simp [Op.operands]), hy] at h2
  have e1 := (Rd.inv_v (show Rd _ _ _ _ from h1)).1
  have e2 := (Rd.inv_v (show Rd _ _ _ _ from h2)).1
  obtain ⟨ie, ze, g1, g2, g3, g4, g5, hz⟩ := zero_rd (hT e TE hte) (L E m' ρ w) w
  obtain ⟨b0, b1, b2, b3⟩ := hb
  have hrun := run_make (P := P) w ty e ie ze hkk g1 g4 kn kc n c b0 b1 (by rw [g3]; exact b2) b3
  have hzl := hz.length
  simp only [Array.length_toList] at hzl
  obtain ⟨k1, k2⟩ := hR.newBld (.n d) 0 n.toNat TE.size c.toNat e (fun _ j => TE.zero.getD j (.v Go.undef)) (madeCells ze.cells (c.toNat * ie.size)) (below_alloc w _) (by simp) (heap_alloc_new' w _) (by rw [size_madeCells, g2]) (by omega) (by simp only [maxLen]; omega)
    (fun i hi j hj => by
      have hpos : 0 < ze.cells.size := by omega
      have hlt : i * TE.size + j < c.toNat * TE.size := by
        have : (i + 1) * TE.size ≤ c.toNat * TE.size := Nat.mul_le_mul_right _ (by omega)
        rw [Nat.add_mul] at this; omega
      obtain ⟨y, hy1, hy2⟩ := hz.getElemRd j (by omega)
      refine ⟨y, ?_, hy2⟩
      have hmade := made_repeat ze.cells c.toNat hpos
      rw [show madeCells ze.cells (c.toNat * ie.size) = (repeatV c.toNat ze.cells.toList).toArray by rw [← hmade, g5, g2]; simp only [madeCells, g5]]
      simp only [List.getElem?_toArray]
      rw [getElem?_repeatV _ (by simpa using hpos) _ _ (by simp only [Array.length_toList, g5]; exact hlt)]
      simp only [Array.length_toList, g5]
      rw [show (i * TE.size + j) % TE.size = j by rw [Nat.mul_comm, Nat.mul_add_mod, Nat.mod_eq_of_lt hj]]
      exact hy1) (NewGen.fresh hmd (hd d hdd))
  refine ⟨_, _, _, _, ?_, .inl rfl, k1, k2, fun b' hb' => by cases hb'; rw [upd_same]; simp⟩
  simp [execOp, ho, e1, e2, hrun]

theorem stepOk_emptySlice {P : Program} {o : Oper} {t : Nat → TV} {m : Id → Mem} {TT : Tab} (hT : TabOk P TT) {ty : TypeId} {T : Ty} (hty : TT ty = some T) {e : Nat} (hk : T.kind = .slc e) {TE : Ty} (hte : TT e = some TE) {parts : Array (Nat × Operand)} (ho : o.op = .buildSlice ty 0 parts) {d : Nat} (hdd : o.dst = some d) (hm : m (.n d) = .none)
    (hp : parts.toList = []) : StepOk P o t m (.hdl d 0) [(.n d, .bld 0 0 TE.size e fun _ _ => .v Go.undef)] [d] := by
  have hTy := hT ty T hty
  have hkk : P.underlying ty = some (.slice e) := by have := hTy.kind; rw [hk] at this; exact this
  have hpe : parts = #[] := by rw [← Array.toArray_toList (xs := parts), hp]
  refine stepOk_mem fun E ρ t' m' a w hP ha hm' hd hR => ?_
  have hmd : m' (.n d) = .none := by rw [hm'.at (.n d) (by simp [Id.key])]; exact hm
  obtain ⟨k1, k2⟩ := hR.newBld (.n d) 0 0 TE.size 0 e (fun _ _ => .v Go.undef) #[] (below_alloc w (.cells #[] e)) (by simp) (heap_alloc_new' w _) (by simp) (by omega) (by simp [maxLen]) (fun i hi => absurd hi (Nat.not_lt_zero i)) (NewGen.fresh hmd (hd d hdd))
  refine ⟨_, _, _, _, ?_, .inl rfl, k1, k2, fun b' hb' => by cases hb'; rw [upd_same]; simp⟩
  simp [execOp, ho, hpe, Instr.buildSlice, run_underlying hkk, run_sizeOf' (hT e TE hte), Instr.fill, newRow]
  have h0 : Array.range 0 = #[] := by apply Array.ext'; simp
  rw [h0, Array.map_empty]

theorem stepOk_ownSlice {P : Program} {o : Oper} {t : Nat → TV} {m : Id → Mem} {TT : Tab} (hT : TabOk P TT) {ty : TypeId} {T : Ty} (hty : TT ty = some T) {e : TypeId} (hk : T.kind = .slc e) {TE : Ty} (hte : TT e = some TE) {parts : Array (Nat × Operand)} {len : Nat} (ho : o.op = .buildSlice ty len parts) {d : Nat} (hdd : o.dst = some d) (hm : m (.n d) = .none) {K : List SV → Prop}
    (hsz : len * TE.size ≤ 65536) (hpos : 0 < TE.size) (hlen : 0 < len) (hf : partsFit t (fun _ => some TE.size) parts.toList = true) (h : fillW t (fun i => some (i * TE.size)) (repeatL len TE.zero) parts.toList K) :
    ∃ cs, K cs ∧ StepOk P o t m (.hdl d 0) [(.n d, .bld 0 len TE.size e fun i j => cs.getD (i * TE.size + j) (.v Go.undef))] [d] := by
  have hTy := hT ty T hty
  have hkk : P.underlying ty = some (.slice e) := by have := hTy.kind; rw [hk] at this; exact this
  obtain ⟨cs, hK, hcl, hfill⟩ := fill_ok (t := t) (fun i => some (i * TE.size, TE.size)) parts.toList (repeatL len TE.zero) K hf h
  refine ⟨cs, hK, ?_⟩
  refine stepOk_mem fun E ρ t' m' a w hP ha hm' hd hR => ?_
  have hmd : m' (.n d) = .none := by rw [hm'.at (.n d) (by simp [Id.key])]; exact hm
  obtain ⟨ie, ze, g1, g2, g3, g4, g5, hz⟩ := zero_rd (hT e TE hte) (L E m' ρ w) w
  have hzl := hz.length
  simp at hzl
  rw [length_repeatL, ← hzl, g5] at hcl
  obtain ⟨ys, hy1, hy2⟩ := hfill E m' ρ w a (repeatV len ze.cells.toList) (fun p hp => by
    have hv := (opd_ok hR p.2).1
    rw [opd_agree ha (parts_mem (by rw [ho]; rfl) p hp)] at hv
    exact hv) (RdL_repeat hz len)
  have hmade := made_repeat ze.cells len (by omega)
  rw [g5] at hmade
  have hn0 : len * TE.size ≠ 0 := Nat.ne_of_gt (Nat.mul_pos hlen hpos)
  have hrun : (execOp a.eval o).run P w = .ok (.value (.slice (some ⟨w.heap.size, 0, none⟩) len len)) (w.alloc (.cells ys.toArray e)) := by
    have h24 : ¬ (16777216 < len * TE.size) := by omega
    simp [execOp, ho, Instr.buildSlice, run_underlying hkk, run_sizeOf' (hT e TE hte), h24, zeroValue, typeInfo, g1, g4, g5, newRow]
    rw [if_neg hn0, hmade, hy1]
    simp
  have hyl := hy2.length
  obtain ⟨k1, k2⟩ := hR.newBld (.n d) 0 len TE.size len e (fun i j => cs.getD (i * TE.size + j) (.v Go.undef)) ys.toArray (below_alloc w _) (by simp) (heap_alloc_new' w _) (by simp; omega) (Nat.le_refl _)
    (by have : len ≤ len * TE.size := Nat.le_mul_of_pos_right _ hpos; simp only [maxLen]; omega)
    (fun i hi j hj => by
      have : (i + 1) * TE.size ≤ len * TE.size := Nat.mul_le_mul_right _ hi
      rw [Nat.add_mul] at this
      obtain ⟨x, h1, h2⟩ := hy2.getElemRd (i * TE.size + j) (by omega)
      exact ⟨x, by simpa using h1, h2⟩) (NewGen.fresh hmd (hd d hdd))
  exact ⟨_, _, _, _, hrun, .inl rfl, k1, k2, fun b' hb' => by cases hb'; rw [upd_same]; simp⟩

theorem stepOk_len {P : Program} {o : Oper} {t : Nat → TV} {m : Id → Mem} {TT : Tab} (hT : TabOk P TT) {ty : TypeId} {T : Ty} (hty : TT ty = some T) {x : Operand} {c : Call} (ho : o.op = .call c) (hcal : c.callee = .builtin .len) (hargs : c.args.toList = [x]) (hat : c.argTypes.toList = [ty]) :
    (∀ e (K : Kont), T.kind = .slc e → lenW m (opd t x) (fun n rd => K (tint n) [] rd) → ∃ z mo rd, K z mo rd ∧ StepOk P o t m z mo rd) ∧
    (∀ n e, T.kind = .arr n e → StepOk P o t m (tint n) [] []) := by
  have hma : c.args = #[x] := by rw [← Array.toArray_toList (xs := c.args), hargs]
  have hmt : c.argTypes = #[ty] := by rw [← Array.toArray_toList (xs := c.argTypes), hat]
  have hmx : x ∈ o.op.operands.toList := by rw [ho]; simp [Op.operands, Call.operands, hcal, hma]
  have hTy := hT ty T hty
  have hexec : ∀ (a : Act) (w : World) (u : Value) (r : Value), a.eval x = u → (Builtin.len_ #[ty] o.type #[u]).run P w = .ok r w → (execOp a.eval o).run P w = .ok (.value r) w := by
    intro a w u r hu hr
    simp [execOp, ho, resolve, invoke, hcal, hma, hmt, builtin, hu, hr]
  refine ⟨fun e K hk h => ?_, fun n e hk => ?_⟩
  · obtain ⟨n, rd, h, hlen⟩ := lenW_ok hmx h
    refine ⟨_, _, _, h, stepOk_pure fun E ρ t' m' a w hP ha hm hR => ?_⟩
    obtain ⟨ad, cap, e1, _, _⟩ := hlen E ρ t' m' a w ha hm hR
    have hkk : P.underlying ty = some (.slice e) := by have := hTy.kind; rw [hk] at this; exact this
    exact ⟨_, hexec a w _ (.int .i64 n) e1 (by simp [Builtin.len_, run_underlying hkk, goInt]), Rd.v rfl, fun _ h => h.elim⟩
  · have hkk : P.underlying ty = some (.array n e) := by have := hTy.kind; rw [hk] at this; exact this
    refine stepOk_pure fun E ρ t' m' a w hP ha hm hR => ?_
    exact ⟨_, hexec a w _ (.int .i64 n) rfl (by simp [Builtin.len_, run_underlying hkk, goInt]), Rd.v rfl, fun _ h => h.elim⟩

theorem stepOk_capNil {P : Program} {o : Oper} {t : Nat → TV} {m : Id → Mem} {TT : Tab} (hT : TabOk P TT) {ty : TypeId} {T : Ty} (hty : TT ty = some T) {e : Nat} (hk : T.kind = .slc e) {x : Operand} {c : Call} (ho : o.op = .call c) (hcal : c.callee = .builtin .cap) (hargs : c.args.toList = [x]) (hat : c.argTypes.toList = [ty])
    (hx : opd t x = .d (.one (.v (.slice none 0 0)))) : StepOk P o t m (tint 0) [] [] := by
  have hma : c.args = #[x] := by rw [← Array.toArray_toList (xs := c.args), hargs]
  have hmt : c.argTypes = #[ty] := by rw [← Array.toArray_toList (xs := c.argTypes), hat]
  have hmx : x ∈ o.op.operands.toList := by rw [ho]; simp [Op.operands, Call.operands, hcal, hma]
  have hkk : P.underlying ty = some (.slice e) := by have := (hT ty T hty).kind; rw [hk] at this; exact this
  refine stepOk_pure fun E ρ t' m' a w hP ha hm hR => ?_
  have h1 := (opd_ok hR x).1
  rw [opd_agree ha hmx, hx] at h1
  have e1 := (Rd.inv_v (show Rd _ _ _ _ from h1)).1
  exact ⟨.int .i64 0, by simp [execOp, ho, resolve, invoke, hcal, hma, hmt, builtin, e1, Builtin.cap_, run_underlying hkk, goInt], Rd.v rfl, fun _ h => h.elim⟩

theorem get_of_map {t : Nat → TV} {a : Act} : ∀ (r : List Operand) (i : Nat) (v : Value) (tv : TV), (r.map a.eval)[i]? = some v → (r.map (opd t))[i]? = some tv → ∃ y ∈ r, v = a.eval y ∧ tv = opd t y := by
  intro r i v tv h1 h2
  rw [List.getElem?_map] at h1 h2
  cases hq : r[i]? with
  | none => rw [hq] at h1; simp at h1
  | some y =>
    rw [hq] at h1 h2
    simp at h1 h2
    exact ⟨y, List.mem_of_getElem? hq, h1.symm, h2.symm⟩

theorem stepOk_minmax {P : Program} {o : Oper} {t : Nat → TV} {m : Id → Mem} {x : Operand} {r : List Operand} {c : Call} (ho : o.op = .call c) (hargs : c.args.toList = x :: r) {k : IntKind} {x0 : Int} (hx : opd t x = .d (.one (.v (.int k x0)))) {K : Int → Prop} :
    (c.callee = .builtin .min → minW k x0 (r.map (opd t)) K → ∃ n, K n ∧ StepOk P o t m (.d (.one (.v (.int k n)))) [] []) ∧
    (c.callee = .builtin .max → maxW k x0 (r.map (opd t)) K → ∃ n, K n ∧ StepOk P o t m (.d (.one (.v (.int k n)))) [] []) := by
  have hma : c.args = (x :: r).toArray := by rw [← Array.toArray_toList (xs := c.args), hargs]
  constructor
  · intro hcal h
    have hmem : ∀ y ∈ x :: r, y ∈ o.op.operands.toList := by intro y hy; rw [ho]; simp [Op.operands, Call.operands, hcal, hma]; simpa using hy
    obtain ⟨n, h1, h2⟩ := minW_ok (P := P) _ _ _ _ h
    refine ⟨n, h1, stepOk_pure fun E ρ t' m' a w hP ha hm hR => ?_⟩
    have hv := (opd_ok hR x).1
    rw [opd_agree ha (hmem x (by simp)), hx] at hv
    have e1 := (Rd.inv_v (show Rd _ _ _ _ from hv)).1
    have h3 := h2 E m' ρ w (r.map a.eval) (by simp) (fun i v tv p q => by
      obtain ⟨y, hy, rfl, rfl⟩ := get_of_map r i v tv p q
      have := (opd_ok hR y).1
      rwa [opd_agree ha (hmem y (by simp [hy]))] at this) w
    refine ⟨.int k n, ?_, Rd.v rfl, fun _ h => h.elim⟩
    simp [execOp, ho, resolve, invoke, hcal, hma, builtin, Builtin.min_, e1, h3]
  · intro hcal h
    have hmem : ∀ y ∈ x :: r, y ∈ o.op.operands.toList := by intro y hy; rw [ho]; simp [Op.operands, Call.operands, hcal, hma]; simpa using hy
    obtain ⟨n, h1, h2⟩ := maxW_ok (P := P) _ _ _ _ h
    refine ⟨n, h1, stepOk_pure fun E ρ t' m' a w hP ha hm hR => ?_⟩
    have hv := (opd_ok hR x).1
    rw [opd_agree ha (hmem x (by simp)), hx] at hv
    have e1 := (Rd.inv_v (show Rd _ _ _ _ from hv)).1
    have h3 := h2 E m' ρ w (r.map a.eval) (by simp) (fun i v tv p q => by
      obtain ⟨y, hy, rfl, rfl⟩ := get_of_map r i v tv p q
      have := (opd_ok hR y).1
      rwa [opd_agree ha (hmem y (by simp [hy]))] at this) w
    refine ⟨.int k n, ?_, Rd.v rfl, fun _ h => h.elim⟩
    simp [execOp, ho, resolve, invoke, hcal, hma, builtin, Builtin.max_, e1, h3]

theorem stepOk_nilCheck {P : Program} {o : Oper} {t : Nat → TV} {m : Id → Mem} {x : Operand} (ho : o.op = .nilCheck x) :
    (∀ b p, opd t x = .ptr b p → (m b).boxy = true → StepOk P o t m (.ptr b p) [] [b.key]) ∧
    (∀ f caps, opd t x = .clo f caps → StepOk P o t m (.clo f caps) [] []) ∧
    (∀ f n c, opd t x = .d (.one (.fn f n c)) → StepOk P o t m (.d (.one (.fn f n c))) [] []) ∧
    (∀ n c, opd t x = .d (.one (.ad n c)) → StepOk P o t m (.d (.one (.ad n c))) [] []) := by
  have hmx : x ∈ o.op.operands.toList := by rw [ho]; simp [Op.operands]
  refine ⟨fun b p hx hb => ?_, fun f caps hx => ?_, fun f n c hx => ?_, fun n c hx => ?_⟩
  · refine stepOk_pure fun E ρ t' m' a w hP ha hm hR => ?_
    have hv := opd_ok hR x
    rw [opd_agree ha hmx, hx] at hv
    have h1 := hv.1
    rw [← hm.at b] at hb
    simp only [TOk] at h1
    rw [ptrOk_boxy hb] at h1
    obtain ⟨bl, c, r1, e1⟩ := h1
    exact ⟨a.eval x, by simp [execOp, ho, e1], hv⟩
  · refine stepOk_pure fun E ρ t' m' a w hP ha hm hR => ?_
    have hv := opd_ok hR x
    rw [opd_agree ha hmx, hx] at hv
    obtain ⟨xs, e1, _⟩ := hv.1
    refine ⟨a.eval x, ?_, hv⟩
    generalize hq : a.eval x = q at *
    cases e1 <;> simp [execOp, ho, hq]
  · refine stepOk_pure fun E ρ t' m' a w hP ha hm hR => ?_
    have hv := opd_ok hR x
    rw [opd_agree ha hmx, hx] at hv
    obtain ⟨xs, e1, _⟩ := Rd.inv_fn (show Rd _ _ _ _ from hv.1)
    exact ⟨a.eval x, by simp [execOp, ho, e1], hv⟩
  · refine stepOk_pure fun E ρ t' m' a w hP ha hm hR => ?_
    have hv := opd_ok hR x
    rw [opd_agree ha hmx, hx] at hv
    obtain ⟨b, off, xs, e1, _⟩ := Rd.inv_ad (show Rd _ _ _ _ from hv.1)
    exact ⟨a.eval x, by simp [execOp, ho, e1], hv⟩

theorem stepOk_convert {P : Program} {o : Oper} {t : Nat → TV} {m : Id → Mem} {TT : Tab} (hT : TabOk P TT) {src dst : TypeId} {T : Ty} (hty : TT dst = some T) {k k' : IntKind} (hk : T.kind = .int k) {x : Operand} (ho : o.op = .convert src dst x) {n : Int} (hx : opd t x = .d (.one (.v (.int k' n)))) (hs : ∃ d, P.underlying src = some d) :
    StepOk P o t m (.d (.one (.v (.int k (k.wrap n))))) [] [] := by
  have hmx : x ∈ o.op.operands.toList := by rw [ho]; simp [Op.operands]
  have hkk : P.underlying dst = some (.int k) := by have := (hT dst T hty).kind; rw [hk] at this; exact this
  obtain ⟨d, hs⟩ := hs
  refine stepOk_un hmx hx rfl (fun a w e => ?_)
  simp [execOp, ho, e, convert, run_underlying hs, run_underlying hkk, Conv.intToInt]

theorem loadS_to {T : Ty} {m : Id → Mem} {a : TV} {K : Kont} (h : loadS T m a K) : loadW T m a K := by
  unfold loadS at h
  split at h
  · rename_i o off
    replace h := lookW_iff h
    split at h
    · rename_i cs hb
      obtain ⟨c, h1, h2, h3, h⟩ := h.h
      unfold loadW
      dsimp only
      refine lookW_of ?_
      rw [hb]
      have hlt : off < cs.length := by
        rcases Nat.lt_or_ge off cs.length with q | q
        · exact q
        · rw [List.getElem?_eq_none q] at h1; cases h1
      show (bif Nat.ble (off + T.size) cs.length then loadC T ((cs.drop off).take T.size) _ else False)
      rw [h3, ble_t (show off + 1 ≤ cs.length by omega)]
      have e : (cs.drop off).take 1 = [c] := by
        rw [List.drop_eq_getElem_cons hlt]
        rw [List.getElem?_eq_getElem hlt] at h1
        injection h1 with h1
        rw [List.take_succ_cons, List.take_zero, h1]
      rw [e]
      rw [cond_true]
      unfold loadC
      rw [h2]
      exact CV.tvW_iff.2 h
    · exact h.elim
  · obtain ⟨h1, h⟩ := bif_and h
    obtain ⟨c, h2, h3, h4, h⟩ := h.h
    unfold loadW
    dsimp only
    rw [h4, h1, cond_true]
    show dataW T [_] _
    unfold dataW
    rw [h3]
    subst h2
    exact TV.force_iff.2 h
  · exact h.elim
theorem storeS_to {T : Ty} {m : Id → Mem} {a v : TV} {K : Kont} (h : storeS T m a v K) : storeW T m a v K := by
  unfold storeS at h
  split at h
  · rename_i o off
    replace h := lookW_iff h
    split at h
    · rename_i cs hb
      obtain ⟨h1, h⟩ := bif_and h
      have key : ∀ c : CV, StoreS cs off c (fun cs' => K .any [(o, .obj cs')] [o.key]) → storeR m (.ptr o off) c K := fun c h => by
        obtain ⟨cs', e1, e2, h⟩ := h.h
        unfold storeR
        dsimp only
        refine lookW_of ?_
        rw [hb]
        show (bif Nat.blt off cs.length then _ else False)
        rw [blt_t e2, e1]
        exact h
      unfold TV.cvW at h
      split at h
      · show (bif Nat.beq 1 T.size then _ else False)
        rw [h1]; exact key _ h
      · show (bif Nat.beq 1 T.size then _ else False)
        rw [h1]; exact key _ h
      · show (bif Nat.beq 1 T.size then _ else False)
        rw [h1]; exact key _ h
      · exact h.elim
    · exact h.elim
  · exact h.elim
theorem stepOk_convFI {P : Program} {o : Oper} {t : Nat → TV} {m : Id → Mem} {TT : Tab} (hT : TabOk P TT) {src dst : TypeId} {T : Ty} (hty : TT dst = some T) {k : IntKind} (hk : T.kind = .int k) {x : Operand} (ho : o.op = .convert src dst x) {fk : FloatKind} {b : Nat} (hx : opd t x = .d (.one (.v (.float fk b)))) (hs : ∃ d, P.underlying src = some d)
    {z : Int} (h1 : (fk.decode b).toInt .zero = some z) (h2 : k.min ≤ z) (h3 : z ≤ k.max) : StepOk P o t m (.d (.one (.v (.int k z)))) [] [] := by
  have hmx : x ∈ o.op.operands.toList := by rw [ho]; simp [Op.operands]
  have hkk : P.underlying dst = some (.int k) := by have := (hT dst T hty).kind; rw [hk] at this; exact this
  obtain ⟨d, hs⟩ := hs
  refine stepOk_un hmx hx rfl (fun a w e => ?_)
  simp [execOp, ho, e, convert, run_underlying hs, run_underlying hkk, Conv.floatToInt, h1, h2, h3]
theorem stepOk_convIF {P : Program} {o : Oper} {t : Nat → TV} {m : Id → Mem} {src dst : TypeId} {x : Operand} (ho : o.op = .convert src dst x) {k : IntKind} {n : Int} (hx : opd t x = .d (.one (.v (.int k n)))) (hs : ∃ d, P.underlying src = some d) (hkk : P.underlying dst = some (.float .f64)) :
    StepOk P o t m (.d (.one (.v (.float .f64 (FloatKind.f64.nearest n))))) [] [] := by
  have hmx : x ∈ o.op.operands.toList := by rw [ho]; simp [Op.operands]
  obtain ⟨d, hs⟩ := hs
  refine stepOk_un hmx hx rfl (fun a w e => ?_)
  simp [execOp, ho, e, convert, run_underlying hs, run_underlying hkk, Conv.intToFloat]

theorem force_det {x : TV} {K : TV → Prop} (h : x.force K) : K x := TV.force_iff.1 h

set_option maxHeartbeats 1600000 in
/-- EVERY STEP OF THE WALK IS TRUE OF THE MACHINE. -/
theorem opW_ok {P : Program} {TT : Tab} (hT : TabOk P TT) {o : Oper} {t : Nat → TV} {m : Id → Mem} {K : Kont} {fl : List Nat} (h : opW P TT fl o t m K) : ∃ x mo rd, K x mo rd ∧ StepOk P o t m x mo rd := by
  unfold opW at h
  split at h
  · rename_i x ho; exact ⟨_, _, _, force_det h, stepOk_move (.inl ho)⟩
  · rename_i x ho; exact ⟨_, _, _, force_det h, stepOk_move (.inr ho)⟩
  · rename_i c x y ho
    split at h
    · rename_i q hc
      have h := h.elim
      cases q with
      | true => exact ⟨_, _, _, force_det (show (opd t x).force (fun x => K x [] []) from h), stepOk_pick (m := m) ho hc⟩
      | false => exact ⟨_, _, _, force_det (show (opd t y).force (fun x => K x [] []) from h), stepOk_pick (m := m) ho hc⟩
    · exact h.elim
  · rename_i e ho
    split at h
    · rename_i T d hte hd
      split at h
      · rename_i hm
        exact ⟨_, _, _, h, stepOk_alloc hT hte ho hd hm⟩
      · exact h.elim
    · exact h.elim
  · rename_i e x ho
    split at h
    · rename_i T d hte hd
      split at h
      · rename_i hm
        split at h
        · rename_i o' p hx
          exact ⟨_, _, _, h, stepOk_boxR (c := .ptr o' p) ho hd hm hx⟩
        · rename_i o' g hx
          exact ⟨_, _, _, h, stepOk_boxR (c := .hdl o' g) ho hd hm hx⟩
        · rename_i f caps hx
          exact ⟨_, _, _, h, stepOk_boxR (c := .clo f caps) ho hd hm hx⟩
        · obtain ⟨l, h1, h2⟩ := stepOk_box (P := P) (m := m) ho hd hm h
          exact ⟨_, _, _, h1, h2⟩
      · exact h.elim
    · exact h.elim
  · rename_i ty parts ho
    split at h
    · rename_i T hty
      split at h
      · rename_i fs hk
        replace h := bif_and h; obtain ⟨hf, h⟩ := h
        obtain ⟨cs, h1, h2⟩ := stepOk_buildStr (m := m) hT hty hk ho hf h
        exact ⟨_, _, _, h1, h2⟩
      · rename_i n e hk
        split at h
        · rename_i TE hte
          replace h := bif_and h; obtain ⟨hf, h⟩ := h
          obtain ⟨cs, h1, h2⟩ := stepOk_buildArr (m := m) hT hty hk hte ho hf h
          exact ⟨_, _, _, h1, h2⟩
        · exact h.elim
      · exact h.elim
    · exact h.elim
  · rename_i ty len parts ho
    cases hfh : flagged fl (o.dst.getD 0 + 7000000) with
    | true =>
      rw [hfh] at h
      exact stepOk_buildH hT ho h
    | false =>
    rw [hfh] at h
    simp only [cond_false] at h
    split at h
    · rename_i T d hty hd
      split at h
      · rename_i e hk
        split at h
        · rename_i TE hte
          replace h := bif_and h; obtain ⟨hf, h⟩ := h
          simp only [Bool.and_eq_true] at hf
          split at h
          · split at h
            · rename_i hp hm
              exact ⟨_, _, _, h, stepOk_emptySlice hT hty hk hte ho hd hm hp⟩
            · exact h.elim
          · rename_i hne
            cases hfl : flagged fl (d + 6000000) with
            | true =>
              rw [hfl] at h
              simp only [cond_true] at h
              split at h
              · rename_i hm
                obtain ⟨cs, h1, h2⟩ := stepOk_ownSlice (m := m) hT hty hk hte ho hd hm (Nat.le_of_ble_eq_true hf.1.1) (lt_of_blt hf.1.2) (Nat.pos_of_ne_zero hne) hf.2 h
                exact ⟨_, _, _, h1, h2⟩
              · exact h.elim
            | false =>
              rw [hfl] at h
              obtain ⟨cs, h1, h2⟩ := stepOk_buildSlice (m := m) hT hty hk hte ho (Nat.le_of_ble_eq_true hf.1.1) (lt_of_blt hf.1.2) (Nat.pos_of_ne_zero hne) hf.2 h
              exact ⟨_, _, _, h1, h2⟩
        · exact h.elim
      · exact h.elim
    · exact h.elim
  · rename_i ty x ho
    split at h
    · rename_i T hty
      cases hfl : flagged fl (o.dst.getD 0 + 3000000) with
      | true =>
        rw [hfl] at h
        exact stepOk_load hT hty ho (loadS_to h)
      | false =>
        rw [hfl] at h
        exact stepOk_load hT hty ho h
    · exact h.elim
  · rename_i ty x y ho
    split at h
    · rename_i T hty
      cases hfl : flagged fl (tmpOf x + 4000000) with
      | true =>
        rw [hfl] at h
        exact stepOk_store hT hty ho (storeS_to h)
      | false =>
        rw [hfl] at h
        exact stepOk_store hT hty ho h
    · exact h.elim
  · rename_i x ho
    obtain ⟨n1, n4, n2, n3⟩ := stepOk_nilCheck (P := P) (t := t) (m := m) ho
    split at h
    · rename_i b p hx
      replace h := lookW_iff h
      split at h
      · rename_i cs hb; exact ⟨_, _, _, h, n1 b p hx (by rw [hb]; rfl)⟩
      · rename_i cs hb; exact ⟨_, _, _, h, n1 b p hx (by rw [hb]; rfl)⟩
      · rename_i cs hb; exact ⟨_, _, _, h, n1 b p hx (by rw [hb]; rfl)⟩
      · exact h.elim
    · rename_i f caps hx; exact ⟨_, _, _, h, n4 f caps hx⟩
    · rename_i f n c hx; exact ⟨_, _, _, h, n2 f n c hx⟩
    · rename_i n c hx; exact ⟨_, _, _, h, n3 n c hx⟩
    · exact h.elim
  · rename_i op ty x y ty' ho
    split at h
    · rename_i xs ys hx hy
      split at h
      · obtain ⟨b, h1, h2⟩ := h.h
        exact ⟨_, _, _, h2, (eqW_ok ho hx hy h1).1 rfl⟩
      · obtain ⟨b, h1, h2⟩ := h.h
        exact ⟨_, _, _, h2, (eqW_ok ho hx hy h1).2 rfl⟩
      · exact h.elim
    · rename_i p q hx hy
      split at h
      · rename_i T hty
        split at h
        · obtain ⟨hu, h⟩ := h
          exact ⟨_, _, _, h, (eqBool_ok ho hx hy hu).1 rfl⟩
        · obtain ⟨hu, h⟩ := h
          exact ⟨_, _, _, h, (eqBool_ok ho hx hy hu).2 rfl⟩
        · exact h.elim
      · exact h.elim
    · rename_i _ _ hy
      split at h
      · rename_i T hty
        split at h
        · rename_i e hk
          exact stepOk_eqNil (neg := false) hT hty hk ho hy (.inl ⟨rfl, rfl⟩) h
        · rename_i e hk
          exact stepOk_eqNil (neg := true) hT hty hk ho hy (.inr ⟨rfl, rfl⟩) h
        · exact h.elim
      · exact h.elim
    · obtain ⟨z, h1, h2⟩ := binW_ok (m := m) ho h
      exact ⟨_, _, _, h1, h2⟩
  · rename_i op ty x ho
    have hmx : x ∈ o.op.operands.toList := by rw [ho]; simp [Op.operands]
    split at h
    · rename_i b hx
      split at h
      · exact ⟨_, _, _, h, stepOk_un hmx hx rfl (fun a w e => by simp [execOp, ho, e, Op.unary])⟩
      · exact h.elim
    · rename_i n neg hx
      split at h
      · exact ⟨_, _, _, h, stepOk_notNb ho hx⟩
      · exact h.elim
    · rename_i k n hx
      split at h
      · exact ⟨_, _, _, h, stepOk_un hmx hx rfl (fun a w e => by simp [execOp, ho, e, Op.unary, Op.intArith])⟩
      · exact h.elim
    · exact h.elim
  · rename_i src dst x ho
    split at h
    · rename_i T hty
      split at h
      · rename_i k n hk hx
        obtain ⟨hs, h⟩ := h
        exact ⟨_, _, _, h, stepOk_convert hT hty hk ho hx hs⟩
      · rename_i k fk b hk hx
        obtain ⟨z, h1, h2, h3, hs, h⟩ := h.h
        exact ⟨_, _, _, h, stepOk_convFI hT hty hk ho hx hs h1 h2 h3⟩
      · rename_i k n hk hx
        obtain ⟨⟨hs, hkk⟩, h⟩ := h
        exact ⟨_, _, _, h, stepOk_convIF ho hx hs hkk⟩
      · exact h.elim
    · exact h.elim
  · rename_i ty x y ho
    split at h
    · rename_i T d hty hd
      split at h
      · rename_i e hk hm
        split at h
        · rename_i TE n c hte hx hy
          obtain ⟨hb, h⟩ := h
          exact ⟨_, _, _, h, stepOk_makeSlice hT hty hk hte ho hd hm hx hy hb⟩
        · exact h.elim
      · exact h.elim
    · exact h.elim
  · rename_i ty x lo hi ho
    split at h
    · rename_i T hty
      split at h
      · rename_i e hk
        split at h
        · rename_i TE hte
          split at h
          · rename_i b g hx
            have hh := h
            unfold lenW at hh
            replace hh := lookW_iff hh
            split at hh
            · rename_i g' n k e' get hb
              replace hh := bif_and hh; obtain ⟨_, hh⟩ := hh
              exact stepOk_sliceR hT hty hk hte ho (.inl ⟨hx, rfl, n, by rw [hb]; rfl, rfl⟩) hh
            · rename_i g' n k e' get hb
              replace hh := bif_and hh; obtain ⟨_, hh⟩ := hh
              exact stepOk_sliceR hT hty hk hte ho (.inl ⟨hx, rfl, n, by rw [hb]; rfl, rfl⟩) hh
            · exact hh.elim
          · rename_i b g lo0 n0 hx
            exact stepOk_sliceR hT hty hk hte ho (.inr hx) h
          · obtain ⟨z, h1, h2⟩ := stepOk_slice (P := P) (m := m) hT hty hk ho hte h
            exact ⟨_, _, _, h1, h2⟩
        · exact h.elim
      · exact h.elim
    · exact h.elim
  · rename_i ty x lo hi mx ho
    split at h
    · rename_i T hty
      split at h
      · rename_i e hk
        split at h
        · rename_i TE hte
          exact stepOk_slice3 hT hty hk hte ho h
        · exact h.elim
      · exact h.elim
    · exact h.elim
  · rename_i f first captured ho
    split at h
    · rename_i hfirst
      cases hfl : (flagged fl (f + 1000000) || byRef t m captured.toList) with
      | true =>
        rw [hfl] at h
        replace h := bif_and h; obtain ⟨hlt, h⟩ := h
        obtain ⟨l, h1, h2⟩ := stepOk_makeFuncR (P := P) (m := m) (rd := keysOf t captured.toList) ho hfirst hlt h
        exact ⟨_, _, _, h1, h2⟩
      | false =>
        rw [hfl] at h
        obtain ⟨l, ms, rd, h1, h2⟩ := stepOk_makeFunc (P := P) ho hfirst h
        exact ⟨_, _, _, h1, h2⟩
    · split at h
      · rename_i hcap
        obtain ⟨l, h1, h2⟩ := stepOk_makeFuncB (P := P) (m := m) (rd := keysOf t first.toList) ho hcap h
        exact ⟨_, _, _, h1, h2⟩
      · exact h.elim
  · rename_i ty x f ho
    split at h
    · rename_i T hty
      split at h
      · rename_i fs hk
        split at h
        · rename_i off ft size hf
          replace h := bif_and h; obtain ⟨hs, h⟩ := h
          obtain ⟨f1, f2, f3⟩ := stepOk_fieldAddr (t := t) (m := m) hT hty hk hf (lt_of_blt hs) ho
          split at h
          · rename_i b p hx
            replace h := lookW_iff h
            split at h
            · rename_i cs hb; exact ⟨_, _, _, h, f1 b p hx (by rw [hb]; rfl)⟩
            · rename_i cs hb; exact ⟨_, _, _, h, f1 b p hx (by rw [hb]; rfl)⟩
            · rename_i cs hb; exact ⟨_, _, _, h, f1 b p hx (by rw [hb]; rfl)⟩
            · exact h.elim
          · rename_i b g i p hx
            replace h := lookW_iff h
            split at h
            · rename_i g' n k e get hb
              replace h := bif_and h; obtain ⟨hq0, h⟩ := h
              obtain rfl := Nat.eq_of_beq_eq_true hq0
              exact ⟨_, _, _, h, f2 b g i p n k hx (by rw [hb]; rfl)⟩
            · rename_i g' n k e get hb
              replace h := bif_and h; obtain ⟨hq0, h⟩ := h
              obtain rfl := Nat.eq_of_beq_eq_true hq0
              exact ⟨_, _, _, h, f2 b g i p n k hx (by rw [hb]; rfl)⟩
            · exact h.elim
          · rename_i n cell hx; exact ⟨_, _, _, h, f3 n cell hx⟩
          · exact h.elim
        · exact h.elim
      · exact h.elim
    · exact h.elim
  · rename_i ty x f ho
    split at h
    · rename_i T hty
      split at h
      · rename_i fs hk
        split at h
        · rename_i off ft size hf
          split at h
          · rename_i TF cs hft hx
            replace h := bif_and h; obtain ⟨hs, h⟩ := h
            simp only [Bool.and_eq_true] at hs
            obtain ⟨z, h1, h2⟩ := stepOk_field (m := m) hT hty hk hf hft (Nat.eq_of_beq_eq_true hs.1) ho hx (Nat.le_of_ble_eq_true hs.2) h
            exact ⟨_, _, _, h1, h2⟩
          · exact h.elim
        · exact h.elim
      · exact h.elim
    · exact h.elim
  · rename_i ty x i ho
    split at h
    · rename_i T hty
      split at h
      · rename_i len e hk
        split at h
        · rename_i TE hte
          split at h
          · rename_i b p kk n hx hi
            replace h := lookW_iff h
            split at h
            · rename_i cs hb
              obtain ⟨hn, h⟩ := h
              exact ⟨_, _, _, h, (stepOk_indexArr (m := m) hT hty hk hte ho hi hn).1 b p hx (by rw [hb]; rfl)⟩
            · rename_i cs hb
              obtain ⟨hn, h⟩ := h
              exact ⟨_, _, _, h, (stepOk_indexArr (m := m) hT hty hk hte ho hi hn).1 b p hx (by rw [hb]; rfl)⟩
            · rename_i cs hb
              obtain ⟨hn, h⟩ := h
              exact ⟨_, _, _, h, (stepOk_indexArr (m := m) hT hty hk hte ho hi hn).1 b p hx (by rw [hb]; rfl)⟩
            · exact h.elim
          · rename_i q cell kk n hx hi
            obtain ⟨hn, h⟩ := h
            cases hq : Nat.ble (len * TE.size) q with
            | true =>
              rw [hq] at h
              exact ⟨_, _, _, h, (stepOk_indexArr (m := m) hT hty hk hte ho hi hn).2.2 q cell _ hx (by
                have h1 := Nat.le_of_ble_eq_true hq
                have h2 : (n.toNat + 1) * TE.size ≤ len * TE.size := Nat.mul_le_mul_right _ (by omega)
                rw [Nat.succ_mul] at h2
                omega)⟩
            | false =>
              rw [hq] at h
              exact ⟨_, _, _, h, (stepOk_indexArr (m := m) hT hty hk hte ho hi hn).2.2 q cell _ hx (Nat.le_refl _)⟩
          · rename_i b g r p kk n hx hi
            replace h := lookW_iff h
            split at h
            · rename_i g' n' k' e' get hb
              replace h := bif_and h; obtain ⟨hq0, h⟩ := h
              obtain rfl := Nat.eq_of_beq_eq_true hq0
              obtain ⟨hn, h⟩ := h
              exact ⟨_, _, _, h, (stepOk_indexArr (m := m) hT hty hk hte ho hi hn).2.1 b g r p n' k' hx (by rw [hb]; rfl)⟩
            · rename_i g' n' k' e' get hb
              replace h := bif_and h; obtain ⟨hq0, h⟩ := h
              obtain rfl := Nat.eq_of_beq_eq_true hq0
              obtain ⟨hn, h⟩ := h
              exact ⟨_, _, _, h, (stepOk_indexArr (m := m) hT hty hk hte ho hi hn).2.1 b g r p n' k' hx (by rw [hb]; rfl)⟩
            · exact h.elim
          · exact h.elim
        · exact h.elim
      · rename_i e hk
        split at h
        · rename_i TE hte
          split at h
          · rename_i n k get kk q hx hi
            replace h := bif_and h; obtain ⟨h1, h⟩ := h
            have h1 := Nat.eq_of_beq_eq_true h1
            obtain ⟨⟨h2, h3⟩, h⟩ := h
            exact ⟨_, _, _, h, (stepOk_indexSl (m := m) hT hty hk hte ho hi).1 n k get hx h1 h2 h3⟩
          · rename_i b g kk q hx hi
            replace h := lookW_iff h
            split at h
            · rename_i g' n k e' get hb
              replace h := bif_and h; obtain ⟨hq0, h⟩ := h
              simp only [Bool.and_eq_true] at hq0
              obtain rfl := Nat.eq_of_beq_eq_true hq0.1
              have h1 := Nat.eq_of_beq_eq_true hq0.2
              obtain ⟨⟨h2, h3⟩, h⟩ := h
              exact ⟨_, _, _, h, (stepOk_indexSl (m := m) hT hty hk hte ho hi).2.1 b g n k hx (by rw [hb]; rfl) h1 h2 h3⟩
            · rename_i g' n k e' get hb
              replace h := bif_and h; obtain ⟨hq0, h⟩ := h
              simp only [Bool.and_eq_true] at hq0
              obtain rfl := Nat.eq_of_beq_eq_true hq0.1
              have h1 := Nat.eq_of_beq_eq_true hq0.2
              obtain ⟨⟨h2, h3⟩, h⟩ := h
              exact ⟨_, _, _, h, (stepOk_indexSl (m := m) hT hty hk hte ho hi).2.1 b g n k hx (by rw [hb]; rfl) h1 h2 h3⟩
            · exact h.elim
          · rename_i b g lo n' kk q hx hi
            replace h := lookW_iff h
            split at h
            · rename_i g' n k e' get hb
              replace h := bif_and h; obtain ⟨hq0, h⟩ := h
              simp only [Bool.and_eq_true] at hq0
              obtain rfl := Nat.eq_of_beq_eq_true hq0.1
              have h1 := Nat.eq_of_beq_eq_true hq0.2
              obtain ⟨⟨h2, h3⟩, h⟩ := h
              exact ⟨_, _, _, h, (stepOk_indexSl (m := m) hT hty hk hte ho hi).2.2 b g lo n' n k hx (by rw [hb]; rfl) h1 h2 h3⟩
            · rename_i g' n k e' get hb
              replace h := bif_and h; obtain ⟨hq0, h⟩ := h
              simp only [Bool.and_eq_true] at hq0
              obtain rfl := Nat.eq_of_beq_eq_true hq0.1
              have h1 := Nat.eq_of_beq_eq_true hq0.2
              obtain ⟨⟨h2, h3⟩, h⟩ := h
              exact ⟨_, _, _, h, (stepOk_indexSl (m := m) hT hty hk hte ho hi).2.2 b g lo n' n k hx (by rw [hb]; rfl) h1 h2 h3⟩
            · exact h.elim
          · exact h.elim
        · exact h.elim
      · exact h.elim
    · exact h.elim
  · rename_i ty x i ho
    split at h
    · rename_i T hty
      split at h
      · rename_i len e hk
        split at h
        · rename_i TE hte
          split at h
          · rename_i cs kk n hx hi
            obtain ⟨hn, h⟩ := h
            obtain ⟨z, h1, h2⟩ := stepOk_index (m := m) hT hty hk hte ho hx hi hn h
            exact ⟨_, _, _, h1, h2⟩
          · exact h.elim
        · exact h.elim
      · exact h.elim
    · exact h.elim
  · rename_i x i ho
    split at h
    · rename_i xs hx
      split at h
      · rename_i v hv
        exact ⟨_, _, _, force_det h, stepOk_extract ho hx hv⟩
      · exact h.elim
    · exact h.elim
  · rename_i c ho
    split at h
    · rename_i f hcal
      split at h
      · rename_i f' n cap hf
        exact stepOk_call ho hcal hf h
      · rename_i f' caps hf
        exact stepOk_callC ho hcal hf h
      · exact h.elim
    · rename_i b hcal
      split at h
      · rename_i x ty hargs hat
        split at h
        · rename_i T hty
          obtain ⟨l1, l4⟩ := stepOk_len (t := t) (m := m) hT hty ho hcal hargs hat
          split at h
          · rename_i e hk; exact l1 e K hk h
          · rename_i n e hk; exact ⟨_, _, _, h, l4 n e hk⟩
          · exact h.elim
        · exact h.elim
      · rename_i x ty hargs hat
        split at h
        · rename_i T hty
          split at h
          · rename_i e hk hx
            exact ⟨_, _, _, h, stepOk_capNil hT hty hk ho hcal hargs hat hx⟩
          · exact h.elim
        · exact h.elim
      · rename_i x ty hargs hat
        split at h
        · rename_i T hty
          split at h
          · rename_i e hk
            split at h
            · rename_i TE b g lo n hte hx
              replace h := lookW_iff h
              split at h
              · rename_i g' N k e' get hb
                replace h := bif_and h; obtain ⟨hq0, h⟩ := h
                simp only [Bool.and_eq_true] at hq0
                obtain rfl := Nat.eq_of_beq_eq_true hq0.1.1
                obtain rfl := Nat.eq_of_beq_eq_true hq0.1.2
                obtain rfl := Nat.eq_of_beq_eq_true hq0.2
                exact ⟨_, _, _, h, stepOk_clear hT hty hk hte ho hcal hargs hat hx hb⟩
              · exact h.elim
            · exact h.elim
          · exact h.elim
        · exact h.elim
      · rename_i x r hargs
        split at h
        · rename_i k x0 hx
          obtain ⟨n, h1, h2⟩ := (stepOk_minmax (P := P) (m := m) ho hargs hx).1 hcal h
          exact ⟨_, _, _, h1, h2⟩
        · exact h.elim
      · rename_i x r hargs
        split at h
        · rename_i k x0 hx
          obtain ⟨n, h1, h2⟩ := (stepOk_minmax (P := P) (m := m) ho hargs hx).2 hcal h
          exact ⟨_, _, _, h1, h2⟩
        · exact h.elim
      · rename_i s x ty ty' hargs hat
        split at h
        · rename_i T d hty hd
          split at h
          · rename_i e hk
            split at h
            · rename_i TE hte
              cases hfc : flagged fl (d + 8000000) with
              | true =>
                rw [hfc] at h
                replace h := bif_and (show bif Nat.beq ty' ty then appendC TE e m (opd t s) (opd t x) K else False from h)
                obtain ⟨hq1, h⟩ := h
                obtain rfl := Nat.eq_of_beq_eq_true hq1
                exact stepOk_appendC hT hty hk hte hd ho hcal hargs hat h
              | false =>
              rw [hfc] at h
              simp only [cond_false] at h
              cases hq0 : Nat.beq ty' ty with
              | true =>
                rw [hq0] at h
                obtain rfl := Nat.eq_of_beq_eq_true hq0
                exact stepOk_append hT hty hk hte hd ho hcal hargs hat ⟨e, by have := (hT _ T hty).kind; rw [hk] at this; exact this⟩ h
              | false =>
                rw [hq0] at h
                replace h : (match TT ty' with
                  | some TZ => (match TZ.kind with
                    | .int .i64 => appendZ TE e d m (opd t s) (opd t x) K
                    | .slc _ => appendW TE e d m (opd t s) (opd t x) K
                    | _ => False)
                  | none => False) := h
                split at h
                · rename_i TZ htz
                  split at h
                  · rename_i hkz
                    exact stepOk_appendZ hT hty hk hte htz hkz hd ho hcal hargs hat h
                  · rename_i e' hkz
                    exact stepOk_append hT hty hk hte hd ho hcal hargs hat ⟨e', by have := (hT _ TZ htz).kind; rw [hkz] at this; exact this⟩ h
                  · exact h.elim
                · exact h.elim
            · exact h.elim
          · exact h.elim
        · exact h.elim
      · exact h.elim
    · exact h.elim
  · exact h.elim
end Go.Vm
namespace Go.Vm
set_option linter.unusedVariables false
set_option linter.unusedSimpArgs false
open Go Go.RowKit

/-! ### regions -/
def tmpsOf : List Operand → List Nat
  | [] => []
  | .tmp s :: r => s :: tmpsOf r
  | _ :: r => tmpsOf r

def maskS : List Nat → Nat
  | [] => 0
  | s :: r => 2 ^ (2 * s) ||| maskS r
def maskM : List Nat → Nat
  | [] => 0
  | s :: r => 2 ^ (2 * s + 1) ||| maskM r

def dstL : Option Nat → List Nat
  | some d => [d]
  | none => []

def dstOk (N : Nat) : Option Nat → Bool
  | some d => Nat.blt d N
  | none => true

def beqB : Bool → Bool → Bool
  | true, true => true
  | false, false => true
  | _, _ => false

abbrev Trace := List (Nat × Nat)
abbrev Stop := (Nat → TV) → (Id → Mem) → Prop

def DV.deep (v : DV) (K : DV → Prop) : Prop :=
  match v with
  | .one c => c.deep fun c => K (.one c)
  | .agg l => deepL l fun l => K (.agg l)
theorem DV.deep_iff {v : DV} {K : DV → Prop} : v.deep K ↔ K v := by
  cases v with
  | one c => exact SV.deep_iff (K := fun c => K (.one c))
  | agg l => exact deepL_iff (K := fun c => K (.agg c))
def deepDL : List DV → (List DV → Prop) → Prop
  | [], K => K []
  | c :: r, K => c.deep fun c => deepDL r fun r => K (c :: r)
theorem deepDL_iff : ∀ {l : List DV} {K : List DV → Prop}, deepDL l K ↔ K l
  | [], _ => Iff.rfl
  | c :: r, K => by simp only [deepDL]; rw [DV.deep_iff, deepDL_iff]
def TV.deep (x : TV) (K : TV → Prop) : Prop :=
  match x with
  | .d v => v.deep fun v => K (.d v)
  | .tup l => deepDL l fun l => K (.tup l)
  | .any => K .any
  | .undef => K .undef
  | .ptr o p => K (.ptr o p)
  | .hdl o g => K (.hdl o g)
  | .ep o g i f => K (.ep o g i f)
  | .sub o g lo n => K (.sub o g lo n)
  | .nb n neg => K (.nb n neg)
  | .clo f c => K (.clo f c)
theorem TV.deep_iff {x : TV} {K : TV → Prop} : x.deep K ↔ K x := by
  cases x with
  | d v => exact DV.deep_iff (K := fun c => K (.d c))
  | tup l => exact deepDL_iff (K := fun c => K (.tup c))
  | _ => exact Iff.rfl
def CV.deep (c : CV) (K : CV → Prop) : Prop :=
  match c with
  | .s c => c.deep fun c => K (.s c)
  | .ptr o p => K (.ptr o p)
  | .hdl o g => K (.hdl o g)
  | .clo f caps => K (.clo f caps)
theorem CV.deep_iff {c : CV} {K : CV → Prop} : c.deep K ↔ K c := by
  cases c with
  | s c => exact SV.deep_iff (K := fun c => K (.s c))
  | _ => exact Iff.rfl
/-- The first n cells are laid open. -/
def deepCL : Nat → List CV → (List CV → Prop) → Prop
  | 0, l, K => K l
  | _ + 1, [], K => K []
  | n + 1, c :: r, K => c.deep fun c => deepCL n r fun r => K (c :: r)
theorem deepCL_iff : ∀ {n : Nat} {l : List CV} {K : List CV → Prop}, deepCL n l K ↔ K l
  | 0, _, _ => Iff.rfl
  | _ + 1, [], _ => Iff.rfl
  | n + 1, c :: r, K => by simp only [deepCL]; rw [CV.deep_iff, deepCL_iff]
def Mem.deep (x : Mem) (K : Mem → Prop) : Prop :=
  match x with
  | .none => K .none
  | .dead => K .dead
  | .ro l => deepL l fun l => K (.ro l)
  | .box l => deepL l fun l => K (.box l)
  | .bld g n k e get => K (.bld g n k e get)
  | .obj l => deepCL 2 l fun l => K (.obj l)
  | .bldc g n k e get => K (.bldc g n k e get)
theorem Mem.deep_iff {x : Mem} {K : Mem → Prop} : x.deep K ↔ K x := by
  cases x with
  | ro l => exact deepL_iff (K := fun c => K (.ro c))
  | box l => exact deepL_iff (K := fun c => K (.box c))
  | obj l => exact deepCL_iff (K := fun c => K (.obj c))
  | _ => exact Iff.rfl

def putTW (t : Nat → TV) (d : Option Nat) (x : TV) (K : (Nat → TV) → Prop) : Prop :=
  x.deep fun x => match d with
  | some k => K (upd t k x)
  | none => K t

theorem putTW_iff {t : Nat → TV} {d : Option Nat} {x : TV} {K : (Nat → TV) → Prop} : putTW t d x K ↔ K (putT t d x) := by
  unfold putTW
  rw [TV.deep_iff]
  cases d <;> exact Iff.rfl

def putMW (m : Id → Mem) (ms : List (Id × Mem)) (K : (Id → Mem) → Prop) : Prop :=
  match ms with
  | [] => K m
  | p :: r => match p with
    | (o, x) => x.deep fun x => putMW (upd m o x) r K

theorem putMW_iff : ∀ {ms : List (Id × Mem)} {m : Id → Mem} {K : (Id → Mem) → Prop}, putMW m ms K ↔ K (putM m ms)
  | [], _, _ => Iff.rfl
  | (o, x) :: r, m, K => by simp only [putMW, putM]; rw [Mem.deep_iff]; exact putMW_iff

def entryW (draw : Bool) (o : Oper) (gs : List Nat) (mo : List (Id × Mem)) (rd : List Nat) (tr : Trace) (K : Trace → Prop) : Prop :=
  match draw with
  | true => K ((maskS (gs ++ tmpsOf o.op.operands.toList) ||| maskM rd, maskS (dstL o.dst) ||| maskM (mo.map fun p => p.1.key)) :: tr)
  | false => K tr

def entry (draw : Bool) (o : Oper) (gs : List Nat) (mo : List (Id × Mem)) (rd : List Nat) (tr : Trace) : Trace :=
  bif draw then (maskS (gs ++ tmpsOf o.op.operands.toList) ||| maskM rd, maskS (dstL o.dst) ||| maskM (mo.map fun p => p.1.key)) :: tr else tr

theorem entryW_iff {draw : Bool} {o : Oper} {gs : List Nat} {mo : List (Id × Mem)} {rd : List Nat} {tr : Trace} {K : Trace → Prop} : entryW draw o gs mo rd tr K ↔ K (entry draw o gs mo rd tr) := by
  cases draw <;> exact Iff.rfl

def opStep (P : Program) (TT : Tab) (fl : List Nat) (N : Nat) (ops : Array Oper) (draw : Bool) (o : Oper) (ih : (Nat → TV) → (Id → Mem) → Trace → ((Nat → TV) → (Id → Mem) → Trace → Prop) → Prop) (t : Nat → TV) (m : Id → Mem) (tr : Trace) (K : (Nat → TV) → (Id → Mem) → Trace → Prop) : Prop :=
  bif dstOk N o.dst then
      match o.guard with
      | none => opW P TT fl o t m fun x mo rd => putTW t o.dst x fun t' => putMW m mo fun m' => entryW draw o [] mo rd tr fun tr => ih t' m' tr K
      | some (j, want) => match (ops[j]?).bind (·.dst) with
        | some g => match t g with
          | .d (.one (.v (.bool b))) => Split b fun b => bif beqB b want then
                opW P TT fl o (upd t g (tbool b)) m fun x mo rd => putTW (upd t g (tbool b)) o.dst x fun t' => putMW m mo fun m' => entryW draw o [g] mo rd tr fun tr => ih t' m' tr K
              else putTW (upd t g (tbool b)) o.dst .undef fun t' => entryW draw o [g] [] [] tr fun tr => ih t' m tr K
          | .undef => putTW t o.dst .undef fun t' => entryW draw o [g] [] [] tr fun tr => ih t' m tr K
          | _ => False
        | none => False
    else False
/-- A region's walk, by the list's own recursor: the kernel then meets the same terms as the elaborator. -/
def regW (P : Program) (TT : Tab) (fl : List Nat) (N : Nat) (ops : Array Oper) (draw : Bool) (os : List Oper) : (Nat → TV) → (Id → Mem) → Trace → ((Nat → TV) → (Id → Mem) → Trace → Prop) → Prop :=
  List.rec (motive := fun _ => (Nat → TV) → (Id → Mem) → Trace → ((Nat → TV) → (Id → Mem) → Trace → Prop) → Prop) (fun t m tr K => K t m tr) (fun o _ ih => opStep P TT fl N ops draw o ih) os
theorem regW_cons {P : Program} {TT : Tab} {fl : List Nat} {N : Nat} {ops : Array Oper} {draw : Bool} {o : Oper} {r : List Oper} {t : Nat → TV} {m : Id → Mem} {tr : Trace} {K : (Nat → TV) → (Id → Mem) → Trace → Prop} :
    regW P TT fl N ops draw (o :: r) t m tr K = opStep P TT fl N ops draw o (regW P TT fl N ops draw r) t m tr K := rfl

structure Ent where
  dst : Option Nat
  x : TV
  mo : List (Id × Mem)
  rdS : List Nat
  rdM : List Nat

def Ent.mask (e : Ent) : Nat × Nat := (maskS e.rdS ||| maskM e.rdM, maskS (dstL e.dst) ||| maskM (e.mo.map fun p => p.1.key))

/-- One operation of a region, run or passed over: true wherever what it looks at is as it was. -/
def EntOk (P : Program) (N : Nat) (ops : Array Oper) (o : Oper) (e : Ent) (t : Nat → TV) (m : Id → Mem) : Prop :=
  ∀ (E : Env) (ρ : Id → Option (Nat × Nat)) (t' : Nat → TV) (m' : Id → Mem) (a : Act) (w : World), E.P = P → E.N = N → (∀ s ∈ e.rdS, t' s = t s) → Same e.rdM m m' → Rel E ρ t' m' a w →
    ∀ (K : Act → World → Prop) (Q : Exit → Act → World → Prop), (∀ ρ' a' w', Rel E ρ' (putT t' e.dst e.x) (putM m' e.mo) a' w' → K a' w') →
      if Region.wanted o (yielded ops a.tmps) then o.wp P a w K Q else K (a.put o.dst Go.undef) w

inductive Ents (P : Program) (N : Nat) (ops : Array Oper) : List Oper → List Ent → (Nat → TV) → (Id → Mem) → (Nat → TV) → (Id → Mem) → Prop where
  | nil (t : Nat → TV) (m : Id → Mem) : Ents P N ops [] [] t m t m
  | cons {o : Oper} {e : Ent} {os : List Oper} {es : List Ent} {t t' : Nat → TV} {m m' : Id → Mem} (h : EntOk P N ops o e t m) (hr : Ents P N ops os es (putT t e.dst e.x) (putM m e.mo) t' m') : Ents P N ops (o :: os) (e :: es) t m t' m'

theorem bif_true {p q : Prop} (h : bif true then p else q) : p := h
theorem bif_false {p q : Prop} (h : bif false then p else q) : q := h

theorem mem_tmpsOf : ∀ {l : List Operand} {s : Nat}, Operand.tmp s ∈ l → s ∈ tmpsOf l
  | [], _, h => by simp at h
  | x :: r, s, h => by
    rcases List.mem_cons.1 h with rfl | h
    · simp [tmpsOf]
    · have := mem_tmpsOf h
      cases x <;> simp [tmpsOf, this]

theorem yielded_eq {ops : Array Oper} {tmps : Array Value} {j g : Nat} (h : (ops[j]?).bind (·.dst) = some g) :
    (∀ b, tmps.getD g Go.undef = .bool b → yielded ops tmps j = some b) ∧ (tmps.getD g Go.undef = Go.undef → yielded ops tmps j = none) := by
  unfold yielded
  rw [h]
  simp only [Option.bind_some, Array.getD_eq_getD_getElem?]
  cases hq : tmps[g]? with
  | none => exact ⟨fun b hb => by simp [Go.undef] at hb, fun _ => rfl⟩
  | some v =>
    simp only [Option.getD_some]
    exact ⟨fun b hb => by rw [hb], fun hb => by rw [hb]; rfl⟩

theorem regW_ents {P : Program} {TT : Tab} (hT : TabOk P TT) {fl : List Nat} {N : Nat} {ops : Array Oper} {draw : Bool} : ∀ (os : List Oper) (t : Nat → TV) (m : Id → Mem) (tr : Trace) (K : (Nat → TV) → (Id → Mem) → Trace → Prop), regW P TT fl N ops draw os t m tr K →
    ∃ es t' m', Ents P N ops os es t m t' m' ∧ K t' m' (bif draw then (es.map Ent.mask).reverse ++ tr else tr) ∧ (∀ (i : Nat) (o : Oper) (e : Ent), os[i]? = some o → es[i]? = some e → e.dst = o.dst)
  | [], t, m, tr, K, h => ⟨[], t, m, .nil t m, by cases draw <;> exact h, by simp⟩
  | o :: r, t, m, tr, K, h => by
    rw [regW_cons] at h
    unfold opStep at h
    replace h := bif_and h; obtain ⟨hd, h⟩ := h
    have hdst : ∀ k, o.dst = some k → k < N := by
      intro k hk
      rw [hk] at hd
      exact lt_of_blt hd
    have fin : ∀ (e : Ent) (gs : List Nat) (rd : List Nat), EntOk P N ops o e t m → e.dst = o.dst → e.rdS = gs ++ tmpsOf o.op.operands.toList → e.rdM = rd →
        regW P TT fl N ops draw r (putT t e.dst e.x) (putM m e.mo) (entry draw o gs e.mo rd tr) K →
        ∃ es t' m', Ents P N ops (o :: r) es t m t' m' ∧ K t' m' (bif draw then (es.map Ent.mask).reverse ++ tr else tr) ∧ (∀ (i : Nat) (o' : Oper) (e : Ent), (o :: r)[i]? = some o' → es[i]? = some e → e.dst = o'.dst) := by
      intro e gs rd he hed hS hM hr
      obtain ⟨es, t', m', h1, h2, h3⟩ := regW_ents hT r _ _ _ K hr
      refine ⟨e :: es, t', m', .cons he h1, ?_, ?_⟩
      · have hmask : e.mask = (maskS (gs ++ tmpsOf o.op.operands.toList) ||| maskM rd, maskS (dstL o.dst) ||| maskM (e.mo.map fun p => p.1.key)) := by
          unfold Ent.mask
          rw [hS, hM, hed]
        cases draw with
        | false => exact h2
        | true =>
          simp only [entry, cond_true] at h2 ⊢
          rw [← hmask] at h2
          simpa using h2
      · intro i o' e' hi he'
        cases i with
        | zero => simp at hi he'; subst hi; subst he'; exact hed
        | succ i => exact h3 i o' e' (by simpa using hi) (by simpa using he')
    cases hg : o.guard with
    | none =>
      simp only [hg] at h
      obtain ⟨x, mo, rd, h, hok⟩ := opW_ok hT h
      rw [putTW_iff, putMW_iff, entryW_iff] at h
      refine fin ⟨o.dst, x, mo, tmpsOf o.op.operands.toList, rd⟩ [] rd ?_ rfl rfl rfl h
      intro E ρ t' m' a w hP hN hS hM hR K Q hK
      rw [if_pos (by simp [Region.wanted, hg])]
      exact hok E ρ t' m' a w hP (fun s hs => hS s (mem_tmpsOf hs)) hM (fun k hk => by rw [hN]; exact hdst k hk) hR K Q hK
    | some gd =>
      obtain ⟨j, want⟩ := gd
      simp only [hg] at h
      cases hj : (ops[j]?).bind (·.dst) with
      | none => simp only [hj] at h
      | some g =>
        simp only [hj] at h
        split at h
        · rename_i b hb
          have h := h.elim
          have hb' : t g = tbool b := hb
          have hu : upd t g (tbool b) = t := by rw [← hb']; exact upd_self t g
          rw [hu] at h
          cases hw : beqB b want with
          | true =>
            rw [hw] at h
            have hbw : b = want := by revert hw; cases b <;> cases want <;> simp [beqB]
            obtain ⟨x, mo, rd, h, hok⟩ := opW_ok hT (bif_true h)
            rw [putTW_iff, putMW_iff, entryW_iff] at h
            refine fin ⟨o.dst, x, mo, [g] ++ tmpsOf o.op.operands.toList, rd⟩ [g] rd ?_ rfl rfl rfl h
            intro E ρ t' m' a w hP hN hS hM hR K Q hK
            have hs := hR.slots g
            rw [hS g (by simp), hb] at hs
            have hv := (Rd.inv_v (show Rd _ _ _ _ from hs)).1
            rw [if_pos (by simp [Region.wanted, hg, (yielded_eq hj).1 b hv, hbw])]
            exact hok E ρ t' m' a w hP (fun s hs => hS s (by simp [mem_tmpsOf hs])) hM (fun k hk => by rw [hN]; exact hdst k hk) hR K Q hK
          | false =>
            rw [hw] at h
            have hbw : b ≠ want := by revert hw; cases b <;> cases want <;> simp [beqB]
            have h := (putTW_iff (t := t) (d := o.dst) (x := .undef)).1 (bif_false h)
            rw [entryW_iff] at h
            refine fin ⟨o.dst, .undef, [], [g] ++ tmpsOf o.op.operands.toList, []⟩ [g] [] ?_ rfl rfl rfl h
            intro E ρ t' m' a w hP hN hS hM hR K Q hK
            have hs := hR.slots g
            rw [hS g (by simp), hb] at hs
            have hv := (Rd.inv_v (show Rd _ _ _ _ from hs)).1
            rw [if_neg (by simp [Region.wanted, hg, (yielded_eq hj).1 b hv, hbw])]
            exact hK ρ _ w (hR.put (fun k hk => by rw [hN]; exact hdst k hk) rfl (fun _ h => h.elim))
        · rename_i hb
          have h := (putTW_iff (t := t) (d := o.dst) (x := .undef)).1 h
          rw [entryW_iff] at h
          refine fin ⟨o.dst, .undef, [], [g] ++ tmpsOf o.op.operands.toList, []⟩ [g] [] ?_ rfl rfl rfl h
          intro E ρ t' m' a w hP hN hS hM hR K Q hK
          have hs := hR.slots g
          rw [hS g (by simp), hb] at hs
          rw [if_neg (by simp [Region.wanted, hg, (yielded_eq hj).2 hs])]
          exact hK ρ _ w (hR.put (fun k hk => by rw [hN]; exact hdst k hk) rfl (fun _ h => h.elim))
        · exact h.elim

/-- A region in the order of its text. -/
theorem ents_list {P : Program} {N : Nat} {ops : Array Oper} {os : List Oper} {es : List Ent} {t t' : Nat → TV} {m m' : Id → Mem} (h : Ents P N ops os es t m t' m') :
    ∀ (E : Env) (ρ : Id → Option (Nat × Nat)) (a : Act) (w : World), E.P = P → E.N = N → Rel E ρ t m a w → ∀ (Q : Exit → Act → World → Prop), (∀ ρ' a' w', Rel E ρ' t' m' a' w' → Q .normal a' w') → wpList P ops Q os a w := by
  induction h with
  | nil t m => intro E ρ a w _ _ hR Q hQ; exact hQ ρ a w hR
  | @cons o e os es t t' m m' he hr ih =>
    intro E ρ a w hP hN hR Q hQ
    have h1 := he E ρ t m a w hP hN (fun _ _ => rfl) (fun _ _ => rfl) hR (wpList P ops Q os) Q (fun ρ' a' w' hR' => ih E ρ' a' w' hP hN hR' Q hQ)
    unfold wpList
    split
    · rename_i hw; rw [if_pos hw] at h1; exact .inl h1
    · rename_i hw; rw [if_neg hw] at h1; exact h1

/-! ### whatever order the edges allow -/
def befMask (acc : List Nat) (o : Oper) : Nat :=
  o.after.toList.foldl (fun s e => bif Region.binds .any e then s ||| 2 ^ e.on ||| acc.getD e.on 0 else s) 0
def befs : List Oper → List Nat → List Nat
  | [], acc => acc
  | o :: os, acc => befs os (acc ++ [befMask acc o])

def conf (a b : Nat × Nat) : Bool := !(((a.2 &&& (b.1 ||| b.2)) ||| (a.1 &&& b.2)) == 0)

def chk (ops : List Oper) (tr : Trace) : Bool :=
  let bs := befs ops []
  (List.range ops.length).all fun j =>
    ((ops[j]?).map fun o => o.after.toList.all fun e => !Region.binds .any e || Nat.blt e.on j).getD false &&
    (List.range j).all fun i => !(conf (tr.getD i (0, 0)) (tr.getD j (0, 0))) || (bs.getD j 0).testBit i

theorem testBit_maskS : ∀ {l : List Nat} {s : Nat}, s ∈ l → (maskS l).testBit (2 * s) = true
  | [], _, h => by simp at h
  | x :: r, s, h => by
    simp only [maskS, Nat.testBit_or]
    rcases List.mem_cons.1 h with rfl | h
    · simp [Nat.testBit_two_pow_self]
    · simp [testBit_maskS h]
theorem testBit_maskM : ∀ {l : List Nat} {s : Nat}, s ∈ l → (maskM l).testBit (2 * s + 1) = true
  | [], _, h => by simp at h
  | x :: r, s, h => by
    simp only [maskM, Nat.testBit_or]
    rcases List.mem_cons.1 h with rfl | h
    · simp [Nat.testBit_two_pow_self]
    · simp [testBit_maskM h]

theorem conf_of {a b : Nat × Nat} (p : Nat) (h : (a.2.testBit p = true ∧ (b.1.testBit p = true ∨ b.2.testBit p = true)) ∨ (a.1.testBit p = true ∧ b.2.testBit p = true)) : conf a b = true := by
  unfold conf
  cases hq : ((a.2 &&& (b.1 ||| b.2)) ||| (a.1 &&& b.2)) == 0 with
  | false => rfl
  | true =>
    have h0 : ((a.2 &&& (b.1 ||| b.2)) ||| (a.1 &&& b.2)) = 0 := by simpa using hq
    have h1 := congrArg (fun n => Nat.testBit n p) h0
    simp only [Nat.testBit_or, Nat.testBit_and, Nat.zero_testBit] at h1
    rcases h with ⟨h2, h3⟩ | ⟨h2, h3⟩
    · rcases h3 with h3 | h3 <;> simp [h2, h3] at h1
    · simp [h2, h3] at h1

def wS (e : Ent) (s : Nat) : Prop := e.dst = some s
def wM (e : Ent) (o : Id) : Prop := o ∈ e.mo.map (·.1)

theorem conf_slot {a b : Ent} {s : Nat} (h : wS a s ∧ (s ∈ b.rdS ∨ wS b s) ∨ s ∈ a.rdS ∧ wS b s) : conf a.mask b.mask = true := by
  have hw : ∀ e : Ent, wS e s → e.mask.2.testBit (2 * s) = true := fun e he => by
    unfold wS at he
    simp only [Ent.mask, he, dstL, Nat.testBit_or]
    simp [testBit_maskS (l := [s]) (s := s) (by simp)]
  have hr : ∀ e : Ent, s ∈ e.rdS → e.mask.1.testBit (2 * s) = true := fun e he => by
    simp only [Ent.mask, Nat.testBit_or, testBit_maskS he, Bool.true_or]
  refine conf_of (2 * s) ?_
  rcases h with ⟨h1, h2 | h2⟩ | ⟨h1, h2⟩
  · exact .inl ⟨hw a h1, .inl (hr b h2)⟩
  · exact .inl ⟨hw a h1, .inr (hw b h2)⟩
  · exact .inr ⟨hr a h1, hw b h2⟩

theorem conf_obj {a b : Ent} {s : Id} (h : wM a s ∧ (s.key ∈ b.rdM ∨ wM b s) ∨ s.key ∈ a.rdM ∧ wM b s) : conf a.mask b.mask = true := by
  have hw : ∀ e : Ent, wM e s → e.mask.2.testBit (2 * s.key + 1) = true := fun e he => by
    unfold wM at he
    obtain ⟨p, hp, rfl⟩ := List.mem_map.1 he
    simp only [Ent.mask, Nat.testBit_or, testBit_maskM (List.mem_map.2 ⟨p, hp, rfl⟩), Bool.or_true]
  have hr : ∀ e : Ent, s.key ∈ e.rdM → e.mask.1.testBit (2 * s.key + 1) = true := fun e he => by
    simp only [Ent.mask, Nat.testBit_or, testBit_maskM he, Bool.or_true]
  refine conf_of (2 * s.key + 1) ?_
  rcases h with ⟨h1, h2 | h2⟩ | ⟨h1, h2⟩
  · exact .inl ⟨hw a h1, .inl (hr b h2)⟩
  · exact .inl ⟨hw a h1, .inr (hw b h2)⟩
  · exact .inr ⟨hr a h1, hw b h2⟩

/-- The walk's state when just the operations of S are done. -/
def fT : List Ent → (Nat → Bool) → Nat → (Nat → TV) → Nat → TV
  | [], _, _, t => t
  | e :: es, S, k, t => fT es S (k + 1) (if S k then putT t e.dst e.x else t)
def fM : List Ent → (Nat → Bool) → Nat → (Id → Mem) → Id → Mem
  | [], _, _, m => m
  | e :: es, S, k, m => fM es S (k + 1) (if S k then putM m e.mo else m)

theorem putT_ne {t : Nat → TV} {d : Option Nat} {x : TV} {s : Nat} (h : d ≠ some s) : putT t d x s = t s := by
  cases d with
  | none => rfl
  | some k => exact upd_ne _ _ _ (fun e => h (by rw [e]))
theorem putT_eq {t : Nat → TV} {d : Option Nat} {x : TV} {s : Nat} (h : d = some s) : putT t d x s = x := by
  subst h; exact upd_same _ _ _
theorem putM_ne : ∀ {mo : List (Id × Mem)} {m : Id → Mem} {o : Id}, o ∉ mo.map (·.1) → putM m mo o = m o
  | [], _, _, _ => rfl
  | (o', x) :: r, m, o, h => by
    simp only [List.map_cons, List.mem_cons, not_or] at h
    simp only [putM]
    rw [putM_ne h.2, upd_ne _ _ _ h.1]
theorem putM_eq : ∀ {mo : List (Id × Mem)} {m m' : Id → Mem} {o : Id}, o ∈ mo.map (·.1) → putM m mo o = putM m' mo o
  | [], _, _, _, h => by simp at h
  | (o', x) :: r, m, m', o, h => by
    simp only [putM]
    by_cases hr : o ∈ r.map (·.1)
    · exact putM_eq hr
    · rw [putM_ne hr, putM_ne hr]
      have e : o = o' := by
        simp only [List.map_cons, List.mem_cons] at h
        rcases h with h | h
        · exact h
        · exact absurd h hr
      subst e
      rw [upd_same, upd_same]

theorem fT_agree : ∀ (es : List Ent) (S S' : Nat → Bool) (k : Nat) (t t' : Nat → TV) (s : Nat), t s = t' s → (∀ i e, es[i]? = some e → wS e s → S (k + i) = S' (k + i)) → fT es S k t s = fT es S' k t' s
  | [], _, _, _, _, _, _, h, _ => h
  | e :: es, S, S', k, t, t', s, h, hw => by
    simp only [fT]
    refine fT_agree es S S' (k + 1) _ _ s ?_ (fun i e' hi hws => by
      have := hw (i + 1) e' (by simpa using hi) hws
      rwa [show k + (i + 1) = k + 1 + i by omega] at this)
    by_cases hws : wS e s
    · have h0 := hw 0 e rfl hws
      simp only [Nat.add_zero] at h0
      rw [h0]
      split
      · rw [putT_eq hws, putT_eq hws]
      · exact h
    · have hne : e.dst ≠ some s := hws
      have e1 : (if S k = true then putT t e.dst e.x else t) s = t s := by split; exact putT_ne hne; rfl
      have e2 : (if S' k = true then putT t' e.dst e.x else t') s = t' s := by split; exact putT_ne hne; rfl
      rw [e1, e2, h]

theorem fM_agree : ∀ (es : List Ent) (S S' : Nat → Bool) (k : Nat) (m m' : Id → Mem) (o : Id), m o = m' o → (∀ i e, es[i]? = some e → wM e o → S (k + i) = S' (k + i)) → fM es S k m o = fM es S' k m' o
  | [], _, _, _, _, _, _, h, _ => h
  | e :: es, S, S', k, m, m', o, h, hw => by
    simp only [fM]
    refine fM_agree es S S' (k + 1) _ _ o ?_ (fun i e' hi hws => by
      have := hw (i + 1) e' (by simpa using hi) hws
      rwa [show k + (i + 1) = k + 1 + i by omega] at this)
    by_cases hws : wM e o
    · have h0 := hw 0 e rfl hws
      simp only [Nat.add_zero] at h0
      rw [h0]
      split
      · exact putM_eq hws
      · exact h
    · have hne : o ∉ e.mo.map (·.1) := hws
      have e1 : (if S k = true then putM m e.mo else m) o = m o := by split; exact putM_ne hne; rfl
      have e2 : (if S' k = true then putM m' e.mo else m') o = m' o := by split; exact putM_ne hne; rfl
      rw [e1, e2, h]

theorem fT_off (es : List Ent) (S : Nat → Bool) (k : Nat) (t : Nat → TV) (s : Nat) (h : ∀ i e, es[i]? = some e → wS e s → S (k + i) = false) : fT es S k t s = t s := by
  induction es generalizing k t with
  | nil => rfl
  | cons e es ih =>
    simp only [fT]
    rw [ih (k + 1) _ (fun i e' hi hws => by
      have := h (i + 1) e' (by simpa using hi) hws
      rwa [show k + (i + 1) = k + 1 + i by omega] at this)]
    by_cases hws : wS e s
    · have h0 := h 0 e rfl hws
      simp only [Nat.add_zero] at h0
      rw [h0]; rfl
    · split
      · exact putT_ne hws
      · rfl
theorem fM_off (es : List Ent) (S : Nat → Bool) (k : Nat) (m : Id → Mem) (o : Id) (h : ∀ i e, es[i]? = some e → wM e o → S (k + i) = false) : fM es S k m o = m o := by
  induction es generalizing k m with
  | nil => rfl
  | cons e es ih =>
    simp only [fM]
    rw [ih (k + 1) _ (fun i e' hi hws => by
      have := h (i + 1) e' (by simpa using hi) hws
      rwa [show k + (i + 1) = k + 1 + i by omega] at this)]
    by_cases hws : wM e o
    · have h0 := h 0 e rfl hws
      simp only [Nat.add_zero] at h0
      rw [h0]; rfl
    · split
      · exact putM_ne hws
      · rfl

/-- The last writer's word stands. -/
theorem fT_last : ∀ (es : List Ent) (S : Nat → Bool) (k : Nat) (t : Nat → TV) (s : Nat) (i : Nat) (e : Ent), es[i]? = some e → wS e s → S (k + i) = true → (∀ j e', es[j]? = some e' → i < j → wS e' s → S (k + j) = false) → fT es S k t s = e.x
  | [], _, _, _, _, i, e, h, _, _, _ => by simp at h
  | e0 :: es, S, k, t, s, 0, e, h, hw, hs, hl => by
    simp at h; subst h
    simp only [fT]
    rw [fT_off es S (k + 1) _ s (fun j e' hj hws => by
      have := hl (j + 1) e' (by simpa using hj) (by omega) hws
      rwa [show k + (j + 1) = k + 1 + j by omega] at this)]
    simp only [Nat.add_zero] at hs
    rw [hs]
    exact putT_eq hw
  | e0 :: es, S, k, t, s, i + 1, e, h, hw, hs, hl => by
    simp only [fT]
    exact fT_last es S (k + 1) _ s i e (by simpa using h) hw (by rwa [show k + (i + 1) = k + 1 + i by omega] at hs) (fun j e' hj hij hws => by
      have := hl (j + 1) e' (by simpa using hj) (by omega) hws
      rwa [show k + (j + 1) = k + 1 + j by omega] at this)
theorem fM_last : ∀ (es : List Ent) (S : Nat → Bool) (k : Nat) (m m' : Id → Mem) (o : Id) (i : Nat) (e : Ent), es[i]? = some e → wM e o → S (k + i) = true → (∀ j e', es[j]? = some e' → i < j → wM e' o → S (k + j) = false) → fM es S k m o = putM m' e.mo o
  | [], _, _, _, _, _, i, e, h, _, _, _ => by simp at h
  | e0 :: es, S, k, m, m', o, 0, e, h, hw, hs, hl => by
    simp at h; subst h
    simp only [fM]
    rw [fM_off es S (k + 1) _ o (fun j e' hj hws => by
      have := hl (j + 1) e' (by simpa using hj) (by omega) hws
      rwa [show k + (j + 1) = k + 1 + j by omega] at this)]
    simp only [Nat.add_zero] at hs
    rw [hs]
    exact putM_eq hw
  | e0 :: es, S, k, m, m', o, i + 1, e, h, hw, hs, hl => by
    simp only [fM]
    exact fM_last es S (k + 1) _ m' o i e (by simpa using h) hw (by rwa [show k + (i + 1) = k + 1 + i by omega] at hs) (fun j e' hj hij hws => by
      have := hl (j + 1) e' (by simpa using hj) (by omega) hws
      rwa [show k + (j + 1) = k + 1 + j by omega] at this)

theorem Ents.length {P : Program} {N : Nat} {ops : Array Oper} {os : List Oper} {es : List Ent} {t t' : Nat → TV} {m m' : Id → Mem} (h : Ents P N ops os es t m t' m') : es.length = os.length := by
  induction h with
  | nil => rfl
  | cons _ _ ih => simp [ih]

theorem Ents.final {P : Program} {N : Nat} {ops : Array Oper} {os : List Oper} {es : List Ent} {t t' : Nat → TV} {m m' : Id → Mem} (h : Ents P N ops os es t m t' m') : ∀ (S : Nat → Bool) (k : Nat), (∀ i, i < es.length → S (k + i) = true) → fT es S k t = t' ∧ fM es S k m = m' := by
  induction h with
  | nil => intro S k _; exact ⟨rfl, rfl⟩
  | @cons o e os es t t' m m' he hr ih =>
    intro S k hS
    have h0 := hS 0 (by simp)
    simp only [Nat.add_zero] at h0
    simp only [fT, fM, h0, if_true]
    exact ih S (k + 1) (fun i hi => by
      have := hS (i + 1) (by simpa using hi)
      rwa [show k + (i + 1) = k + 1 + i by omega] at this)

theorem Ents.at {P : Program} {N : Nat} {ops : Array Oper} {os : List Oper} {es : List Ent} {t t' : Nat → TV} {m m' : Id → Mem} (h : Ents P N ops os es t m t' m') : ∀ (k i : Nat) (o : Oper) (e : Ent), os[i]? = some o → es[i]? = some e →
    EntOk P N ops o e (fT es (fun j => decide (j < k + i)) k t) (fM es (fun j => decide (j < k + i)) k m) := by
  induction h with
  | nil => intro k i o e h; simp at h
  | @cons o0 e0 os es t t' m m' he hr ih =>
    intro k i o e ho hi
    cases i with
    | zero =>
      simp at ho hi
      subst ho; subst hi
      have h1 : fT (e0 :: es) (fun j => decide (j < k + 0)) k t = t := by
        funext s
        exact fT_off _ _ _ _ _ (fun i _ _ _ => by simp)
      have h2 : fM (e0 :: es) (fun j => decide (j < k + 0)) k m = m := by
        funext s
        exact fM_off _ _ _ _ _ (fun i _ _ _ => by simp)
      rw [h1, h2]
      exact he
    | succ i =>
      have := ih (k + 1) i o e (by simpa using ho) (by simpa using hi)
      simp only [fT, fM, show k < k + (i + 1) from by omega, decide_true, if_true]
      rwa [show k + 1 + i = k + (i + 1) by omega] at this
end Go.Vm
namespace Go.Vm
set_option linter.unusedVariables false
set_option linter.unusedSimpArgs false
open Go Go.RowKit

/-! ### regions in whatever order -/

theorem length_befs : ∀ (os : List Oper) (acc : List Nat), (befs os acc).length = acc.length + os.length
  | [], acc => by simp [befs]
  | o :: os, acc => by simp [befs, length_befs os]; omega

theorem befs_acc : ∀ (os : List Oper) (acc : List Nat) (i : Nat), i < acc.length → (befs os acc)[i]? = acc[i]?
  | [], _, _, _ => rfl
  | o :: os, acc, i, h => by
    rw [befs, befs_acc os _ i (by simp; omega), List.getElem?_append, if_pos h]

theorem testBit_befMask (acc : List Nat) (l : List Edge) (p : Nat) : ∀ (s : Nat), (l.foldl (fun s e => bif Region.binds .any e then s ||| 2 ^ e.on ||| acc.getD e.on 0 else s) s).testBit p = true →
    s.testBit p = true ∨ ∃ e ∈ l, Region.binds .any e = true ∧ (p = e.on ∨ (acc.getD e.on 0).testBit p = true) := by
  induction l with
  | nil => intro s h; exact .inl h
  | cons e l ih =>
    intro s h
    simp only [List.foldl_cons] at h
    rcases ih _ h with h1 | ⟨e', he', h2⟩
    · cases hb : Region.binds .any e with
      | false => rw [hb] at h1; exact .inl h1
      | true =>
        rw [hb] at h1
        simp only [cond_true, Nat.testBit_or, Bool.or_eq_true] at h1
        rcases h1 with (h1 | h1) | h1
        · exact .inl h1
        · right
          refine ⟨e, by simp, hb, .inl ?_⟩
          rw [Nat.testBit_two_pow] at h1
          have : e.on = p := by simpa using h1
          exact this.symm
        · exact .inr ⟨e, by simp, hb, .inr h1⟩
    · exact .inr ⟨e', by simp [he'], h2⟩

/-- What an operation's mask names, the edges name: in steps. -/
theorem befs_closed {ops : List Oper} (S : Nat → Prop) (hS : ∀ i (o : Oper), ops[i]? = some o → S i → ∀ e ∈ o.after.toList, Region.binds .any e = true → S e.on) :
    ∀ (n : Nat) (done rest : List Oper) (acc : List Nat), rest.length = n → ops = done ++ rest → acc.length = done.length →
      (∀ i (o : Oper), i < done.length → ops[i]? = some o → (∀ e ∈ o.after.toList, Region.binds .any e = true → S e.on) → ∀ p, (acc.getD i 0).testBit p = true → S p) →
      ∀ i (o : Oper), ops[i]? = some o → (∀ e ∈ o.after.toList, Region.binds .any e = true → S e.on) → ∀ p, ((befs rest acc).getD i 0).testBit p = true → S p := by
  intro n
  induction n with
  | zero =>
    intro done rest acc hn ho hl hacc i o hi he p hp
    have : rest = [] := List.eq_nil_of_length_eq_zero hn
    subst this
    rw [befs] at hp
    refine hacc i o ?_ hi he p hp
    have := (List.getElem?_eq_some_iff.1 hi).1
    rw [ho] at this
    simpa using this
  | succ n ih =>
    intro done rest acc hn ho hl hacc
    match rest, hn with
    | o0 :: rest, hn =>
      rw [befs]
      refine ih (done ++ [o0]) rest (acc ++ [befMask acc o0]) (by simpa using hn) (by simp [ho]) (by simp [hl]) ?_
      intro i o hlt hi he p hp
      by_cases hid : i < done.length
      · have : (acc ++ [befMask acc o0]).getD i 0 = acc.getD i 0 := by
          simp [List.getD, List.getElem?_append, show i < acc.length by omega]
        rw [this] at hp
        exact hacc i o hid hi he p hp
      · have hie : i = done.length := by simp at hlt; omega
        subst hie
        have e1 : (acc ++ [befMask acc o0]).getD done.length 0 = befMask acc o0 := by
          simp [List.getD, ← hl]
        rw [e1] at hp
        have e2 : o = o0 := by
          rw [ho] at hi
          simp at hi
          exact hi.symm
        subst e2
        rcases testBit_befMask acc o.after.toList p 0 hp with h0 | ⟨e, he1, he2, he3⟩
        · simp at h0
        · have hse := he e he1 he2
          rcases he3 with rfl | he3
          · exact hse
          · -- the mask of the operation that the edge names
            have hlt : e.on < done.length := by
              rcases Nat.lt_or_ge e.on acc.length with h | h
              · omega
              · simp [List.getD, List.getElem?_eq_none h] at he3
            have hoe : ∃ oe, ops[e.on]? = some oe := ⟨_, List.getElem?_eq_getElem (by rw [ho]; simp; omega)⟩
            obtain ⟨oe, hoe⟩ := hoe
            exact hacc e.on oe hlt hoe (hS e.on oe hoe hse) p he3

theorem mem_ready {md : Region.Mode} {ops : Array Oper} {listed : Array Bool} {i : Nat} : i ∈ Region.ready md ops listed ↔ i < ops.size ∧ listed.getD i true = false ∧ ∀ o, ops[i]? = some o → ∀ e ∈ o.after.toList, Region.binds md e = true → listed.getD e.on false = true := by
  unfold Region.ready
  simp only [List.mem_filter, List.mem_range, Bool.and_eq_true, Bool.not_eq_true']
  constructor
  · rintro ⟨h1, h2, h3⟩
    refine ⟨h1, h2, fun o ho e he hb => ?_⟩
    rw [ho] at h3
    simp only [Option.map_some, Option.getD_some, Array.all_eq_true_iff_forall_mem] at h3
    have := h3 e (Array.mem_toList_iff.1 he)
    simpa [hb] using this
  · rintro ⟨h1, h2, h3⟩
    refine ⟨h1, h2, ?_⟩
    have ho : ops[i]? = some ops[i] := by simp [h1]
    rw [ho]
    simp only [Option.map_some, Option.getD_some, Array.all_eq_true_iff_forall_mem]
    intro e he
    cases hb : Region.binds md e with
    | false => rfl
    | true => simpa [hb] using h3 ops[i] ho e (Array.mem_toList_iff.2 he) hb

/-- How many are yet to be done. -/
def leftN (n : Nat) (listed : Array Bool) : Nat := ((List.range n).filter fun i => !listed.getD i true).length

theorem leftN_step {n : Nat} {listed : Array Bool} (hs : listed.size = n) {i : Nat} (hi : i < n) (hl : listed.getD i true = false) : leftN n (listed.setIfInBounds i true) + 1 = leftN n listed := by
  unfold leftN
  have hset : ∀ j, (listed.setIfInBounds i true).getD j true = if j = i then true else listed.getD j true := by
    intro j
    simp only [Array.getD_eq_getD_getElem?, Array.getElem?_setIfInBounds]
    by_cases h : i = j
    · subst h; simp [hs, hi]
    · have : j ≠ i := fun e => h e.symm
      simp [h, this]
  have key : ∀ (l : List Nat), l.Nodup → ((l.filter fun j => !(listed.setIfInBounds i true).getD j true).length + if i ∈ l then 1 else 0) = (l.filter fun j => !listed.getD j true).length := by
    intro l
    induction l with
    | nil => intro _; rfl
    | cons x l ih =>
      intro hnd
      have hnd' := List.nodup_cons.1 hnd
      have h0 := ih hnd'.2
      by_cases hx : x = i
      · subst hx
        have hni : x ∉ l := hnd'.1
        rw [if_neg hni] at h0
        have e1 : (!(listed.setIfInBounds x true).getD x true) = false := by rw [hset]; simp
        have e2 : (!listed.getD x true) = true := by rw [hl]; rfl
        simp only [List.filter_cons, e1, e2, if_true, List.length_cons, List.mem_cons, true_or]
        simp only [Bool.false_eq_true, if_false]
        omega
      · have e1 : (!(listed.setIfInBounds i true).getD x true) = (!listed.getD x true) := by rw [hset, if_neg hx]
        simp only [List.filter_cons, e1]
        have e3 : (i ∈ x :: l) ↔ i ∈ l := by
          rw [List.mem_cons]
          exact ⟨fun h => h.resolve_left (fun e => hx e.symm), .inr⟩
        simp only [e3]
        cases hb : (!listed.getD x true) with
        | true => simp only [if_true, List.length_cons]; omega
        | false => simp only [Bool.false_eq_true, if_false]; exact h0
  have := key (List.range n) List.nodup_range
  rw [if_pos (by simpa using hi)] at this
  exact this

theorem leftN_zero {n : Nat} {listed : Array Bool} (h : leftN n listed = 0) (i : Nat) (hi : i < n) : listed.getD i true = true := by
  unfold leftN at h
  have h0 := List.eq_nil_of_length_eq_zero h
  have h1 := List.filter_eq_nil_iff.1 h0 i (by simpa using hi)
  cases hb : listed.getD i true with
  | true => rfl
  | false => rw [hb] at h1; simp at h1

/-- A REGION IN WHATEVER ORDER ITS EDGES ALLOW: what it leaves is what the order of the text leaves. -/
theorem ents_any {P : Program} {N : Nat} {ops : Array Oper} {es : List Ent} {t t' : Nat → TV} {m m' : Id → Mem} (h : Ents P N ops ops.toList es t m t' m') (hc : chk ops.toList (es.map Ent.mask) = true)
    {E : Env} (hP : E.P = P) (hN : E.N = N) {Q : Exit → Act → World → Prop} (hQ : ∀ ρ' a' w', Rel E ρ' t' m' a' w' → Q .normal a' w') :
    ∀ (fuel : Nat) (listed : Array Bool) (ρ : Id → Option (Nat × Nat)) (a : Act) (w : World), listed.size = ops.size → leftN ops.size listed = fuel →
      (∀ i (o : Oper), ops.toList[i]? = some o → listed.getD i false = true → ∀ e ∈ o.after.toList, Region.binds .any e = true → listed.getD e.on false = true) →
      Rel E ρ (fT es (fun i => listed.getD i false) 0 t) (fM es (fun i => listed.getD i false) 0 m) a w → wpAny P .any ops Q fuel listed a w := by
  have hel : es.length = ops.size := by rw [h.length]; simp
  -- what the check has held
  have hc' : ∀ j, j < ops.size → (∀ o, ops.toList[j]? = some o → ∀ e ∈ o.after.toList, Region.binds .any e = true → e.on < j) ∧
      ∀ i, i < j → ∀ ei ej, es[i]? = some ei → es[j]? = some ej → conf ei.mask ej.mask = true → ((befs ops.toList []).getD j 0).testBit i = true := by
    intro j hj
    unfold chk at hc
    simp only [List.all_eq_true, List.mem_range, Bool.and_eq_true] at hc
    obtain ⟨c1, c2⟩ := hc j (by simpa using hj)
    refine ⟨fun o ho e he hb => ?_, fun i hi ei ej h1 h2 hcf => ?_⟩
    · rw [ho] at c1
      simp only [Option.map_some, Option.getD_some, List.all_eq_true] at c1
      have := c1 e he
      rw [hb] at this
      exact lt_of_blt (by simpa using this)
    · have := c2 i hi
      have e1 : (es.map Ent.mask).getD i (0, 0) = ei.mask := by simp [List.getD, h1]
      have e2 : (es.map Ent.mask).getD j (0, 0) = ej.mask := by simp [List.getD, h2]
      rw [e1, e2, hcf] at this
      simpa using this
  intro fuel
  induction fuel with
  | zero =>
    intro listed ρ a w hs hleft hclo hR
    have hall : ∀ i, i < ops.size → listed.getD i true = true := leftN_zero hleft
    refine ⟨?_, ?_⟩
    · rw [List.eq_nil_iff_forall_not_mem]
      intro i hi
      have := mem_ready.1 hi
      rw [hall i this.1] at this
      simp at this
    · have hf := h.final (fun i => listed.getD i false) 0 (fun i hi => by
        rw [Nat.zero_add]
        have := hall i (by omega)
        have hlt : i < listed.size := by omega
        simp only [Array.getD_eq_getD_getElem?, Array.getElem?_eq_getElem hlt, Option.getD_some] at this ⊢
        exact this)
      rw [hf.1, hf.2] at hR
      exact hQ ρ a w hR
  | succ fuel ih =>
    intro listed ρ a w hs hleft hclo hR
    have hgd : ∀ i, i < ops.size → listed.getD i false = listed.getD i true := fun i hi => by
      have hlt : i < listed.size := by omega
      simp [Array.getD_eq_getD_getElem?, Array.getElem?_eq_getElem hlt]
    refine ⟨fun hr => ?_, fun i hi => ?_⟩
    · -- some one is ready while any is left
      exfalso
      have hex : ∃ i, i < ops.size ∧ listed.getD i true = false := by
        refine Classical.byContradiction fun hn => ?_
        have hz : leftN ops.size listed = 0 := by
          unfold leftN
          rw [List.length_eq_zero_iff, List.filter_eq_nil_iff]
          intro i hi
          cases hb : listed.getD i true with
          | true => simp
          | false => exact absurd ⟨i, by simpa using hi, hb⟩ hn
        omega
      have hmin : ∀ n, (∃ i, i ≤ n ∧ i < ops.size ∧ listed.getD i true = false) → ∃ i, i < ops.size ∧ listed.getD i true = false ∧ ∀ j, j < i → listed.getD j true = true := by
        intro n
        induction n with
        | zero => rintro ⟨i, h1, h2, h3⟩; exact ⟨i, h2, h3, fun j hj => by omega⟩
        | succ n ihn =>
          rintro ⟨i, h1, h2, h3⟩
          by_cases hp : ∃ i, i ≤ n ∧ i < ops.size ∧ listed.getD i true = false
          · exact ihn hp
          · refine ⟨i, h2, h3, fun j hj => ?_⟩
            cases hb : listed.getD j true with
            | true => rfl
            | false => exact absurd ⟨j, by omega, by omega, hb⟩ hp
      obtain ⟨i0, hi0, hl0⟩ := hex
      obtain ⟨i, hi, hl, hm⟩ := hmin i0 ⟨i0, Nat.le_refl _, hi0, hl0⟩
      have : i ∈ Region.ready .any ops listed := mem_ready.2 ⟨hi, hl, fun o ho e he hb => by
        have hlt := (hc' i hi).1 o (by simpa using ho) e he hb
        rw [hgd _ (by omega)]
        exact hm _ hlt⟩
      rw [hr] at this
      simp at this
    · obtain ⟨hin, hl, hdeps⟩ := mem_ready.1 hi
      have hlf : listed.getD i false = false := by rw [hgd i hin]; exact hl
      have hoi : ops[i]? = some ops[i] := by simp [hin]
      have hoi' : ops.toList[i]? = some ops[i] := by simp [hin]
      have hei : es[i]? = some es[i] := by simp [show i < es.length by omega]
      -- what stands before i is done; what is done behind i does not meet it
      have hbef : ∀ p, ((befs ops.toList []).getD i 0).testBit p = true → listed.getD p false = true :=
        befs_closed (fun j => listed.getD j false = true) (fun j o ho hj e he hb => hclo j o ho hj e he hb) _ [] ops.toList [] rfl rfl rfl (fun _ _ h => absurd h (Nat.not_lt_zero _)) i ops[i] hoi' (fun e he hb => hdeps ops[i] hoi e he hb)
      have hbefS : ∀ j, j < ops.size → listed.getD j false = true → ∀ p, ((befs ops.toList []).getD j 0).testBit p = true → listed.getD p false = true := by
        intro j hj hlj
        have hoj' : ops.toList[j]? = some ops[j] := by simp [hj]
        exact befs_closed (fun j => listed.getD j false = true) (fun j o ho hj e he hb => hclo j o ho hj e he hb) _ [] ops.toList [] rfl rfl rfl (fun _ _ h => absurd h (Nat.not_lt_zero _)) j ops[j] hoj' (fun e he hb => hclo j ops[j] hoj' hlj e he hb)
      have hlow : ∀ j ej, j < i → es[j]? = some ej → conf ej.mask es[i].mask = true → listed.getD j false = true := fun j ej hji hej hcf => hbef j ((hc' i hin).2 j hji ej es[i] hej hei hcf)
      have hhigh : ∀ j ej, i < j → es[j]? = some ej → conf es[i].mask ej.mask = true → listed.getD j false = false := fun j ej hij hej hcf => by
        have hj : j < ops.size := by have := (List.getElem?_eq_some_iff.1 hej).1; omega
        cases hb : listed.getD j false with
        | false => rfl
        | true =>
          have := hbefS j hj hb i ((hc' j hj).2 i hij es[i] ej hei hej hcf)
          rw [hlf] at this
          simp at this
      have hat := h.at 0 i ops[i] es[i] hoi' hei
      rw [Nat.zero_add] at hat
      have hagS : ∀ s ∈ es[i].rdS, fT es (fun i => listed.getD i false) 0 t s = fT es (fun j => decide (j < i)) 0 t s := fun s hs =>
        fT_agree es _ _ 0 t t s rfl (fun j ej hej hws => by
          rw [Nat.zero_add]
          rcases Nat.lt_trichotomy j i with hji | hji | hji
          · rw [hlow j ej hji hej (conf_slot (s := s) (.inl ⟨hws, .inl hs⟩))]; simp [hji]
          · subst hji; rw [hlf]; simp
          · rw [hhigh j ej hji hej (conf_slot (s := s) (.inr ⟨hs, hws⟩))]; simp; omega)
      have hagM : ∀ b : Id, b.key ∈ es[i].rdM → fM es (fun i => listed.getD i false) 0 m b = fM es (fun j => decide (j < i)) 0 m b := fun b hb =>
        fM_agree es _ _ 0 m m b rfl (fun j ej hej hws => by
          rw [Nat.zero_add]
          rcases Nat.lt_trichotomy j i with hji | hji | hji
          · rw [hlow j ej hji hej (conf_obj (s := b) (.inl ⟨hws, .inl hb⟩))]; simp [hji]
          · subst hji; rw [hlf]; simp
          · rw [hhigh j ej hji hej (conf_obj (s := b) (.inr ⟨hb, hws⟩))]; simp; omega)
      have hset : ∀ j, (listed.setIfInBounds i true).getD j false = if j = i then true else listed.getD j false := by
        intro j
        simp only [Array.getD_eq_getD_getElem?, Array.getElem?_setIfInBounds]
        by_cases h : i = j
        · subst h; simp [hs, hin]
        · have : j ≠ i := fun e => h e.symm
          simp [h, this]
      have hnewT : fT es (fun j => (listed.setIfInBounds i true).getD j false) 0 t = putT (fT es (fun i => listed.getD i false) 0 t) es[i].dst es[i].x := by
        funext s
        by_cases hws : wS es[i] s
        · rw [putT_eq hws]
          refine fT_last es _ 0 t s i es[i] hei hws (by rw [Nat.zero_add, hset]; simp) (fun j ej hej hij hwj => ?_)
          rw [Nat.zero_add, hset, if_neg (by omega)]
          exact hhigh j ej hij hej (conf_slot (s := s) (.inl ⟨hws, .inr hwj⟩))
        · rw [putT_ne hws]
          refine fT_agree es _ _ 0 t t s rfl (fun j ej hej hwj => ?_)
          rw [Nat.zero_add, hset]
          by_cases hji : j = i
          · subst hji
            rw [hei] at hej
            simp at hej
            subst hej
            exact absurd hwj hws
          · rw [if_neg hji]
      have hnewM : fM es (fun j => (listed.setIfInBounds i true).getD j false) 0 m = putM (fM es (fun i => listed.getD i false) 0 m) es[i].mo := by
        funext s
        by_cases hws : wM es[i] s
        · refine fM_last es _ 0 m _ s i es[i] hei hws (by rw [Nat.zero_add, hset]; simp) (fun j ej hej hij hwj => ?_)
          rw [Nat.zero_add, hset, if_neg (by omega)]
          exact hhigh j ej hij hej (conf_obj (s := s) (.inl ⟨hws, .inr hwj⟩))
        · rw [putM_ne hws]
          refine fM_agree es _ _ 0 m m s rfl (fun j ej hej hwj => ?_)
          rw [Nat.zero_add, hset]
          by_cases hji : j = i
          · subst hji
            rw [hei] at hej
            simp at hej
            subst hej
            exact absurd hwj hws
          · rw [if_neg hji]
      have hgo := hat E ρ _ _ a w hP hN hagS hagM hR (wpAny P .any ops Q fuel (listed.setIfInBounds i true)) Q (fun ρ' a' w' hR' => by
        refine ih _ ρ' a' w' (by simp [hs]) (by have := leftN_step hs hin hl; omega) ?_ (by rw [hnewT, hnewM]; exact hR')
        intro j o ho hlj e he hb
        rw [hset] at hlj ⊢
        by_cases hej : e.on = i
        · rw [if_pos hej]
        · rw [if_neg hej]
          by_cases hji : j = i
          · subst hji
            rw [hoi'] at ho
            simp at ho
            subst ho
            exact hdeps ops[j] hoi e he hb
          · rw [if_neg hji] at hlj
            exact hclo j o ho hlj e he hb)
      unfold wpOp
      rw [hoi]
      simp only
      split
      · rename_i hw; rw [if_pos hw] at hgo; exact .inl hgo
      · rename_i hw; rw [if_neg hw] at hgo; exact hgo
end Go.Vm
