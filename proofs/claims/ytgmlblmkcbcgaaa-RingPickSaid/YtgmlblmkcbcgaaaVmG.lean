/-
  An abstract walk over Go's operations: slices that are being made; function values; calls.
-/
import Derived.Test.YtgmlblmkcbcgaaaVmF
import Derived.Laws.AppendOwn
import Derived.Laws.OwnMore
namespace Go.Vm
set_option linter.unusedVariables false
set_option linter.unusedSimpArgs false
open Go Go.RowKit

theorem L_new {E : Env} {ρ : Id → Option (Nat × Nat)} {t : Nat → TV} {m : Id → Mem} {a : Act} {w w' : World} (h : Rel E ρ t m a w) (o : Id) (nm : Mem) (c : Nat)
    (hb : Below w.heap.size w w') (hgt : w.heap.size < w'.heap.size) : ∀ b, L E m ρ w b → L E (upd m o nm) (upd ρ o (some (w.heap.size, c))) w' b ∧ w'.heap[b]? = w.heap[b]? := by
  intro b hl
  have hlt := L_lt h hl
  refine ⟨⟨hl.1.imp id (fun h1 => h1.imp id (fun h1 => ⟨h1.1, by omega⟩)), fun o' c' l r => ?_⟩, hb.block b hlt⟩
  by_cases e : o' = o
  · subst e; rw [upd_same] at r; simp at r; omega
  · rw [upd_ne _ _ _ e] at l r; exact hl.2 o' c' l r

/-- The object is new, or begins a later generation. -/
structure NewGen (E : Env) (m : Id → Mem) (o : Id) (g : Nat) : Prop where
  one : g ≠ 1
  h : (m o = .none ∧ E.m0 o = .none) ∨ ∃ g0 n0 k0, (m o).bldy = some (g0, n0, k0) ∧ g0 < g
theorem NewGen.fresh {E : Env} {m : Id → Mem} {d : Nat} (h : m (.n d) = .none) (hd : d < E.N) : NewGen E m (.n d) 0 := ⟨by omega, .inl ⟨h, E.hm0 d (Nat.le_of_lt hd)⟩⟩
theorem NewGen.old {E : Env} {m : Id → Mem} {o : Id} {g n k : Nat} {e : TypeId} {get : Nat → Nat → SV} (h : m o = .bld g n k e get) : NewGen E m o (g + 2) := ⟨by omega, .inr ⟨g, n, k, by rw [h]; rfl, by omega⟩⟩

/-- A slice that is being made comes, or begins a new generation. -/
theorem Rel.newGen {E : Env} {ρ : Id → Option (Nat × Nat)} {t : Nat → TV} {m : Id → Mem} {a : Act} {w w' : World} (h : Rel E ρ t m a w) {o : Id} {g n k : Nat} {e : TypeId} {get : Nat → Nat → SV} {nr : Option (Nat × Nat)} (hok : NewGen E m o g)
    (hb : Bx E.w0.heap.size E.X w w')
    (hL : ∀ b, L E m ρ w b → L E (upd m o (.bld g n k e get)) (upd ρ o nr) w' b ∧ w'.heap[b]? = w.heap[b]?)
    (hother : ∀ o' b c, o' ≠ o → (m o').live → ρ o' = some (b, c) → w'.heap[b]? = w.heap[b]?)
    (hnew : ∀ b c, nr = some (b, c) → ((E.X b ∨ E.w0.heap.size ≤ b) ∧ b < w'.heap.size) ∧ ∀ o' c', o' ≠ o → (m o').live → ρ o' ≠ some (b, c'))
    (hmem : MemOk E (upd m o (.bld g n k e get)) (upd ρ o nr) w' o (.bld g n k e get)) : Rel E (upd ρ o nr) t (upd m o (.bld g n k e get)) a w' := by
  have hn' : (upd m o (.bld g n k e get) o).bldy = some (g, n, k) := by rw [upd_same]; rfl
  have hold : m o ≠ .none → ∃ g0 n0 k0, (m o).bldy = some (g0, n0, k0) ∧ g0 < g := fun hn => hok.h.resolve_left (fun h => hn h.1)
  refine h.one o _ nr hb hL hother (fun _ => hnew) (by simp) (fun _ h => h.elim) (fun e => ?_) (fun e => absurd e hok.one) hmem (fun hn => ?_) (fun x q i off hn => ?_) (fun x q lo c hn => ?_)
  · rcases hok.h with h1 | ⟨g0, n0, k0, h1, _⟩
    · exact h1.2
    · exact absurd e (live_bldy h1).2
  · obtain ⟨g0, n0, k0, h1, h2⟩ := hold hn
    exact newer_carry h1 hn' h2
  · obtain ⟨g0, n0, k0, h1, h2⟩ := hold hn
    exact newer_ep h1 hn' h2 x q i off
  · obtain ⟨g0, n0, k0, h1, h2⟩ := hold hn
    exact newer_sub h1 hn' h2 x q lo c

/-- A slice that is being made lies in a new block. -/
theorem Rel.newBld {E : Env} {ρ : Id → Option (Nat × Nat)} {t : Nat → TV} {m : Id → Mem} {a : Act} {w w' : World} (h : Rel E ρ t m a w) (o : Id) (g n k cap : Nat) (e : TypeId) (get : Nat → Nat → SV) (arr : Array Value)
    (hb : Below w.heap.size w w') (hgt : w.heap.size < w'.heap.size) (hblk : w'.heap[w.heap.size]? = some (.cells arr e (0, 0))) (hsz : arr.size = cap * k) (hn : n ≤ cap) (hc : cap ≤ maxLen)
    (hel : ∀ i, i < n → ∀ j, j < k → ∃ x, arr[i * k + j]? = some x ∧ Rd (L E m ρ w) w x (get i j)) (hok : NewGen E m o g) :
    Rel E (upd ρ o (some (w.heap.size, cap))) t (upd m o (.bld g n k e get)) a w' ∧ TOk E (upd m o (.bld g n k e get)) (upd ρ o (some (w.heap.size, cap))) w' (.slice (some ⟨w.heap.size, 0, none⟩) n cap) (.hdl o g) := by
  have hL := L_new h o (.bld g n k e get) cap hb hgt
  refine ⟨h.newGen hok (Bx.of hb h.below.size) hL ?_ ?_ ?_, ?_⟩
  · intro o' b c _ l r
    exact hb.block b (h.lo o' b c l r).2
  · intro b c hr
    simp only [Option.some.injEq, Prod.mk.injEq] at hr
    obtain ⟨rfl, rfl⟩ := hr
    exact ⟨⟨.inr h.below.size, hgt⟩, fun o' c' _ l r => absurd (h.lo o' _ c' l r).2 (Nat.lt_irrefl _)⟩
  · refine .inr ⟨w.heap.size, cap, arr, upd_same _ _ _, hblk, hsz, hn, hc, fun i hi j hj => ?_⟩
    obtain ⟨x, hx, hr⟩ := hel i hi j hj
    exact ⟨x, hx, hr.mono hL⟩
  · simp only [TOk, HdlOk, HdlAt, upd_same]; exact ⟨rfl, Nat.le_refl _, fun _ => trivial⟩

theorem L_same {E : Env} {ρ : Id → Option (Nat × Nat)} {m : Id → Mem} {w : World} (o : Id) (nm : Mem) (hlive : ∀ b c, ρ o = some (b, c) → (m o).live) :
    ∀ b, L E m ρ w b → L E (upd m o nm) ρ w b := by
  intro b hl
  refine ⟨hl.1, fun o' c' l r => ?_⟩
  by_cases e : o' = o
  · subst e; exact hl.2 o' c' (hlive b c' r) r
  · rw [upd_ne _ _ _ e] at l; exact hl.2 o' c' l r

/-- What is being made is nil still. -/
theorem Rel.nilBld {E : Env} {ρ : Id → Option (Nat × Nat)} {t : Nat → TV} {m : Id → Mem} {a : Act} {w : World} (h : Rel E ρ t m a w) (o : Id) (g k : Nat) (e : TypeId) (get : Nat → Nat → SV) (hok : NewGen E m o g) :
    Rel E (upd ρ o none) t (upd m o (.bld g 0 k e get)) a w ∧ TOk E (upd m o (.bld g 0 k e get)) (upd ρ o none) w (.slice none 0 0) (.hdl o g) := by
  have hL : ∀ b, L E m ρ w b → L E (upd m o (.bld g 0 k e get)) (upd ρ o none) w b ∧ w.heap[b]? = w.heap[b]? := by
    intro b hl
    refine ⟨⟨hl.1, fun o' c' l r => ?_⟩, rfl⟩
    by_cases e : o' = o
    · subst e; rw [upd_same] at r; simp at r
    · rw [upd_ne _ _ _ e] at l r; exact hl.2 o' c' l r
  refine ⟨h.newGen hok (Bx.refl _ _ _) hL (fun _ _ _ _ _ _ => rfl) (fun b c hr => by simp at hr) (.inl ⟨upd_same _ _ _, rfl⟩), ?_⟩
  simp only [TOk, HdlOk, HdlAt, upd_same]; exact ⟨rfl, Nat.le_refl _, fun _ => trivial⟩

/-- The row of what is being made is written in place. -/
theorem Rel.setBld' {E : Env} {ρ : Id → Option (Nat × Nat)} {t : Nat → TV} {m : Id → Mem} {a : Act} {w : World} (h : Rel E ρ t m a w) (o : Id) (hl : (m o).live) (g n k b cap : Nat) (hρ : ρ o = some (b, cap)) (e : TypeId) (get : Nat → Nat → SV) (old arr : Array Value)
    (hblk : w.heap[b]? = some (.cells old e (0, 0))) (hsz : arr.size = cap * k) (hn : n ≤ cap) (hc : cap ≤ maxLen)
    (hel : ∀ i, i < n → ∀ j, j < k → ∃ x, arr[i * k + j]? = some x ∧ Rd (L E m ρ w) w x (get i j)) (hok : NewGen E m o g) :
    Rel E (upd ρ o (some (b, cap))) t (upd m o (.bld g n k e get)) a (w.setRow b arr) := by
  obtain ⟨k1, k2, k3⟩ := L_store h hl hρ (.bld g n k e get) arr
  refine h.newGen hok k1 k2 k3 ?_ ?_
  · intro b' c' hr
    simp only [Option.some.injEq, Prod.mk.injEq] at hr
    obtain ⟨rfl, rfl⟩ := hr
    obtain ⟨q1, q2⟩ := h.lo o b cap hl hρ
    exact ⟨⟨q1, by simpa using q2⟩, fun o' c'' ho' l' r' => ho' (h.inj o' o b c'' cap l' hl r' hρ)⟩
  · refine .inr ⟨b, cap, arr, upd_same _ _ _, setRow_heap w b _ _ e _ hblk, hsz, hn, hc, fun i hi j hj => ?_⟩
    obtain ⟨x, hx, hr⟩ := hel i hi j hj
    exact ⟨x, hx, hr.mono k2⟩
theorem Rel.setBld {E : Env} {ρ : Id → Option (Nat × Nat)} {t : Nat → TV} {m : Id → Mem} {a : Act} {w : World} (h : Rel E ρ t m a w) (o : Id) (hl : (m o).live) (g n k b cap : Nat) (hρ : ρ o = some (b, cap)) (e : TypeId) (get : Nat → Nat → SV) (old arr : Array Value)
    (hblk : w.heap[b]? = some (.cells old e (0, 0))) (hsz : arr.size = cap * k) (hn : n ≤ cap) (hc : cap ≤ maxLen)
    (hel : ∀ i, i < n → ∀ j, j < k → ∃ x, arr[i * k + j]? = some x ∧ Rd (L E m ρ w) w x (get i j)) (hok : NewGen E m o g) :
    Rel E (upd ρ o (some (b, cap))) t (upd m o (.bld g n k e get)) a (w.setRow b arr) ∧ TOk E (upd m o (.bld g n k e get)) (upd ρ o (some (b, cap))) (w.setRow b arr) (.slice (some ⟨b, 0, none⟩) n cap) (.hdl o g) := by
  refine ⟨h.setBld' o hl g n k b cap hρ e get old arr hblk hsz hn hc hel hok, ?_⟩
  simp only [TOk, HdlOk, HdlAt, upd_same]; exact ⟨rfl, Nat.le_refl _, fun _ => trivial⟩

/-- The source of an append. -/
def SrcOk (S : Nat → Prop) (w : World) (v : Value) (n k : Nat) (get : Nat → Nat → SV) : Prop :=
  (v = .slice none 0 0 ∧ n = 0) ∨ ∃ (a : Addr) (cap : Nat) (xs : Nat → Nat → Value), v = .slice (some a) n cap ∧
    (∀ i, i < n → ∀ j, j < k → w.cell? (a.add (i * k + j)) = some (xs i j)) ∧ ∀ i, i < n → ∀ j, j < k → Rd S w (xs i j) (get i j)

theorem srcW_ok {o : Oper} {t : Nat → TV} {m : Id → Mem} {x : Operand} (hmx : x ∈ o.op.operands.toList) {k : Nat} {K : Nat → (Nat → Nat → SV) → List Nat → Prop} (h : srcW m k (opd t x) K) :
    ∃ n get rd, K n get rd ∧ ∀ (E : Env) (ρ : Id → Option (Nat × Nat)) (t' : Nat → TV) (m' : Id → Mem) (a : Act) (w : World), Agree o t t' → Same rd m m' → Rel E ρ t' m' a w → SrcOk (L E m' ρ w) w (a.eval x) n k get := by
  unfold srcW at h
  split at h
  · rename_i n k' get hx
    replace h := bif_and h; obtain ⟨hk, h⟩ := h
    obtain rfl := Nat.eq_of_beq_eq_true hk
    refine ⟨_, _, _, h, fun E ρ t' m' a w ha _ hR => ?_⟩
    have h1 := (opd_ok hR x).1
    rw [opd_agree ha hmx, hx] at h1
    rcases Rd.inv_sl (show Rd _ _ _ _ from h1) with h2 | ⟨ad, cap, r1, r0⟩ | ⟨b, off, cap, xs, r1, r2, r3, r4, r5, r6⟩
    · exact .inl h2
    · subst r0; exact .inr ⟨ad, cap, fun _ _ => Go.undef, r1, fun i hi => absurd hi (Nat.not_lt_zero i), fun i hi => absurd hi (Nat.not_lt_zero i)⟩
    · exact .inr ⟨⟨b, off, none⟩, cap, xs, r1, fun i hi j hj => by rw [addr_add]; exact r5 i hi j hj, r6⟩
  · rename_i hx
    refine ⟨_, _, _, h, fun E ρ t' m' a w ha _ hR => ?_⟩
    have h1 := (opd_ok hR x).1
    rw [opd_agree ha hmx, hx] at h1
    exact .inl ⟨(Rd.inv_v (show Rd _ _ _ _ from h1)).1, rfl⟩
  · rename_i b g hx
    replace h := lookW_iff h
    split at h
    · rename_i g' n k' e get hb
      replace h := bif_and h; obtain ⟨hk, h⟩ := h
      simp only [Bool.and_eq_true] at hk
      obtain rfl := Nat.eq_of_beq_eq_true hk.1
      obtain rfl := Nat.eq_of_beq_eq_true hk.2
      refine ⟨_, _, _, h, fun E ρ t' m' a w ha hm hR => ?_⟩
      have h1 := (opd_ok hR x).1
      rw [opd_agree ha hmx, hx] at h1
      have hb' : m' b = .bld g n k' e get := by rw [hm.at b]; exact hb
      simp only [TOk, HdlOk, HdlAt, hb'] at h1
      have h3 := h1.2.2 trivial
      have hmo := hR.mem b
      rw [hb'] at hmo
      rcases hmo with ⟨hρ, hn0⟩ | ⟨bl, cap, arr, hρ, hblk, hsz, hnc, hcm, hel⟩
      · rw [hρ] at h3
        subst hn0
        exact .inl ⟨h3, rfl⟩
      · rw [hρ] at h3
        refine .inr ⟨⟨bl, 0, none⟩, cap, fun i j => (arr[i * k' + j]?).getD Go.undef, h3, fun i hi j hj => ?_, fun i hi j hj => ?_⟩
        · obtain ⟨y, hy, _⟩ := hel i hi j hj
          simp [addr_add, World.cell?, hblk, hy]
        · obtain ⟨y, hy, hr⟩ := hel i hi j hj
          simp only [hy, Option.getD_some]; exact hr
    · exact h.elim
  · rename_i b g lo n hx
    replace h := lookW_iff h
    split at h
    · rename_i g' n' k' e get hb
      replace h := bif_and h; obtain ⟨hk, h⟩ := h
      simp only [Bool.and_eq_true] at hk
      obtain rfl := Nat.eq_of_beq_eq_true hk.1
      obtain rfl := Nat.eq_of_beq_eq_true hk.2
      refine ⟨_, _, _, h, fun E ρ t' m' a w ha hm hR => ?_⟩
      have h1 := (opd_ok hR x).1
      rw [opd_agree ha hmx, hx] at h1
      have hb' : m' b = .bld g n' k' e get := by rw [hm.at b]; exact hb
      simp only [TOk, SubOk, SubAt, hb'] at h1
      obtain ⟨hln, h3⟩ := h1.2.2 trivial
      have hmo := hR.mem b
      rw [hb'] at hmo
      rcases hmo with ⟨hρ, hn0⟩ | ⟨bl, cap, arr, hρ, hblk, hsz, hnc, hcm, hel⟩
      · rw [hρ] at h3
        exact .inl ⟨by simpa using h3, by omega⟩
      · rw [hρ] at h3
        obtain ⟨ad, h3, h4⟩ := h3
        refine .inr ⟨ad, cap - lo, fun i j => (arr[(lo + i) * k' + j]?).getD Go.undef, h3, fun i hi j hj => ?_, fun i hi j hj => ?_⟩
        · obtain ⟨y, hy, _⟩ := hel (lo + i) (by omega) j hj
          rw [h4 (.inl (by omega)), addr_add, ← Nat.add_assoc, ← Nat.add_mul]
          simp [World.cell?, hblk, hy]
        · obtain ⟨y, hy, hr⟩ := hel (lo + i) (by omega) j hj
          simp only [hy, Option.getD_some]; exact hr
    · exact h.elim
  · exact h.elim

/-- The cells of a source, as a list. -/
theorem src_list {S : Nat → Prop} {w : World} {a : Addr} {n k : Nat} {xs : Nat → Nat → Value} {get : Nat → Nat → SV}
    (hc : ∀ i, i < n → ∀ j, j < k → w.cell? (a.add (i * k + j)) = some (xs i j)) (hr : ∀ i, i < n → ∀ j, j < k → Rd S w (xs i j) (get i j)) :
    ∃ news : List Value, news.length = n * k ∧ (∀ j u, news[j]? = some u → w.cell? (a.add j) = some u) ∧ (∀ u ∈ news, u.oneCell' = true) ∧ ∀ i, i < n → ∀ j, j < k → news[i * k + j]? = some (xs i j) := by
  have hdiv : ∀ p, p < n * k → p / k < n ∧ p % k < k ∧ p / k * k + p % k = p := by
    intro p hp
    have hk : 0 < k := by
      rcases Nat.eq_zero_or_pos k with h | h
      · subst h; simp at hp
      · exact h
    refine ⟨(Nat.div_lt_iff_lt_mul hk).2 hp, Nat.mod_lt _ hk, ?_⟩
    rw [Nat.mul_comm]; exact Nat.div_add_mod p k
  refine ⟨(List.range (n * k)).map fun p => xs (p / k) (p % k), by simp, fun j u hu => ?_, fun u hu => ?_, fun i hi j hj => ?_⟩
  · simp only [List.getElem?_map] at hu
    by_cases hj : j < n * k
    · simp [hj] at hu
      obtain ⟨d1, d2, d3⟩ := hdiv j hj
      have := hc _ d1 _ d2
      rw [d3] at this
      rw [this, hu]
    · simp [hj] at hu
  · simp only [List.mem_map, List.mem_range] at hu
    obtain ⟨p, hp, rfl⟩ := hu
    obtain ⟨d1, d2, _⟩ := hdiv p hp
    exact (hr _ d1 _ d2).oneCell
  · have hlt : i * k + j < n * k := by
      have : (i + 1) * k ≤ n * k := Nat.mul_le_mul_right k hi
      rw [Nat.add_mul] at this
      omega
    have hk : 0 < k := by omega
    have e1 : (i * k + j) / k = i := by
      rw [Nat.mul_comm, Nat.mul_add_div hk, Nat.div_eq_of_lt hj, Nat.add_zero]
    have e2 : (i * k + j) % k = j := by rw [Nat.mul_comm, Nat.mul_add_mod, Nat.mod_eq_of_lt hj]
    simp [hlt, e1, e2]

/-- Of the second argument's type an append asks only whether it is a number. -/
theorem append_ty {P : Program} {ty ty' e e' : TypeId} (h : P.underlying ty = some (.slice e)) (h' : P.underlying ty' = some (.slice e')) {t : TypeId} {u v : Value} {w : World} :
    (Builtin.append_ #[ty, ty'] t #[u, v]).run P w = (Builtin.append_ #[ty, ty] t #[u, v]).run P w := by
  unfold Builtin.append_
  cases u <;> simp [run_underlying h, run_underlying h']
theorem run_append_empty {P : Program} {w : World} (t ty e : TypeId) (i : TypeInfo) (ht : P.underlying t = some (.slice e)) (hi : P.info? e = some i) (a : Addr) (c : Nat) :
    (Builtin.append_ #[t, t] ty #[.slice none 0 0, .slice (some a) 0 c]).run P w = .ok (.slice none 0 0) w := by
  simp [Builtin.append_, run_underlying ht, sizeOf, typeInfo, hi, Builtin.lenOf, Builtin.firstCells, loadCells, loadCellsFrom]
theorem run_append_none {P : Program} {w : World} (t ty e : TypeId) (i : TypeInfo) (ht : P.underlying t = some (.slice e)) (hi : P.info? e = some i) :
    (Builtin.append_ #[t, t] ty #[.slice none 0 0, .slice none 0 0]).run P w = .ok (.slice none 0 0) w := by
  simp [Builtin.append_, run_underlying ht, sizeOf, typeInfo, hi, Builtin.lenOf, Builtin.firstCells]
theorem run_append_src_none {P : Program} {w : World} (t ty e : TypeId) (i : TypeInfo) (ht : P.underlying t = some (.slice e)) (hi : P.info? e = some i) (b : Addr) (n cap : Nat) (h : n ≤ cap) :
    (Builtin.append_ #[t, t] ty #[.slice (some b) n cap, .slice none 0 0]).run P w = .ok (.slice (some b) n cap) w := by
  simp [Builtin.append_, run_underlying ht, sizeOf, typeInfo, hi, Builtin.lenOf, Builtin.firstCells, h, storeCells]

theorem below_drew_alloc (w : World) (o : Obj) : Below w.heap.size w (w.drew.alloc o) :=
  (((Below.refl w.heap.size w).drew).alloc (Nat.le_refl _) o)

theorem size_zero {P : Program} {t : TypeId} {T : Ty} (hT : TyOk P t T) {i : TypeInfo} {z : Value} (hi : P.info? t = some i) (hz : i.zero = some z) : z.cells.size = i.size := by
  obtain ⟨i', z', h1, h2, h3, h4, h5, h6, h7⟩ := hT.info
  rw [hi] at h1
  cases h1
  rw [hz] at h4
  cases h4
  rw [h7, h2]

theorem size_zeroCells' (z : Array Value) (n : Nat) : (Builtin.zeroCells z n).size = n * z.size := by simp [Builtin.zeroCells]

theorem stepOk_append {P : Program} {o : Oper} {t : Nat → TV} {m : Id → Mem} {TT : Tab} (hT : TabOk P TT) {ty : TypeId} {T : Ty} (hty : TT ty = some T) {e : Nat} (hk : T.kind = .slc e) {TE : Ty} (hte : TT e = some TE) {s x : Operand} {d : Nat} (hdd : o.dst = some d)
    {c : Call} (ho : o.op = .call c) (hcal : c.callee = .builtin .append) (hargs : c.args.toList = [s, x]) {ty' : TypeId} (hat : c.argTypes.toList = [ty, ty']) (hsl : ∃ e', P.underlying ty' = some (.slice e')) {K : Kont} (h : appendW TE e d m (opd t s) (opd t x) K) :
    ∃ z mo rd, K z mo rd ∧ StepOk P o t m z mo rd := by
  obtain ⟨e2, hsl⟩ := hsl
  have hma : c.args = #[s, x] := by rw [← Array.toArray_toList (xs := c.args), hargs]
  have hmt : c.argTypes = #[ty, ty'] := by rw [← Array.toArray_toList (xs := c.argTypes), hat]
  have hms : s ∈ o.op.operands.toList := by rw [ho]; simp [Op.operands, Call.operands, hcal, hma]
  have hmx : x ∈ o.op.operands.toList := by rw [ho]; simp [Op.operands, Call.operands, hcal, hma]
  have hTy := hT ty T hty
  have hkk : P.underlying ty = some (.slice e) := by have := hTy.kind; rw [hk] at this; exact this
  have hTE := hT e TE hte
  obtain ⟨ie, ze, g1, g2, g3, g4, _⟩ := hTE.info
  have hzs := size_zero hTE g1 g4
  have hexec : ∀ (a : Act) (w : World) (u v r : Value) (w' : World), a.eval s = u → a.eval x = v → (Builtin.append_ #[ty, ty] o.type #[u, v]).run P w = .ok r w' → (execOp a.eval o).run P w = .ok (.value r) w' := by
    intro a w u v r w' hu hv hr
    rw [← append_ty hkk hsl] at hr
    simp [execOp, ho, resolve, invoke, hcal, hma, hmt, builtin, hu, hv, hr]
  -- a new row behind nil, or behind what has no room
  have fresh : ∀ (E : Env) (ρ : Id → Option (Nat × Nat)) (t' : Nat → TV) (m' : Id → Mem) (a : Act) (w : World), Rel E ρ t' m' a w → ∀ (b : Id) (g n n' cap' : Nat) (get get' : Nat → Nat → SV) (olds news : List Value) (rest : Array Value),
      NewGen E m' b g →
      olds.length = n * TE.size → news.length = n' * TE.size → rest.size = (cap' - (n + n')) * TE.size → n + n' ≤ cap' → cap' ≤ maxLen →
      (∀ i, i < n → ∀ j, j < TE.size → ∃ y, olds[i * TE.size + j]? = some y ∧ Rd (L E m' ρ w) w y (get i j)) →
      (∀ i, i < n' → ∀ j, j < TE.size → ∃ y, news[i * TE.size + j]? = some y ∧ Rd (L E m' ρ w) w y (get' i j)) →
      ∃ ρ', Rel E ρ' t' (upd m' b (.bld g (n + n') TE.size e fun i j => bif Nat.blt i n then get i j else get' (i - n) j)) a (w.drew.alloc (.cells (olds.toArray ++ news.toArray ++ rest) e)) ∧
        TOk E (upd m' b (.bld g (n + n') TE.size e fun i j => bif Nat.blt i n then get i j else get' (i - n) j)) ρ' (w.drew.alloc (.cells (olds.toArray ++ news.toArray ++ rest) e)) (.slice (some ⟨w.heap.size, 0, none⟩) (n + n') cap') (.hdl b g) := by
    intro E ρ t' m' a w hR b g n n' cap' get get' olds news rest hslot ho1 hn1 hr1 hc1 hc2 hold hnew
    refine ⟨_, hR.newBld b g (n + n') TE.size cap' e _ (olds.toArray ++ news.toArray ++ rest) (below_drew_alloc w _) (by simp) (heap_alloc_new' w.drew _) ?_ hc1 hc2 ?_ hslot⟩
    · simp only [Array.size_append, List.size_toArray, ho1, hn1, hr1, ← Nat.add_mul]
      congr 1
      omega
    · intro i hi j hj
      by_cases hin : i < n
      · obtain ⟨y, hy, hr⟩ := hold i hin j hj
        refine ⟨y, ?_, ?_⟩
        · have hlt : i * TE.size + j < olds.length := by
            rcases Nat.lt_or_ge (i * TE.size + j) olds.length with h | h
            · exact h
            · rw [List.getElem?_eq_none h] at hy; simp at hy
          rw [Array.getElem?_append, if_pos (by simp; omega), Array.getElem?_append, if_pos (by simpa using hlt)]
          simpa using hy
        · show Rd _ _ y (bif _ then _ else _)
          rw [blt_t hin]; exact hr
      · obtain ⟨y, hy, hr⟩ := hnew (i - n) (by omega) j hj
        refine ⟨y, ?_, ?_⟩
        · have hlt : (i - n) * TE.size + j < news.length := by
            rcases Nat.lt_or_ge ((i - n) * TE.size + j) news.length with h | h
            · exact h
            · rw [List.getElem?_eq_none h] at hy; simp at hy
          have hsub : i * TE.size + j - olds.length = (i - n) * TE.size + j := by
            have : i * TE.size = n * TE.size + (i - n) * TE.size := by rw [← Nat.add_mul]; congr 1; omega
            omega
          have hge : ¬ i * TE.size + j < olds.length := by
            have : n * TE.size ≤ i * TE.size := Nat.mul_le_mul_right _ (by omega)
            omega
          rw [Array.getElem?_append, if_pos (by simp; omega), Array.getElem?_append, if_neg (by simpa using hge)]
          simp only [List.size_toArray, List.getElem?_toArray, hsub]
          exact hy
        · show Rd _ _ y (bif _ then _ else _)
          rw [blt_f hin]; exact hr
  unfold appendW at h
  split at h
  · -- behind nil
    rename_i hs
    split at h
    · rename_i hmd
      obtain ⟨n', get', rd, h, hsrc⟩ := srcW_ok (o := o) hmx h
      obtain ⟨⟨hby, hmax⟩, h⟩ := h
      refine ⟨_, _, _, h, stepOk_mem fun E ρ t' m' a w hP ha hm hd hR => ?_⟩
      have hmd' : m' (.n d) = .none := by rw [hm.at (.n d) (by simp [Id.key])]; exact hmd
      have h1 := (opd_ok hR s).1
      rw [opd_agree ha hms, hs] at h1
      have e1 := (Rd.inv_v (show Rd _ _ _ _ from h1)).1
      have hfr : NewGen E m' (.n d) 0 := .fresh hmd' (hd d hdd)
      have nilcase : n' = 0 → (Builtin.append_ #[ty, ty] o.type #[.slice none 0 0, a.eval x]).run P w = .ok (.slice none 0 0) w →
          ∃ n v w' ρ', (execOp a.eval o).run P w = .ok n w' ∧ (n = .value v ∨ (n = .skip ∧ v = Go.undef)) ∧ Rel E ρ' t' (upd m' (.n d) (.bld 0 n' TE.size e get')) a w' ∧ TOk E (upd m' (.n d) (.bld 0 n' TE.size e get')) ρ' w' v (.hdl d 0) ∧ ∀ b', (TV.hdl d 0).refs b' → upd m' (.n d) (.bld 0 n' TE.size e get') b' ≠ .none := by
        intro hn0 hrun
        subst hn0
        obtain ⟨k1, k2⟩ := hR.nilBld (.n d) 0 TE.size e get' hfr
        exact ⟨_, _, _, _, hexec a w _ _ _ _ e1 rfl hrun, .inl rfl, k1, k2, fun b' hb' => by cases hb'; rw [upd_same]; simp⟩
      rcases hsrc E ρ t' m' a w ha (hm.sub (fun k hk => by simp [hk])) hR with ⟨r1, r2⟩ | ⟨asrc, cap, xs, r1, r2, r3⟩
      · exact nilcase r2 (by rw [r1]; exact run_append_none ty o.type e ie hkk g1)
      · rcases Nat.eq_zero_or_pos n' with hn0 | hn0
        · refine nilcase hn0 ?_
          rw [r1, hn0]; exact run_append_empty ty o.type e ie hkk g1 _ _
        · obtain ⟨news, q1, q2, q3, q4⟩ := src_list r2 r3
          have hmax' : (n' : Int) ≤ 9223372036854775807 := by simp only [maxLen] at hmax; omega
          have hrun := run_append_nil (P := P) w ty o.type e ie ze hkk g1 g4 asrc n' cap news (by rw [g2]; exact q1) q2 hn0 hmax' (by rw [g3]; omega)
          have hcap := grownCap_ge w n' 0 e
          have hcm := grownCap_le_maxLen w n' 0 e hmax
          obtain ⟨k1, k2⟩ := fresh E ρ t' m' a w hR (.n d) 0 0 n' (grownCap w n' 0 e) (fun _ _ => .v Go.undef) get' [] news (Builtin.zeroCells ze.cells (grownCap w n' 0 e - n')) hfr (by simp) q1 (by rw [size_zeroCells', hzs, g2, Nat.zero_add]) (by omega) hcm
            (fun i hi => absurd hi (Nat.not_lt_zero i)) (fun i hi j hj => ⟨_, q4 i hi j hj, r3 i hi j hj⟩)
          have hfun : (fun i j => bif Nat.blt i 0 then SV.v Go.undef else get' (i - 0) j) = get' := by
            funext i j
            rw [blt_f (Nat.not_lt_zero i)]
            rfl
          rw [hfun, Nat.zero_add] at k2
          simp only [Array.empty_append] at k2
          refine ⟨_, _, _, k1, hexec a w _ _ _ _ e1 r1 hrun, .inl rfl, k2.1, k2.2, fun b' hb' => by cases hb'; rw [upd_same]; simp⟩
    · exact h.elim
  · -- behind what is being made
    rename_i b g hs
    replace h := lookW_iff h
    split at h
    · rename_i g' n k e' get hb
      replace h := bif_and h; obtain ⟨hk3, h⟩ := h
      simp only [Bool.and_eq_true] at hk3
      obtain rfl := Nat.eq_of_beq_eq_true hk3.1.1
      obtain rfl := Nat.eq_of_beq_eq_true hk3.1.2
      obtain rfl := Nat.eq_of_beq_eq_true hk3.2
      obtain ⟨n', get', rd, h, hsrc⟩ := srcW_ok (o := o) hmx h
      obtain ⟨⟨hby, hmax⟩, h⟩ := h
      refine ⟨_, _, _, h, stepOk_mem fun E ρ t' m' a w hP ha hm hd hR => ?_⟩
      have hb' : m' b = .bld g n TE.size e' get := by rw [hm.at b]; exact hb
      have h1 := (opd_ok hR s).1
      rw [opd_agree ha hms, hs] at h1
      simp only [TOk, HdlOk, HdlAt, hb'] at h1
      have h3 := h1.2.2 trivial
      have hso : NewGen E m' b (g + 2) := .old hb'
      have hne : ∀ b', (TV.hdl b (g + 2)).refs b' → upd m' b (.bld (g + 2) (n + n') TE.size e' fun i j => bif Nat.blt i n then get i j else get' (i - n) j) b' ≠ .none := fun b' hb' => by cases hb'; rw [upd_same]; simp
      have hmo := hR.mem b
      rw [hb'] at hmo
      rcases hmo with ⟨hρ, hn0⟩ | ⟨bl, cap, arr, hρ, hblk, hsz, hnc, hcm, hel⟩
      · rw [hρ] at h3
        subst hn0
        have nilcase : n' = 0 → (Builtin.append_ #[ty, ty] o.type #[.slice none 0 0, a.eval x]).run P w = .ok (.slice none 0 0) w →
            ∃ n v w' ρ', (execOp a.eval o).run P w = .ok n w' ∧ (n = .value v ∨ (n = .skip ∧ v = Go.undef)) ∧ Rel E ρ' t' (upd m' b (.bld (g + 2) (0 + n') TE.size e' fun i j => bif Nat.blt i 0 then get i j else get' (i - 0) j)) a w' ∧
              TOk E (upd m' b (.bld (g + 2) (0 + n') TE.size e' fun i j => bif Nat.blt i 0 then get i j else get' (i - 0) j)) ρ' w' v (.hdl b (g + 2)) ∧ ∀ b', (TV.hdl b (g + 2)).refs b' → upd m' b (.bld (g + 2) (0 + n') TE.size e' fun i j => bif Nat.blt i 0 then get i j else get' (i - 0) j) b' ≠ .none := by
          intro hn0 hrun
          subst hn0
          obtain ⟨k1, k2⟩ := hR.nilBld b (g + 2) TE.size e' (fun i j => bif Nat.blt i 0 then get i j else get' (i - 0) j) hso
          exact ⟨_, _, _, _, hexec a w _ _ _ _ h3 rfl hrun, .inl rfl, k1, k2, hne⟩
        rcases hsrc E ρ t' m' a w ha (hm.sub (fun k hk => by simp [hk])) hR with ⟨r1, r2⟩ | ⟨asrc, cap, xs, r1, r2, r3⟩
        · exact nilcase r2 (by rw [r1]; exact run_append_none ty o.type e' ie hkk g1)
        · rcases Nat.eq_zero_or_pos n' with hn0 | hn0
          · refine nilcase hn0 ?_
            rw [r1, hn0]; exact run_append_empty ty o.type e' ie hkk g1 _ _
          · obtain ⟨news, q1, q2, q3, q4⟩ := src_list r2 r3
            have hmax' : (n' : Int) ≤ 9223372036854775807 := by simp only [maxLen] at hmax; omega
            have hrun := run_append_nil (P := P) w ty o.type e' ie ze hkk g1 g4 asrc n' cap news (by rw [g2]; exact q1) q2 hn0 hmax' (by rw [g3]; rw [Nat.zero_add] at hby; omega)
            have hcap := grownCap_ge w n' 0 e'
            have hcm := grownCap_le_maxLen w n' 0 e' (by omega)
            obtain ⟨k1, k2⟩ := fresh E ρ t' m' a w hR b (g + 2) 0 n' (grownCap w n' 0 e') get get' [] news (Builtin.zeroCells ze.cells (grownCap w n' 0 e' - n')) hso (by simp) q1 (by rw [size_zeroCells', hzs, g2, Nat.zero_add]) (by omega) hcm
              (fun i hi => absurd hi (Nat.not_lt_zero i)) (fun i hi j hj => ⟨_, q4 i hi j hj, r3 i hi j hj⟩)
            simp only [Array.empty_append] at k2
            refine ⟨_, _, _, k1, hexec a w _ _ _ _ h3 r1 hrun, .inl rfl, k2.1, ?_, hne⟩
            have := k2.2
            rw [Nat.zero_add] at this ⊢
            exact this
      · rw [hρ] at h3
        rcases hsrc E ρ t' m' a w ha (hm.sub (fun k hk => by simp [hk])) hR with ⟨r1, r2⟩ | ⟨asrc, cap2, xs, r1, r2, r3⟩
        · subst r2
          have hrun := run_append_src_none (P := P) (w := w) ty o.type e' ie hkk g1 ⟨bl, 0, none⟩ n cap hnc
          have hself : w.setRow bl arr = w := setRow_self w bl arr e' (0, 0) hblk
          obtain ⟨k1, k2⟩ := hR.setBld b (mem_live_bld hb') (g + 2) (n + 0) TE.size bl cap hρ e' (fun i j => bif Nat.blt i n then get i j else get' (i - n) j) arr arr hblk hsz hnc hcm (fun i hi j hj => by
            obtain ⟨y, hy, hr⟩ := hel i hi j hj
            refine ⟨y, hy, ?_⟩
            rw [blt_t (show i < n from hi)]; exact hr) hso
          rw [hself] at k1 k2
          exact ⟨_, _, _, _, hexec a w _ _ _ _ h3 r1 hrun, .inl rfl, k1, k2, hne⟩
        · obtain ⟨news, q1, q2, q3, q4⟩ := src_list r2 r3
          by_cases hroom : n + n' ≤ cap
          · have hfit : n * TE.size + news.length ≤ arr.size := by rw [q1, hsz, ← Nat.add_mul]; exact Nat.mul_le_mul_right _ hroom
            have hrun := run_append_room (P := P) w ty o.type e' ie hkk g1 bl n cap arr hblk asrc n' cap2 news (by rw [g2]; exact q1) q2 q3 hroom (by rw [g2]; exact hfit)
            rw [g2] at hrun
            obtain ⟨k1, k2⟩ := hR.setBld b (mem_live_bld hb') (g + 2) (n + n') TE.size bl cap hρ e' (fun i j => bif Nat.blt i n then get i j else get' (i - n) j) arr (arr.toList.take (n * TE.size) ++ news ++ arr.toList.drop (n * TE.size + news.length)).toArray hblk
              (by simp; omega) hroom hcm (fun i hi j hj => by
                by_cases hin : i < n
                · obtain ⟨y, hy, hr⟩ := hel i hin j hj
                  refine ⟨y, ?_, by rw [blt_t hin]; exact hr⟩
                  have hlt : i * TE.size + j < n * TE.size := by
                    have : (i + 1) * TE.size ≤ n * TE.size := Nat.mul_le_mul_right _ hin
                    rw [Nat.add_mul] at this; omega
                  have hmin : min (n * TE.size) arr.size = n * TE.size := by omega
                  simp only [List.getElem?_toArray, List.append_assoc, List.getElem?_append, List.length_take, Array.length_toList, hmin, if_pos hlt, List.getElem?_take]
                  simpa using hy
                · have hn2 : i - n < n' := by omega
                  refine ⟨_, ?_, by rw [blt_f hin]; exact r3 (i - n) hn2 j hj⟩
                  have hge : ¬ i * TE.size + j < n * TE.size := by
                    have : n * TE.size ≤ i * TE.size := Nat.mul_le_mul_right _ (by omega)
                    omega
                  have hsub : i * TE.size + j - n * TE.size = (i - n) * TE.size + j := by
                    have : i * TE.size = n * TE.size + (i - n) * TE.size := by rw [← Nat.add_mul]; congr 1; omega
                    omega
                  have hlt : (i - n) * TE.size + j < news.length := by
                    rw [q1]
                    have : (i - n + 1) * TE.size ≤ n' * TE.size := Nat.mul_le_mul_right _ hn2
                    rw [Nat.add_mul] at this; omega
                  have hmin : min (n * TE.size) arr.size = n * TE.size := by omega
                  simp only [List.getElem?_toArray, List.append_assoc, List.getElem?_append, List.length_take, Array.length_toList, hmin, if_neg hge, hsub, if_pos hlt]
                  exact q4 (i - n) hn2 j hj) hso
            exact ⟨_, _, _, _, hexec a w _ _ _ _ h3 r1 hrun, .inl rfl, k1, k2, hne⟩
          · have hmax' : ((n + n' : Nat) : Int) ≤ 9223372036854775807 := by simp only [maxLen] at hmax; omega
            have holds : ∃ olds : List Value, olds.length = n * TE.size ∧ (∀ j v, olds[j]? = some v → w.cell? ((⟨bl, 0, none⟩ : Addr).add j) = some v) ∧ ∀ i, i < n → ∀ j, j < TE.size → ∃ y, olds[i * TE.size + j]? = some y ∧ Rd (L E m' ρ w) w y (get i j) := by
              have hle : n * TE.size ≤ arr.size := by rw [hsz]; exact Nat.mul_le_mul_right _ hnc
              refine ⟨arr.toList.take (n * TE.size), by simp; omega, fun j v hv => ?_, fun i hi j hj => ?_⟩
              · rw [List.getElem?_take] at hv
                split at hv
                · rw [addr_add]
                  have : arr[j]? = some v := by simpa using hv
                  simp [World.cell?, hblk, this]
                · simp at hv
              · obtain ⟨y, hy, hr⟩ := hel i hi j hj
                refine ⟨y, ?_, hr⟩
                have hlt : i * TE.size + j < n * TE.size := by
                  have : (i + 1) * TE.size ≤ n * TE.size := Nat.mul_le_mul_right _ hi
                  rw [Nat.add_mul] at this; omega
                rw [List.getElem?_take, if_pos hlt]
                simpa using hy
            obtain ⟨olds, p1, p2, p3⟩ := holds
            have hrun := run_append_grow (P := P) w ty o.type e' ie ze hkk g1 g4 ⟨bl, 0, none⟩ n cap olds (by rw [g2]; exact p1) p2 asrc n' cap2 news (by rw [g2]; exact q1) q2 (by omega) hmax' (by rw [g3]; exact growslice_fits (by omega) hby)
            have hcap := grownCap_ge w (n + n') cap e'
            have hcm' := grownCap_le_maxLen w (n + n') cap e' hmax
            obtain ⟨k1, k2⟩ := fresh E ρ t' m' a w hR b (g + 2) n n' (grownCap w (n + n') cap e') get get' olds news (Builtin.zeroCells ze.cells (grownCap w (n + n') cap e' - (n + n'))) hso p1 q1 (by rw [size_zeroCells', hzs, g2]) hcap hcm' p3 (fun i hi j hj => ⟨_, q4 i hi j hj, r3 i hi j hj⟩)
            exact ⟨_, _, _, k1, hexec a w _ _ _ _ h3 r1 hrun, .inl rfl, k2.1, k2.2, hne⟩
    · exact h.elim
  · -- behind a part of what is being made, in place
    rename_i b g lo n hs
    replace h := lookW_iff h
    split at h
    · rename_i g' N k e' get hb
      replace h := bif_and h; obtain ⟨hk3, h⟩ := h
      simp only [Bool.and_eq_true] at hk3
      obtain rfl := Nat.eq_of_beq_eq_true hk3.1.1
      obtain rfl := Nat.eq_of_beq_eq_true hk3.1.2
      obtain rfl := Nat.eq_of_beq_eq_true hk3.2
      obtain ⟨n', get', rd, h, hsrc⟩ := srcW_ok (o := o) hmx h
      obtain ⟨⟨hlo, hfit⟩, hK⟩ := h
      subst hlo
      refine ⟨_, _, _, hK, stepOk_mem fun E ρ t' m' a w hP ha hm hd hR => ?_⟩
      have hb' : m' b = .bld g N TE.size e' get := by rw [hm.at b]; exact hb
      have h1 := (opd_ok hR s).1
      rw [opd_agree ha hms, hs] at h1
      simp only [TOk, SubOk, SubAt, hb'] at h1
      obtain ⟨hln, h3⟩ := h1.2.2 trivial
      have hso : NewGen E m' b (g + 2) := .old hb'
      have hne : ∀ (G : Nat → Nat → SV) b', (TV.sub b (g + 2) 0 (n + n')).refs b' → upd m' b (.bld (g + 2) N TE.size e' G) b' ≠ .none := fun G b' hb' => by cases hb'; rw [upd_same]; simp
      have hmo := hR.mem b
      rw [hb'] at hmo
      rcases hmo with ⟨hρ, hn0⟩ | ⟨bl, cap, arr, hρ, hblk, hsz, hnc, hcm, hel⟩
      · rw [hρ] at h3
        subst hn0
        have hn0 : n = 0 := by omega
        have hn0' : n' = 0 := by omega
        subst hn0
        subst hn0'
        have nilcase : (Builtin.append_ #[ty, ty] o.type #[.slice none 0 0, a.eval x]).run P w = .ok (.slice none 0 0) w := by
          rcases hsrc E ρ t' m' a w ha (hm.sub (fun k hk => by simp [hk])) hR with ⟨r1, r2⟩ | ⟨asrc, cap, xs, r1, r2, r3⟩
          · rw [r1]; exact run_append_none ty o.type e' ie hkk g1
          · rw [r1]; exact run_append_empty ty o.type e' ie hkk g1 _ _
        obtain ⟨k1, _⟩ := hR.nilBld b (g + 2) TE.size e' (fun i j => bif Nat.blt i 0 then get i j else bif Nat.blt i (0 + 0) then get' (i - 0) j else get i j) hso
        refine ⟨_, _, _, _, hexec a w _ _ _ _ h3 rfl nilcase, .inl rfl, k1, ?_, hne _⟩
        simp only [TOk, SubOk, SubAt, upd_same]
        exact ⟨rfl, Nat.le_refl _, fun _ => ⟨by omega, trivial⟩⟩
      · rw [hρ] at h3
        obtain ⟨ad, h3, h4⟩ := h3
        have h4 := h4 (.inr trivial)
        rw [Nat.zero_mul] at h4
        subst h4
        rw [Nat.sub_zero] at h3
        have htok : ∀ (G : Nat → Nat → SV) (w' : World), TOk E (upd m' b (.bld (g + 2) N TE.size e' G)) (upd ρ b (some (bl, cap))) w' (.slice (some ⟨bl, 0, none⟩) (n + n') cap) (.sub b (g + 2) 0 (n + n')) := fun G w' => by
          simp only [TOk, SubOk, SubAt, upd_same]
          exact ⟨rfl, Nat.le_refl _, fun _ => ⟨by omega, ⟨bl, 0, none⟩, by simp, fun _ => by simp⟩⟩
        rcases hsrc E ρ t' m' a w ha (hm.sub (fun k hk => by simp [hk])) hR with ⟨r1, r2⟩ | ⟨asrc, cap2, xs, r1, r2, r3⟩
        · subst r2
          have hrun := run_append_src_none (P := P) (w := w) ty o.type e' ie hkk g1 ⟨bl, 0, none⟩ n cap (by omega)
          have hself : w.setRow bl arr = w := setRow_self w bl arr e' (0, 0) hblk
          have k1 := hR.setBld' b (mem_live_bld hb') (g + 2) N TE.size bl cap hρ e' (fun i j => bif Nat.blt i n then get i j else bif Nat.blt i (n + 0) then get' (i - n) j else get i j) arr arr hblk hsz hnc hcm (fun i hi j hj => by
            obtain ⟨y, hy, hr⟩ := hel i hi j hj
            refine ⟨y, hy, ?_⟩
            rw [Nat.add_zero]
            cases Nat.blt i n <;> exact hr) hso
          rw [hself] at k1
          exact ⟨_, _, _, _, hexec a w _ _ _ _ h3 r1 hrun, .inl rfl, k1, htok _ w, hne _⟩
        · obtain ⟨news, q1, q2, q3, q4⟩ := src_list r2 r3
          have hroom : n + n' ≤ cap := by omega
          have hfit' : n * TE.size + news.length ≤ arr.size := by rw [q1, hsz, ← Nat.add_mul]; exact Nat.mul_le_mul_right _ hroom
          have hrun := run_append_room (P := P) w ty o.type e' ie hkk g1 bl n cap arr hblk asrc n' cap2 news (by rw [g2]; exact q1) q2 q3 hroom (by rw [g2]; exact hfit')
          rw [g2] at hrun
          have k1 := hR.setBld' b (mem_live_bld hb') (g + 2) N TE.size bl cap hρ e' (fun i j => bif Nat.blt i n then get i j else bif Nat.blt i (n + n') then get' (i - n) j else get i j) arr (arr.toList.take (n * TE.size) ++ news ++ arr.toList.drop (n * TE.size + news.length)).toArray hblk
            (by simp; omega) hnc hcm (fun i hi j hj => by
              have hmin : min (n * TE.size) arr.size = n * TE.size := by omega
              by_cases hin : i < n
              · obtain ⟨y, hy, hr⟩ := hel i hi j hj
                refine ⟨y, ?_, by rw [blt_t hin]; exact hr⟩
                have hlt : i * TE.size + j < n * TE.size := by
                  have : (i + 1) * TE.size ≤ n * TE.size := Nat.mul_le_mul_right _ hin
                  rw [Nat.add_mul] at this; omega
                simp only [List.getElem?_toArray, List.append_assoc, List.getElem?_append, List.length_take, Array.length_toList, hmin, if_pos hlt, List.getElem?_take]
                simpa using hy
              · have hge : ¬ i * TE.size + j < n * TE.size := by
                  have : n * TE.size ≤ i * TE.size := Nat.mul_le_mul_right _ (by omega)
                  omega
                have hsub : i * TE.size + j - n * TE.size = (i - n) * TE.size + j := by
                  have : i * TE.size = n * TE.size + (i - n) * TE.size := by rw [← Nat.add_mul]; congr 1; omega
                  omega
                by_cases hn2 : i < n + n'
                · refine ⟨_, ?_, by rw [blt_f hin, blt_t hn2]; exact r3 (i - n) (by omega) j hj⟩
                  have hlt : (i - n) * TE.size + j < news.length := by
                    rw [q1]
                    have : (i - n + 1) * TE.size ≤ n' * TE.size := Nat.mul_le_mul_right _ (by omega)
                    rw [Nat.add_mul] at this; omega
                  simp only [List.getElem?_toArray, List.append_assoc, List.getElem?_append, List.length_take, Array.length_toList, hmin, if_neg hge, hsub, if_pos hlt]
                  exact q4 (i - n) (by omega) j hj
                · obtain ⟨y, hy, hr⟩ := hel i hi j hj
                  refine ⟨y, ?_, by rw [blt_f hin, blt_f hn2]; exact hr⟩
                  have hge2 : ¬ (i - n) * TE.size + j < news.length := by
                    rw [q1]
                    have : n' * TE.size ≤ (i - n) * TE.size := Nat.mul_le_mul_right _ (by omega)
                    omega
                  simp only [List.getElem?_toArray, List.append_assoc, List.getElem?_append, List.length_take, Array.length_toList, hmin, if_neg hge, hsub, if_neg hge2, List.getElem?_drop]
                  rw [show n * TE.size + news.length + ((i - n) * TE.size + j - news.length) = i * TE.size + j by omega]
                  simpa using hy) hso
          exact ⟨_, _, _, _, hexec a w _ _ _ _ h3 r1 hrun, .inl rfl, k1, htok _ _, hne _⟩
    · exact h.elim
  · exact h.elim

/-- append(nil, make([]E, n)...). -/
theorem run_append_zeros {P : Program} (w : World) (t zt ty e : TypeId) (i : TypeInfo) (z : Value) (kd : IntKind) (ht : P.underlying t = some (.slice e)) (hzt : P.underlying zt = some (.int kd)) (hi : P.info? e = some i) (hz : i.zero = some z) (hpos : 0 < i.size)
    (n : Nat) (h0 : 0 < n) (h63 : (n : Int) ≤ 9223372036854775807) (h48 : n * i.bytes ≤ 140737488355328) :
    (Builtin.append_ #[t, zt] ty #[.slice none 0 0, .int .i64 n]).run P w =
      .ok (.slice (some ⟨w.heap.size, 0, none⟩) n (grownCap w n 0 e)) (w.drew.alloc (.cells (Builtin.zeroCells z.cells n ++ Builtin.zeroCells z.cells (grownCap w n 0 e - n)) e)) := by
  have hn : n ≠ 0 := by omega
  have hwrap : IntKind.i64.wrap (n : Int) = n := by
    simp only [IntKind.wrap, IntKind.signed, IntKind.bits]
    simp
    omega
  have hneg : ¬ ((n : Int) < 0) := by omega
  have h48a : ¬ (281474976710656 < (n : Int) * (i.bytes : Int)) := by
    rw [← Int.natCast_mul]; omega
  have h63' : ¬ (9223372036854775807 < (n : Int)) := by omega
  have h48' : ¬ (281474976710656 < Builtin.nextslicecap n 0 * i.bytes) := by rw [nextslicecap_zero h0]; omega
  have hs0 : i.size ≠ 0 := by omega
  simp [Builtin.append_, run_underlying ht, run_underlying hzt, sizeOf, typeInfo, zeroValue, hi, hz, hn, asInt, hwrap, hneg, h48a, h63', h48', asIntOf, Question.forced, run_firstCells_none, newRow, grownCap]
  intro h; exact absurd h (Nat.ne_of_gt (Nat.mul_pos h0 hpos))

theorem zeroCells_get (z : Array Value) (n i j : Nat) (hi : i < n) (hj : j < z.size) : (Builtin.zeroCells z n)[i * z.size + j]? = z[j]? := by
  have hm : (i * z.size + j) % z.size = j := by rw [Nat.mul_comm, Nat.mul_add_mod, Nat.mod_eq_of_lt hj]
  have hlt : i * z.size + j < n * z.size := by
    have : (i + 1) * z.size ≤ n * z.size := Nat.mul_le_mul_right _ hi
    rw [Nat.add_mul] at this; omega
  simp only [Builtin.zeroCells, Array.getElem?_map]
  simp [hlt, hm, hj]

theorem stepOk_appendZ {P : Program} {o : Oper} {t : Nat → TV} {m : Id → Mem} {TT : Tab} (hT : TabOk P TT) {ty ty' : TypeId} {T TZ : Ty} (hty : TT ty = some T) {e : Nat} (hk : T.kind = .slc e) {TE : Ty} (hte : TT e = some TE) (htz : TT ty' = some TZ) (hkz : TZ.kind = .int .i64) {s x : Operand} {d : Nat} (hdd : o.dst = some d)
    {c : Call} (ho : o.op = .call c) (hcal : c.callee = .builtin .append) (hargs : c.args.toList = [s, x]) (hat : c.argTypes.toList = [ty, ty']) {K : Kont} (h : appendZ TE e d m (opd t s) (opd t x) K) :
    ∃ z mo rd, K z mo rd ∧ StepOk P o t m z mo rd := by
  have hma : c.args = #[s, x] := by rw [← Array.toArray_toList (xs := c.args), hargs]
  have hmt : c.argTypes = #[ty, ty'] := by rw [← Array.toArray_toList (xs := c.argTypes), hat]
  have hms : s ∈ o.op.operands.toList := by rw [ho]; simp [Op.operands, Call.operands, hcal, hma]
  have hmx : x ∈ o.op.operands.toList := by rw [ho]; simp [Op.operands, Call.operands, hcal, hma]
  have hkk : P.underlying ty = some (.slice e) := by have := (hT ty T hty).kind; rw [hk] at this; exact this
  have hkz' : P.underlying ty' = some (.int .i64) := by have := (hT ty' TZ htz).kind; rw [hkz] at this; exact this
  unfold appendZ at h
  split at h
  · rename_i n hs hx hm0
    obtain ⟨⟨hn, hby, hmax, hpos⟩, h⟩ := h
    refine ⟨_, _, _, h, stepOk_mem fun E ρ t' m' a w hP ha hm hd hR => ?_⟩
    have hmd : m' (.n d) = .none := by rw [hm.at (.n d) (by simp [Id.key])]; exact hm0
    have h1 := (opd_ok hR s).1
    rw [opd_agree ha hms, hs] at h1
    have e1 := (Rd.inv_v (show Rd _ _ _ _ from h1)).1
    have h2 := (opd_ok hR x).1
    rw [opd_agree ha hmx, hx] at h2
    have e2 := (Rd.inv_v (show Rd _ _ _ _ from h2)).1
    obtain ⟨ie, ze, g1, g2, g3, g4, g5, hz⟩ := zero_rd (hT e TE hte) (L E m' ρ w) w
    have hnn : (n.toNat : Int) = n := by omega
    have hby' : n.toNat * ie.bytes ≤ 140737488355328 := by
      rw [g3]
      have : ((n.toNat * TE.bytes : Nat) : Int) = n * TE.bytes := by rw [Int.natCast_mul, hnn]
      omega
    have hmx' : n.toNat ≤ maxLen := by omega
    have hrun := run_append_zeros (P := P) w ty ty' o.type e ie ze .i64 hkk hkz' g1 g4 (by omega) n.toNat (by omega) (by simp only [maxLen] at hmx'; omega) hby'
    rw [hnn] at hrun
    have hcap := grownCap_ge w n.toNat 0 e
    have hcm := grownCap_le_maxLen w n.toNat 0 e hmx'
    have hzl := hz.length
    simp only [Array.length_toList] at hzl
    obtain ⟨k1, k2⟩ := hR.newBld (.n d) 0 n.toNat TE.size (grownCap w n.toNat 0 e) e (fun _ j => TE.zero.getD j (.v Go.undef)) (Builtin.zeroCells ze.cells n.toNat ++ Builtin.zeroCells ze.cells (grownCap w n.toNat 0 e - n.toNat)) (below_drew_alloc w _) (by simp) (heap_alloc_new' w.drew _) (by
        rw [Array.size_append, size_zeroCells', size_zeroCells', g5, ← Nat.add_mul]; congr 1; omega) hcap hcm (fun i hi j hj => by
        obtain ⟨y, hy1, hy2⟩ := hz.getElemRd j (by omega)
        refine ⟨y, ?_, hy2⟩
        have hlt : i * TE.size + j < n.toNat * TE.size := by
          have : (i + 1) * TE.size ≤ n.toNat * TE.size := Nat.mul_le_mul_right _ hi
          rw [Nat.add_mul] at this; omega
        rw [Array.getElem?_append, if_pos (by rw [size_zeroCells', g5]; exact hlt), ← g5, zeroCells_get _ _ _ _ hi (by omega)]
        simpa using hy1) (NewGen.fresh hmd (hd d hdd))
    refine ⟨_, _, _, _, ?_, .inl rfl, k1, k2, fun b' hb' => by cases hb'; rw [upd_same]; simp⟩
    simp [execOp, ho, resolve, invoke, hcal, hma, hmt, builtin, e1, e2, hrun]
  · exact h.elim

/-- clear(s), for a part of what is being made. -/
theorem stepOk_clear {P : Program} {o : Oper} {t : Nat → TV} {m : Id → Mem} {TT : Tab} (hT : TabOk P TT) {ty : TypeId} {T : Ty} (hty : TT ty = some T) {e : Nat} (hk : T.kind = .slc e) {TE : Ty} (hte : TT e = some TE) {x : Operand}
    {c : Call} (ho : o.op = .call c) (hcal : c.callee = .builtin .clear) (hargs : c.args.toList = [x]) (hat : c.argTypes.toList = [ty]) {b : Id} {g lo n N : Nat} {get : Nat → Nat → SV} (hx : opd t x = .sub b g lo n) (hb : m b = .bld g N TE.size e get) :
    StepOk P o t m .any [(b, .bld g N TE.size e fun i j => bif Nat.ble lo i && Nat.blt i (lo + n) then TE.zero.getD j (.v Go.undef) else get i j)] [b.key] := by
  have hma : c.args = #[x] := by rw [← Array.toArray_toList (xs := c.args), hargs]
  have hmt : c.argTypes = #[ty] := by rw [← Array.toArray_toList (xs := c.argTypes), hat]
  have hmx : x ∈ o.op.operands.toList := by rw [ho]; simp [Op.operands, Call.operands, hcal, hma]
  have hkk : P.underlying ty = some (.slice e) := by have := (hT ty T hty).kind; rw [hk] at this; exact this
  refine stepOk_mem fun E ρ t' m' a w hP ha hm hd hR => ?_
  have hb' : m' b = .bld g N TE.size e get := by rw [hm.at b]; exact hb
  have h1 := (opd_ok hR x).1
  rw [opd_agree ha hmx, hx] at h1
  simp only [TOk, SubOk, SubAt, hb'] at h1
  obtain ⟨hln, h3⟩ := h1.2.2 trivial
  have hexec : ∀ (u : Value) (w' : World), a.eval x = u → (Builtin.clear_ #[ty] o.type #[u]).run P w = .ok (.tuple #[]) w' → (execOp a.eval o).run P w = .ok (.value (.tuple #[])) w' := by
    intro u w' hu hr
    simp [execOp, ho, resolve, invoke, hcal, hma, hmt, builtin, hu, hr]
  have hmo := hR.mem b
  rw [hb'] at hmo
  have hfun : n = 0 → (fun i j => bif Nat.ble lo i && Nat.blt i (lo + n) then TE.zero.getD j (.v Go.undef) else get i j) = get := by
    intro h0
    funext i j
    subst h0
    have : (Nat.ble lo i && Nat.blt i (lo + 0)) = false := by
      by_cases h : lo ≤ i
      · rw [blt_f (show ¬ i < lo + 0 by omega), Bool.and_false]
      · rw [ble_f h]; rfl
    rw [this]; rfl
  rcases hmo with ⟨hρ, hn0⟩ | ⟨bl, cap, arr, hρ, hblk, hsz, hnc, hcm, hel⟩
  · rw [hρ] at h3
    have h0 : n = 0 := by omega
    rw [hfun h0, ← hb', upd_self]
    exact ⟨_, _, w, ρ, hexec _ w h3 (by simp [Builtin.clear_, run_underlying hkk]), .inl rfl, hR, trivial, fun _ h => h.elim⟩
  · rw [hρ] at h3
    obtain ⟨ad, h3, h4⟩ := h3
    rcases Nat.eq_zero_or_pos n with h0 | h0
    · rw [hfun h0, ← hb', upd_self]
      subst h0
      exact ⟨_, _, w, ρ, hexec _ w h3 (by simp [Builtin.clear_, run_underlying hkk]), .inl rfl, hR, trivial, fun _ h => h.elim⟩
    · obtain ⟨ie, ze, g1, g2, g3, g4, g5, hz⟩ := zero_rd (hT e TE hte) (L E m' ρ w) w
      have hzl := hz.length
      simp only [Array.length_toList] at hzl
      have had := h4 (.inl (by omega))
      subst had
      have hzc : Builtin.zeroCells ze.cells n = (repeatV n ze.cells.toList).toArray := by
        have hpos : 0 < ze.cells.size ∨ ze.cells.size = 0 := by omega
        rcases hpos with hpos | hpos
        · exact made_repeat ze.cells n hpos
        · have h1 : ze.cells = #[] := Array.eq_empty_of_size_eq_zero hpos
          apply Array.ext'
          rw [h1]
          have : ∀ n, repeatV n ([] : List Value) = [] := fun n => by induction n with
            | zero => rfl
            | succ n ih => simp [repeatV, ih]
          simp [this, Builtin.zeroCells]
      have hus := RdL_repeat hz n
      have hul : (repeatV n ze.cells.toList).length = n * TE.size := by rw [length_repeatV]; simp [g5]
      have hfit : lo * TE.size + (repeatV n ze.cells.toList).length ≤ arr.size := by
        rw [hul, hsz, ← Nat.add_mul]
        exact Nat.mul_le_mul_right _ (by omega)
      have hst := run_storeCells_at (P := P) bl (lo * TE.size) e (repeatV n ze.cells.toList) 0 arr w hblk (by simpa using hfit) hus.oneCell
      simp only [Nat.add_zero] at hst
      have hrun : (Builtin.clear_ #[ty] o.type #[.slice (some ⟨bl, lo * TE.size, none⟩) n (cap - lo)]).run P w = .ok (.tuple #[]) (w.setRow bl (setCells arr.toList (lo * TE.size) (repeatV n ze.cells.toList)).toArray) := by
        have hn0 : n ≠ 0 := by omega
        rw [setCells_eq _ _ _ (by simpa using hfit)]
        simp [Builtin.clear_, run_underlying hkk, zeroValue, typeInfo, g1, g4, hzc, hn0, hst]
      have hby : (m' b).bldy = some (g, N, TE.size) := by rw [hb']; rfl
      refine ⟨_, _, _, upd ρ b (some (bl, cap)), hexec _ _ h3 hrun, .inl rfl, hR.setShape (mem_live_bld hb') hρ _ _ (.bldy hby rfl) (fun _ h => h.elim) (fun hL _ => ?_), trivial, fun _ h => h.elim⟩
      refine .inr ⟨bl, cap, _, upd_same _ _ _, setRow_heap w bl _ _ e _ hblk, by simp [length_setCells, hsz], hnc, hcm, fun i hi j hj => ?_⟩
      have hgt := getElem?_setCells (repeatV n ze.cells.toList) arr.toList (lo * TE.size) (by simpa using hfit) (i * TE.size + j)
      rw [hul] at hgt
      by_cases hin : lo ≤ i ∧ i < lo + n
      · obtain ⟨y, hy1, hy2⟩ := hz.getElemRd j (by omega)
        refine ⟨y, ?_, ?_⟩
        · have q1 : lo * TE.size ≤ i * TE.size := Nat.mul_le_mul_right _ hin.1
          have q2 : (i - lo) * TE.size + TE.size ≤ n * TE.size := by
            have : (i - lo + 1) * TE.size ≤ n * TE.size := Nat.mul_le_mul_right _ (by omega)
            rwa [Nat.add_mul, Nat.one_mul] at this
          have q3 : (i - lo) * TE.size = i * TE.size - lo * TE.size := Nat.sub_mul _ _ _
          rw [if_pos (by omega)] at hgt
          rw [getElem?_repeatV _ (by simp; omega) _ _ (by simp [g5]; omega)] at hgt
          rw [show i * TE.size + j - lo * TE.size = (i - lo) * TE.size + j by omega] at hgt
          simp only [Array.length_toList, g5] at hgt
          rw [show ((i - lo) * TE.size + j) % TE.size = j by rw [Nat.mul_comm, Nat.mul_add_mod, Nat.mod_eq_of_lt hj]] at hgt
          simpa [hgt] using hy1
        · show Rd _ _ y (bif _ then _ else _)
          rw [ble_t hin.1, blt_t hin.2]
          exact hy2.mono hL
      · obtain ⟨y, hy1, hy2⟩ := hel i hi j hj
        refine ⟨y, ?_, ?_⟩
        · have : ¬ (lo * TE.size ≤ i * TE.size + j ∧ i * TE.size + j < lo * TE.size + n * TE.size) := by
            rw [← Nat.add_mul]
            by_cases h1 : i < lo
            · have : (i + 1) * TE.size ≤ lo * TE.size := Nat.mul_le_mul_right _ h1
              rw [Nat.add_mul] at this; omega
            · have : (lo + n) * TE.size ≤ i * TE.size := Nat.mul_le_mul_right _ (by omega)
              omega
          rw [if_neg this] at hgt
          simpa [hgt] using hy1
        · show Rd _ _ y (bif _ then _ else _)
          have : (Nat.ble lo i && Nat.blt i (lo + n)) = false := by
            by_cases h : lo ≤ i
            · rw [blt_f (by omega), Bool.and_false]
            · rw [ble_f h]; rfl
          rw [this]
          exact hy2.mono hL
end Go.Vm
