/-
  Layer 37, plain: the tree of Best is valid, has the best value and at most three stages.
-/
import Derived.Test.YtfoblfchkgapoaaStpW
namespace Go.Vm
set_option maxRecDepth 20000
set_option linter.unusedVariables false
set_option linter.unusedSimpArgs false
open Go Go.RowKit Go.Proofs
namespace St

def colC (ks : List Knd) (kind h : Int) : CT := if (kget ks kind.toNat).h = h then .leaf kind else .cut false (kget ks kind.toNat).h (.leaf kind) (.leaf (-1))
def stripC (ks : List Knd) (kerf : Int) : List Int → Int → Int → CT
  | [], _, _ => .leaf (-1)
  | k :: r, w, h => if (kget ks k.toNat).w = w then colC ks k h else .cut true (kget ks k.toNat).w (colC ks k h) (stripC ks kerf r (w - (kget ks k.toNat).w - kerf) h)
def sheetC (ks : List Knd) (kerf : Int) : List (Int × List Int) → Int → Int → CT
  | [], _, _ => .leaf (-1)
  | p :: r, w, h => if p.1 = h then stripC ks kerf p.2 w h else .cut false p.1 (stripC ks kerf p.2 w p.1) (sheetC ks kerf r w (h - p.1 - kerf))
theorem colT_flat (ks : List Knd) (k h : Int) (b : Nat) : colT ks k h b = (colC ks k h).flat b := by
  unfold colT colC
  split <;> rfl
theorem cutT_congr {v : Bool} {a : Int} {A B A' B' : Nat → List Nd} {b : Nat} (h1 : ∀ b, A b = A' b) (h2 : ∀ b, B b = B' b) : cutT v a A B b = cutT v a A' B' b := by
  rw [show A = A' from funext h1, show B = B' from funext h2]
theorem stripT_flat (ks : List Knd) (kerf : Int) : ∀ (cols : List Int) (w h : Int) (b : Nat), stripT ks kerf cols w h b = (stripC ks kerf cols w h).flat b
  | [], _, _, _ => rfl
  | k :: r, w, h, b => by
    rw [stripT, stripC]
    split
    · exact colT_flat ks k h b
    · exact cutT_congr (fun b => colT_flat ks k h b) (fun b => stripT_flat ks kerf r _ h b)
theorem sheetT_flat (ks : List Knd) (kerf : Int) : ∀ (ps : List (Int × List Int)) (w h : Int) (b : Nat), sheetT ks kerf ps w h b = (sheetC ks kerf ps w h).flat b
  | [], _, _, _ => rfl
  | p :: r, w, h, b => by
    rw [sheetT, sheetC]
    split
    · exact stripT_flat ks kerf p.2 w h b
    · exact cutT_congr (fun b => stripT_flat ks kerf p.2 w p.1 b) (fun b => sheetT_flat ks kerf r w _ b)
/-! ### sizes -/
theorem colC_size (ks : List Knd) (k h : Int) : (colC ks k h).size ≤ 3 := by
  unfold colC
  split
  · exact Nat.le_of_ble_eq_true rfl
  · exact Nat.le_of_ble_eq_true rfl
theorem stripC_size (ks : List Knd) (kerf : Int) : ∀ (cols : List Int) (w h : Int), (stripC ks kerf cols w h).size ≤ 4 * cols.length + 1
  | [], _, _ => Nat.le_refl _
  | k :: r, w, h => by
    have h1 := colC_size ks k h
    rw [stripC, List.length_cons]
    split
    · omega
    · have h2 := stripC_size ks kerf r (w - (kget ks k.toNat).w - kerf) h
      rw [CT.size]; omega
theorem sheetC_size (ks : List Knd) (kerf : Int) (m : Nat) : ∀ (ps : List (Int × List Int)) (w h : Int), (∀ x ∈ ps, x.2.length ≤ m) → (sheetC ks kerf ps w h).size ≤ ps.length * (4 * m + 2) + 1
  | [], _, _, _ => by show 1 ≤ _; omega
  | p :: r, w, h, hp => by
    have hm := hp p (by simp)
    have e : (p :: r).length * (4 * m + 2) = r.length * (4 * m + 2) + (4 * m + 2) := by rw [List.length_cons, Nat.add_mul, Nat.one_mul]
    rw [sheetC]
    split
    · have := stripC_size ks kerf p.2 w h
      omega
    · have h1 := stripC_size ks kerf p.2 w p.1
      have h2 := sheetC_size ks kerf m r w (h - p.1 - kerf) (fun x hx => hp x (by simp [hx]))
      rw [CT.size]; omega
/-! ### stages -/
theorem colC_S (ks : List Knd) (k h s : Int) (hs : s ≤ 3) : okS (colC ks k h) s := by
  unfold colC
  split
  · trivial
  · exact ⟨hs, trivial, trivial⟩
theorem stripC_S (ks : List Knd) (kerf : Int) : ∀ (cols : List Int) (w h s : Int), s ≤ 3 → ((stripC ks kerf cols w h).vert = true → s ≤ 2) → okS (stripC ks kerf cols w h) s
  | [], _, _, _, _, _ => trivial
  | k :: r, w, h, s, h3, hv => by
    rw [stripC] at hv ⊢
    split
    · exact colC_S ks k h s h3
    · rename_i hc
      rw [if_neg hc] at hv
      have h2 := hv rfl
      refine ⟨h3, colC_S ks k h _ (by split <;> omega), stripC_S ks kerf r _ h _ (by split <;> omega) (fun q => ?_)⟩
      rw [if_pos q]; omega
theorem sheetC_S (ks : List Knd) (kerf : Int) : ∀ (ps : List (Int × List Int)) (w h s : Int), s ≤ 2 → ((sheetC ks kerf ps w h).vert = false → s ≤ 1) → okS (sheetC ks kerf ps w h) s
  | [], _, _, _, _, _ => trivial
  | p :: r, w, h, s, h2, hv => by
    rw [sheetC] at hv ⊢
    split
    · exact stripC_S ks kerf p.2 w h s (by omega) (fun _ => h2)
    · rename_i hc
      rw [if_neg hc] at hv
      have h1 := hv rfl
      refine ⟨by omega, stripC_S ks kerf p.2 w p.1 _ (by split <;> omega) (fun _ => by split <;> omega), sheetC_S ks kerf r w _ _ (by split <;> omega) (fun q => ?_)⟩
      rw [if_pos q]; omega
/-! ### values -/
def InK (ks : List Knd) (c : Int) : Prop := 0 ≤ c ∧ c < ks.length
theorem valC_leaf {ks : List Knd} {k : Int} (h : InK ks k) : valC ks (.leaf k) = (kget ks k.toNat).v := by
  have := h.1; have := h.2
  rw [valC, if_pos (inB_iff.2 ⟨by omega, by omega⟩)]
theorem valC_waste (ks : List Knd) : valC ks (.leaf (-1)) = 0 := by
  rw [valC, if_neg]
  intro q
  rw [inB_iff] at q
  omega
theorem colC_val {ks : List Knd} {k : Int} (hk : InK ks k) (h : Int) : valC ks (colC ks k h) = (kget ks k.toNat).v := by
  unfold colC
  split
  · exact valC_leaf hk
  · show valC ks (.leaf k) + valC ks (.leaf (-1)) = _
    rw [valC_leaf hk, valC_waste]; omega
theorem stripC_val {ks : List Knd} {kerf : Int} (h0 : ∀ k ∈ ks, 1 ≤ k.w ∧ 1 ≤ k.h) (hk0 : 0 ≤ kerf) : ∀ (cols : List Int) (w h : Int), (∀ c ∈ cols, InK ks c) → sumBy (fun c : Int => (kget ks c.toNat).w + kerf) cols ≤ w + kerf → valC ks (stripC ks kerf cols w h) = sumBy (fun c : Int => (kget ks c.toNat).v) cols
  | [], _, _, _, _ => valC_waste ks
  | k :: r, w, h, hc, hs => by
    have hk := hc k (by simp)
    simp only [sumBy] at hs ⊢
    rw [stripC]
    split
    · rename_i e
      have hr : r = [] := by
        cases r with
        | nil => rfl
        | cons x r =>
          exfalso
          have hx := hc x (by simp)
          have := hx.1; have := hx.2
          have wx := (h0 _ (kget_mem (l := ks) (i := x.toNat) (by omega))).1
          have : 0 ≤ sumBy (fun c : Int => (kget ks c.toNat).w + kerf) r := sumBy_nonneg (fun y hy => by
            have hy' := hc y (by simp [hy])
            have := hy'.1; have := hy'.2
            have wy := (h0 _ (kget_mem (l := ks) (i := y.toNat) (by omega))).1
            omega)
          simp only [sumBy] at hs
          omega
      subst hr
      rw [colC_val hk]
      simp [sumBy]
    · show valC ks (colC ks k h) + valC ks (stripC ks kerf r _ h) = _
      rw [colC_val hk, stripC_val h0 hk0 r _ h (fun c hc' => hc c (by simp [hc'])) (by omega)]
/-! ### rectangles -/
theorem colC_ok {ks : List Knd} {kerf k h : Int} {q : Rc} (h0 : ∀ k ∈ ks, 1 ≤ k.w ∧ 1 ≤ k.h) (hk : InK ks k) (hw : q.w = (kget ks k.toNat).w) (hh : q.h = h) (hle : (kget ks k.toNat).h ≤ h) : okC ks kerf (colC ks k h) q := by
  have a := hk.1; have b := hk.2
  have hm := (h0 _ (kget_mem (l := ks) (i := k.toNat) (by omega))).2
  unfold colC
  split
  · rename_i e
    exact .inr ⟨a, b, hw, by rw [hh, e]⟩
  · rename_i e
    refine ⟨⟨hm, ?_⟩, .inr ⟨a, b, hw, rfl⟩, .inl rfl⟩
    simp only [Bool.false_eq_true, if_false]
    omega
theorem stripC_ok {ks : List Knd} {kerf : Int} (h0 : ∀ k ∈ ks, 1 ≤ k.w ∧ 1 ≤ k.h) (hk0 : 0 ≤ kerf) : ∀ (cols : List Int) (w h : Int) (q : Rc), (∀ c ∈ cols, InK ks c ∧ (kget ks c.toNat).h ≤ h) → sumBy (fun c : Int => (kget ks c.toNat).w + kerf) cols ≤ w + kerf → q.h = h → (cols ≠ [] → q.w = w) → okC ks kerf (stripC ks kerf cols w h) q
  | [], _, _, _, _, _, _, _ => .inl rfl
  | k :: r, w, h, q, hc, hs, hh, hw => by
    obtain ⟨hk, hkh⟩ := hc k (by simp)
    have hw' := hw (by simp)
    have a := hk.1; have b := hk.2
    have hm := (h0 _ (kget_mem (l := ks) (i := k.toNat) (by omega))).1
    simp only [sumBy] at hs
    have hr0 : 0 ≤ sumBy (fun c : Int => (kget ks c.toNat).w + kerf) r := sumBy_nonneg (fun y hy => by
      have hy' := (hc y (by simp [hy])).1
      have := hy'.1; have := hy'.2
      have wy := (h0 _ (kget_mem (l := ks) (i := y.toNat) (by omega))).1
      omega)
    rw [stripC]
    split
    · rename_i e
      exact colC_ok h0 hk (by rw [hw', e]) hh hkh
    · rename_i e
      refine ⟨⟨hm, ?_⟩, colC_ok h0 hk rfl hh hkh, stripC_ok h0 hk0 r _ h _ (fun c hc' => hc c (by simp [hc'])) (by omega) hh (fun hne => ?_)⟩
      · simp only [if_true]; omega
      · show maxI 0 (q.w - (kget ks k.toNat).w - kerf) = w - (kget ks k.toNat).w - kerf
        have hpos : 1 ≤ w - (kget ks k.toNat).w - kerf := by
          cases r with
          | nil => exact absurd rfl hne
          | cons x r =>
            have hx := (hc x (by simp)).1
            have := hx.1; have := hx.2
            have wx := (h0 _ (kget_mem (l := ks) (i := x.toNat) (by omega))).1
            have : 0 ≤ sumBy (fun c : Int => (kget ks c.toNat).w + kerf) r := sumBy_nonneg (fun y hy => by
              have hy' := (hc y (by simp [hy])).1
              have := hy'.1; have := hy'.2
              have wy := (h0 _ (kget_mem (l := ks) (i := y.toNat) (by omega))).1
              omega)
            simp only [sumBy] at hs
            omega
        rw [hw']
        have := maxI_spec (w - (kget ks k.toNat).w - kerf)
        omega
structure PsOk (ks : List Knd) (w kerf : Int) (x : Int × List Int) : Prop where
  h : 1 ≤ x.1
  c : ∀ c ∈ x.2, InK ks c ∧ (kget ks c.toNat).h ≤ x.1
  s : sumBy (fun c : Int => (kget ks c.toNat).w + kerf) x.2 ≤ w + kerf
theorem sheetC_ok {ks : List Knd} {kerf : Int} (h0 : ∀ k ∈ ks, 1 ≤ k.w ∧ 1 ≤ k.h) (hk0 : 0 ≤ kerf) : ∀ (ps : List (Int × List Int)) (w h : Int) (q : Rc), (∀ x ∈ ps, PsOk ks w kerf x) → sumBy (fun x : Int × List Int => x.1 + kerf) ps ≤ h + kerf → q.w = w → (ps ≠ [] → q.h = h) → okC ks kerf (sheetC ks kerf ps w h) q
  | [], _, _, _, _, _, _, _ => .inl rfl
  | x :: r, w, h, q, hp, hs, hw, hh => by
    have hx := hp x (by simp)
    have hh' := hh (by simp)
    have x0 := hx.h
    simp only [sumBy] at hs
    have hr0 : 0 ≤ sumBy (fun x : Int × List Int => x.1 + kerf) r := sumBy_nonneg (fun y hy => by
      have := (hp y (by simp [hy])).h
      omega)
    rw [sheetC]
    split
    · rename_i e
      exact stripC_ok h0 hk0 x.2 w h q (fun c hc => ⟨(hx.c c hc).1, by have := (hx.c c hc).2; omega⟩) hx.s hh' (fun _ => hw)
    · rename_i e
      refine ⟨⟨x0, ?_⟩, stripC_ok h0 hk0 x.2 w x.1 _ hx.c hx.s rfl (fun _ => hw), sheetC_ok h0 hk0 r w _ _ (fun y hy => hp y (by simp [hy])) (by omega) hw (fun hne => ?_)⟩
      · simp only [Bool.false_eq_true, if_false]; omega
      · show maxI 0 (q.h - x.1 - kerf) = h - x.1 - kerf
        have hpos : 1 ≤ h - x.1 - kerf := by
          cases r with
          | nil => exact absurd rfl hne
          | cons y r =>
            have hy := (hp y (by simp)).h
            have : 0 ≤ sumBy (fun x : Int × List Int => x.1 + kerf) r := sumBy_nonneg (fun z hz => by
              have := (hp z (by simp [hz])).h
              omega)
            simp only [sumBy] at hs
            omega
        rw [hh']
        have := maxI_spec (h - x.1 - kerf)
        omega
theorem sheetC_val {ks : List Knd} {kerf : Int} (h0 : ∀ k ∈ ks, 1 ≤ k.w ∧ 1 ≤ k.h) (hk0 : 0 ≤ kerf) : ∀ (ps : List (Int × List Int)) (w h : Int), (∀ x ∈ ps, PsOk ks w kerf x) → sumBy (fun x : Int × List Int => x.1 + kerf) ps ≤ h + kerf → valC ks (sheetC ks kerf ps w h) = sumBy (fun x : Int × List Int => sumBy (fun c : Int => (kget ks c.toNat).v) x.2) ps
  | [], _, _, _, _ => valC_waste ks
  | x :: r, w, h, hp, hs => by
    have hx := hp x (by simp)
    have hxc : ∀ c ∈ x.2, InK ks c := fun c hc => (hx.c c hc).1
    simp only [sumBy] at hs ⊢
    rw [sheetC]
    split
    · rename_i e
      have hr : r = [] := by
        cases r with
        | nil => rfl
        | cons y r =>
          exfalso
          have hy := (hp y (by simp)).h
          have : 0 ≤ sumBy (fun x : Int × List Int => x.1 + kerf) r := sumBy_nonneg (fun z hz => by
            have := (hp z (by simp [hz])).h
            omega)
          simp only [sumBy] at hs
          omega
      subst hr
      rw [stripC_val h0 hk0 x.2 w h hxc hx.s]
      simp [sumBy]
    · show valC ks (stripC ks kerf x.2 w x.1) + valC ks (sheetC ks kerf r w _) = _
      rw [stripC_val h0 hk0 x.2 w x.1 hxc hx.s, sheetC_val h0 hk0 r w _ (fun y hy => hp y (by simp [hy])) (by omega)]
/-! ### the tree of Best -/
theorem sum_ge {α : Type} {f : α → Int} {m : Int} : ∀ {l : List α}, (∀ x ∈ l, m ≤ f x) → (l.length : Int) * m ≤ sumBy f l
  | [], _ => by simp [sumBy]
  | a :: l, h => by
    have ih := sum_ge (l := l) (fun x hx => h x (by simp [hx]))
    have ha := h a (by simp)
    simp only [sumBy, List.length_cons]
    have : ((l.length + 1 : Nat) : Int) * m = l.length * m + m := by rw [Int.natCast_add, Int.add_mul]; simp
    omega
theorem lowL_mem (f : Knd → Int) : ∀ (l : List Knd) (a : Int), ∀ k ∈ l, lowL f l a ≤ f k
  | [], _, _, h => by cases h
  | x :: r, a, k, h => by
    show lowL f r (if f x < a then f x else a) ≤ f k
    rcases List.mem_cons.1 h with rfl | h
    · refine Int.le_trans (lowL_le f r _) ?_
      split <;> omega
    · exact lowL_mem f r _ k h
section
variable {ks : List Knd} {w h kerf : Int} (p : Pb ks w h kerf)
include p
theorem Pb.pos : ∀ k ∈ ks, 1 ≤ k.w ∧ 1 ≤ k.h := fun k hk => ⟨(p.ok k hk).w0, (p.ok k hk).h0⟩
theorem ps_psok : ∀ x ∈ psF ks kerf w h, PsOk ks w kerf x := fun x hx => by
  obtain ⟨j, j1, _, rfl⟩ := (ps_ok p).2 x hx
  have c := (cols_ok p (kget ks j).h).2
  exact ⟨(p.at' j1).h0, fun y hy => ⟨⟨(c y hy).1, (c y hy).2.1⟩, (c y hy).2.2⟩, (cols_sum p (kget ks j).h).2⟩
theorem best_size (hh : h ≤ 60) (hm : manyB ks w h kerf = false) : (sheetC ks kerf (psF ks kerf w h) w h).size ≤ 4000 := by
  have k0 := p.k0; have w0 := p.w0; have h0 := p.h0
  by_cases hne : ks = []
  · have : psF ks kerf w h = [] := by
      have := (ps_ok p).2
      cases hq : psF ks kerf w h with
      | nil => rfl
      | cons x r =>
        rw [hq] at this
        obtain ⟨j, j1, _⟩ := this x (by simp)
        rw [hne] at j1
        exact absurd j1 (Nat.not_lt_zero _)
    rw [this]
    exact Nat.le_of_ble_eq_true rfl
  rw [manyB, if_neg hne, decide_eq_false_iff_not] at hm
  have a0 : 1 ≤ lowL Knd.w ks 2000 := lowL_ge _ 1 _ _ (fun k hk => (p.ok k hk).w0) (by decide)
  have b0 : 1 ≤ lowL Knd.h ks 2000 := lowL_ge _ 1 _ _ (fun k hk => (p.ok k hk).h0) (by decide)
  have al : ∀ k ∈ ks, lowL Knd.w ks 2000 ≤ k.w := fun k hk => lowL_mem _ _ _ k hk
  have bl : ∀ k ∈ ks, lowL Knd.h ks 2000 ≤ k.h := fun k hk => lowL_mem _ _ _ k hk
  generalize lowL Knd.w ks 2000 = a at *
  generalize lowL Knd.h ks 2000 = b at *
  have hn : ((psF ks kerf w h).length : Int) ≤ (h + kerf) / (b + kerf) := by
    refine (Int.le_ediv_iff_mul_le (by omega)).2 (Int.le_trans (sum_ge (f := fun x : Int × List Int => x.1 + kerf) (fun x hx => ?_)) (ps_sum p).2)
    obtain ⟨j, j1, _, rfl⟩ := (ps_ok p).2 x hx
    have := bl _ (kget_mem (l := ks) (i := j) j1)
    show b + kerf ≤ (kget ks j).h + kerf
    omega
  have hc : ∀ x ∈ psF ks kerf w h, (x.2.length : Int) ≤ (w + kerf) / (a + kerf) := fun x hx => by
    have q := ps_psok p x hx
    refine (Int.le_ediv_iff_mul_le (by omega)).2 (Int.le_trans (sum_ge (f := fun c : Int => (kget ks c.toNat).w + kerf) (fun c hc => ?_)) q.s)
    have i := (q.c c hc).1
    have := i.1; have := i.2
    have := al _ (kget_mem (l := ks) (i := c.toNat) (by omega))
    show a + kerf ≤ _ + kerf
    omega
  have hB : (h + kerf) / (b + kerf) ≤ 60 := by
    have : (h + kerf) / (b + kerf) < 61 := (Int.ediv_lt_iff_lt_mul (by omega)).2 (by
      have : 61 * (b + kerf) = 61 * b + 61 * kerf := by rw [Int.mul_add]
      omega)
    omega
  have A0 := Int.ediv_nonneg (show 0 ≤ w + kerf by omega) (show 0 ≤ a + kerf by omega)
  have B0 := Int.ediv_nonneg (show 0 ≤ h + kerf by omega) (show 0 ≤ b + kerf by omega)
  generalize (w + kerf) / (a + kerf) = A at *
  generalize (h + kerf) / (b + kerf) = B at *
  obtain ⟨A, rfl⟩ := Int.eq_ofNat_of_zero_le A0
  obtain ⟨B, rfl⟩ := Int.eq_ofNat_of_zero_le B0
  have hs := sheetC_size ks kerf A (psF ks kerf w h) w h (fun x hx => by have := hc x hx; omega)
  have hAB : A * B ≤ 600 := by
    have : ((A * B : Nat) : Int) ≤ 600 := by rw [Int.natCast_mul]; omega
    omega
  have h1 : (psF ks kerf w h).length * (4 * A + 2) ≤ B * (4 * A + 2) := Nat.mul_le_mul_right _ (by omega)
  have h2 : B * (4 * A + 2) = 4 * (A * B) + 2 * B := by rw [Nat.mul_add, Nat.mul_left_comm, Nat.mul_comm B A, Nat.mul_comm B 2]
  omega
theorem bestT_valid (hh : h ≤ 60) (hm : manyB ks w h kerf = false) : validB (bestT ks w h kerf) ks w h kerf = true ∧ valS (bestT ks w h kerf) ks (bestT ks w h kerf).length = bestV ks w h kerf ∧ stagesR (bestT ks w h kerf) ≤ 3 := by
  have hs := best_size p hh hm
  have e : bestT ks w h kerf = (sheetC ks kerf (psF ks kerf w h) w h).flat 0 := sheetT_flat ks kerf _ w h 0
  rw [e]
  refine ⟨at_valid p hs (sheetC_ok p.pos p.k0 _ w h _ (ps_psok p) (ps_sum p).2 rfl (fun _ => rfl)), ?_, at_stages hs (sheetC_S ks kerf _ w h 1 (by decide) (fun _ => Int.le_refl _))⟩
  rw [at_value hs (fun k hk => ⟨(p.ok k hk).v0, (p.ok k hk).v1⟩), sheetC_val p.pos p.k0 _ w h (ps_psok p) (ps_sum p).2]
  exact (ps_sum p).1
end
end St
end Go.Vm
