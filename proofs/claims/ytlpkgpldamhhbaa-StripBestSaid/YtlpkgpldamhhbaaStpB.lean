/-
  Layer 37: contracts of many, limit and of the reference's Problem and Few; the knapsack.
-/
import Derived.Test.YtlpkgpldamhhbaaStpA
namespace Go.Vm
set_option maxRecDepth 20000
set_option linter.unusedVariables false
set_option linter.unusedSimpArgs false
open Go Go.RowKit Go.Proofs
namespace St

structure KOk (k : Knd) : Prop where
  w0 : 1 ≤ k.w
  w1 : k.w ≤ 2000
  h0 : 1 ≤ k.h
  h1 : k.h ≤ 2000
  v0 : 0 ≤ k.v
  v1 : k.v ≤ 1000000
structure Pb (l : List Knd) (w h kerf : Int) : Prop where
  len : l.length ≤ 20
  ok : ∀ k ∈ l, KOk k
  w0 : 1 ≤ w
  w1 : w ≤ 2000
  h0 : 1 ≤ h
  h1 : h ≤ 2000
  k0 : 0 ≤ kerf
  k1 : kerf ≤ 50
theorem inB_iff {n lo hi : Int} : inB n lo hi = true ↔ lo ≤ n ∧ n ≤ hi := by simp [inB]
theorem wrong_iff {k : Knd} : wrongB k = false ↔ KOk k := by
  simp only [wrongB, Bool.or_eq_false_iff, Bool.not_eq_false', inB_iff]
  exact ⟨fun ⟨⟨a, b⟩, ⟨c, d⟩, e, f⟩ => ⟨a, b, c, d, e, f⟩, fun ⟨a, b, c, d, e, f⟩ => ⟨⟨a, b⟩, ⟨c, d⟩, e, f⟩⟩
theorem any_wrong {l : List Knd} : l.any wrongB = false ↔ ∀ k ∈ l, KOk k := by
  rw [← Bool.not_eq_true, List.any_eq_true]
  constructor
  · intro h k hk
    refine wrong_iff.1 ?_
    cases hw : wrongB k with
    | false => rfl
    | true => exact absurd ⟨k, hk, hw⟩ h
  · rintro h ⟨k, hk, hw⟩
    rw [wrong_iff.2 (h k hk)] at hw; cases hw
theorem prob_iff {l : List Knd} {w h kerf : Int} : probB l w h kerf = true ↔ Pb l w h kerf := by
  simp only [probB, Bool.and_eq_true, decide_eq_true_eq, Bool.not_eq_true', any_wrong, inB_iff]
  exact ⟨fun ⟨a, b, ⟨c, d⟩, ⟨e, f⟩, g, i⟩ => ⟨a, b, c, d, e, f, g, i⟩, fun ⟨a, b, c, d, e, f, g, i⟩ => ⟨a, b, ⟨c, d⟩, ⟨e, f⟩, g, i⟩⟩
theorem kget_mem {l : List Knd} {i : Nat} (h : i < l.length) : kget l i ∈ l := by
  unfold kget
  rw [List.getD, List.getElem?_eq_getElem h]
  exact List.getElem_mem h
theorem Pb.at' {l : List Knd} {w h kerf : Int} (p : Pb l w h kerf) {i : Nat} (hi : i < l.length) : KOk (kget l i) := p.ok _ (kget_mem hi)
/-! ### the reference's Problem -/
theorem rproblem_det (l : List Knd) (w hh kerf : Int) (hl : l.length ≤ 100000000) : Det Try.prog 23 [.one (kS l), .one (i64 w), .one (i64 hh), .one (i64 kerf)] (tbool (probB l w hh kerf)) := by
  refine det_of_awp TTok mixed Try.func23 rfl rfl [] (Nat.le_of_ble_eq_true rfl) ?_
  refine Loop.by (α := Nat) (fun k => [(0, .d (.one (kS l))), (1, tint w), (2, tint hh), (3, tint kerf), (9, tint k)]) (fun _ => []) (fun k => k ≤ l.length ∧ ∀ i, i < k → KOk (kget l i)) (fun k => l.length - k)
    (Adj.at 0 ⟨Nat.zero_le _, fun _ h => absurd h (Nat.not_lt_zero _)⟩ .nil (.cons .same (.cons .same (.cons .same (.cons .same (.cons .same .nil)))))) (fun k hk => ?_)
  obtain ⟨hk, hx⟩ := hk
  refine Split.mk (fun h => ?_) (fun h => ?_)
  · have hlt : k < l.length := by have := of_decide_eq_true h; omega
    have bad : ¬ KOk (l.getD ((k : Int)).toNat k0) → probB l w hh kerf = false := fun hb => by
      cases hq : probB l w hh kerf with
      | false => rfl
      | true => exact absurd ((prob_iff.1 hq).at' hlt) hb
    refine Need.mk (by omega) ?_
    refine Split.mk (fun c1 => ?_) (fun c1 => ?_)
    · repeat' first | refine Split.isT c1 ?_ | refine Split.t ?_ | refine Split.f ?_ | fail
      exact Fin.bool (bad fun q => by have := q.w0; have := of_decide_eq_true c1; omega).symm
    repeat' first | refine Split.isF c1 ?_ | refine Split.t ?_ | refine Split.f ?_ | fail
    refine Split.mk (fun c2 => ?_) (fun c2 => ?_)
    · repeat' first | refine Split.isT c2 ?_ | refine Split.t ?_ | refine Split.f ?_ | fail
      exact Fin.bool (bad fun q => by have := q.w1; have := of_decide_eq_true c2; omega).symm
    repeat' first | refine Split.isF c2 ?_ | refine Split.t ?_ | refine Split.f ?_ | fail
    refine Split.mk (fun c3 => ?_) (fun c3 => ?_)
    · repeat' first | refine Split.isT c3 ?_ | refine Split.t ?_ | refine Split.f ?_ | fail
      exact Fin.bool (bad fun q => by have := q.h0; have := of_decide_eq_true c3; omega).symm
    repeat' first | refine Split.isF c3 ?_ | refine Split.t ?_ | refine Split.f ?_ | fail
    refine Split.mk (fun c4 => ?_) (fun c4 => ?_)
    · repeat' first | refine Split.isT c4 ?_ | refine Split.t ?_ | refine Split.f ?_ | fail
      exact Fin.bool (bad fun q => by have := q.h1; have := of_decide_eq_true c4; omega).symm
    repeat' first | refine Split.isF c4 ?_ | refine Split.t ?_ | refine Split.f ?_ | fail
    refine Split.mk (fun c5 => ?_) (fun c5 => ?_)
    · repeat' first | refine Split.isT c5 ?_ | refine Split.t ?_ | refine Split.f ?_ | fail
      exact Fin.bool (bad fun q => by have := q.v0; have := of_decide_eq_true c5; omega).symm
    repeat' first | refine Split.isF c5 ?_ | refine Split.t ?_ | refine Split.f ?_ | fail
    refine Split.mk (fun c6 => ?_) (fun c6 => ?_)
    · exact Fin.bool (bad fun q => by have := q.v1; have := of_decide_eq_true c6; omega).symm
    refine Adj.back (x := k) (k + 1) ⟨by omega, fun i hi => ?_⟩ (by omega) .nil (.cons .same (.cons .same (.cons .same (.cons .same (.cons (SlotLe.int (hS k (by omega))) .nil)))))
    rcases Nat.lt_succ_iff_lt_or_eq.1 hi with hi | rfl
    · exact hx i hi
    · have := of_decide_eq_false c1; have := of_decide_eq_false c2; have := of_decide_eq_false c3; have := of_decide_eq_false c4; have := of_decide_eq_false c5; have := of_decide_eq_false c6
      exact (⟨by omega, by omega, by omega, by omega, by omega, by omega⟩ : KOk (l.getD ((i : Int)).toNat k0))
  · have he : k = l.length := by have := of_decide_eq_false h; omega
    have hall : ∀ k ∈ l, KOk k := fun a ha => by
      obtain ⟨i, hi, e⟩ := List.getElem_of_mem ha
      have := hx i (by omega)
      rw [← e]
      simpa [kget, List.getD, hi] using this
    have pn : ∀ {b : Bool}, (b = true ↔ Pb l w hh kerf) → b = probB l w hh kerf := fun {b} hb => by
      rw [Bool.eq_iff_iff, prob_iff]; exact hb
    have pnF : ¬ Pb l w hh kerf → false = probB l w hh kerf := fun hb => by
      cases hq : probB l w hh kerf with
      | false => rfl
      | true => exact absurd (prob_iff.1 hq) hb
    refine Split.mk (fun c1 => ?_) (fun c1 => ?_)
    · repeat' first | refine Split.isT c1 ?_ | refine Split.t ?_ | refine Split.f ?_ | fail
      refine Split.mk (fun c2 => ?_) (fun c2 => ?_)
      · repeat' first | refine Split.isT c2 ?_ | refine Split.t ?_ | refine Split.f ?_ | fail
        refine Split.mk (fun c3 => ?_) (fun c3 => ?_)
        · repeat' first | refine Split.isT c3 ?_ | refine Split.t ?_ | refine Split.f ?_ | fail
          refine Split.mk (fun c4 => ?_) (fun c4 => ?_)
          · repeat' first | refine Split.isT c4 ?_ | refine Split.t ?_ | refine Split.f ?_ | fail
            refine Split.mk (fun c5 => ?_) (fun c5 => ?_)
            · repeat' first | refine Split.isT c5 ?_ | refine Split.t ?_ | refine Split.f ?_ | fail
              refine Split.mk (fun c6 => ?_) (fun c6 => ?_)
              · repeat' first | refine Split.isT c6 ?_ | refine Split.t ?_ | refine Split.f ?_ | fail
                refine Fin.bool (pn ?_)
                rw [decide_eq_true_eq]
                have := of_decide_eq_true c1; have := of_decide_eq_true c2; have := of_decide_eq_true c3; have := of_decide_eq_true c4; have := of_decide_eq_true c5; have := of_decide_eq_true c6
                exact ⟨fun q => ⟨by omega, hall, by omega, by omega, by omega, by omega, by omega, q⟩, fun p => p.k1⟩
              · repeat' first | refine Split.isF c6 ?_ | refine Split.t ?_ | refine Split.f ?_ | fail
                exact Fin.bool (pnF fun p => by have := p.k0; have := of_decide_eq_false c6; omega)
            · repeat' first | refine Split.isF c5 ?_ | refine Split.t ?_ | refine Split.f ?_ | fail
              exact Fin.bool (pnF fun p => by have := p.h1; have := of_decide_eq_false c5; omega)
          · repeat' first | refine Split.isF c4 ?_ | refine Split.t ?_ | refine Split.f ?_ | fail
            exact Fin.bool (pnF fun p => by have := p.h0; have := of_decide_eq_false c4; omega)
        · repeat' first | refine Split.isF c3 ?_ | refine Split.t ?_ | refine Split.f ?_ | fail
          exact Fin.bool (pnF fun p => by have := p.w1; have := of_decide_eq_false c3; omega)
      · repeat' first | refine Split.isF c2 ?_ | refine Split.t ?_ | refine Split.f ?_ | fail
        exact Fin.bool (pnF fun p => by have := p.w0; have := of_decide_eq_false c2; omega)
    · repeat' first | refine Split.isF c1 ?_ | refine Split.t ?_ | refine Split.f ?_ | fail
      exact Fin.bool (pnF fun p => by have := p.len; have := of_decide_eq_false c1; omega)
/-! ### many, limit -/
def lowL (f : Knd → Int) (l : List Knd) (a : Int) : Int := l.foldl (fun a k => if f k < a then f k else a) a
theorem lowL_take (f : Knd → Int) (l : List Knd) (a : Int) (k : Nat) (hk : k < l.length) : lowL f (l.take (k + 1)) a = if f (kget l k) < lowL f (l.take k) a then f (kget l k) else lowL f (l.take k) a := by
  rw [List.take_succ_eq_append_getElem hk]
  simp only [lowL, List.foldl_append, List.foldl_cons, List.foldl_nil, kget, List.getD, List.getElem?_eq_getElem hk, Option.getD_some]
theorem lowL_ge (f : Knd → Int) (m : Int) : ∀ (l : List Knd) (a : Int), (∀ k ∈ l, m ≤ f k) → m ≤ a → m ≤ lowL f l a
  | [], a, _, h => h
  | k :: r, a, h, ha => by
    show m ≤ lowL f r (if f k < a then f k else a)
    refine lowL_ge f m r _ (fun k hk => h k (List.mem_cons_of_mem _ hk)) ?_
    have := h k (by simp)
    split <;> omega
theorem lowL_le (f : Knd → Int) : ∀ (l : List Knd) (a : Int), lowL f l a ≤ a
  | [], a => Int.le_refl _
  | k :: r, a => by
    show lowL f r (if f k < a then f k else a) ≤ a
    refine Int.le_trans (lowL_le f r _) ?_
    split <;> omega
theorem lowL_head (f : Knd → Int) (l : List Knd) (h : l ≠ []) (hb : ∀ k ∈ l, f k ≤ 2000) : lowL f l 2000 = lowL f l (f (kget l 0)) := by
  cases l with
  | nil => exact absurd rfl h
  | cons k r =>
    have := hb k (by simp)
    show lowL f r (if f k < 2000 then f k else 2000) = lowL f r (if f k < f k then f k else f k)
    congr 1
    split <;> split <;> omega
def manyB (l : List Knd) (w h kerf : Int) : Bool := if l = [] then false else decide ((w + kerf) / (lowL Knd.w l 2000 + kerf) * ((h + kerf) / (lowL Knd.h l 2000 + kerf)) > 600)
theorem quo_w {n v : Int} (h0 : 0 ≤ n) (h1 : n < 9223372036854775808) (hv : 0 < v) : IntKind.i64.wrap (n.tdiv v) = n / v := by
  rw [Int.tdiv_eq_ediv_of_nonneg h0]
  have a := Int.ediv_nonneg h0 (Int.le_of_lt hv)
  have b := Int.ediv_le_self v h0
  exact wid (by omega) (by omega)
theorem many_w {w h kerf a b : Int} (hw0 : 1 ≤ w) (hw1 : w ≤ 2000) (hh0 : 1 ≤ h) (hh1 : h ≤ 2000) (hk0 : 0 ≤ kerf) (hk1 : kerf ≤ 50) (ha0 : 1 ≤ a) (ha1 : a ≤ 2000) (hb0 : 1 ≤ b) (hb1 : b ≤ 2000) :
    IntKind.i64.wrap (IntKind.i64.wrap ((IntKind.i64.wrap (w + kerf)).tdiv (IntKind.i64.wrap (a + kerf))) * IntKind.i64.wrap ((IntKind.i64.wrap (h + kerf)).tdiv (IntKind.i64.wrap (b + kerf)))) = (w + kerf) / (a + kerf) * ((h + kerf) / (b + kerf)) := by
  rw [hw (w + kerf) (by omega) (by omega), hw (h + kerf) (by omega) (by omega), hw (a + kerf) (by omega) (by omega), hw (b + kerf) (by omega) (by omega), quo_w (by omega) (by omega) (by omega), quo_w (by omega) (by omega) (by omega)]
  have c1 := Int.ediv_nonneg (show 0 ≤ w + kerf by omega) (show 0 ≤ a + kerf by omega)
  have c2 := Int.ediv_nonneg (show 0 ≤ h + kerf by omega) (show 0 ≤ b + kerf by omega)
  have c3 := Int.ediv_le_self (a + kerf) (show 0 ≤ w + kerf by omega)
  have c4 := Int.ediv_le_self (b + kerf) (show 0 ≤ h + kerf by omega)
  have c5 : (w + kerf) / (a + kerf) * ((h + kerf) / (b + kerf)) ≤ 2050 * 2050 := Int.mul_le_mul (by omega) (by omega) c2 (by decide)
  have c6 := Int.mul_nonneg c1 c2
  exact wid (by omega) (by omega)
theorem many_det (l : List Knd) (w h kerf : Int) (p : Pb l w h kerf) : Det Try.prog 46 [.one (kS l), .one (i64 w), .one (i64 h), .one (i64 kerf)] (tbool (manyB l w h kerf)) := by
  refine det_of_awp TTok mixed Try.func46 rfl rfl [] (Nat.le_of_ble_eq_true rfl) ?_
  have hl := p.len
  refine Split.mk (fun h1 => ?_) (fun h1 => ?_)
  · refine Fin.bool ?_
    have : l = [] := List.eq_nil_of_length_eq_zero (by simpa using h1)
    rw [manyB, if_pos this]
  have hne : l ≠ [] := fun e => by rw [e] at h1; simp at h1
  have h0 : 0 < l.length := List.length_pos_iff.2 hne
  refine Need.mk (by omega) ?_
  refine Need.mk (by omega) ?_
  refine Need.mk (by kernel_rfl) ?_
  refine Loop.by (α := Nat) (fun k => [(1, tint w), (2, tint h), (3, tint kerf), (9, tint (lowL Knd.w (l.take k) (kget l 0).w)), (10, tint (lowL Knd.h (l.take k) (kget l 0).h)), (24, .d (.one (kS l))), (25, tint l.length), (26, tint k)]) (fun _ => []) (fun k => k ≤ l.length) (fun k => l.length - k)
    (Adj.at 0 (Nat.zero_le _) .nil (.cons .same (.cons .same (.cons .same (.cons .same (.cons .same (.cons .same (.cons .same (.cons .same .nil))))))))) (fun k hk => ?_)
  refine Split.mk (fun h => ?_) (fun h => ?_)
  · have hlt : k < l.length := by have := of_decide_eq_true h; omega
    refine Need.mk (by omega) ?_
    refine Need.mk (by kernel_rfl) ?_
    refine Adj.back (x := k) (k + 1) (by omega) (by omega) .nil (.cons .same (.cons .same (.cons .same (.cons (SlotLe.int (lowL_take Knd.w l _ k hlt).symm) (.cons (SlotLe.int (lowL_take Knd.h l _ k hlt).symm) (.cons .same (.cons .same (.cons (SlotLe.int (hS k (by omega))) .nil))))))))
  · have he : k = l.length := by have := of_decide_eq_false h; omega
    subst he
    rw [List.take_length] at *
    have k0 := p.at' h0
    have a0 : 1 ≤ lowL Knd.w l (kget l 0).w := lowL_ge _ 1 _ _ (fun k hk => (p.ok k hk).w0) k0.w0
    have a1 := Int.le_trans (lowL_le Knd.w l (kget l 0).w) k0.w1
    have b0 : 1 ≤ lowL Knd.h l (kget l 0).h := lowL_ge _ 1 _ _ (fun k hk => (p.ok k hk).h0) k0.h0
    have b1 := Int.le_trans (lowL_le Knd.h l (kget l 0).h) k0.h1
    have e := many_w p.w0 p.w1 p.h0 p.h1 p.k0 p.k1 a0 a1 b0 b1
    have c0 := p.k0
    have c1 := p.k1
    refine Need.mk (by rw [hw _ (by omega) (by omega)]; omega) ?_
    refine Need.mk (by rw [hw _ (by omega) (by omega)]; omega) ?_
    refine Need.mk (by kernel_rfl) ?_
    refine Fin.bool ?_
    rw [e, manyB, if_neg hne, lowL_head _ _ hne (fun k hk => (p.ok k hk).w1), lowL_head _ _ hne (fun k hk => (p.ok k hk).h1)]
theorem rlimit_det (l : List Knd) (w h kerf : Int) (p : Pb l w h kerf) : Det Try.prog 51 [.one (kS l), .one (i64 w), .one (i64 h), .one (i64 kerf)] (tbool (manyB l w h kerf)) := by
  refine det_of_awp TTok mixed Try.func51 rfl rfl [] (Nat.le_of_ble_eq_true rfl) ?_
  have hl := p.len
  refine Split.mk (fun h1 => ?_) (fun h1 => ?_)
  · refine Fin.bool ?_
    have : l = [] := List.eq_nil_of_length_eq_zero (by simpa using h1)
    rw [manyB, if_pos this]
  have hne : l ≠ [] := fun e => by rw [e] at h1; simp at h1
  refine Loop.by (α := Nat) (fun k => [(0, .d (.one (kS l))), (1, tint w), (2, tint h), (3, tint kerf), (9, tint (lowL Knd.w (l.take k) 2000)), (10, tint (lowL Knd.h (l.take k) 2000)), (11, tint k)]) (fun _ => []) (fun k => k ≤ l.length) (fun k => l.length - k)
    (Adj.at 0 (Nat.zero_le _) .nil (.cons .same (.cons .same (.cons .same (.cons .same (.cons .same (.cons .same (.cons .same .nil)))))))) (fun k hk => ?_)
  refine Split.mk (fun h => ?_) (fun h => ?_)
  · have hlt : k < l.length := by have := of_decide_eq_true h; omega
    refine Need.mk (by omega) ?_
    refine Need.mk (by omega) ?_
    refine Need.mk (by kernel_rfl) ?_
    refine Adj.back (x := k) (k + 1) (by omega) (by omega) .nil (.cons .same (.cons .same (.cons .same (.cons .same (.cons (SlotLe.int (lowL_take Knd.w l _ k hlt).symm) (.cons (SlotLe.int (lowL_take Knd.h l _ k hlt).symm) (.cons (SlotLe.int (hS k (by omega))) .nil)))))))
  · have he : k = l.length := by have := of_decide_eq_false h; omega
    subst he
    rw [List.take_length] at *
    have a0 : 1 ≤ lowL Knd.w l 2000 := lowL_ge _ 1 _ _ (fun k hk => (p.ok k hk).w0) (by decide)
    have a1 := lowL_le Knd.w l 2000
    have b0 : 1 ≤ lowL Knd.h l 2000 := lowL_ge _ 1 _ _ (fun k hk => (p.ok k hk).h0) (by decide)
    have b1 := lowL_le Knd.h l 2000
    have e := many_w p.w0 p.w1 p.h0 p.h1 p.k0 p.k1 a0 a1 b0 b1
    have c0 := p.k0
    have c1 := p.k1
    refine Need.mk (by rw [hw _ (by omega) (by omega)]; omega) ?_
    refine Need.mk (by rw [hw _ (by omega) (by omega)]; omega) ?_
    refine Need.mk (by kernel_rfl) ?_
    refine Fin.bool ?_
    rw [e, manyB, if_neg hne]
end St
end Go.Vm
