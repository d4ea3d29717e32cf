/-
  Layer 11: the contract of the program's between and chain.
-/
import Derived.Test.YtlckiecpelchlaaArcE
namespace Go.Vm
set_option maxRecDepth 20000
set_option linter.unusedVariables false
set_option linter.unusedSimpArgs false
open Go Go.RowKit Go.Proofs
namespace Sg

/-! ### how long a chain is -/
theorem countP_sum {α : Type} {f g h k : α → Bool} : ∀ {l : List α}, (∀ x, (f x).toNat + (g x).toNat + (h x).toNat ≤ (k x).toNat) → l.countP f + l.countP g + l.countP h ≤ l.countP k
  | [], _ => Nat.le_refl _
  | a :: l, hx => by
    have ih := countP_sum (l := l) hx
    have ha := hx a
    rw [List.countP_cons, List.countP_cons, List.countP_cons, List.countP_cons]
    revert ha
    cases f a <;> cases g a <;> cases h a <;> cases k a <;> simp <;> omega
theorem mu_sum {r : Int} {p q : V2} (h : Good r p q) (h1 : midV r p q ≠ p) (h2 : midV r p q ≠ q) : mu p (midV r p q) + mu (midV r p q) q + 1 ≤ mu p q := by
  obtain ⟨g1, g2⟩ := mid_good h h1 h2
  have hg := mem_grid (nr_bound g1.r1 (x := (midV r p q).x) (y := (midV r p q).y) g1.nq)
  have hc := h.cr
  have c1 := g1.cr
  have c2 := g2.cr
  generalize midV r p q = m at *
  have key := countP_sum (l := gridL) (f := insB p m) (g := insB m q) (h := fun v => decide (v = m)) (k := insB p q) (fun v => by
    have anti : crossP v m = -crossP m v := by simp only [crossP]; grind
    by_cases hv : v = m
    · subst hv
      have hmm : crossP v v = 0 := by simp only [crossP]; grind
      unfold insB
      rw [hmm, decide_eq_true c1, decide_eq_true c2]
      simp
    · rw [decide_eq_false hv]
      by_cases a1 : insB p m v = true
      · have a1' := a1
        simp only [insB, Bool.and_eq_true, decide_eq_true_eq] at a1
        have a2 : insB m q v = false := by
          unfold insB
          rw [decide_eq_false (show ¬ 0 < crossP m v by omega)]; rfl
        have a3 : insB p q v = true := by
          simp only [insB, Bool.and_eq_true, decide_eq_true_eq]
          refine ⟨a1.1, ?_⟩
          have e : crossP p m * crossP v q = crossP v m * crossP p q + crossP p v * crossP m q := by simp only [crossP]; grind
          have t1 := Int.mul_pos a1.2 hc
          have t2 := Int.mul_pos a1.1 c2
          refine Int.not_le.1 fun w => ?_
          have := Int.mul_nonpos_of_nonneg_of_nonpos (Int.le_of_lt c1) w
          omega
        rw [a1', a2, a3]; decide
      · have a1' : insB p m v = false := by simpa using a1
        rw [a1']
        by_cases a2 : insB m q v = true
        · have a2' := a2
          simp only [insB, Bool.and_eq_true, decide_eq_true_eq] at a2
          have a3 : insB p q v = true := by
            simp only [insB, Bool.and_eq_true, decide_eq_true_eq]
            refine ⟨?_, a2.2⟩
            have e : crossP m q * crossP p v = crossP v q * crossP p m + crossP m v * crossP p q := by simp only [crossP]; grind
            have t1 := Int.mul_pos a2.2 c1
            have t2 := Int.mul_pos a2.1 hc
            refine Int.not_le.1 fun w => ?_
            have := Int.mul_nonpos_of_nonneg_of_nonpos (Int.le_of_lt c2) w
            omega
          rw [a2', a3]; decide
        · have a2' : insB m q v = false := by simpa using a2
          rw [a2']; simp)
  have hpos : 0 < gridL.countP (fun v => decide (v = m)) := List.countP_pos_iff.2 ⟨m, hg, by simp⟩
  unfold mu
  omega
theorem flat_len {α β : Type} (g : α → β) (n : Nat) (f : β → Nat → V2) : ∀ l : List α, ((l.map fun i => (List.range n).map fun j => f (g i) j).flatten).length = l.length * n
  | [] => by simp
  | a :: l => by
    rw [List.map_cons, List.flatten_cons, List.length_append, flat_len g n f l]
    simp
    rw [Nat.add_mul]; omega
theorem mu_le (p q : V2) : mu p q ≤ 16008001 := by
  unfold mu
  refine Nat.le_trans List.countP_le_length ?_
  have := flat_len (fun i : Nat => i) 4001 (fun i j => (⟨(i : Int) - 2000, (j : Int) - 2000⟩ : V2)) (List.range 4001)
  unfold gridL
  rw [this, List.length_range]
  exact Nat.le_refl _
theorem btw_len {r t : Int} (n : Nat) : ∀ (p q : V2), Good r p q → mu p q < n → (btw r t p q).length ≤ mu p q := by
  induction n with
  | zero => intro p q _ h; exact absurd h (Nat.not_lt_zero _)
  | succ n ih =>
    intro p q hg hn
    rw [btw_eq t hg]
    split
    · exact Nat.zero_le _
    split
    · exact Nat.zero_le _
    · rename_i h1 h2
      have h3 : midV r p q ≠ p := fun w => h2 (.inl w)
      have h4 : midV r p q ≠ q := fun w => h2 (.inr w)
      obtain ⟨g1, g2⟩ := mid_good hg h3 h4
      obtain ⟨m1, m2⟩ := mu_lt hg h3 h4
      have := mu_sum hg h3 h4
      have := ih p _ g1 (by omega)
      have := ih _ q g2 (by omega)
      rw [List.length_append, List.length_cons]
      omega
theorem btw_le {r : Int} (t : Int) {p q : V2} (h : Good r p q) : (btw r t p q).length ≤ 16008001 := Nat.le_trans (btw_len _ p q h (Nat.lt_succ_self _)) (mu_le p q)
/-! ### the program's between -/
theorem vG_snoc (D : List V2) (n : Nat) (v : V2) (i j : Nat) (hn : D.length = n) (hi : i < n + 1) (hj : j < 2) : SLe (bif Nat.blt i n then vG D i j else (vL v).getD ((i - n) * 2 + j) (.v Go.undef)) (vG (D ++ [v]) i j) := by
  subst hn
  refine SLe.bif (fun h => SLe.of_eq ?_) (fun h => ?_)
  · have e : (D ++ [v]).getD i ⟨0, 0⟩ = D.getD i ⟨0, 0⟩ := by simp [List.getD, List.getElem?_append_left h]
    match j, hj with
    | 0, _ => show i64 (D.getD i ⟨0, 0⟩).x = i64 ((D ++ [v]).getD i ⟨0, 0⟩).x; rw [e]
    | 1, _ => show i64 (D.getD i ⟨0, 0⟩).y = i64 ((D ++ [v]).getD i ⟨0, 0⟩).y; rw [e]
  · have e : i = D.length := by omega
    subst e
    have e2 : (D ++ [v]).getD D.length ⟨0, 0⟩ = v := by simp [List.getD]
    rw [Nat.sub_self, Nat.zero_mul, Nat.zero_add]
    match j, hj with
    | 0, _ => exact SLe.of_eq (show i64 v.x = i64 ((D ++ [v]).getD D.length ⟨0, 0⟩).x by rw [e2])
    | 1, _ => exact SLe.of_eq (show i64 v.y = i64 ((D ++ [v]).getD D.length ⟨0, 0⟩).y by rw [e2])
theorem needApp' {n B : Nat} (h : n ≤ 200000000) (hB : B ≤ 1000) : n * B ≤ 140737488355328 ∧ n ≤ maxLen := by
  have := Nat.mul_le_mul h hB
  simp only [maxLen]
  omega
theorem mfitN' {m : Id → Mem} {os : List Id} {d : Id} {g n n' k : Nat} {e : TypeId} {get get' : Nat → Nat → SV} (hn : n = n') (h : ∀ i, i < n → ∀ j, j < k → SLe (get i j) (get' i j)) : MFit m os d (.bld g n k e get) (.bld 1 n' k e get') := by
  subst hn; exact .bld h
abbrev capA (x : Int) : Nat → SV := fun j => [SV.ad 1 fun j => [i64 x].getD j (.v Go.undef)].getD j (.v Go.undef)
abbrev arcM (r t : Int) (g : Nat) (L : List V2) : List Mem := [.box [.fn 74 1 (capA (isq (65536 * r) + 1 - 256 * t))], .box [.fn 76 1 (capA r)],
  .obj [.clo 79 [.ptr (.n 2000) 0, .ptr (.n 2001) 0, .ptr (.n 2002) 0, .ptr (.n 2003) 0]], .obj [.hdl (.n 2004) g], .bld g L.length 2 43 (vG L)]
theorem between_detM {r t : Int} (n : Nat) : ∀ (p q : V2) (L : List V2), Good r p q → mu p q < n → L.length + mu p q ≤ 100000000 →
    DetM Try.prog 79 [.d (vD p), .d (vD q), .ptr (.n 2000) 0, .ptr (.n 2001) 0, .ptr (.n 2002) 0, .ptr (.n 2003) 0] (arcM r t 1 L) (.tup []) (arcM r t 3 (L ++ btw r t p q)) .none := by
  induction n with
  | zero => intro p q L _ h; exact absurd h (Nat.not_lt_zero _)
  | succ n ih =>
    intro p q L hg hn hL
    have hE := btw_eq t hg
    refine detM_of_awp TTok mixed Try.func79 rfl rfl [79 + 2000000] (Nat.le_of_ble_eq_true rfl) (Nat.le_of_ble_eq_true rfl) (sigM_of rfl) ?_
    refine CallW.bool (flat_det r t p q hg (fun j => [i64 (isq (65536 * r) + 1 - 256 * t)].getD j (.v Go.undef)) rfl) (fun b hb => ?_)
    refine Split.mk (fun h => ?_) (fun h => ?_)
    · rw [if_pos (by rw [← hb, h])] at hE
      refine EndM.mk ⟨.n 0, .none, .cons (.box (LLe.refl _)) (.cons (.box (LLe.refl _)) (.cons (.obj (.cons (.clo (.cons (.ptr rfl) (.cons (.ptr rfl) (.cons (.ptr rfl) (.cons (.ptr rfl) .nil))))) .nil)) (.cons (.obj (.cons (.hdl rfl rfl rfl) .nil)) (.cons (.bldN (by rw [hE, List.append_nil]) (fun h => absurd h (by decide)) (fun i hi j hj => SLe.of_eq (by rw [hE, List.append_nil]))) (.nil _))))), .inl rfl⟩
    have hb' : ¬ flatB r t p q = true := by rw [← hb, h]; simp
    rw [if_neg hb'] at hE
    refine CallW.v (middle_det r p q hg (fun j => [i64 r].getD j (.v Go.undef)) rfl) (fun m hm => ?_)
    rw [← hm] at hE
    refine EqW.v m p (fun c1 hc1 => ?_)
    refine Split.mk (fun h1 => ?_) (fun h1 => ?_)
    · repeat' first | refine Split.isT h1 ?_ | refine Split.t ?_ | refine Split.f ?_ | fail
      rw [if_pos (.inl (hc1.1 h1))] at hE
      refine EndM.mk ⟨.n 0, .none, .cons (.box (LLe.refl _)) (.cons (.box (LLe.refl _)) (.cons (.obj (.cons (.clo (.cons (.ptr rfl) (.cons (.ptr rfl) (.cons (.ptr rfl) (.cons (.ptr rfl) .nil))))) .nil)) (.cons (.obj (.cons (.hdl rfl rfl rfl) .nil)) (.cons (.bldN (by rw [hE, List.append_nil]) (fun h => absurd h (by decide)) (fun i hi j hj => SLe.of_eq (by rw [hE, List.append_nil]))) (.nil _))))), .inl rfl⟩
    have n1 : m ≠ p := fun w => by rw [hc1.2 w] at h1; cases h1
    repeat' first | refine Split.isF h1 ?_ | refine Split.t ?_ | refine Split.f ?_ | fail
    refine EqW.v m q (fun c2 hc2 => ?_)
    repeat' first | refine Split.isF h1 ?_ | refine Split.t ?_ | refine Split.f ?_ | fail
    refine Split.mk (fun h2 => ?_) (fun h2 => ?_)
    · rw [if_pos (.inr (hc2.1 h2))] at hE
      refine EndM.mk ⟨.n 0, .none, .cons (.box (LLe.refl _)) (.cons (.box (LLe.refl _)) (.cons (.obj (.cons (.clo (.cons (.ptr rfl) (.cons (.ptr rfl) (.cons (.ptr rfl) (.cons (.ptr rfl) .nil))))) .nil)) (.cons (.obj (.cons (.hdl rfl rfl rfl) .nil)) (.cons (.bldN (by rw [hE, List.append_nil]) (fun h => absurd h (by decide)) (fun i hi j hj => SLe.of_eq (by rw [hE, List.append_nil]))) (.nil _))))), .inl rfl⟩
    have n2 : m ≠ q := fun w => by rw [hc2.2 w] at h2; cases h2
    rw [if_neg (fun w => w.elim n1 n2)] at hE
    obtain ⟨g1, g2⟩ := mid_good hg (by rw [← hm]; exact n1) (by rw [← hm]; exact n2)
    obtain ⟨m1, m2⟩ := mu_lt hg (by rw [← hm]; exact n1) (by rw [← hm]; exact n2)
    have ms := mu_sum hg (by rw [← hm]; exact n1) (by rw [← hm]; exact n2)
    rw [← hm] at g1 g2 m1 m2 ms
    have l1 := btw_len (t := t) _ p m g1 (Nat.lt_succ_self _)
    have l2 := btw_len (t := t) _ m q g2 (Nat.lt_succ_self _)
    refine CallM.mk' [2000, 2001, 2002, 2003, 2004] (ih p m L g1 (by omega) (by omega)) ⟨.cons (.box (LLe.refl _)) (.cons (.box (LLe.refl _)) (.cons (.obj (.cons (.clo (.cons (.ptr rfl) (.cons (.ptr rfl) (.cons (.ptr rfl) (.cons (.ptr rfl) .nil))))) .nil)) (.cons (.obj (.cons (.hdl rfl rfl) .nil)) (.cons (.bld (fun _ _ _ _ => SLe.refl _)) .nil)))), .cons (.d (DLe.refl _)) (.cons (.d (DLe.refl _)) (.cons (.ptr rfl) (.cons (.ptr rfl) (.cons (.ptr rfl) (.cons (.ptr rfl) .nil))))), rfl, rfl, fun h => absurd rfl h⟩ ?_
    refine Need.mk (needApp' (by simp only [List.length_append]; omega) (by decide)) ?_
    refine CallM.mk' [2000, 2001, 2002, 2003, 2004] (ih m q (L ++ btw r t p m ++ [m]) g2 (by omega) (by simp only [List.length_append, List.length_singleton]; omega)) ⟨.cons (.box (LLe.refl _)) (.cons (.box (LLe.refl _)) (.cons (.obj (.cons (.clo (.cons (.ptr rfl) (.cons (.ptr rfl) (.cons (.ptr rfl) (.cons (.ptr rfl) .nil))))) .nil)) (.cons (.obj (.cons (.hdl rfl rfl) .nil)) (.cons (mfitN' (by simp only [List.length_append, List.length_singleton]) (fun i hi j hj => vG_snoc (L ++ btw r t p m) _ m i j rfl hi hj)) .nil)))), .cons (.d (DLe.refl _)) (.cons (.d (DLe.refl _)) (.cons (.ptr rfl) (.cons (.ptr rfl) (.cons (.ptr rfl) (.cons (.ptr rfl) .nil))))), rfl, rfl, fun h => absurd rfl h⟩ ?_
    have eL : L ++ btw r t p m ++ [m] ++ btw r t m q = L ++ btw r t p q := by rw [hE]; simp
    refine EndM.mk ⟨.n 0, .none, .cons (.box (LLe.refl _)) (.cons (.box (LLe.refl _)) (.cons (.obj (.cons (.clo (.cons (.ptr rfl) (.cons (.ptr rfl) (.cons (.ptr rfl) (.cons (.ptr rfl) .nil))))) .nil)) (.cons (.obj (.cons (.hdl rfl rfl rfl) .nil)) (.cons (.bldN (by rw [eL]) (fun h => absurd h (by decide)) (fun i hi j hj => SLe.of_eq (by rw [eL]))) (.nil _))))), .inl rfl⟩
end Sg
end Go.Vm
