/-
  Layer 38: contract of the reference's Normal; the law Normal (printed by gen_guil.py).
-/
import Derived.Test.YtfoblfchkgapoaaGuiK
namespace Go.Vm
set_option maxRecDepth 20000
set_option linter.unusedVariables false
set_option linter.unusedSimpArgs false
open Go Go.RowKit Go.Proofs
namespace St

def rnF (kerf : Int) (out : List Int) (n s : Int) : Bool := (n == s) || out.tail.any fun m => m == n - s - kerf
def rnL (sizes : List Int) (kerf : Int) : Nat → List Int
  | 0 => [0]
  | n + 1 => if sizes.any (rnF kerf (rnL sizes kerf n) ((n + 1 : Nat) : Int)) = true then rnL sizes kerf n ++ [((n + 1 : Nat) : Int)] else rnL sizes kerf n
theorem rnL_len (sizes : List Int) (kerf : Int) : ∀ n, 1 ≤ (rnL sizes kerf n).length ∧ (rnL sizes kerf n).length ≤ n + 1
  | 0 => ⟨Nat.le_refl _, Nat.le_refl _⟩
  | n + 1 => by
    have := rnL_len sizes kerf n
    rw [rnL]
    split
    · rw [List.length_append, List.length_singleton]; omega
    · omega
def rnR (sizes : List Int) (side kerf : Int) : List Int × Int := if nrmBad sizes side kerf = true then ([], 1) else (rnL sizes kerf side.toNat, 0)
theorem rnormal_det (sizes : List Int) (side kerf : Int) (hl : sizes.length ≤ maxLen) : Det Try.prog 32 [.one (iS sizes), .one (i64 side), .one (i64 kerf)] (nrmE (rnR sizes side kerf)) := by
  refine det_of_awp TTok mixed Try.func32 rfl rfl [52 + 6000000] (Nat.le_of_ble_eq_true rfl) ?_
  have bad : nrmBad sizes side kerf = true → Fin (.tup [.one (.v (.slice none 0 0)), .one (i64 1)]) (nrmE (rnR sizes side kerf)) := fun e => by
    rw [rnR, if_pos e]
    exact Fin.tup (.cons (DLe.one (SLe.nil _ _)) (.cons (DLe.refl _) .nil))
  have bs : wrongS side = true → nrmBad sizes side kerf = true := fun e => by rw [nrmBad, e, Bool.true_or, Bool.or_true, Bool.or_true]
  refine Split.mk (fun c1 => ?_) (fun c1 => ?_)
  · repeat' first | refine Split.isT c1 ?_ | refine Split.t ?_ | refine Split.f ?_ | fail
    exact bad (by rw [nrmBad, decide_eq_true (by have := of_decide_eq_true c1; omega)]; rfl)
  have hl20 : ¬ sizes.length > 20 := by have := of_decide_eq_false c1; omega
  repeat' first | refine Split.isF c1 ?_ | refine Split.t ?_ | refine Split.f ?_ | fail
  refine Split.mk (fun c2 => ?_) (fun c2 => ?_)
  · repeat' first | refine Split.isT c2 ?_ | refine Split.t ?_ | refine Split.f ?_ | fail
    exact bad (bs (by rw [wrongS, c2]; rfl))
  repeat' first | refine Split.isF c2 ?_ | refine Split.t ?_ | refine Split.f ?_ | fail
  refine Split.mk (fun c3 => ?_) (fun c3 => ?_)
  · repeat' first | refine Split.isT c3 ?_ | refine Split.t ?_ | refine Split.f ?_ | fail
    exact bad (bs (by rw [wrongS, c3, Bool.or_true]))
  repeat' first | refine Split.isF c3 ?_ | refine Split.t ?_ | refine Split.f ?_ | fail
  refine Split.mk (fun c4 => ?_) (fun c4 => ?_)
  · repeat' first | refine Split.isT c4 ?_ | refine Split.t ?_ | refine Split.f ?_ | fail
    exact bad (by rw [nrmBad, c4, Bool.true_or, Bool.or_true, Bool.or_true, Bool.or_true])
  repeat' first | refine Split.isF c4 ?_ | refine Split.t ?_ | refine Split.f ?_ | fail
  refine Split.mk (fun c5 => ?_) (fun c5 => ?_)
  · exact bad (by rw [nrmBad, c5, Bool.or_true, Bool.or_true, Bool.or_true, Bool.or_true])
  have hsd0 : ¬ side < 1 := of_decide_eq_false c2
  have hsd1 : ¬ side > 2000 := of_decide_eq_false c3
  have k0 : ¬ kerf < 0 := of_decide_eq_false c4
  have k1 : ¬ kerf > 50 := of_decide_eq_false c5
  have hbad : nrmBad sizes side kerf = sizes.any wrongS := by
    rw [nrmBad, wrongS, c2, c3, c4, c5, decide_eq_false hl20, Bool.false_or, Bool.or_false, Bool.or_false, Bool.or_false]
  clear c1 c2 c3 c4 c5 bs
  refine Loop.by (α := Nat) (fun k => [(0, .d (.one (iS sizes))), (1, tint side), (2, tint kerf), (8, tint k)]) (fun _ => []) (fun k => k ≤ sizes.length ∧ ∀ i, i < k → wrongS (iget sizes i) = false) (fun k => sizes.length - k)
    (Adj.at 0 ⟨Nat.zero_le _, fun _ h => absurd h (Nat.not_lt_zero _)⟩ .nil (.cons .same (.cons .same (.cons .same (.cons .same .nil))))) (fun k hk => ?_)
  obtain ⟨hk, hx⟩ := hk
  refine Split.mk (fun h => ?_) (fun h => ?_)
  · have hlt : k < sizes.length := by have := of_decide_eq_true h; omega
    have hm : iget sizes k ∈ sizes := by unfold iget; rw [List.getD, List.getElem?_eq_getElem hlt]; exact List.getElem_mem hlt
    refine Need.mk (by omega) ?_
    show Split (decide (iget sizes k < 1)) _
    refine Split.mk (fun c1 => ?_) (fun c1 => ?_)
    · repeat' first | refine Split.isT c1 ?_ | refine Split.t ?_ | refine Split.f ?_ | fail
      exact bad (by rw [hbad, List.any_eq_true]; exact ⟨_, hm, by rw [wrongS, c1]; rfl⟩)
    repeat' first | refine Split.isF c1 ?_ | refine Split.t ?_ | refine Split.f ?_ | fail
    refine Need.mk (by omega) ?_
    repeat' first | refine Split.isF c1 ?_ | refine Split.t ?_ | refine Split.f ?_ | fail
    show Split (decide (iget sizes k > 2000)) _
    refine Split.mk (fun c2 => ?_) (fun c2 => ?_)
    · exact bad (by rw [hbad, List.any_eq_true]; exact ⟨_, hm, by rw [wrongS, c2, Bool.or_true]⟩)
    refine Adj.back (x := k) (k + 1) ⟨by omega, fun i hi => ?_⟩ (by omega) .nil (.cons .same (.cons .same (.cons .same (.cons (SlotLe.int (hS k (by omega))) .nil))))
    rcases Nat.lt_succ_iff_lt_or_eq.1 hi with hi | rfl
    · exact hx i hi
    · rw [wrongS, c1, c2]; rfl
  have he : k = sizes.length := by have := of_decide_eq_false h; omega
  subst he
  have hok : nrmBad sizes side kerf = false := by
    rw [hbad, ← Bool.not_eq_true, List.any_eq_true]
    rintro ⟨x, h1, h2⟩
    obtain ⟨i, hi, e⟩ := List.getElem_of_mem h1
    have := hx i hi
    rw [show iget sizes i = x by simp [iget, List.getD, hi, e], h2] at this
    cases this
  have hsz : ∀ i, i < sizes.length → 1 ≤ iget sizes i ∧ iget sizes i ≤ 2000 := fun i hi => by
    have := hx i hi
    simp only [wrongS, Bool.or_eq_false_iff, decide_eq_false_iff_not] at this
    omega
  rw [rnR, if_neg (by rw [hok]; simp)]
  obtain ⟨S, rfl⟩ : ∃ S : Nat, side = S := ⟨side.toNat, by omega⟩
  rw [Int.toNat_natCast]
  clear hbad hok bad h hk hx
  generalize hside : (S : Int) = side
  have hside' : side ≤ 2000 := by omega
  refine Loop.by (α := Nat) (fun n => [(0, .d (.one (iS sizes))), (1, tint side), (2, tint kerf), (9, .hdl 52 0), (10, tint ((n + 1 : Nat) : Int))])
    (fun n => [(52, .bld 0 (rnL sizes kerf n).length 1 3 (lG iL 0 (rnL sizes kerf n)))]) (fun n => n ≤ S) (fun n => S - n)
    (Adj.at 0 (Nat.zero_le _) (.cons (.bldN rfl (fun i hi j hj => ?_)) .nil) (.cons .same (.cons .same (.cons .same (.cons (.hdl rfl rfl) (.cons .same .nil)))))) (fun n hn => ?_)
  · have hi : i < 1 := hi
    have hj : j < 1 := hj
    obtain rfl : i = 0 := by omega
    obtain rfl : j = 0 := by omega
    exact SLe.refl _
  obtain ⟨hol0, hol⟩ := rnL_len sizes kerf n
  refine Split.mk (fun d1 => ?_) (fun d1 => ?_)
  · have hnS : n + 1 ≤ S := by have : ((n + 1 : Nat) : Int) ≤ side := of_decide_eq_true d1; omega
    refine Loop.by (α := Nat × Bool) (fun x => [(0, .d (.one (iS sizes))), (1, tint side), (2, tint kerf), (9, .hdl 52 0), (10, tint ((n + 1 : Nat) : Int)), (12, tint x.1), (11, tbool x.2)])
      (fun _ => [(52, .bld 0 (rnL sizes kerf n).length 1 3 (lG iL 0 (rnL sizes kerf n)))]) (fun x => x.1 ≤ sizes.length ∧ x.2 = (sizes.take x.1).any (rnF kerf (rnL sizes kerf n) ((n + 1 : Nat) : Int))) (fun x => sizes.length - x.1)
      (Adj.at (0, false) ⟨Nat.zero_le _, rfl⟩ (.cons (.bld (fun _ _ _ _ => SLe.refl _)) .nil) (.cons .same (.cons .same (.cons .same (.cons (.hdl rfl rfl) (.cons .same (.cons .same (.cons .same .nil)))))))) (fun x hx => ?_)
    obtain ⟨i, q⟩ := x
    obtain ⟨hi, hq⟩ := hx
    replace hi : i ≤ sizes.length := hi
    replace hq : q = (sizes.take i).any (rnF kerf (rnL sizes kerf n) ((n + 1 : Nat) : Int)) := hq
    refine Split.mk (fun d2 => ?_) (fun d2 => ?_)
    · have hil : i < sizes.length := by have : (i : Int) < (sizes.length : Int) := of_decide_eq_true d2; omega
      obtain ⟨s0, s1⟩ := hsz i hil
      have hnx := any_take_succ (rnF kerf (rnL sizes kerf n) ((n + 1 : Nat) : Int)) sizes 0 i hil
      have er : IntKind.i64.wrap (IntKind.i64.wrap (((n + 1 : Nat) : Int) - iget sizes i) - kerf) = ((n + 1 : Nat) : Int) - iget sizes i - kerf := by rw [hw (((n + 1 : Nat) : Int) - iget sizes i) (by omega) (by omega), hw _ (by omega) (by omega)]
      refine Need.mk (by omega) ?_
      show Split q _
      refine Split.mk (fun f1 => ?_) (fun f1 => ?_)
      · repeat' first | refine Split.isT f1 ?_ | refine Split.t ?_ | refine Split.f ?_ | fail
        refine Loop.by (α := Nat × Bool) (fun x => [(0, .d (.one (iS sizes))), (1, tint side), (2, tint kerf), (9, .hdl 52 0), (10, tint ((n + 1 : Nat) : Int)), (12, tint i), (13, tint (((n + 1 : Nat) : Int) - iget sizes i - kerf)), (14, tint ((x.1 + 1 : Nat) : Int)), (11, tbool x.2)])
          (fun _ => [(52, .bld 0 (rnL sizes kerf n).length 1 3 (lG iL 0 (rnL sizes kerf n)))]) (fun x => x.1 + 1 ≤ (rnL sizes kerf n).length ∧ x.2 = ((sizes.take i).any (rnF kerf (rnL sizes kerf n) ((n + 1 : Nat) : Int)) || ((((n + 1 : Nat) : Int) == iget sizes i) || ((rnL sizes kerf n).tail.take x.1).any fun m => m == ((n + 1 : Nat) : Int) - iget sizes i - kerf))) (fun x => (rnL sizes kerf n).length - x.1)
          (Adj.at (0, true) ⟨by show 0 + 1 ≤ _; omega, by show true = _; rw [← hq, f1]; rfl⟩ (.cons (.bld (fun _ _ _ _ => SLe.refl _)) .nil)
            (.cons .same (.cons .same (.cons .same (.cons (.hdl rfl rfl) (.cons .same (.cons .same (.cons (SlotLe.int er) (.cons .same (.cons .same .nil)))))))))) (fun x hx => ?_)
        obtain ⟨j, b⟩ := x
        obtain ⟨hj, hbx⟩ := hx
        replace hj : j + 1 ≤ (rnL sizes kerf n).length := hj
        replace hbx : b = ((sizes.take i).any (rnF kerf (rnL sizes kerf n) ((n + 1 : Nat) : Int)) || ((((n + 1 : Nat) : Int) == iget sizes i) || ((rnL sizes kerf n).tail.take j).any fun m => m == ((n + 1 : Nat) : Int) - iget sizes i - kerf)) := hbx
        refine Split.mk (fun d3 => ?_) (fun d3 => ?_)
        · have hjl : j + 1 < (rnL sizes kerf n).length := by have : ((j + 1 : Nat) : Int) < ((rnL sizes kerf n).length : Int) := of_decide_eq_true d3; omega
          have htk := any_take_succ (fun m : Int => m == ((n + 1 : Nat) : Int) - iget sizes i - kerf) (rnL sizes kerf n).tail 0 j (by rw [List.length_tail]; omega)
          have hti : (rnL sizes kerf n).tail.getD j 0 = iget (rnL sizes kerf n) (j + 1) := by simp [List.getD, iget]
          rw [hti] at htk
          show Split b _
          refine Split.mk (fun g1 => ?_) (fun g1 => ?_)
          · repeat' first | refine Split.isT g1 ?_ | refine Split.t ?_ | refine Split.f ?_ | fail
            subst g1
            refine Adj.back (x := (j, true)) (j + 1, true) ⟨by show j + 1 + 1 ≤ _; omega, ?_⟩ (by show _ - (j + 1) < _ - j; omega) (.cons (.bld (fun _ _ _ _ => SLe.refl _)) .nil)
              (.cons .same (.cons .same (.cons .same (.cons (.hdl rfl rfl) (.cons .same (.cons .same (.cons .same (.cons (SlotLe.int (hS (j + 1) (by omega))) (.cons .same .nil)))))))))
            show true = _
            rw [htk, ← Bool.or_assoc, ← Bool.or_assoc, Bool.or_assoc _ (((n + 1 : Nat) : Int) == iget sizes i), ← hbx]; rfl
          · repeat' first | refine Split.isF g1 ?_ | refine Split.t ?_ | refine Split.f ?_ | fail
            subst g1
            refine Need.mk (by omega) ?_
            repeat' first | refine Split.t ?_ | refine Split.f ?_ | fail
            refine Adj.back (x := (j, false)) (j + 1, iget (rnL sizes kerf n) (j + 1) == ((n + 1 : Nat) : Int) - iget sizes i - kerf) ⟨by show j + 1 + 1 ≤ _; omega, ?_⟩ (by show _ - (j + 1) < _ - j; omega) (.cons (.bld (fun _ _ _ _ => SLe.refl _)) .nil)
              (.cons .same (.cons .same (.cons .same (.cons (.hdl rfl rfl) (.cons .same (.cons .same (.cons .same (.cons (SlotLe.int (hS (j + 1) (by omega))) (.cons .same .nil)))))))))
            show (iget (rnL sizes kerf n) (j + 1) == ((n + 1 : Nat) : Int) - iget sizes i - kerf) = _
            rw [htk, ← Bool.or_assoc, ← Bool.or_assoc, Bool.or_assoc _ (((n + 1 : Nat) : Int) == iget sizes i), ← hbx]; rfl
        have hjl : j + 1 = (rnL sizes kerf n).length := by have : ¬ ((j + 1 : Nat) : Int) < ((rnL sizes kerf n).length : Int) := of_decide_eq_false d3; omega
        have htl : (rnL sizes kerf n).tail.take j = (rnL sizes kerf n).tail := List.take_of_length_le (by rw [List.length_tail]; omega)
        rw [htl] at hbx
        exact Adj.back (x := (i, q)) (i + 1, b) ⟨by show i + 1 ≤ _; omega, hbx.trans hnx.symm⟩ (by show _ - (i + 1) < _ - i; omega) (.cons (.bld (fun _ _ _ _ => SLe.refl _)) .nil)
          (.cons .same (.cons .same (.cons .same (.cons (.hdl rfl rfl) (.cons .same (.cons (SlotLe.int (hS i (by omega))) (.cons .same .nil)))))))
      · repeat' first | refine Split.isF f1 ?_ | refine Split.t ?_ | refine Split.f ?_ | fail
        refine Need.mk (by omega) ?_
        repeat' first | refine Split.isF f1 ?_ | refine Split.t ?_ | refine Split.f ?_ | fail
        refine Loop.by (α := Nat × Bool) (fun x => [(0, .d (.one (iS sizes))), (1, tint side), (2, tint kerf), (9, .hdl 52 0), (10, tint ((n + 1 : Nat) : Int)), (12, tint i), (13, tint (((n + 1 : Nat) : Int) - iget sizes i - kerf)), (14, tint ((x.1 + 1 : Nat) : Int)), (11, tbool x.2)])
          (fun _ => [(52, .bld 0 (rnL sizes kerf n).length 1 3 (lG iL 0 (rnL sizes kerf n)))]) (fun x => x.1 + 1 ≤ (rnL sizes kerf n).length ∧ x.2 = ((sizes.take i).any (rnF kerf (rnL sizes kerf n) ((n + 1 : Nat) : Int)) || ((((n + 1 : Nat) : Int) == iget sizes i) || ((rnL sizes kerf n).tail.take x.1).any fun m => m == ((n + 1 : Nat) : Int) - iget sizes i - kerf))) (fun x => (rnL sizes kerf n).length - x.1)
          (Adj.at (0, (((n + 1 : Nat) : Int) == iget sizes i)) ⟨by show 0 + 1 ≤ _; omega, by show (((n + 1 : Nat) : Int) == iget sizes i) = _; rw [← hq, f1, List.take_zero, List.any_nil, Bool.or_false, Bool.false_or]⟩ (.cons (.bld (fun _ _ _ _ => SLe.refl _)) .nil)
            (.cons .same (.cons .same (.cons .same (.cons (.hdl rfl rfl) (.cons .same (.cons .same (.cons (SlotLe.int er) (.cons .same (.cons .same .nil)))))))))) (fun x hx => ?_)
        obtain ⟨j, b⟩ := x
        obtain ⟨hj, hbx⟩ := hx
        replace hj : j + 1 ≤ (rnL sizes kerf n).length := hj
        replace hbx : b = ((sizes.take i).any (rnF kerf (rnL sizes kerf n) ((n + 1 : Nat) : Int)) || ((((n + 1 : Nat) : Int) == iget sizes i) || ((rnL sizes kerf n).tail.take j).any fun m => m == ((n + 1 : Nat) : Int) - iget sizes i - kerf)) := hbx
        refine Split.mk (fun d3 => ?_) (fun d3 => ?_)
        · have hjl : j + 1 < (rnL sizes kerf n).length := by have : ((j + 1 : Nat) : Int) < ((rnL sizes kerf n).length : Int) := of_decide_eq_true d3; omega
          have htk := any_take_succ (fun m : Int => m == ((n + 1 : Nat) : Int) - iget sizes i - kerf) (rnL sizes kerf n).tail 0 j (by rw [List.length_tail]; omega)
          have hti : (rnL sizes kerf n).tail.getD j 0 = iget (rnL sizes kerf n) (j + 1) := by simp [List.getD, iget]
          rw [hti] at htk
          show Split b _
          refine Split.mk (fun g1 => ?_) (fun g1 => ?_)
          · repeat' first | refine Split.isT g1 ?_ | refine Split.t ?_ | refine Split.f ?_ | fail
            subst g1
            refine Adj.back (x := (j, true)) (j + 1, true) ⟨by show j + 1 + 1 ≤ _; omega, ?_⟩ (by show _ - (j + 1) < _ - j; omega) (.cons (.bld (fun _ _ _ _ => SLe.refl _)) .nil)
              (.cons .same (.cons .same (.cons .same (.cons (.hdl rfl rfl) (.cons .same (.cons .same (.cons .same (.cons (SlotLe.int (hS (j + 1) (by omega))) (.cons .same .nil)))))))))
            show true = _
            rw [htk, ← Bool.or_assoc, ← Bool.or_assoc, Bool.or_assoc _ (((n + 1 : Nat) : Int) == iget sizes i), ← hbx]; rfl
          · repeat' first | refine Split.isF g1 ?_ | refine Split.t ?_ | refine Split.f ?_ | fail
            subst g1
            refine Need.mk (by omega) ?_
            repeat' first | refine Split.t ?_ | refine Split.f ?_ | fail
            refine Adj.back (x := (j, false)) (j + 1, iget (rnL sizes kerf n) (j + 1) == ((n + 1 : Nat) : Int) - iget sizes i - kerf) ⟨by show j + 1 + 1 ≤ _; omega, ?_⟩ (by show _ - (j + 1) < _ - j; omega) (.cons (.bld (fun _ _ _ _ => SLe.refl _)) .nil)
              (.cons .same (.cons .same (.cons .same (.cons (.hdl rfl rfl) (.cons .same (.cons .same (.cons .same (.cons (SlotLe.int (hS (j + 1) (by omega))) (.cons .same .nil)))))))))
            show (iget (rnL sizes kerf n) (j + 1) == ((n + 1 : Nat) : Int) - iget sizes i - kerf) = _
            rw [htk, ← Bool.or_assoc, ← Bool.or_assoc, Bool.or_assoc _ (((n + 1 : Nat) : Int) == iget sizes i), ← hbx]; rfl
        have hjl : j + 1 = (rnL sizes kerf n).length := by have : ¬ ((j + 1 : Nat) : Int) < ((rnL sizes kerf n).length : Int) := of_decide_eq_false d3; omega
        have htl : (rnL sizes kerf n).tail.take j = (rnL sizes kerf n).tail := List.take_of_length_le (by rw [List.length_tail]; omega)
        rw [htl] at hbx
        exact Adj.back (x := (i, q)) (i + 1, b) ⟨by show i + 1 ≤ _; omega, hbx.trans hnx.symm⟩ (by show _ - (i + 1) < _ - i; omega) (.cons (.bld (fun _ _ _ _ => SLe.refl _)) .nil)
          (.cons .same (.cons .same (.cons .same (.cons (.hdl rfl rfl) (.cons .same (.cons (SlotLe.int (hS i (by omega))) (.cons .same .nil)))))))
    have he : i = sizes.length := by have : ¬ (i : Int) < (sizes.length : Int) := of_decide_eq_false d2; omega
    subst he
    rw [List.take_length] at hq
    have ho : rnL sizes kerf (n + 1) = if sizes.any (rnF kerf (rnL sizes kerf n) ((n + 1 : Nat) : Int)) = true then rnL sizes kerf n ++ [((n + 1 : Nat) : Int)] else rnL sizes kerf n := rfl
    rw [← hq] at ho
    show Split q _
    refine Split.mk (fun f1 => ?_) (fun f1 => ?_)
    · rw [if_pos f1] at ho
      refine Need.mk (needApp (n := (rnL sizes kerf n).length + 1) (by omega) (by decide)) ?_
      refine Adj.back (x := n) (n + 1) (by omega) (by omega) (.cons (.bldN (by rw [ho, List.length_append]; rfl) (fun i hi j hj => ?_)) .nil) (.cons .same (.cons .same (.cons .same (.cons (.hdl rfl rfl) (.cons (SlotLe.int (hS (n + 1) (by omega))) .nil)))))
      rw [ho]
      exact lG_snoc iL 0 _ ((n + 1 : Nat) : Int) 1 _ i j _ rfl rfl hi hj
    · rw [if_neg (by rw [f1]; simp)] at ho
      exact Adj.back (x := n) (n + 1) (by omega) (by omega) (.cons (.bldN (by rw [ho]) (fun i hi j hj => SLe.of_eq (by rw [ho]))) .nil) (.cons .same (.cons .same (.cons .same (.cons (.hdl rfl rfl) (.cons (SlotLe.int (hS (n + 1) (by omega))) .nil)))))
  have he : n = S := by have : ¬ ((n + 1 : Nat) : Int) ≤ side := of_decide_eq_false d1; omega
  subst he
  exact Fin.tup (.cons (DLe.refl _) (.cons (DLe.refl _) .nil))
end St
end Go.Vm
