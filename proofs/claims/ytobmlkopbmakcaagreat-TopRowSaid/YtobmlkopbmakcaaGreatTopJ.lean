/-
  An evaluator for closed runs: awake of the laws about the program through its layers is true.
  TopRow: the walk, and the law.
-/
import Derived.Test.YtobmlkopbmakcaaGreatCvU
import Derived.Test.YtobmlkopbmakcaaGreatCvV
import Derived.Test.YtobmlkopbmakcaaGreatCvW
import Derived.Test.YtobmlkopbmakcaaGreatCvX
import Derived.Test.YtobmlkopbmakcaaGreatCvC
namespace Go.Cv
open Go Go.RowKit Go.Vm Go.Proofs

noncomputable def foreign2 (f : FuncId) : Option FnF :=
  bif Nat.beq f 19 then some (k19.fn noF) else
  bif Nat.beq f 23 then some (k23.fn noF) else
  bif Nat.beq f 16 then some (k16.fn noF) else
  bif Nat.beq f 24 then some (k24a.fn (k24b.fn noF)) else foreign f
theorem foreign2_ok (f : FuncId) (g : FnF) : foreign2 f = some g → ForOk Tryz.prog f g :=
  foreign_one (k19.fn_ok ev0_ok k19_ok (noF_ok _ _)) (foreign_one (k23.fn_ok ev0_ok k23_ok (noF_ok _ _)) (foreign_one (k16.fn_ok ev0_ok k16_ok (noF_ok _ _)) (foreign_one (k24a.fn_ok ev0_ok k24a_ok (k24b.fn_ok ev0_ok k24b_ok (noF_ok _ _))) (foreign_ok f g))))
noncomputable def ev1 : CallF := fnE cfg bodies foreign2 60
theorem ev1_ok : EvOk Tryz.prog ev1 := fnE_ok (C := cfg) mixed bodies_ok foreign2_ok 60
noncomputable def k6 : Memo := { f := 6, args := [], m := [], nx := 0, r := wb true, m' := [], nx' := 0 }
theorem k6_ok : k6.chk ev1 = true := by kernel_rfl
theorem det_of_exact {P : Program} {f : FuncId} {x : Value} (h : Exact P f [] (mg []) (wv x) (mg [])) : Det P f [] (.d (.one (.v x))) := by
  refine ⟨h.1, fun w S vs hS hvs => ?_⟩
  cases hvs
  let E : Env := ⟨P, 0, w, fun _ => False, fun _ => False, fun _ h => h.elim, fun _ h => h.elim, fun _ => none⟩
  refine (h.2 E (fun _ => none) w [] rfl rfl rfl ⟨Bx.refl _ _ _, fun o b off c h1 _ => (by cases h1), fun o b off c h1 _ => (by cases h1), fun o o' b off c off' c' h1 _ _ _ => (by cases h1), fun _ _ h => h, fun _ => rfl⟩ .nil).mono fun e w' ⟨v, ρ', he, hv, hM⟩ => ?_
  obtain ⟨rfl, h2⟩ := hv
  exact ⟨_, he, hM.bx.below (fun _ h => h), .v h2⟩
theorem awake_top : Det Tryz.prog 6 [] (tbool true) := by
  have h := memo_exact ev1_ok k6_ok
  dsimp only [k6] at h
  exact det_of_exact (x := .bool true) h
end Go.Cv
namespace Go.Vm
set_option maxRecDepth 20000
set_option linter.unusedVariables false
set_option linter.unusedSimpArgs false
open Go Go.RowKit Go.Proofs

abbrev u8S (n : Nat) (B : Nat → Int) : SV := .sl n 1 fun i _ => .v (.int .u8 (B i))
def patA (n : Nat) (B : Nat → Int) (i : Nat) : Int := if i < n then B i % 8 else 0
theorem patA_b (n : Nat) (B : Nat → Int) (i : Nat) : 0 ≤ patA n B i ∧ patA n B i ≤ 7 := by
  unfold patA
  split <;> omega
def patTo (n : Nat) (B : Nat → Int) (k i : Nat) : Int := if i < k then patA n B i else 0
abbrev rowG (R : Nat → BP) : Nat → Nat → SV := fun i j => match j with
  | 0 => .v (.string (R i).nm)
  | 1 => .v (.string (R i).gr)
  | 2 => i64 (R i).len
  | 3 => i64 (R i).left
  | _ => i64 (R i).right
def rq (p : MP) (A : Nat → Int) (k q : Nat) : List Int := rl p A k ++ List.replicate q (p.L k)
theorem rq_zero (p : MP) (A : Nat → Int) (k : Nat) : rq p A k 0 = rl p A k := by simp [rq]
theorem rq_succ (p : MP) (A : Nat → Int) (k q : Nat) : rq p A k (q + 1) = rq p A k q ++ [p.L k] := by simp [rq, List.replicate_succ']
theorem rq_len (p : MP) (A : Nat → Int) (k q : Nat) : (rq p A k q).length = (rl p A k).length + q := by simp [rq]
theorem rowG_old {l : List Int} {x : Int} {i : Nat} (h : i < l.length) (j : Nat) : rowG (Rw (l ++ [x])) i j = rowG (Rw l) i j := by
  have e : (l ++ [x]).getD i 0 = l.getD i 0 := by simp [List.getElem?_append_left h]
  simp only [rowG, e]
theorem rowG_new {l : List Int} {x : Int} (j : Nat) : rowG (Rw (l ++ [x])) l.length j = [SV.v (.string strA), .v (.string strG), i64 x, i64 0, i64 0].getD j (i64 0) := by
  have e : (l ++ [x]).getD l.length 0 = x := by simp
  rcases j with _ | _ | _ | _ | _ | j
  · rfl
  · rfl
  · show i64 ((l ++ [x]).getD l.length 0) = i64 x
    rw [e]
  · rfl
  · rfl
  · rfl
theorem patTo_succ (n : Nat) (B : Nat → Int) (k i : Nat) : patTo n B (k + 1) i = if i = k then patA n B k else patTo n B k i := by
  unfold patTo
  by_cases e : i = k
  · subst e
    rw [if_pos rfl, if_pos (Nat.lt_succ_self _)]
  · rw [if_neg e]
    by_cases h1 : i < k
    · rw [if_pos h1, if_pos (by omega)]
    · rw [if_neg h1, if_neg (by omega)]
theorem patTo_self (n : Nat) (B : Nat → Int) (k : Nat) : patTo n B k k = 0 := if_neg (Nat.lt_irrefl _)
theorem patTo_out {n : Nat} {B : Nat → Int} {k i : Nat} (h : ¬ k < n) : patTo n B k i = patTo n B (k + 1) i := by
  rw [patTo_succ]
  split
  · rename_i e
    subst e
    rw [patTo_self, patA, if_neg h]
  · rfl
theorem patTo_in {n : Nat} {B : Nat → Int} {k i j : Nat} (h : k < n) (hB : 0 ≤ B k ∧ B k ≤ 255) (hj : j < 1) :
    SLe (bif Nat.beq i ((k : Nat) : Int).toNat && Nat.ble 0 j && Nat.blt j (0 + [SV.v (Value.int .i64 ((IntKind.i64.wrap (B ((k : Nat) : Int).toNat)).tmod 8))].length) then [SV.v (Value.int .i64 ((IntKind.i64.wrap (B ((k : Nat) : Int).toNat)).tmod 8))].getD (j - 0) (.v Go.undef) else i64 (patTo n B k i)) (i64 (patTo n B (k + 1) i)) := by
  obtain rfl : j = 0 := by omega
  refine SLe.of_eq ?_
  rw [Int.toNat_natCast, patTo_succ]
  by_cases e : i = k
  · subst e
    rw [Nat.beq_refl, if_pos rfl, patA, if_pos h]
    have e1 : (IntKind.i64.wrap (B i)).tmod 8 = B i % 8 := by rw [wid (by omega) (by omega), Int.tmod_eq_emod_of_nonneg hB.1]
    rw [← e1]
    rfl
  · rw [beq_f e, if_neg e]
    rfl
theorem need_congr {p : MP} {A A' : Nat → Int} : ∀ k : Nat, (∀ i, i < k → A i = A' i) → need p A k = need p A' k
  | 0, _ => rfl
  | k + 1, h => by rw [need, need, need_congr k (fun i hi => h i (by omega)), h k (by omega)]
theorem toprow_det (p : MP) (n : Nat) (B : Nat → Int) (hm : p.m ≤ maxLen) (hn : n ≤ maxLen) (hB : ∀ i, i < n → 0 ≤ B i ∧ B i ≤ 255) : Det Tryz.prog 3 [mpD p, .one (u8S n B)] (tbool true) := by
  refine det_of_awp TTok mixed Tryz.func3 rfl rfl [13] (Nat.le_of_ble_eq_true rfl) ?_
  refine CallW.mk' Cv.awake_top ?_
  repeat' first | refine Split.t ?_ | refine Split.f ?_ | fail
  refine CallW.bool (pfew_det p hm) (fun f1 hf1 => ?_)
  refine Split.mk (fun a1 => ?_) (fun a1 => ?_)
  · repeat' first | refine Split.t ?_ | refine Split.f ?_ | refine Fin.bool ?_ | fail
    rfl
  repeat' first | refine Split.t ?_ | refine Split.f ?_ | fail
  refine CallW.bool (refvalid_det p hm) (fun v hv => ?_)
  repeat' first | refine Split.t ?_ | refine Split.f ?_ | fail
  refine Split.mk (fun a2 => ?_) (fun a2 => ?_)
  · repeat' first | refine Split.t ?_ | refine Split.f ?_ | refine Fin.bool ?_ | fail
    rfl
  have hv' : v = true := by simpa using a2
  have H := MOk.of (hv.symm.trans hv')
  have hm1 := H.m1
  have hm2 := H.m2
  repeat' first | refine Split.t ?_ | refine Split.f ?_ | fail
  have hs1 := H.s1
  have hs2 := H.s2
  refine Need.mk (show 0 ≤ (p.m : Int) ∧ (p.m : Int) ≤ p.m ∧ ((8 : Nat) : Int) * p.m ≤ 281474976710656 ∧ (p.m : Int) ≤ 9223372036854775807 by omega) ?_
  refine Loop.by (α := Nat) (fun k => [(1, .d (.one (u8S n B))), (2, .ptr 2 0), (5, .hdl 26 0), (28, tint p.m), (29, tint k), (6, .hdl 59 0)])
    (fun k => [(2, .box (mpL p)), (26, .bld 0 p.m 1 3 (fun i _ => i64 (patTo n B k i))), (59, .bld 0 (rl p (patA n B) k).length 5 30 (rowG (Rw (rl p (patA n B) k))))]) (fun k => k ≤ p.m) (fun k => p.m - k)
    (Adj.nil 6 59 5 30 (fun _ _ => .v Go.undef) rfl rfl (Adj.at 0 (Nat.zero_le _) (.cons (.box (LLe.of_eq rfl)) (.cons (.bldN (by omega) (fun i hi j hj => SLe.of_eq ?_)) (.cons (.bld (fun _ h => absurd h (Nat.not_lt_zero _))) .nil))) (.cons .same (.cons (.box rfl rfl) (.cons (.hdl rfl rfl) (.cons .same (.cons .same (.cons (.hdl rfl rfl) .nil)))))))) (fun k hk => ?_)
  · obtain rfl : j = 0 := by
      have hj : j < 1 := hj
      omega
    rfl
  have eAk : ∀ k : Nat, patTo n B (k + 1) ((k : Nat) : Int).toNat = patA n B k := fun k => by rw [Int.toNat_natCast, patTo_succ, if_pos rfl]
  have hrl : (rl p (patA n B) k).length ≤ 7 * k := rl_len p _ k (fun j _ => (patA_b n B j).2)
  refine Split.mk (fun h3 => ?_) (fun h3 => ?_)
  · have hlt : k < p.m := by have := of_decide_eq_true h3; omega
    have hw64 : IntKind.i64.wrap ((k : Int) + 1) = ((k + 1 : Nat) : Int) := (w64_id ⟨by omega, by omega⟩).trans (by omega)
    refine Split.mk (fun h4 => ?_) (fun h4 => ?_)
    · have h4' : k < n := by have := of_decide_eq_true h4; omega
      refine Need.mk (by omega) ?_
      repeat' first | refine Need.mk ⟨_, rfl⟩ ?_ | refine Need.mk (by omega) ?_ | fail
      refine Cut.mk (Adj.keep [(1, .d (.one (u8S n B))), (2, .ptr 2 0), (5, .hdl 26 0), (28, tint p.m), (29, tint k), (6, .hdl 59 0), (7, tint k)] [(2, .box (mpL p)), (26, .bld 0 p.m 1 3 (fun i _ => i64 (patTo n B (k + 1) i))), (59, .bld 0 (rl p (patA n B) k).length 5 30 (rowG (Rw (rl p (patA n B) k))))]
        (.cons (.box (LLe.of_eq rfl)) (.cons (.bld (fun i hi j hj => patTo_in h4' (hB k h4') hj)) (.cons (.bld (fun i hi j hj => SLe.refl _)) .nil))) (.cons .same (.cons (.box rfl rfl) (.cons (.hdl rfl rfl) (.cons .same (.cons .same (.cons (.hdl rfl rfl) (.cons .same .nil))))))) ?_)
      refine Need.mk (by omega) ?_
      refine Loop.by (α := Nat) (fun q => [(1, .d (.one (u8S n B))), (2, .ptr 2 0), (5, .hdl 26 0), (28, tint p.m), (29, tint k), (6, .hdl 59 0), (7, tint k), (48, tint (patA n B k)), (49, tint q)])
        (fun q => [(2, .box (mpL p)), (26, .bld 0 p.m 1 3 (fun i _ => i64 (patTo n B (k + 1) i))), (59, .bld 0 (rq p (patA n B) k q).length 5 30 (rowG (Rw (rq p (patA n B) k q))))]) (fun q => q ≤ (patA n B k).toNat) (fun q => (patA n B k).toNat - q)
        (Adj.at 0 (Nat.zero_le _) (.cons (.box (LLe.of_eq rfl)) (.cons (.bld (fun i hi j hj => SLe.refl _)) (.cons (.bldN (by rw [rq_zero]) (fun i hi j hj => SLe.of_eq (by rw [rq_zero]))) .nil))) (.cons .same (.cons (.box rfl rfl) (.cons (.hdl rfl rfl) (.cons .same (.cons .same (.cons (.hdl rfl rfl) (.cons .same (.cons (SlotLe.int (eAk k)) (.cons .same .nil)))))))))) (fun q hq => ?_)
      have hrq := rq_len p (patA n B) k q
      have hA := patA_b n B k
      refine Split.mk (fun h5 => ?_) (fun h5 => ?_)
      · have hq' : (q : Int) < patA n B k := of_decide_eq_true h5
        have hw65 : IntKind.i64.wrap ((q : Int) + 1) = ((q + 1 : Nat) : Int) := (w64_id ⟨by omega, by omega⟩).trans (by omega)
        refine Need.mk (by omega) ?_
        refine Need.mk ⟨show ((rq p (patA n B) k q).length + 1) * 56 ≤ 140737488355328 by omega, by simp only [maxLen]; omega⟩ ?_
        refine Adj.back (x := q) (q + 1) (by omega) (by omega) (.cons (.box (LLe.of_eq rfl)) (.cons (.bld (fun i hi j hj => SLe.refl _)) (.cons (.bldN (by rw [rq_succ, List.length_append]; rfl) (fun i hi j hj => ?_)) .nil))) (.cons .same (.cons (.box rfl rfl) (.cons (.hdl rfl rfl) (.cons .same (.cons .same (.cons (.hdl rfl rfl) (.cons .same (.cons .same (.cons (SlotLe.int hw65) .nil)))))))))
        rw [rq_succ]
        refine SLe.app hi (fun h => ?_) (fun h => ?_)
        · refine SLe.of_eq ?_
          exact (rowG_old h j).symm
        · subst h
          rw [Nat.sub_self, rowG_new]
          rcases j with _ | _ | _ | _ | _ | j
          · exact SLe.refl _
          · exact SLe.refl _
          · exact SLe.refl _
          · exact SLe.refl _
          · exact SLe.refl _
          · exact absurd (show j + 5 < 5 from hj) (by omega)
      · have hq' : ¬ (q : Int) < patA n B k := of_decide_eq_false h5
        obtain rfl : q = (patA n B k).toNat := by omega
        refine Adj.back (x := k) (k + 1) (by omega) (by omega) (.cons (.box (LLe.of_eq rfl)) (.cons (.bld (fun i hi j hj => SLe.refl _)) (.cons (.bld (fun i hi j hj => SLe.refl _)) .nil))) (.cons .same (.cons (.box rfl rfl) (.cons (.hdl rfl rfl) (.cons .same (.cons (SlotLe.int hw64) (.cons (.hdl rfl rfl) .nil))))))
    · have h4' : ¬ k < n := by have := of_decide_eq_false h4; omega
      repeat' first | refine Need.mk ⟨_, rfl⟩ ?_ | refine Need.mk (by omega) ?_ | fail
      refine Cut.mk (Adj.keep [(1, .d (.one (u8S n B))), (2, .ptr 2 0), (5, .hdl 26 0), (28, tint p.m), (29, tint k), (6, .hdl 59 0), (7, tint k)] [(2, .box (mpL p)), (26, .bld 0 p.m 1 3 (fun i _ => i64 (patTo n B (k + 1) i))), (59, .bld 0 (rl p (patA n B) k).length 5 30 (rowG (Rw (rl p (patA n B) k))))]
        (.cons (.box (LLe.of_eq rfl)) (.cons (.bld (fun i hi j hj => SLe.of_eq (by rw [patTo_out h4']))) (.cons (.bld (fun i hi j hj => SLe.refl _)) .nil))) (.cons .same (.cons (.box rfl rfl) (.cons (.hdl rfl rfl) (.cons .same (.cons .same (.cons (.hdl rfl rfl) (.cons .same .nil))))))) ?_)
      refine Need.mk (by omega) ?_
      refine Loop.by (α := Nat) (fun q => [(1, .d (.one (u8S n B))), (2, .ptr 2 0), (5, .hdl 26 0), (28, tint p.m), (29, tint k), (6, .hdl 59 0), (7, tint k), (48, tint (patA n B k)), (49, tint q)])
        (fun q => [(2, .box (mpL p)), (26, .bld 0 p.m 1 3 (fun i _ => i64 (patTo n B (k + 1) i))), (59, .bld 0 (rq p (patA n B) k q).length 5 30 (rowG (Rw (rq p (patA n B) k q))))]) (fun q => q ≤ (patA n B k).toNat) (fun q => (patA n B k).toNat - q)
        (Adj.at 0 (Nat.zero_le _) (.cons (.box (LLe.of_eq rfl)) (.cons (.bld (fun i hi j hj => SLe.refl _)) (.cons (.bldN (by rw [rq_zero]) (fun i hi j hj => SLe.of_eq (by rw [rq_zero]))) .nil))) (.cons .same (.cons (.box rfl rfl) (.cons (.hdl rfl rfl) (.cons .same (.cons .same (.cons (.hdl rfl rfl) (.cons .same (.cons (SlotLe.int (eAk k)) (.cons .same .nil)))))))))) (fun q hq => ?_)
      have hrq := rq_len p (patA n B) k q
      have hA := patA_b n B k
      refine Split.mk (fun h5 => ?_) (fun h5 => ?_)
      · have hq' : (q : Int) < patA n B k := of_decide_eq_true h5
        have hw65 : IntKind.i64.wrap ((q : Int) + 1) = ((q + 1 : Nat) : Int) := (w64_id ⟨by omega, by omega⟩).trans (by omega)
        refine Need.mk (by omega) ?_
        refine Need.mk ⟨show ((rq p (patA n B) k q).length + 1) * 56 ≤ 140737488355328 by omega, by simp only [maxLen]; omega⟩ ?_
        refine Adj.back (x := q) (q + 1) (by omega) (by omega) (.cons (.box (LLe.of_eq rfl)) (.cons (.bld (fun i hi j hj => SLe.refl _)) (.cons (.bldN (by rw [rq_succ, List.length_append]; rfl) (fun i hi j hj => ?_)) .nil))) (.cons .same (.cons (.box rfl rfl) (.cons (.hdl rfl rfl) (.cons .same (.cons .same (.cons (.hdl rfl rfl) (.cons .same (.cons .same (.cons (SlotLe.int hw65) .nil)))))))))
        rw [rq_succ]
        refine SLe.app hi (fun h => ?_) (fun h => ?_)
        · refine SLe.of_eq ?_
          exact (rowG_old h j).symm
        · subst h
          rw [Nat.sub_self, rowG_new]
          rcases j with _ | _ | _ | _ | _ | j
          · exact SLe.refl _
          · exact SLe.refl _
          · exact SLe.refl _
          · exact SLe.refl _
          · exact SLe.refl _
          · exact absurd (show j + 5 < 5 from hj) (by omega)
      · have hq' : ¬ (q : Int) < patA n B k := of_decide_eq_false h5
        obtain rfl : q = (patA n B k).toNat := by omega
        refine Adj.back (x := k) (k + 1) (by omega) (by omega) (.cons (.box (LLe.of_eq rfl)) (.cons (.bld (fun i hi j hj => SLe.refl _)) (.cons (.bld (fun i hi j hj => SLe.refl _)) .nil))) (.cons .same (.cons (.box rfl rfl) (.cons (.hdl rfl rfl) (.cons .same (.cons (SlotLe.int hw64) (.cons (.hdl rfl rfl) .nil))))))
  · have e : k = p.m := by have := of_decide_eq_false h3; omega
    subst e
    refine Split.mk (fun h4 => ?_) (fun h4 => ?_)
    · repeat' first | refine Split.t ?_ | refine Split.f ?_ | refine Fin.bool ?_ | fail
      rfl
    have h40 : (rl p (patA n B) p.m).length ≤ 40 := by
      have h4 : ¬ ((rl p (patA n B) p.m).length : Int) > 40 := of_decide_eq_false h4
      omega
    have V := row_ok H.k0 H.k1 (rl_mem H (patA n B) p.m (Nat.le_refl _)) h40
    have law := fits_row H (A := patA n B) (fun i _ => (patA_b n B i).1) h40
    have hof := off_row H V
    have hA : ∀ i, i < p.m → patTo n B p.m i = patA n B i := fun i hi => if_pos hi
    have hne : need p (patTo n B p.m) p.m = need p (patA n B) p.m := need_congr p.m hA
    have hfit := fits_det' p (patTo n B p.m) H (fun i hi => by rw [hA i hi]; exact patA_b n B i)
    have hlen := (length_det (rl p (patA n B) p.m).length (Rw (rl p (patA n B) p.m)) p.kf (by simp only [maxLen]; omega)).eq (r' := twoT (lengthI (rl p (patA n B) p.m).length (Rw (rl p (patA n B) p.m)) p.kf) 0) (by rw [V.err]; rfl)
    have hoff := boffset_det (rl p (patA n B) p.m).length (Rw (rl p (patA n B) p.m)) p.kf (barM p) (by simp only [maxLen]; omega) (Nat.zero_le _)
    rw [hof] at hoff
    rw [hne] at hfit
    generalize hL : lengthI (rl p (patA n B) p.m).length (Rw (rl p (patA n B) p.m)) p.kf = L at *
    repeat' first | refine Split.t ?_ | refine Split.f ?_ | fail
    refine CallW.mk' hlen ?_
    have hoff' := Det.le (args := [.one (rowS (rl p (patA n B) p.m).length (Rw (rl p (patA n B) p.m))), .one (i64 p.kf), .agg [i64 0, .v (.string ⟨#[]⟩), .v (.string ⟨#[]⟩), i64 p.st, .v nilS]]) (.cons (DLe.refl _) (.cons (DLe.refl _) (.cons (DLe.agg (.cons (SLe.refl _) (.cons (SLe.refl _) (.cons (SLe.refl _) (.cons (SLe.refl _) (.cons (SLe.nil _ _) .nil)))))) .nil))) hoff
    by_cases hc : L ≤ p.st
    · rw [if_pos hc] at hoff'
      rw [decide_eq_true (law.2 hc)] at hfit
      refine CallW.mk' hoff' ?_
      refine CallW.mk' hfit ?_
      repeat' first | refine Split.t ?_ | refine Split.f ?_ | refine Need.mk (by kernel_rfl) ?_ | refine Split.isT (show (_ == decide (L ≤ p.st)) = true by simp [hc]) ?_ | refine Fin.bool ?_ | fail
      all_goals rfl
    · rw [if_neg hc] at hoff'
      rw [decide_eq_false (fun h => hc (law.1 h))] at hfit
      refine CallW.mk' hoff' ?_
      refine CallW.mk' hfit ?_
      repeat' first | refine Split.t ?_ | refine Split.f ?_ | refine Need.mk (by kernel_rfl) ?_ | refine Split.isT (show (_ == decide (L ≤ p.st)) = true by simp [hc]) ?_ | refine Fin.bool ?_ | fail
      all_goals rfl
theorem fnInts {k : IntKind} {e : TypeId} (hu : Tryz.prog.underlying e = some (.int k)) {n : Nat} {get : Nat → Nat → SV} (hr : ∀ i, i < n → Typ Tryz.prog e (cells 1 (get i))) : ∃ R : Nat → Int, (∀ i, i < n → InK k (R i)) ∧ SLe (.sl n 1 get) (.sl n 1 fun i _ => .v (.int k (R i))) := by
  have hp : ∀ i, ∃ a : Int, i < n → get i 0 = .v (.int k a) ∧ InK k a := fun i => by
    by_cases hi : i < n
    · obtain ⟨a, e, h⟩ := Typ.inv_int hu (hr i hi)
      have : [get i 0] = [.v (.int k a)] := e
      exact ⟨a, fun _ => ⟨by simpa using this, h⟩⟩
    · exact ⟨0, fun h => absurd h hi⟩
  obtain ⟨R, hR⟩ := Classical.axiomOfChoice hp
  refine ⟨R, fun i hi => (hR i hi).2, SLe.sl (fun i hi j hj => ?_)⟩
  obtain rfl : j = 0 := by omega
  rw [(hR i hi).1]
  exact SLe.refl _
theorem prob_of {v : DV} (h : TypD Tryz.prog 24 v) : ∃ p : MP, p.m ≤ maxLen ∧ DLe v (mpD p) := by
  obtain ⟨cs, rfl, k⟩ := TypD.agg (by kernel_rfl) h
  have hl : cs.length = 4 := (Typ.inv_str rfl k).1
  match cs, hl, k with
  | [c0, c1, c2, c3], _, k =>
    obtain ⟨m, g0, e0, hm, hg0⟩ := Typ.inv_slc (P := Tryz.prog) (e := 3) rfl (k.field rfl 0 0 1 22 rfl)
    obtain ⟨q, g1, e1, _, hg1⟩ := Typ.inv_slc (P := Tryz.prog) (e := 3) rfl (k.field rfl 1 1 1 22 rfl)
    obtain ⟨st, e2, _⟩ := Typ.inv_i64 rfl (k.field rfl 2 2 1 3 rfl)
    obtain ⟨kf, e3, _⟩ := Typ.inv_i64 rfl (k.field rfl 3 3 1 3 rfl)
    cases (show [c0] = [.sl m 1 g0] from e0)
    cases (show [c1] = [.sl q 1 g1] from e1)
    cases (show [c2] = [i64 st] from e2)
    cases (show [c3] = [i64 kf] from e3)
    obtain ⟨L, _, hL⟩ := fnInts (k := .i64) rfl hg0
    obtain ⟨D, _, hD⟩ := fnInts (k := .i64) rfl hg1
    exact ⟨⟨m, L, q, D, st, kf⟩, hm, DLe.agg (.cons hL (.cons hD (.cons (SLe.refl _) (.cons (SLe.refl _) .nil))))⟩
theorem toprow_all : ∀ dvs, TypL Tryz.prog Tryz.f3.params.toList dvs → Det Tryz.prog 3 dvs (tbool true) := by
  intro dvs h
  obtain ⟨v0, r0, rfl, h0, q0⟩ := TypL.inv_cons (t := 24) (ts := [25]) h
  obtain ⟨v1, r1, rfl, h1, q1⟩ := TypL.inv_cons q0
  obtain rfl := TypL.inv_nil q1
  obtain ⟨p, hm, hl⟩ := prob_of h0
  obtain ⟨c, rfl, k⟩ := TypD.one (by kernel_rfl) h1
  obtain ⟨n, get, e, hn, hr⟩ := Typ.inv_slc (e := 5) rfl k
  cases (show [c] = [SV.sl n 1 get] from e)
  obtain ⟨B, hB, hle⟩ := fnInts (k := .u8) rfl hr
  refine Det.le (.cons hl (.cons (DLe.one hle) .nil)) (toprow_det p n B hm hn fun i hi => ?_)
  have h := hB i hi
  simp [InK, Lit.wf, IntKind.min, IntKind.max, IntKind.bits, IntKind.signed] at h
  omega
end Go.Vm
