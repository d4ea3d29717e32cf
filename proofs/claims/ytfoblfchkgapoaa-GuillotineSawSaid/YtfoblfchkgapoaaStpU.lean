/-
  Layer 37: contracts of both Counts; the law Trees.
-/
import Derived.Test.YtfoblfchkgapoaaStpT
import Derived.Test.YtfoblfchkgapoaaStpQ
namespace Go.Vm
set_option maxRecDepth 20000
set_option linter.unusedVariables false
set_option linter.unusedSimpArgs false
open Go Go.RowKit Go.Proofs
namespace St

def cT (t : List Nd) (n : Int) : Nat → List Int
  | 0 => List.replicate n.toNat 0
  | k + 1 => if leafP (ndget t k) = true ∧ inB (ndget t k).k 0 (n - 1) = true then incr (cT t n k) (ndget t k).k else cT t n k
def countR (t : List Nd) (n : Int) : List Int := if inB n 0 20 = true then cT t n t.length else []
theorem cT_len (t : List Nd) (n : Int) : ∀ k, (cT t n k).length = n.toNat
  | 0 => by simp [cT]
  | k + 1 => by
    rw [cT]
    split
    · rw [incr_len, cT_len t n k]
    · exact cT_len t n k
theorem cT_bd (t : List Nd) (n : Int) : ∀ k i, 0 ≤ (cT t n k).getD i 0 ∧ (cT t n k).getD i 0 ≤ k
  | 0, i => by
    have : (cT t n 0).getD i 0 = 0 := by rw [cT, List.getD, List.getElem?_replicate]; split <;> rfl
    omega
  | k + 1, i => by
    have ih := cT_bd t n k i
    rw [cT]
    split
    · rcases incr_at (cT t n k) (ndget t k).k i with h | h <;> omega
    · omega
theorem counts_det (t : List Nd) (n : Int) (hl : t.length ≤ 1000000) : Det Try.prog 43 [.one (ndS t), .one (i64 n)] (.d (.one (iS (countR t n)))) := by
  refine det_of_awp TTok mixed Try.func43 rfl rfl [] (Nat.le_of_ble_eq_true rfl) ?_
  refine CallW.bool (in_det n 0 20) (fun b hb => ?_)
  refine Split.mk (fun c1 => ?_) (fun c1 => ?_)
  · have : inB n 0 20 = false := by rw [← hb]; simpa using c1
    rw [countR, if_neg (by rw [this]; simp)]
    exact Fin.one (SLe.nil _ _)
  have hin : inB n 0 20 = true := by rw [← hb]; simpa using c1
  rw [countR, if_pos hin]
  rw [inB_iff] at hin
  obtain ⟨N, rfl⟩ := Int.eq_ofNat_of_zero_le hin.1
  clear hb c1
  refine Need.mk (needMake (by omega)) ?_
  refine Loop.by (α := Nat) (fun k => [(1, tint N), (5, .hdl 12 0), (13, .d (.one (ndS t))), (14, tint t.length), (15, tint k)]) (fun k => [(12, .bld 0 N 1 3 (lG iL 0 (cT t N k)))]) (fun k => k ≤ t.length) (fun k => t.length - k)
    (Adj.at 0 (Nat.zero_le _) (.cons (.bldN (by omega) (fun i hi j hj => SLe.of_eq (lG_rep N i j (by omega) hj))) .nil) (.cons .same (.cons (.hdl rfl rfl) (.cons .same (.cons .same (.cons .same .nil)))))) (fun k hk => ?_)
  have hcl := cT_len t N k
  rw [Int.toNat_natCast] at hcl
  have hcn : cT t N (k + 1) = if leafP (ndget t k) = true ∧ inB (ndget t k).k 0 ((N : Int) - 1) = true then incr (cT t N k) (ndget t k).k else cT t N k := rfl
  have e1 : IntKind.i64.wrap ((N : Int) - 1) = (N : Int) - 1 := hw _ (by omega) (by omega)
  refine Split.mk (fun hc => ?_) (fun hc => ?_)
  rotate_left
  · have he : k = t.length := by have := of_decide_eq_false hc; omega
    subst he
    refine Fin.one ?_
    exact SLe.slN hcl.symm (fun _ _ _ _ => SLe.refl _)
  have hlt : k < t.length := by have := of_decide_eq_true hc; omega
  have hbd := cT_bd t N k (ndget t k).k.toNat
  refine Need.mk (by omega) ?_
  refine CallW.bool (leaf_det (ndget t k)) (fun b2 hb2 => ?_)
  refine Split.mk (fun d1 => ?_) (fun d1 => ?_)
  rotate_left
  · rw [if_neg (fun q => by rw [← hb2, d1] at q; cases q.1)] at hcn
    repeat' first | refine Split.isF d1 ?_ | refine Split.t ?_ | refine Split.f ?_ | fail
    exact Adj.back (x := k) (k + 1) (by omega) (by omega) (.cons (.bld (fun i hi j hj => SLe.of_eq (by rw [hcn]))) .nil) (.cons .same (.cons (.hdl rfl rfl) (.cons .same (.cons .same (.cons (SlotLe.int (hS k (by omega))) .nil)))))
  repeat' first | refine Split.isT d1 ?_ | refine Split.t ?_ | refine Split.f ?_ | fail
  refine CallW.bool ((in_det (ndget t k).k 0 ((N : Int) - 1)).le (.cons (DLe.refl _) (.cons (DLe.refl _) (.cons (DLe.of_eq (by rw [e1])) .nil)))) (fun b3 hb3 => ?_)
  repeat' first | refine Split.isT d1 ?_ | refine Split.t ?_ | refine Split.f ?_ | fail
  refine Split.mk (fun d2 => ?_) (fun d2 => ?_)
  · rw [if_pos ⟨hb2.symm.trans d1, hb3.symm.trans d2⟩] at hcn
    have hq := inB_iff.1 (hb3.symm.trans d2)
    refine Need.mk (⟨hq.1, by omega⟩ : 0 ≤ (ndget t k).k ∧ (ndget t k).k < (N : Int)) ?_
    refine Need.mk (⟨hq.1, by omega⟩ : 0 ≤ (ndget t k).k ∧ (ndget t k).k < (N : Int)) ?_
    refine Adj.back (x := k) (k + 1) (by omega) (by omega) (.cons (.bld (fun i hi j hj => ?_)) .nil) (.cons .same (.cons (.hdl rfl rfl) (.cons .same (.cons .same (.cons (SlotLe.int (hS k (by omega))) .nil)))))
    rw [hcn]
    exact lG_set iL 0 (cT t N k) ((cT t N k).getD (ndget t k).k.toNat 0 + 1) (ndget t k).k.toNat i j 1 [i64 (IntKind.i64.wrap ((cT t N k).getD (ndget t k).k.toNat 0 + 1))] (by rw [hw _ (by omega) (by omega)]) (by rw [hcl]; exact hi) hj
  · rw [if_neg (fun q => by rw [← hb3, d2] at q; cases q.2)] at hcn
    exact Adj.back (x := k) (k + 1) (by omega) (by omega) (.cons (.bld (fun i hi j hj => SLe.of_eq (by rw [hcn]))) .nil) (.cons .same (.cons (.hdl rfl rfl) (.cons .same (.cons .same (.cons (SlotLe.int (hS k (by omega))) .nil)))))
theorem rcounts_det (t : List Nd) (n : Int) (hl : t.length ≤ 1000000) : Det Try.prog 44 [.one (ndS t), .one (i64 n)] (.d (.one (iS (countR t n)))) := by
  refine det_of_awp TTok mixed Try.func44 rfl rfl [] (Nat.le_of_ble_eq_true rfl) ?_
  have fail2 : ¬ (0 ≤ n ∧ n ≤ 20) → Fin (.d (.one (.v (.slice none 0 0)))) (.d (.one (iS (countR t n)))) := fun h => by
    rw [countR, if_neg (fun q => h (inB_iff.1 q))]
    exact Fin.one (SLe.nil _ _)
  refine Split.mk (fun c1 => ?_) (fun c1 => ?_)
  · repeat' first | refine Split.isT c1 ?_ | refine Split.t ?_ | refine Split.f ?_ | fail
    exact fail2 (fun q => by have := of_decide_eq_true c1; omega)
  repeat' first | refine Split.isF c1 ?_ | refine Split.t ?_ | refine Split.f ?_ | fail
  refine Split.mk (fun c2 => ?_) (fun c2 => ?_)
  · exact fail2 (fun q => by have := of_decide_eq_true c2; omega)
  have hin : 0 ≤ n ∧ n ≤ 20 := by
    have := of_decide_eq_false c1
    have := of_decide_eq_false c2
    omega
  rw [countR, if_pos (inB_iff.2 hin)]
  clear fail2 c1 c2
  obtain ⟨N, rfl⟩ := Int.eq_ofNat_of_zero_le hin.1
  refine Need.mk (needMake (by omega)) ?_
  refine Loop.by (α := Nat) (fun k => [(0, .d (.one (ndS t))), (1, tint N), (5, .hdl 15 0), (6, tint k)]) (fun k => [(15, .bld 0 N 1 3 (lG iL 0 (cT t N k)))]) (fun k => k ≤ t.length) (fun k => t.length - k)
    (Adj.at 0 (Nat.zero_le _) (.cons (.bldN (by omega) (fun i hi j hj => SLe.of_eq (lG_rep N i j (by omega) hj))) .nil) (.cons .same (.cons .same (.cons (.hdl rfl rfl) (.cons .same .nil))))) (fun k hk => ?_)
  have hcl := cT_len t N k
  rw [Int.toNat_natCast] at hcl
  have hcn : cT t N (k + 1) = if leafP (ndget t k) = true ∧ inB (ndget t k).k 0 ((N : Int) - 1) = true then incr (cT t N k) (ndget t k).k else cT t N k := rfl
  refine Split.mk (fun hc => ?_) (fun hc => ?_)
  rotate_left
  · have he : k = t.length := by have := of_decide_eq_false hc; omega
    subst he
    refine Fin.one ?_
    exact SLe.slN hcl.symm (fun _ _ _ _ => SLe.refl _)
  have hlt : k < t.length := by have := of_decide_eq_true hc; omega
  have hbd := cT_bd t N k (ndget t k).k.toNat
  refine Need.mk (by omega) ?_
  refine Need.mk (by omega) ?_
  refine CallW.bool (rpiece_det (ndget t k)) (fun b2 hb2 => ?_)
  refine Split.mk (fun d1 => ?_) (fun d1 => ?_)
  rotate_left
  · rw [if_neg (fun q => by rw [← hb2, d1] at q; cases q.1)] at hcn
    repeat' first | refine Split.isF d1 ?_ | refine Split.t ?_ | refine Split.f ?_ | fail
    exact Adj.back (x := k) (k + 1) (by omega) (by omega) (.cons (.bld (fun i hi j hj => SLe.of_eq (by rw [hcn]))) .nil) (.cons .same (.cons .same (.cons (.hdl rfl rfl) (.cons (SlotLe.int (hS k (by omega))) .nil))))
  repeat' first | refine Split.isT d1 ?_ | refine Split.t ?_ | refine Split.f ?_ | fail
  show Split (decide ((ndget t k).k ≥ 0)) _
  refine Split.mk (fun d2 => ?_) (fun d2 => ?_)
  rotate_left
  · have d2' : ¬ (ndget t k).k ≥ 0 := of_decide_eq_false d2
    rw [if_neg (fun q => by have := inB_iff.1 q.2; omega)] at hcn
    repeat' first | refine Split.isF d2 ?_ | refine Split.isT d1 ?_ | refine Split.t ?_ | refine Split.f ?_ | fail
    exact Adj.back (x := k) (k + 1) (by omega) (by omega) (.cons (.bld (fun i hi j hj => SLe.of_eq (by rw [hcn]))) .nil) (.cons .same (.cons .same (.cons (.hdl rfl rfl) (.cons (SlotLe.int (hS k (by omega))) .nil))))
  have d2' : (ndget t k).k ≥ 0 := of_decide_eq_true d2
  repeat' first | refine Split.isT d2 ?_ | refine Split.isT d1 ?_ | refine Split.t ?_ | refine Split.f ?_ | fail
  show Split (decide ((ndget t k).k < (N : Int))) _
  refine Split.mk (fun d3 => ?_) (fun d3 => ?_)
  · have d3' : (ndget t k).k < (N : Int) := of_decide_eq_true d3
    rw [if_pos ⟨hb2.symm.trans d1, inB_iff.2 ⟨by omega, by omega⟩⟩] at hcn
    refine Need.mk (⟨d2', d3'⟩ : 0 ≤ (ndget t k).k ∧ (ndget t k).k < (N : Int)) ?_
    refine Need.mk (⟨d2', d3'⟩ : 0 ≤ (ndget t k).k ∧ (ndget t k).k < (N : Int)) ?_
    refine Adj.back (x := k) (k + 1) (by omega) (by omega) (.cons (.bld (fun i hi j hj => ?_)) .nil) (.cons .same (.cons .same (.cons (.hdl rfl rfl) (.cons (SlotLe.int (hS k (by omega))) .nil))))
    rw [hcn]
    exact lG_set iL 0 (cT t N k) ((cT t N k).getD (ndget t k).k.toNat 0 + 1) (ndget t k).k.toNat i j 1 [i64 (IntKind.i64.wrap ((cT t N k).getD (ndget t k).k.toNat 0 + 1))] (by rw [hw _ (by omega) (by omega)]) (by rw [hcl]; exact hi) hj
  · have d3' : ¬ (ndget t k).k < (N : Int) := of_decide_eq_false d3
    rw [if_neg (fun q => by have := inB_iff.1 q.2; omega)] at hcn
    exact Adj.back (x := k) (k + 1) (by omega) (by omega) (.cons (.bld (fun i hi j hj => SLe.of_eq (by rw [hcn]))) .nil) (.cons .same (.cons .same (.cons (.hdl rfl rfl) (.cons (SlotLe.int (hS k (by omega))) .nil))))
/-! ### the law -/
theorem EqW.plr {K : Bool → Prop} (a : Pl) (k : K true) : EqW Try.prog 76 (plL a) (plL a) K := ⟨_, eq76 a.k a.x a.y a.k a.x a.y, by rw [decide_eq_true rfl]; exact k⟩
theorem ltrees_det (z : Pz) (t : List Nd) (n : Int) (hl : z.ks.length ≤ maxLen) : Det Try.prog 14 [.agg (pzL z), .one (ndS t), .one (i64 n)] (tbool true) := by
  refine det_of_awp TTok mixed Try.func14 rfl rfl [] (Nat.le_of_ble_eq_true rfl) ?_
  refine CallW.mk' awake37_det ?_
  refine Split.f ?_
  refine CallW.bool (small_det z) (fun b1 hb1' => ?_)
  refine Split.mk (fun c1 => ?_) (fun c1 => ?_)
  · repeat' first | refine Split.isT c1 ?_ | refine Split.t ?_ | refine Split.f ?_ | fail
    exact Fin.rfl'
  have hsm := small_iff.1 (by rw [← hb1']; simpa using c1 : smallB z = true)
  repeat' first | refine Split.isF c1 ?_ | refine Split.t ?_ | refine Split.f ?_ | fail
  refine Split.mk (fun c2 => ?_) (fun c2 => ?_)
  · exact Fin.rfl'
  have htl : t.length ≤ 300 := by have := of_decide_eq_false c2; omega
  clear hb1' c1 c2
  refine CallW.nds (own_det t (by omega)) ?_
  refine CallW.kds (kinds_det z.ks (by omega)) ?_
  refine Need.mk (by kernel_rfl) ?_
  have r2 := rplaces_det t z.ks z.w z.h z.kerf (by omega) (by omega)
  have hvz : validB t z.ks z.w z.h z.kerf = ((placesR t z.ks z.w z.h z.kerf).2 == 0) := by
    rw [placesR]
    cases hv : validB t z.ks z.w z.h z.kerf with
    | true => rfl
    | false => rfl
  have hxl : (placesR t z.ks z.w z.h z.kerf).1.length ≤ 300 := by
    unfold placesR
    split
    · exact Nat.le_trans (plT_len _ _ _) htl
    · exact Nat.zero_le _
  refine CallW.pls (places_det t z.ks z.w z.h z.kerf (by omega) hl) (fun x hx => ?_)
  rw [← hx] at r2 hvz hxl
  clear hx
  obtain ⟨l, e⟩ := x
  replace hvz : validB t z.ks z.w z.h z.kerf = (e == 0) := hvz
  replace hxl : l.length ≤ 300 := hxl
  refine CallW.mk' r2 ?_
  have f1 : (e != e) = false := bne_self_eq_false _
  have f2 : (((l.length : Nat) : Int) != ((l.length : Nat) : Int)) = false := bne_self_eq_false _
  refine Split.isF f1 ?_
  repeat' first | refine Split.isF f1 ?_ | refine Split.t ?_ | refine Split.f ?_ | fail
  refine Split.isF f2 ?_
  repeat' first | refine Split.isF f2 ?_ | refine Split.isF f1 ?_ | refine Split.t ?_ | refine Split.f ?_ | fail
  refine CallW.mk' ((valid_det t z.ks z.w z.h z.kerf (by omega) hl).eq (by rw [hvz])) ?_
  have f3 : (!((e == 0) == (e == 0))) = false := by cases (e == 0) <;> rfl
  repeat' first | refine Split.isF f2 ?_ | refine Split.isF f1 ?_ | refine Split.isF f3 ?_ | refine Split.t ?_ | refine Split.f ?_ | fail
  refine Need.mk (by kernel_rfl) ?_
  repeat' first | refine Split.isF f2 ?_ | refine Split.isF f1 ?_ | refine Split.isF f3 ?_ | refine Split.t ?_ | refine Split.f ?_ | fail
  have s2 := rstages_det t (by omega)
  refine CallW.int (stages_det t (by omega)) (fun s hs => ?_)
  rw [← hs] at s2
  repeat' first | refine Split.isF f2 ?_ | refine Split.isF f1 ?_ | refine Split.isF f3 ?_ | refine Split.t ?_ | refine Split.f ?_ | fail
  refine CallW.mk' s2 ?_
  have f4 : (s != s) = false := bne_self_eq_false _
  repeat' first | refine Split.isF f2 ?_ | refine Split.isF f1 ?_ | refine Split.isF f3 ?_ | refine Split.isF f4 ?_ | refine Split.t ?_ | refine Split.f ?_ | fail
  clear hs s2 r2 hvz f1 f2 f3 f4
  refine Loop.by (α := Nat) (fun i => [(1, .d (.one (ndS t))), (2, tint n), (3, .ptr 3 0), (7, .d (.one (ndS t))), (8, .d (.one (kS z.ks))), (9, .d (.one (plS l))), (11, .d (.one (plS l))), (91, tint l.length), (92, tint i)]) (fun _ => [(3, .box (pzL z))]) (fun i => i ≤ l.length) (fun i => l.length - i)
    (Adj.at 0 (Nat.zero_le _) (.cons (.box (LLe.of_eq rfl)) .nil) (.cons .same (.cons .same (.cons (.box rfl rfl) (.cons .same (.cons .same (.cons .same (.cons .same (.cons .same (.cons .same .nil)))))))))) (fun i hi => ?_)
  refine Split.mk (fun hc => ?_) (fun hc => ?_)
  · have hil : i < l.length := by have := of_decide_eq_true hc; omega
    refine Need.mk (by omega) ?_
    refine Need.mk (by omega) ?_
    refine EqW.plr (plget l i) ?_
    refine Need.mk (by kernel_rfl) ?_
    refine Split.f ?_
    exact Adj.back (x := i) (i + 1) (by omega) (by omega) (.cons (.box (LLe.of_eq rfl)) .nil) (.cons .same (.cons .same (.cons (.box rfl rfl) (.cons .same (.cons .same (.cons .same (.cons .same (.cons .same (.cons (SlotLe.int (hS i (by omega))) .nil)))))))))
  refine Loop.by (α := Nat) (fun i => [(1, .d (.one (ndS t))), (3, .ptr 3 0), (7, .d (.one (ndS t))), (8, .d (.one (kS z.ks))), (108, .d (.one (iS [n, (z.ks.length : Int)]))), (109, tint 2), (110, tint i)]) (fun _ => [(3, .box (pzL z))]) (fun i => i ≤ 2) (fun i => 2 - i)
    (Adj.at 0 (Nat.zero_le _) (.cons (.box (LLe.of_eq rfl)) .nil) (.cons .same (.cons (.box rfl rfl) (.cons .same (.cons .same (.cons (.data (DLe.one (SLe.slN rfl (fun i hi j hj => ?_)))) (.cons .same (.cons .same .nil)))))))) (fun i hi => ?_)
  · match i, hi, j, hj with
    | 0, _, 0, _ => exact SLe.refl _
    | 1, _, 0, _ => exact SLe.refl _
  refine Split.mk (fun hc => ?_) (fun hc => ?_)
  · have hil : i < 2 := by have := of_decide_eq_true hc; omega
    refine Need.mk (by show 0 ≤ (i : Int) ∧ (i : Int) < (2 : Int); omega) ?_
    have c2 := rcounts_det t (iget [n, (z.ks.length : Int)] i) (by omega)
    have hCl : (countR t (iget [n, (z.ks.length : Int)] i)).length ≤ 20 := by
      unfold countR
      split
      · rename_i h
        rw [inB_iff] at h
        rw [cT_len]; omega
      · exact Nat.zero_le _
    refine CallW.lst (counts_det t (iget [n, (z.ks.length : Int)] i) (by omega)) (fun C hC => ?_)
    rw [← hC] at c2 hCl
    refine CallW.mk' c2 ?_
    have f2 : (((C.length : Nat) : Int) != ((C.length : Nat) : Int)) = false := bne_self_eq_false _
    refine Split.isF f2 ?_
    clear c2 hC
    refine Loop.by (α := Nat) (fun j => [(1, .d (.one (ndS t))), (3, .ptr 3 0), (7, .d (.one (ndS t))), (8, .d (.one (kS z.ks))), (108, .d (.one (iS [n, (z.ks.length : Int)]))), (109, tint 2), (110, tint i), (16, .d (.one (iS C))), (17, .d (.one (iS C))), (126, tint C.length), (127, tint j)]) (fun _ => [(3, .box (pzL z))]) (fun j => j ≤ C.length) (fun j => C.length - j)
      (Adj.at 0 (Nat.zero_le _) (.cons (.box (LLe.of_eq rfl)) .nil) (.cons .same (.cons (.box rfl rfl) (.cons .same (.cons .same (.cons .same (.cons .same (.cons .same (.cons .same (.cons .same (.cons .same (.cons .same .nil)))))))))))) (fun j hj => ?_)
    refine Split.mk (fun hc => ?_) (fun hc => ?_)
    · have hjl : j < C.length := by have := of_decide_eq_true hc; omega
      refine Need.mk (by omega) ?_
      refine Need.mk (by omega) ?_
      refine Need.mk (by kernel_rfl) ?_
      have f3 : (iget C j != iget C j) = false := bne_self_eq_false _
      refine Split.isF f3 ?_
      exact Adj.back (x := j) (j + 1) (by omega) (by omega) (.cons (.box (LLe.of_eq rfl)) .nil) (.cons .same (.cons (.box rfl rfl) (.cons .same (.cons .same (.cons .same (.cons .same (.cons .same (.cons .same (.cons .same (.cons .same (.cons (SlotLe.int (hS j (by omega))) .nil)))))))))))
    · exact Adj.back (x := i) (i + 1) (by omega) (by omega) (.cons (.box (LLe.of_eq rfl)) .nil) (.cons .same (.cons (.box rfl rfl) (.cons .same (.cons .same (.cons .same (.cons .same (.cons (SlotLe.int (hS i (by omega))) .nil)))))))
  · have v2 := rvalue_det t z.ks (by omega) (by omega)
    refine CallW.int (value_det t z.ks (by omega) (by omega)) (fun m hm => ?_)
    rw [← hm] at v2
    refine CallW.mk' v2 ?_
    refine Need.mk (by kernel_rfl) ?_
    refine Fin.bool ?_
    show (m == m) = true
    simp
theorem ltrees_all : ∀ dvs, TypL Try.prog Try.f14.params.toList dvs → Det Try.prog 14 dvs (tbool true) := by
  intro dvs h
  obtain ⟨v0, r0, rfl, h0, q0⟩ := TypL.inv_cons (t := 24) (ts := [37, 3]) h
  obtain ⟨v1, r1, rfl, h1, q1⟩ := TypL.inv_cons (t := 37) (ts := [3]) q0
  obtain ⟨v2, r2, rfl, h2, q2⟩ := TypL.inv_cons (t := 3) (ts := []) q1
  obtain rfl := TypL.inv_nil q2
  obtain ⟨z, hz, _, _, _, hle⟩ := pzIn h0
  obtain ⟨t, ht, hle2⟩ := ndsIn h1
  obtain ⟨a, rfl, _⟩ := TypD.i64 (by kernel_rfl) rfl h2
  exact Det.le (.cons hle (.cons hle2 (.cons (DLe.refl _) .nil))) (ltrees_det z t a hz)
end St
end Go.Vm
