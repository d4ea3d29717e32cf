/-
  Layer 37: the contract of Best.
  Layer 37: the contract of Best.
-/
import Derived.Test.YtfoblfchkgapoaaStpF
import Derived.Test.YtfoblfchkgapoaaVmX
namespace Go.Vm
set_option maxRecDepth 20000
set_option linter.unusedVariables false
set_option linter.unusedSimpArgs false
open Go Go.RowKit Go.Proofs
namespace St

def ixI : List Int → Int → Nat → Int
  | [], _, _ => -1
  | k :: r, x, i => if x = k then i else ixI r x (i + 1)
theorem ixI_drop (l : List Int) (x : Int) (k : Nat) (hk : k < l.length) : ixI (l.drop k) x k = if x = iget l k then (k : Int) else ixI (l.drop (k + 1)) x (k + 1) := by
  rw [List.drop_eq_getElem_cons hk, ixI]
  simp [iget, List.getD, hk]
theorem ixI_mem (x : Int) (l : List Int) : ∀ i, decide (ixI l x i ≥ 0) = decide (x ∈ l) := by
  induction l with
  | nil => intro i; simp [ixI]
  | cons k r ih =>
    intro i
    rw [ixI]
    split
    · rename_i h
      rw [decide_eq_true (show (i : Int) ≥ 0 by omega), decide_eq_true (by simp [h])]
    · rename_i h
      rw [ih, decide_eq_decide]
      simp [h]
theorem indexI_det (l : List Int) (x : Int) (hl : l.length ≤ 100000000) : Det Try.prog 78 [.one (iS l), .one (i64 x)] (tint (ixI l x 0)) := by
  refine det_of_awp TTok mixed Try.func78 rfl rfl [] (Nat.le_of_ble_eq_true rfl) ?_
  refine Loop.by (α := Nat) (fun k => [(0, .d (.one (iS l))), (1, tint x), (7, tint l.length), (8, tint k)]) (fun _ => []) (fun k => k ≤ l.length ∧ ixI l x 0 = ixI (l.drop k) x k) (fun k => l.length - k)
    (Adj.at 0 ⟨Nat.zero_le _, by rw [List.drop_zero]⟩ .nil (.cons .same (.cons .same (.cons .same (.cons .same .nil))))) (fun k hk => ?_)
  obtain ⟨hk, hx⟩ := hk
  refine Split.mk (fun h => ?_) (fun h => ?_)
  · have hlt : k < l.length := by have := of_decide_eq_true h; omega
    have hd := ixI_drop l x k hlt
    refine Need.mk (by omega) ?_
    show Split (x == iget l k) _
    refine Split.mk (fun g => ?_) (fun g => ?_)
    · refine Fin.int ?_
      rw [hx, hd, if_pos (by simpa using g)]
    · refine Adj.back (x := k) (k + 1) ⟨by omega, by rw [hx, hd, if_neg (by simpa using g)]⟩ (by omega) .nil (.cons .same (.cons .same (.cons .same (.cons (SlotLe.int (hS k (by omega))) .nil))))
  · have he : k = l.length := by have := of_decide_eq_false h; omega
    refine Fin.int ?_
    rw [hx, he, List.drop_length]
    rfl
theorem containsI_det (l : List Int) (x : Int) (hl : l.length ≤ 100000000) : Det Try.prog 47 [.one (iS l), .one (i64 x)] (tbool (decide (x ∈ l))) := by
  refine det_of_awp TTok mixed Try.func47 rfl rfl [] (Nat.le_of_ble_eq_true rfl) ?_
  refine CallW.int (indexI_det l x hl) (fun n hn => ?_)
  refine Fin.bool ?_
  rw [hn, ixI_mem]
/-! ### the strips of all heights -/
def selF (ks : List Knd) (kerf hh : Int) : Nat → List Itm
  | 0 => []
  | i + 1 => if (kget ks i).h ≤ hh then selF ks kerf hh i ++ [⟨(kget ks i).w + kerf, (kget ks i).v⟩] else selF ks kerf hh i
def numF (ks : List Knd) (hh : Int) : Nat → List Int
  | 0 => []
  | i + 1 => if (kget ks i).h ≤ hh then numF ks hh i ++ [(i : Int)] else numF ks hh i
theorem sel_num (ks : List Knd) (kerf hh : Int) : ∀ i, (selF ks kerf hh i).length = (numF ks hh i).length
  | 0 => rfl
  | i + 1 => by
    rw [selF, numF]
    split
    · rw [List.length_append, List.length_append, sel_num ks kerf hh i]; rfl
    · exact sel_num ks kerf hh i
theorem num_len (ks : List Knd) (hh : Int) : ∀ i, (numF ks hh i).length ≤ i
  | 0 => Nat.le_refl _
  | i + 1 => by
    have := num_len ks hh i
    rw [numF]
    split
    · rw [List.length_append, List.length_singleton]; omega
    · omega
theorem num_lt (ks : List Knd) (hh : Int) : ∀ i, ∀ x ∈ numF ks hh i, 0 ≤ x ∧ x < i ∧ (kget ks x.toNat).h ≤ hh
  | 0, x, h => by cases h
  | i + 1, x, h => by
    rw [numF] at h
    split at h
    · rename_i hc
      rcases List.mem_append.1 h with h | h
      · obtain ⟨a, b, c⟩ := num_lt ks hh i x h
        exact ⟨a, by omega, c⟩
      · obtain rfl : x = i := by simpa using h
        exact ⟨by omega, by omega, by rw [Int.toNat_natCast]; exact hc⟩
    · obtain ⟨a, b, c⟩ := num_lt ks hh i x h
      exact ⟨a, by omega, c⟩
theorem sel_mem (ks : List Knd) (kerf hh : Int) : ∀ i, ∀ x ∈ selF ks kerf hh i, ∃ j, j < i ∧ x = ⟨(kget ks j).w + kerf, (kget ks j).v⟩ ∧ (kget ks j).h ≤ hh
  | 0, x, h => by cases h
  | i + 1, x, h => by
    rw [selF] at h
    split at h
    · rename_i hc
      rcases List.mem_append.1 h with h | h
      · obtain ⟨j, a, b⟩ := sel_mem ks kerf hh i x h
        exact ⟨j, by omega, b⟩
      · obtain rfl := List.mem_singleton.1 h
        exact ⟨i, by omega, rfl, hc⟩
    · obtain ⟨j, a, b⟩ := sel_mem ks kerf hh i x h
      exact ⟨j, by omega, b⟩
theorem itget_mem {l : List Itm} {i : Nat} (h : i < l.length) : itget l i ∈ l := by
  unfold itget
  rw [List.getD, List.getElem?_eq_getElem h]
  exact List.getElem_mem h
theorem sel_its {ks : List Knd} {kerf hh : Int} (p : KsOk ks kerf) {n : Nat} (hn : n ≤ ks.length) : Its (selF ks kerf hh n) 1000000 := by
  have k0 := p.k0
  have k1 := p.k1
  refine ⟨fun i hi => ?_, fun i hi => ?_, by decide⟩
  · obtain ⟨j, hj, e, _⟩ := sel_mem ks kerf hh n _ (itget_mem hi)
    have := p.at' (i := j) (by omega)
    have := this.w0; have := p.at' (i := j) (by omega)
    have := this.w1
    rw [e]
    constructor
    · show 1 ≤ _ + kerf; omega
    · show _ + kerf ≤ 100000; omega
  · obtain ⟨j, hj, e, _⟩ := sel_mem ks kerf hh n _ (itget_mem hi)
    have q := p.at' (i := j) (by omega)
    rw [e]
    exact ⟨q.v0, q.v1⟩
structure Stp where
  h : Int
  v : Int
  c : List Int
abbrev st0 : Stp := ⟨0, 0, []⟩
def capI (n : Int) : Nat := n.toNat
def valOf (ks : List Knd) (kerf w hh : Int) : Int := (kV (selF ks kerf hh ks.length) (capI (w + kerf) + 1)).getD (capI (w + kerf)) 0
def colsOf (ks : List Knd) (kerf w hh : Int) : List Int := (tkL (selF ks kerf hh ks.length) (capI (w + kerf))).map fun i => iget (numF ks hh ks.length) i.toNat
def stpF (ks : List Knd) (kerf w h : Int) : Nat → List Stp
  | 0 => []
  | n + 1 => if (kget ks n).h > h ∨ (kget ks n).h ∈ (stpF ks kerf w h n).map Stp.h then stpF ks kerf w h n else stpF ks kerf w h n ++ [⟨(kget ks n).h, valOf ks kerf w (kget ks n).h, colsOf ks kerf w (kget ks n).h⟩]
def itmS (kerf : Int) (s : Stp) : Itm := ⟨s.h + kerf, s.v⟩
def stsF (ks : List Knd) (kerf w h : Int) : List Stp := stpF ks kerf w h ks.length
def psF (ks : List Knd) (kerf w h : Int) : List (Int × List Int) := (tkL ((stsF ks kerf w h).map (itmS kerf)) (capI (h + kerf))).map fun i => (((stsF ks kerf w h).getD i.toNat st0).h, ((stsF ks kerf w h).getD i.toNat st0).c)
def bestV (ks : List Knd) (w h kerf : Int) : Int := (kV ((stsF ks kerf w h).map (itmS kerf)) (capI (h + kerf) + 1)).getD (capI (h + kerf)) 0
def bestT (ks : List Knd) (w h kerf : Int) : List Nd := sheetT ks kerf (psF ks kerf w h) w h 0
/-- What Best returns. -/
def bestR (ks : List Knd) (w h kerf : Int) : Int × List Nd × Int := if probB ks w h kerf = false then (0, [], 1) else if manyB ks w h kerf = true then (0, [], 9) else (bestV ks w h kerf, bestT ks w h kerf, 0)
abbrev bestE (x : Int × List Nd × Int) : TV := .tup [.one (i64 x.1), .one (ndS x.2.1), .one (i64 x.2.2)]
theorem stp_len (ks : List Knd) (kerf w h : Int) : ∀ n, (stpF ks kerf w h n).length ≤ n
  | 0 => Nat.le_refl _
  | n + 1 => by
    have := stp_len ks kerf w h n
    rw [stpF]
    split
    · omega
    · rw [List.length_append, List.length_singleton]; omega
theorem stp_mem (ks : List Knd) (kerf w h : Int) : ∀ n, ∀ s ∈ stpF ks kerf w h n, ∃ j, j < n ∧ (kget ks j).h ≤ h ∧ s = ⟨(kget ks j).h, valOf ks kerf w (kget ks j).h, colsOf ks kerf w (kget ks j).h⟩
  | 0, s, hs => by cases hs
  | n + 1, s, hs => by
    rw [stpF] at hs
    split at hs
    · obtain ⟨j, a, b⟩ := stp_mem ks kerf w h n s hs
      exact ⟨j, by omega, b⟩
    · rename_i hc
      rcases List.mem_append.1 hs with hs | hs
      · obtain ⟨j, a, b⟩ := stp_mem ks kerf w h n s hs
        exact ⟨j, by omega, b⟩
      · obtain rfl := List.mem_singleton.1 hs
        exact ⟨n, by omega, by omega, rfl⟩
theorem tkF_len {its : List Itm} {M : Int} (H : Its its M) {cap : Nat} : ∀ f c, c ≤ cap → (tkF its (kT its (cap + 1)) f c).length ≤ c ∧ ∀ x ∈ tkF its (kT its (cap + 1)) f c, 0 ≤ x ∧ x < its.length
  | 0, c, _ => ⟨Nat.zero_le _, fun x h => by cases h⟩
  | f + 1, c, hc => by
    rw [tkF]
    split
    · rename_i h
      obtain ⟨t1, t2, t3, t4⟩ := (take_ok H hc).resolve_left (fun w => by rw [w] at h; omega)
      obtain ⟨i1, i2⟩ := tkF_len (cap := cap) H f (c - (itget its ((kT its (cap + 1)).getD c 0).toNat).s.toNat) (by omega)
      refine ⟨by rw [List.length_cons]; omega, fun x hx => ?_⟩
      rcases List.mem_cons.1 hx with rfl | hx
      · exact ⟨t1, t2⟩
      · exact i2 x hx
    · exact ⟨Nat.zero_le _, fun x h => by cases h⟩
theorem tk_len {its : List Itm} {M : Int} (H : Its its M) (cap : Nat) : (tkL its cap).length ≤ cap ∧ ∀ x ∈ tkL its cap, 0 ≤ x ∧ x < its.length := tkF_len H _ _ (Nat.le_refl _)
section
variable {ks : List Knd} {w h kerf : Int} (p : Pb ks w h kerf)
include p
theorem Pb.kok : KsOk ks kerf := ⟨p.ok, by have := p.len; omega, p.k0, p.k1⟩
theorem Pb.capw : ((capI (w + kerf) : Nat) : Int) = w + kerf ∧ capI (w + kerf) ≤ 2050 := by
  have := p.w0; have := p.w1; have := p.k0; have := p.k1
  unfold capI
  omega
theorem Pb.caph : ((capI (h + kerf) : Nat) : Int) = h + kerf ∧ capI (h + kerf) ≤ 2050 := by
  have := p.h0; have := p.h1; have := p.k0; have := p.k1
  unfold capI
  omega
theorem val_bd (hh : Int) : 0 ≤ valOf ks kerf w hh ∧ valOf ks kerf w hh ≤ 2050000000 := by
  obtain ⟨b1, b2⟩ := kV_bd (sel_its (hh := hh) p.kok (Nat.le_refl _)) (capI (w + kerf) + 1) (capI (w + kerf)) (Nat.lt_succ_self _)
  have := p.capw.2
  unfold valOf
  omega
theorem cols_ok (hh : Int) : (colsOf ks kerf w hh).length ≤ 2050 ∧ ∀ c ∈ colsOf ks kerf w hh, 0 ≤ c ∧ c < ks.length ∧ (kget ks c.toNat).h ≤ hh := by
  obtain ⟨a, b⟩ := tk_len (sel_its (hh := hh) p.kok (Nat.le_refl _)) (capI (w + kerf))
  have := p.capw.2
  refine ⟨by unfold colsOf; rw [List.length_map]; omega, fun c hc => ?_⟩
  obtain ⟨i, hi, rfl⟩ := List.mem_map.1 hc
  obtain ⟨b1, b2⟩ := b i hi
  have hl := sel_num ks kerf hh ks.length
  refine num_lt ks hh ks.length _ ?_
  unfold iget
  rw [List.getD, List.getElem?_eq_getElem (by omega)]
  exact List.getElem_mem (by omega)
theorem sts_its (n : Nat) (hn : n ≤ ks.length) : Its ((stpF ks kerf w h n).map (itmS kerf)) 2050000000 := by
  have k0 := p.k0
  have k1 := p.k1
  have key : ∀ i, i < ((stpF ks kerf w h n).map (itmS kerf)).length → ∃ j, j < n ∧ itget ((stpF ks kerf w h n).map (itmS kerf)) i = ⟨(kget ks j).h + kerf, valOf ks kerf w (kget ks j).h⟩ := fun i hi => by
    obtain ⟨s, hs, e⟩ := List.mem_map.1 (itget_mem hi)
    obtain ⟨j, a, _, rfl⟩ := stp_mem ks kerf w h n s hs
    exact ⟨j, a, e.symm⟩
  refine ⟨fun i hi => ?_, fun i hi => ?_, by decide⟩
  · obtain ⟨j, hj, e⟩ := key i hi
    have q := p.at' (i := j) (by omega)
    have := q.h0; have := q.h1
    rw [e]
    constructor
    · show 1 ≤ _ + kerf; omega
    · show _ + kerf ≤ 100000; omega
  · obtain ⟨j, hj, e⟩ := key i hi
    rw [e]
    exact val_bd p _
theorem ps_ok : (psF ks kerf w h).length ≤ 2050 ∧ ∀ x ∈ psF ks kerf w h, (∃ j, j < ks.length ∧ (kget ks j).h ≤ h ∧ x = ((kget ks j).h, colsOf ks kerf w (kget ks j).h)) := by
  obtain ⟨a, b⟩ := tk_len (sts_its p ks.length (Nat.le_refl _)) (capI (h + kerf))
  have := p.caph.2
  refine ⟨by unfold psF stsF; rw [List.length_map]; omega, fun x hx => ?_⟩
  obtain ⟨i, hi, rfl⟩ := List.mem_map.1 hx
  obtain ⟨b1, b2⟩ := b i hi
  rw [List.length_map] at b2
  have hm : (stsF ks kerf w h).getD i.toNat st0 ∈ stsF ks kerf w h := by
    rw [List.getD, List.getElem?_eq_getElem (by unfold stsF; omega)]
    exact List.getElem_mem _
  obtain ⟨j, c1, c2, c3⟩ := stp_mem ks kerf w h _ _ hm
  exact ⟨j, c1, c2, by rw [c3]⟩
theorem ps_cols : ∀ x ∈ psF ks kerf w h, ColsOk ks w x := fun x hx => by
  obtain ⟨j, hj, hh, rfl⟩ := (ps_ok p).2 x hx
  obtain ⟨c1, c2⟩ := cols_ok p (kget ks j).h
  have q := p.at' hj
  have := p.w0
  exact ⟨fun c hc => ⟨(c2 c hc).1, (c2 c hc).2.1⟩, by show -900000000 + 3000 * ((colsOf ks kerf w (kget ks j).h).length : Int) ≤ w; omega, by have := q.h0; show 0 ≤ (kget ks j).h; omega, q.h1⟩
end
theorem colT_len (ks : List Knd) (k h : Int) (b : Nat) : (colT ks k h b).length ≤ 3 := by
  unfold colT
  split
  · simp
  · simp [cutT]
theorem stripT_len (ks : List Knd) (kerf : Int) : ∀ (cols : List Int) (w h : Int) (b : Nat), (stripT ks kerf cols w h b).length ≤ 4 * cols.length + 3
  | [], _, _, _ => by simp [stripT]
  | k :: r, w, h, b => by
    rw [stripT]
    split
    · have := colT_len ks k h b
      rw [List.length_cons]; omega
    · have h1 := colT_len ks k h (b + 1)
      have h2 := stripT_len ks kerf r (w - (kget ks k.toNat).w - kerf) h (b + 1 + (colT ks k h (b + 1)).length)
      simp only [cutT, List.length_cons, List.length_append]
      omega
theorem sheetT_len (ks : List Knd) (kerf : Int) (n : Nat) : ∀ (ps : List (Int × List Int)) (w h : Int) (b : Nat), (∀ x ∈ ps, x.2.length ≤ n) → (sheetT ks kerf ps w h b).length ≤ ps.length * (4 * n + 4) + 4 * n + 3
  | [], _, _, _, _ => by simp [sheetT]
  | x :: r, w, h, b, hp => by
    have hx := hp x (by simp)
    rw [sheetT]
    have hm : (x :: r).length * (4 * n + 4) = r.length * (4 * n + 4) + (4 * n + 4) := by rw [List.length_cons, Nat.add_mul, Nat.one_mul]
    split
    · have := stripT_len ks kerf x.2 w h b
      omega
    · have h1 := stripT_len ks kerf x.2 w x.1 (b + 1)
      have h2 := sheetT_len ks kerf n r w (h - x.1 - kerf) (b + 1 + (stripT ks kerf x.2 w x.1 (b + 1)).length) (fun y hy => hp y (by simp [hy]))
      simp only [cutT, List.length_cons, List.length_append] at hm ⊢
      omega
theorem bestT_len {ks : List Knd} {w h kerf : Int} (p : Pb ks w h kerf) : (bestT ks w h kerf).length ≤ 20000000 := by
  have h1 := (ps_ok p).1
  have := sheetT_len ks kerf 2050 (psF ks kerf w h) w h 0 (fun x hx => by
    obtain ⟨j, _, _, rfl⟩ := (ps_ok p).2 x hx
    exact (cols_ok p (kget ks j).h).1)
  have h2 := Nat.mul_le_mul_right (4 * 2050 + 4) h1
  unfold bestT
  omega
end St
end Go.Vm
namespace Go.Vm
set_option maxRecDepth 20000
set_option linter.unusedVariables false
set_option linter.unusedSimpArgs false
open Go Go.RowKit Go.Proofs
namespace St

theorem CallW.lst {P : Program} {f : FuncId} {args : List DV} {K : TV → Prop} {a : List Int} (h : Det P f args (.d (.one (iS a)))) (kk : ∀ x, x = a → K (.d (.one (iS x)))) : CallW P f args K := ⟨_, h, kk a rfl⟩
abbrev bI (l : List Int) : Mem := .bld 0 l.length 1 3 (lG iL 0 l)
abbrev bT (l : List Itm) : Mem := .bld 0 l.length 2 86 (lG itL it0 l)
abbrev bC (l : List (List Int)) : Mem := .bld 0 l.length 1 53 (lG ccL [] l)
theorem take_snoc {α : Type} (l : List α) (d : α) (j : Nat) (hj : j < l.length) : l.take (j + 1) = l.take j ++ [l.getD j d] := by
  rw [List.take_succ_eq_append_getElem hj]
  simp [List.getD, hj]
theorem getD_map {α β : Type} (f : α → β) (l : List α) (d : α) (d' : β) (i : Nat) (hi : i < l.length) : (l.map f).getD i d' = f (l.getD i d) := by simp [List.getD, hi]
theorem best_det (ks : List Knd) (w h kerf : Int) (hl : ks.length ≤ maxLen) : Det Try.prog 18 [.one (kS ks), .one (i64 w), .one (i64 h), .one (i64 kerf)] (bestE (bestR ks w h kerf)) := by
  refine det_of_awp TTok mixed Try.func18 rfl rfl [21, 28, 30, 39, 50 + 2000000] (Nat.le_of_ble_eq_true rfl) ?_
  refine CallW.bool (problem_det ks w h kerf hl) (fun b hb => ?_)
  refine Split.mk (fun h1 => ?_) (fun h1 => ?_)
  · have : probB ks w h kerf = false := by rw [← hb]; simpa using h1
    rw [bestR, if_pos this]
    exact Fin.tup (.cons (DLe.refl _) (.cons (DLe.one (SLe.nil _ _)) (.cons (DLe.refl _) .nil)))
  have hp : probB ks w h kerf = true := by rw [← hb]; simpa using h1
  have p := prob_iff.1 hp
  have hlen := p.len
  refine CallW.bool (many_det ks w h kerf p) (fun b2 hb2 => ?_)
  refine Split.mk (fun h2 => ?_) (fun h2 => ?_)
  · rw [bestR, if_neg (by rw [hp]; simp), if_pos (by rw [← hb2, h2])]
    exact Fin.tup (.cons (DLe.refl _) (.cons (DLe.one (SLe.nil _ _)) (.cons (DLe.refl _) .nil)))
  have hR : bestR ks w h kerf = (bestV ks w h kerf, bestT ks w h kerf, 0) := by rw [bestR, if_neg (by rw [hp]; simp), if_neg (by rw [← hb2, h2]; simp)]
  rw [hR]
  obtain ⟨cw1, cw2⟩ := p.capw
  obtain ⟨ch1, ch2⟩ := p.caph
  have k0 := p.k0; have k1 := p.k1; have w0 := p.w0; have w1 := p.w1; have h0 := p.h0; have hh1 := p.h1
  have ew : IntKind.i64.wrap (w + kerf) = ((capI (w + kerf) : Nat) : Int) := by rw [hw _ (by omega) (by omega), cw1]
  have eh : IntKind.i64.wrap (h + kerf) = ((capI (h + kerf) : Nat) : Int) := by rw [hw _ (by omega) (by omega), ch1]
  refine Loop.by (α := Nat) (fun n => [(0, .d (.one (kS ks))), (1, tint w), (2, tint h), (3, tint kerf), (11, .hdl 126 0), (12, .hdl 131 0), (13, .hdl 135 0), (43, .d (.one (kS ks))), (44, tint ks.length), (45, tint n)])
    (fun n => [(126, bT ((stpF ks kerf w h n).map (itmS kerf))), (131, bI ((stpF ks kerf w h n).map Stp.h)), (135, bC ((stpF ks kerf w h n).map Stp.c))]) (fun n => n ≤ ks.length) (fun n => ks.length - n)
    (Adj.nil 11 126 2 86 (lG itL it0 []) rfl rfl (Adj.nil 12 131 1 3 (lG iL 0 []) rfl rfl (Adj.nil 13 135 1 53 (lG ccL [] []) rfl rfl
      (Adj.at 0 (Nat.zero_le _) (.cons (.bld (fun _ h => absurd h (Nat.not_lt_zero _))) (.cons (.bld (fun _ h => absurd h (Nat.not_lt_zero _))) (.cons (.bld (fun _ h => absurd h (Nat.not_lt_zero _))) .nil)))
        (.cons .same (.cons .same (.cons .same (.cons .same (.cons (.hdl rfl rfl) (.cons (.hdl rfl rfl) (.cons (.hdl rfl rfl) (.cons .same (.cons .same (.cons .same .nil)))))))))))))) (fun n hn => ?_)
  refine Split.mk (fun hc => ?_) (fun hc => ?_)
  · have hlt : n < ks.length := by have := of_decide_eq_true hc; omega
    have hsl := stp_len ks kerf w h n
    have hS1 : stpF ks kerf w h (n + 1) = if (kget ks n).h > h ∨ (kget ks n).h ∈ (stpF ks kerf w h n).map Stp.h then stpF ks kerf w h n else stpF ks kerf w h n ++ [⟨(kget ks n).h, valOf ks kerf w (kget ks n).h, colsOf ks kerf w (kget ks n).h⟩] := rfl
    refine Need.mk (by omega) ?_
    show Split (decide ((kget ks n).h > h)) _
    refine Split.mk (fun c1 => ?_) (fun c1 => ?_)
    · repeat' first | refine Split.isT c1 ?_ | refine Split.t ?_ | refine Split.f ?_ | fail
      have e := hS1.trans (if_pos (.inl (of_decide_eq_true c1)))
      refine Adj.back (x := n) (n + 1) (by omega) (by omega) (.cons (.bldN (by rw [e]) (fun _ _ _ _ => SLe.of_eq (by rw [e]))) (.cons (.bldN (by rw [e]) (fun _ _ _ _ => SLe.of_eq (by rw [e]))) (.cons (.bldN (by rw [e]) (fun _ _ _ _ => SLe.of_eq (by rw [e]))) .nil)))
        (.cons .same (.cons .same (.cons .same (.cons .same (.cons (.hdl rfl rfl) (.cons (.hdl rfl rfl) (.cons (.hdl rfl rfl) (.cons .same (.cons .same (.cons (SlotLe.int (hS n (by omega))) .nil))))))))))
    have c1' : ¬ (kget ks n).h > h := of_decide_eq_false c1
    repeat' first | refine Split.isF c1 ?_ | refine Split.t ?_ | refine Split.f ?_ | fail
    refine CallW.bool (containsI_det ((stpF ks kerf w h n).map Stp.h) (kget ks n).h (by rw [List.length_map]; omega)) (fun b3 hb3 => ?_)
    repeat' first | refine Split.isF c1 ?_ | refine Split.t ?_ | refine Split.f ?_ | fail
    refine Split.mk (fun c2 => ?_) (fun c2 => ?_)
    · have e := hS1.trans (if_pos (.inr (of_decide_eq_true (by rw [← hb3, c2]))))
      refine Adj.back (x := n) (n + 1) (by omega) (by omega) (.cons (.bldN (by rw [e]) (fun _ _ _ _ => SLe.of_eq (by rw [e]))) (.cons (.bldN (by rw [e]) (fun _ _ _ _ => SLe.of_eq (by rw [e]))) (.cons (.bldN (by rw [e]) (fun _ _ _ _ => SLe.of_eq (by rw [e]))) .nil)))
        (.cons .same (.cons .same (.cons .same (.cons .same (.cons (.hdl rfl rfl) (.cons (.hdl rfl rfl) (.cons (.hdl rfl rfl) (.cons .same (.cons .same (.cons (SlotLe.int (hS n (by omega))) .nil))))))))))
    have c2' : ¬ (kget ks n).h ∈ (stpF ks kerf w h n).map Stp.h := of_decide_eq_false (by rw [← hb3, c2])
    have e := hS1.trans (if_neg (fun q => q.elim c1' c2'))
    clear hS1
    generalize hSn : stpF ks kerf w h n = Sn at *
    have hslm : ∀ {β : Type} (f : Stp → β), (Sn.map f).length ≤ n := fun f => by rw [List.length_map]; exact hsl
    refine Loop.by (α := Nat) (fun i => [(0, .d (.one (kS ks))), (1, tint w), (2, tint h), (3, tint kerf), (11, .hdl 126 0), (12, .hdl 131 0), (13, .hdl 135 0), (43, .d (.one (kS ks))), (44, tint ks.length), (45, tint n), (15, .ptr 15 0), (16, .hdl 80 0), (17, .hdl 84 0), (59, .d (.one (kS ks))), (60, tint ks.length), (61, tint i)])
      (fun i => [(126, bT (Sn.map (itmS kerf))), (131, bI (Sn.map Stp.h)), (135, bC (Sn.map Stp.c)), (15, .box (kL (kget ks n))), (80, bT (selF ks kerf (kget ks n).h i)), (84, bI (numF ks (kget ks n).h i))]) (fun i => i ≤ ks.length) (fun i => ks.length - i)
      (Adj.nil 16 80 2 86 (lG itL it0 []) rfl rfl (Adj.nil 17 84 1 3 (lG iL 0 []) rfl rfl
        (Adj.at 0 (Nat.zero_le _) (.cons (.bld (fun _ _ _ _ => SLe.refl _)) (.cons (.bld (fun _ _ _ _ => SLe.refl _)) (.cons (.bld (fun _ _ _ _ => SLe.refl _)) (.cons (.box (LLe.refl _)) (.cons (.bld (fun _ h => absurd h (Nat.not_lt_zero _))) (.cons (.bld (fun _ h => absurd h (Nat.not_lt_zero _))) .nil))))))
          (.cons .same (.cons .same (.cons .same (.cons .same (.cons (.hdl rfl rfl) (.cons (.hdl rfl rfl) (.cons (.hdl rfl rfl) (.cons .same (.cons .same (.cons .same (.cons (.box rfl rfl) (.cons (.hdl rfl rfl) (.cons (.hdl rfl rfl) (.cons .same (.cons .same (.cons .same .nil))))))))))))))))))) (fun i hi => ?_)
    have hnl := num_len ks (kget ks n).h i
    have hsn := sel_num ks kerf (kget ks n).h i
    refine Split.mk (fun hc => ?_) (fun hc => ?_)
    · have hil : i < ks.length := by have := of_decide_eq_true hc; omega
      have kw := (p.at' hil).w0
      have kw1 := (p.at' hil).w1
      have es : selF ks kerf (kget ks n).h (i + 1) = if (kget ks i).h ≤ (kget ks n).h then selF ks kerf (kget ks n).h i ++ [⟨(kget ks i).w + kerf, (kget ks i).v⟩] else selF ks kerf (kget ks n).h i := rfl
      have en : numF ks (kget ks n).h (i + 1) = if (kget ks i).h ≤ (kget ks n).h then numF ks (kget ks n).h i ++ [(i : Int)] else numF ks (kget ks n).h i := rfl
      refine Need.mk (by omega) ?_
      show Split (decide ((kget ks i).h ≤ (kget ks n).h)) _
      refine Split.mk (fun c3 => ?_) (fun c3 => ?_)
      · have es' := es.trans (if_pos (of_decide_eq_true c3))
        have en' := en.trans (if_pos (of_decide_eq_true c3))
        refine Need.mk (needApp (n := (selF ks kerf (kget ks n).h i).length + 1) (by omega) (by decide)) ?_
        refine Need.mk (needApp (n := (numF ks (kget ks n).h i).length + 1) (by omega) (by decide)) ?_
        have ekw : IntKind.i64.wrap ((kget ks i).w + kerf) = (kget ks i).w + kerf := hw _ (by omega) (by omega)
        refine Adj.back (x := i) (i + 1) (by omega) (by omega) (.cons (.bld (fun _ _ _ _ => SLe.refl _)) (.cons (.bld (fun _ _ _ _ => SLe.refl _)) (.cons (.bld (fun _ _ _ _ => SLe.refl _)) (.cons (.box (LLe.refl _)) (.cons (.bldN (by rw [es', List.length_append]; rfl) (fun q hq j hj => ?_)) (.cons (.bldN (by rw [en', List.length_append]; rfl) (fun q hq j hj => ?_)) .nil))))))
          (.cons .same (.cons .same (.cons .same (.cons .same (.cons (.hdl rfl rfl) (.cons (.hdl rfl rfl) (.cons (.hdl rfl rfl) (.cons .same (.cons .same (.cons .same (.cons (.box rfl rfl) (.cons (.hdl rfl rfl) (.cons (.hdl rfl rfl) (.cons .same (.cons .same (.cons (SlotLe.int (hS i (by omega))) .nil))))))))))))))))
        · rw [es']
          exact lG_snoc itL it0 _ ⟨(kget ks i).w + kerf, (kget ks i).v⟩ 2 _ q j [i64 (IntKind.i64.wrap ((kget ks i).w + kerf)), i64 (kget ks i).v] (by rw [ekw]) rfl hq hj
        · rw [en']
          exact lG_snoc iL 0 _ (i : Int) 1 _ q j _ rfl rfl hq hj
      · have es' := es.trans (if_neg (of_decide_eq_false c3))
        have en' := en.trans (if_neg (of_decide_eq_false c3))
        refine Adj.back (x := i) (i + 1) (by omega) (by omega) (.cons (.bld (fun _ _ _ _ => SLe.refl _)) (.cons (.bld (fun _ _ _ _ => SLe.refl _)) (.cons (.bld (fun _ _ _ _ => SLe.refl _)) (.cons (.box (LLe.refl _)) (.cons (.bldN (by rw [es']) (fun q hq j hj => SLe.of_eq (by rw [es']))) (.cons (.bldN (by rw [en']) (fun q hq j hj => SLe.of_eq (by rw [en']))) .nil))))))
          (.cons .same (.cons .same (.cons .same (.cons .same (.cons (.hdl rfl rfl) (.cons (.hdl rfl rfl) (.cons (.hdl rfl rfl) (.cons .same (.cons .same (.cons .same (.cons (.box rfl rfl) (.cons (.hdl rfl rfl) (.cons (.hdl rfl rfl) (.cons .same (.cons .same (.cons (SlotLe.int (hS i (by omega))) .nil))))))))))))))))
    have he : i = ks.length := by have := of_decide_eq_false hc; omega
    subst he
    have its := sel_its (hh := (kget ks n).h) p.kok (Nat.le_refl _)
    have hkn := knap_det _ (capI (w + kerf)) 1000000 its (by omega) (by omega) (by decide)
    have htk := taken_det _ (capI (w + kerf)) 1000000 its (by omega) (by omega)
    have tlen := tk_len its (capI (w + kerf))
    have hval : valOf ks kerf w (kget ks n).h = (kV (selF ks kerf (kget ks n).h ks.length) (capI (w + kerf) + 1)).getD (capI (w + kerf)) 0 := rfl
    have hcols : colsOf ks kerf w (kget ks n).h = (tkL (selF ks kerf (kget ks n).h ks.length) (capI (w + kerf))).map fun i => iget (numF ks (kget ks n).h ks.length) i.toNat := rfl
    have hVl := kV_len (selF ks kerf (kget ks n).h ks.length) (capI (w + kerf) + 1)
    refine Cut.mk (Adj.freeze 16 80 0 _ 2 86 _ rfl rfl (Adj.id ?_))
    refine CallW.twoS (hkn.le (.cons (DLe.refl _) (.cons (DLe.of_eq (by rw [ew])) .nil))) (fun V T hV hT => ?_)
    rw [← hT] at htk
    rw [← hV] at hval hVl
    refine CallW.lst (htk.le (.cons (DLe.refl _) (.cons (DLe.refl _) (.cons (DLe.of_eq (by rw [ew])) .nil)))) (fun tk hk => ?_)
    rw [← hk] at hcols tlen
    obtain ⟨tl1, tl2⟩ := tlen
    clear hkn htk its hk hT hV
    generalize numF ks (kget ks n).h ks.length = nm at *
    generalize selF ks kerf (kget ks n).h ks.length = its at *
    refine Loop.by (α := Nat) (fun j => [(0, .d (.one (kS ks))), (1, tint w), (2, tint h), (3, tint kerf), (11, .hdl 126 0), (12, .hdl 131 0), (13, .hdl 135 0), (43, .d (.one (kS ks))), (44, tint ks.length), (45, tint n), (15, .ptr 15 0), (17, .hdl 84 0), (20, .d (.one (iS V))), (99, .d (.one (iS tk))), (100, tint tk.length), (101, tint j), (22, .hdl 111 0)])
      (fun j => [(126, bT (Sn.map (itmS kerf))), (131, bI (Sn.map Stp.h)), (135, bC (Sn.map Stp.c)), (15, .box (kL (kget ks n))), (84, bI nm), (111, bI ((tk.take j).map fun i => iget nm i.toNat))]) (fun j => j ≤ tk.length) (fun j => tk.length - j)
      (Adj.nil 22 111 1 3 (lG iL 0 []) rfl rfl
        (Adj.at 0 (Nat.zero_le _) (.cons (.bld (fun _ _ _ _ => SLe.refl _)) (.cons (.bld (fun _ _ _ _ => SLe.refl _)) (.cons (.bld (fun _ _ _ _ => SLe.refl _)) (.cons (.box (LLe.refl _)) (.cons (.bld (fun _ _ _ _ => SLe.refl _)) (.cons (.bld (fun _ h => absurd h (Nat.not_lt_zero _))) .nil))))))
          (.cons .same (.cons .same (.cons .same (.cons .same (.cons (.hdl rfl rfl) (.cons (.hdl rfl rfl) (.cons (.hdl rfl rfl) (.cons .same (.cons .same (.cons .same (.cons (.box rfl rfl) (.cons (.hdl rfl rfl) (.cons .same (.cons .same (.cons .same (.cons .same (.cons (.hdl rfl rfl) .nil))))))))))))))))))) (fun j hj => ?_)
    refine Split.mk (fun hc => ?_) (fun hc => ?_)
    · have hjl : j < tk.length := by have := of_decide_eq_true hc; omega
      have hmem : iget tk j ∈ tk := by
        unfold iget
        rw [List.getD, List.getElem?_eq_getElem hjl]
        exact List.getElem_mem hjl
      obtain ⟨m0, m1⟩ := tl2 _ hmem
      have et : (tk.take (j + 1)).map (fun i => iget nm i.toNat) = (tk.take j).map (fun i => iget nm i.toNat) ++ [iget nm (iget tk j).toNat] := by
        rw [take_snoc tk 0 j hjl, List.map_append]; rfl
      have hlj : ((tk.take j).map (fun i => iget nm i.toNat)).length = j := by rw [List.length_map, List.length_take]; omega
      refine Need.mk (by omega) ?_
      refine Need.mk (by show 0 ≤ iget tk j ∧ iget tk j < (nm.length : Int); omega) ?_
      refine Need.mk (needApp (n := ((tk.take j).map (fun i => iget nm i.toNat)).length + 1) (by omega) (by decide)) ?_
      refine Adj.back (x := j) (j + 1) (by omega) (by omega) (.cons (.bld (fun _ _ _ _ => SLe.refl _)) (.cons (.bld (fun _ _ _ _ => SLe.refl _)) (.cons (.bld (fun _ _ _ _ => SLe.refl _)) (.cons (.box (LLe.refl _)) (.cons (.bld (fun _ _ _ _ => SLe.refl _)) (.cons (.bldN (by rw [et, List.length_append]; rfl) (fun q hq r hr => ?_)) .nil))))))
          (.cons .same (.cons .same (.cons .same (.cons .same (.cons (.hdl rfl rfl) (.cons (.hdl rfl rfl) (.cons (.hdl rfl rfl) (.cons .same (.cons .same (.cons .same (.cons (.box rfl rfl) (.cons (.hdl rfl rfl) (.cons .same (.cons .same (.cons .same (.cons (SlotLe.int (hS j (by omega))) (.cons (.hdl rfl rfl) .nil)))))))))))))))))
      rw [et]
      exact lG_snoc iL 0 _ (iget nm (iget tk j).toNat) 1 _ q r _ rfl rfl hq hr
    have he : j = tk.length := by have := of_decide_eq_false hc; omega
    subst he
    have etk : ((tk.take tk.length).map fun i => iget nm i.toNat) = colsOf ks kerf w (kget ks n).h := by rw [List.take_length, hcols]
    rw [etk]
    refine Cut.mk (Adj.freeze 22 111 0 _ 1 3 _ rfl rfl (Adj.id ?_))
    have := hslm (itmS kerf)
    have := hslm Stp.h
    have := hslm Stp.c
    refine Need.mk (by rw [ew, hVl]; omega) ?_
    refine Need.mk (needApp (n := (Sn.map (itmS kerf)).length + 1) (by omega) (by decide)) ?_
    refine Need.mk (needApp (n := (Sn.map Stp.h).length + 1) (by omega) (by decide)) ?_
    refine Need.mk (needApp (n := (Sn.map Stp.c).length + 1) (by omega) (by decide)) ?_
    refine Need.mk (by kernel_rfl) ?_
    have kh0 := (p.at' hlt).h0
    have kh1 := (p.at' hlt).h1
    have ekh : IntKind.i64.wrap ((kget ks n).h + kerf) = (kget ks n).h + kerf := hw _ (by omega) (by omega)
    refine Adj.back (x := n) (n + 1) (by omega) (by omega) (.cons (.bldN (by rw [e, List.map_append, List.length_append]; rfl) (fun q hq r hr => ?_)) (.cons (.bldN (by rw [e, List.map_append, List.length_append]; rfl) (fun q hq r hr => ?_)) (.cons (.bldN (by rw [e, List.map_append, List.length_append]; rfl) (fun q hq r hr => ?_)) .nil)))
        (.cons .same (.cons .same (.cons .same (.cons .same (.cons (.hdl rfl rfl) (.cons (.hdl rfl rfl) (.cons (.hdl rfl rfl) (.cons .same (.cons .same (.cons (SlotLe.int (hS n (by omega))) .nil))))))))))
    · rw [e, List.map_append]
      exact lG_snoc itL it0 _ ⟨(kget ks n).h + kerf, valOf ks kerf w (kget ks n).h⟩ 2 _ q r [i64 (IntKind.i64.wrap ((kget ks n).h + kerf)), i64 (iget V (IntKind.i64.wrap (w + kerf)).toNat)] (by rw [ekh, ew, Int.toNat_natCast, hval]) rfl hq hr
    · rw [e, List.map_append]
      exact lG_snoc iL 0 _ (kget ks n).h 1 _ q r _ rfl rfl hq hr
    · rw [e, List.map_append]
      exact lG_snoc ccL [] _ (colsOf ks kerf w (kget ks n).h) 1 _ q r _ rfl rfl hq hr
  have he : n = ks.length := by have := of_decide_eq_false hc; omega
  subst he
  have hsl := stp_len ks kerf w h ks.length
  have its := sts_its p ks.length (Nat.le_refl _)
  have hil : ((stpF ks kerf w h ks.length).map (itmS kerf)).length ≤ ks.length := by rw [List.length_map]; exact hsl
  have hkn := knap_det _ (capI (h + kerf)) 2050000000 its (by omega) (by omega) (by decide)
  have htk := taken_det _ (capI (h + kerf)) 2050000000 its (by omega) (by omega)
  have tlen := tk_len its (capI (h + kerf))
  have hval : bestV ks w h kerf = (kV ((stpF ks kerf w h ks.length).map (itmS kerf)) (capI (h + kerf) + 1)).getD (capI (h + kerf)) 0 := rfl
  have hps : psF ks kerf w h = (tkL ((stpF ks kerf w h ks.length).map (itmS kerf)) (capI (h + kerf))).map fun i => (((stpF ks kerf w h ks.length).getD i.toNat st0).h, ((stpF ks kerf w h ks.length).getD i.toNat st0).c) := rfl
  have hVl := kV_len ((stpF ks kerf w h ks.length).map (itmS kerf)) (capI (h + kerf) + 1)
  refine Cut.mk (Adj.freeze 11 126 0 _ 2 86 _ rfl rfl (Adj.id ?_))
  refine CallW.twoS (hkn.le (.cons (DLe.refl _) (.cons (DLe.of_eq (by rw [eh])) .nil))) (fun V T hV hT => ?_)
  rw [← hT] at htk
  rw [← hV] at hval hVl
  refine CallW.lst (htk.le (.cons (DLe.refl _) (.cons (DLe.refl _) (.cons (DLe.of_eq (by rw [eh])) .nil)))) (fun tk hk => ?_)
  rw [← hk] at hps tlen
  obtain ⟨tl1, tl2⟩ := tlen
  rw [List.length_map] at tl2
  clear hkn htk its hk hT hV
  have hpc := ps_cols p
  have hpl := (ps_ok p).1
  have hbl := bestT_len p
  have hbT : bestT ks w h kerf = sheetT ks kerf (psF ks kerf w h) w h 0 := rfl
  generalize stpF ks kerf w h ks.length = Sn at *
  generalize hpsn : psF ks kerf w h = ps at *
  have hpt : ∀ j, j < tk.length → hsP (ps.take (j + 1)) = hsP (ps.take j) ++ [(Sn.getD (iget tk j).toNat st0).h] ∧ csP (ps.take (j + 1)) = csP (ps.take j) ++ [(Sn.getD (iget tk j).toNat st0).c] := fun j hj => by
    have hjp : j < ps.length := by rw [hps, List.length_map]; exact hj
    have eg : ps.getD j (0, []) = ((Sn.getD (iget tk j).toNat st0).h, (Sn.getD (iget tk j).toNat st0).c) := by
      rw [hps, getD_map (fun i : Int => ((Sn.getD i.toNat st0).h, (Sn.getD i.toNat st0).c)) tk 0 (0, []) j hj]
    rw [take_snoc ps (0, []) j hjp, eg]
    simp [hsP, csP]
  have hpsl : ps.length = tk.length := by rw [hps, List.length_map]
  refine Loop.by (α := Nat) (fun j => [(1, tint w), (2, tint h), (3, tint kerf), (12, .hdl 131 0), (13, .hdl 135 0), (25, .d (.one (iS V))), (27, .ptr 148 0), (28, .hdl 166 0), (29, .hdl 173 0), (154, .d (.one (iS tk))), (155, tint tk.length), (156, tint j)])
    (fun j => [(131, bI (Sn.map Stp.h)), (135, bC (Sn.map Stp.c)), (148, .box [.v (.slice none 0 0), kS ks, i64 kerf]), (166, bI (hsP (ps.take j))), (173, bC (csP (ps.take j)))]) (fun j => j ≤ tk.length) (fun j => tk.length - j)
    (Adj.nil 28 166 1 3 (lG iL 0 []) rfl rfl (Adj.nil 29 173 1 53 (lG ccL [] []) rfl rfl
      (Adj.at 0 (Nat.zero_le _) (.cons (.bld (fun _ _ _ _ => SLe.refl _)) (.cons (.bld (fun _ _ _ _ => SLe.refl _)) (.cons (.box (LLe.of_eq rfl)) (.cons (.bld (fun _ h => absurd h (Nat.not_lt_zero _))) (.cons (.bld (fun _ h => absurd h (Nat.not_lt_zero _))) .nil)))))
        (.cons .same (.cons .same (.cons .same (.cons (.hdl rfl rfl) (.cons (.hdl rfl rfl) (.cons .same (.cons (.box rfl rfl) (.cons (.hdl rfl rfl) (.cons (.hdl rfl rfl) (.cons .same (.cons .same (.cons .same .nil)))))))))))))))  (fun j hj => ?_)
  refine Split.mk (fun hc => ?_) (fun hc => ?_)
  · have hjl : j < tk.length := by have := of_decide_eq_true hc; omega
    have hmem : iget tk j ∈ tk := by
      unfold iget
      rw [List.getD, List.getElem?_eq_getElem hjl]
      exact List.getElem_mem hjl
    obtain ⟨m0, m1⟩ := tl2 _ hmem
    obtain ⟨e1, e2⟩ := hpt j hjl
    have l1 : (hsP (ps.take j)).length = j := by rw [List.length_map, List.length_take]; omega
    have l2 : (csP (ps.take j)).length = j := by rw [List.length_map, List.length_take]; omega
    have g1 : iget (Sn.map Stp.h) (iget tk j).toNat = (Sn.getD (iget tk j).toNat st0).h := getD_map Stp.h Sn st0 0 _ (by omega)
    have g2 : (Sn.map Stp.c).getD (iget tk j).toNat [] = (Sn.getD (iget tk j).toNat st0).c := getD_map Stp.c Sn st0 [] _ (by omega)
    refine Need.mk (by omega) ?_
    refine Need.mk (by show 0 ≤ iget tk j ∧ iget tk j < ((Sn.map Stp.h).length : Int); rw [List.length_map]; omega) ?_
    refine Need.mk (needApp (n := (hsP (ps.take j)).length + 1) (by omega) (by decide)) ?_
    refine Need.mk (by show 0 ≤ iget tk j ∧ iget tk j < ((Sn.map Stp.c).length : Int); rw [List.length_map]; omega) ?_
    refine Need.mk (needApp (n := (csP (ps.take j)).length + 1) (by omega) (by decide)) ?_
    refine Need.mk (by kernel_rfl) ?_
    refine Adj.back (x := j) (j + 1) (by omega) (by omega) (.cons (.bld (fun _ _ _ _ => SLe.refl _)) (.cons (.bld (fun _ _ _ _ => SLe.refl _)) (.cons (.box (LLe.of_eq rfl)) (.cons (.bldN (by rw [e1, List.length_append]; rfl) (fun q hq r hr => ?_)) (.cons (.bldN (by rw [e2, List.length_append]; rfl) (fun q hq r hr => ?_)) .nil)))))
        (.cons .same (.cons .same (.cons .same (.cons (.hdl rfl rfl) (.cons (.hdl rfl rfl) (.cons .same (.cons (.box rfl rfl) (.cons (.hdl rfl rfl) (.cons (.hdl rfl rfl) (.cons .same (.cons .same (.cons (SlotLe.int (hS j (by omega))) .nil))))))))))))
    · rw [e1]
      exact lG_snoc iL 0 _ (Sn.getD (iget tk j).toNat st0).h 1 _ q r [i64 (iget (Sn.map Stp.h) (iget tk j).toNat)] (by rw [g1]) rfl hq hr
    · rw [e2]
      exact lG_snoc ccL [] _ (Sn.getD (iget tk j).toNat st0).c 1 _ q r [iS ((Sn.map Stp.c).getD (iget tk j).toNat [])] (by rw [g2]) rfl hq hr
  have he : j = tk.length := by have := of_decide_eq_false hc; omega
  subst he
  rw [List.take_of_length_le (by omega)]
  refine Cut.mk (Adj.freeze 28 166 0 _ 1 3 _ rfl rfl (Adj.freeze 29 173 0 _ 1 53 _ rfl rfl (Adj.nilCell 148 0 500 5 96 (lG ndL nd0 []) _ _ rfl rfl rfl rfl (Adj.id ?_))))
  refine CallM.mk' [148, 500] (sheet_detM ks kerf p.kok w (by omega) ps h hpc (by omega) (by omega) [] (by rw [List.length_nil, ← hbT]; omega)) ⟨.cons (.obj (.cons (.hdl rfl rfl) (.cons (.s (SLe.refl _)) (.cons (.s (SLe.refl _)) .nil)))) (.cons (.bld (fun _ h => absurd h (Nat.not_lt_zero _))) .nil), .cons (.ptr rfl) (.cons (.d (DLe.refl _)) (.cons (.d (DLe.refl _)) (.cons (.d (DLe.refl _)) (.cons (.d (DLe.refl _)) .nil)))), rfl, rfl, fun h => absurd rfl h⟩ ?_
  refine Need.mk (by rw [eh, hVl]; omega) ?_
  refine Need.mk (by kernel_rfl) ?_
  refine Fin.tup (.cons (DLe.of_eq (by rw [eh, Int.toNat_natCast, hval])) (.cons (DLe.one (SLe.of_eq ?_)) (.cons (DLe.refl _) .nil)))
  rw [hbT]
  rfl
end St
end Go.Vm
