/-
  Layer 37: the contract of Best.
-/
import Derived.Test.YtlpkgpldamhhbaaStpF
import Derived.Test.YtlpkgpldamhhbaaVmX
namespace Go.Vm
set_option maxRecDepth 20000
set_option linter.unusedVariables false
set_option linter.unusedSimpArgs false
open Go Go.RowKit Go.Proofs
namespace St

def ixI : List Int → Int → Nat → Int
  | [], _, _ => -1
  | k :: r, x, i => if x = k then i else ixI r x (i + 1)
theorem ixI_drop (l : List Int) (x : Int) (k : Nat) (hk : k < l.length) : ixI (l.drop k) x k = if x = iget l k then (k : Int) else ixI (l.drop (k + 1)) x (k + 1) := by
  rw [List.drop_eq_getElem_cons hk, ixI]
  simp [iget, List.getD, hk]
theorem ixI_mem (x : Int) (l : List Int) : ∀ i, decide (ixI l x i ≥ 0) = decide (x ∈ l) := by
  induction l with
  | nil => intro i; simp [ixI]
  | cons k r ih =>
    intro i
    rw [ixI]
    split
    · rename_i h
      rw [decide_eq_true (show (i : Int) ≥ 0 by omega), decide_eq_true (by simp [h])]
    · rename_i h
      rw [ih, decide_eq_decide]
      simp [h]
theorem indexI_det (l : List Int) (x : Int) (hl : l.length ≤ 100000000) : Det Try.prog 78 [.one (iS l), .one (i64 x)] (tint (ixI l x 0)) := by
  refine det_of_awp TTok mixed Try.func78 rfl rfl [] (Nat.le_of_ble_eq_true rfl) ?_
  refine Loop.by (α := Nat) (fun k => [(0, .d (.one (iS l))), (1, tint x), (7, tint l.length), (8, tint k)]) (fun _ => []) (fun k => k ≤ l.length ∧ ixI l x 0 = ixI (l.drop k) x k) (fun k => l.length - k)
    (Adj.at 0 ⟨Nat.zero_le _, by rw [List.drop_zero]⟩ .nil (.cons .same (.cons .same (.cons .same (.cons .same .nil))))) (fun k hk => ?_)
  obtain ⟨hk, hx⟩ := hk
  refine Split.mk (fun h => ?_) (fun h => ?_)
  · have hlt : k < l.length := by have := of_decide_eq_true h; omega
    have hd := ixI_drop l x k hlt
    refine Need.mk (by omega) ?_
    show Split (x == iget l k) _
    refine Split.mk (fun g => ?_) (fun g => ?_)
    · refine Fin.int ?_
      rw [hx, hd, if_pos (by simpa using g)]
    · refine Adj.back (x := k) (k + 1) ⟨by omega, by rw [hx, hd, if_neg (by simpa using g)]⟩ (by omega) .nil (.cons .same (.cons .same (.cons .same (.cons (SlotLe.int (hS k (by omega))) .nil))))
  · have he : k = l.length := by have := of_decide_eq_false h; omega
    refine Fin.int ?_
    rw [hx, he, List.drop_length]
    rfl
theorem containsI_det (l : List Int) (x : Int) (hl : l.length ≤ 100000000) : Det Try.prog 47 [.one (iS l), .one (i64 x)] (tbool (decide (x ∈ l))) := by
  refine det_of_awp TTok mixed Try.func47 rfl rfl [] (Nat.le_of_ble_eq_true rfl) ?_
  refine CallW.int (indexI_det l x hl) (fun n hn => ?_)
  refine Fin.bool ?_
  rw [hn, ixI_mem]
/-! ### the strips of all heights -/
def selF (ks : List Knd) (kerf hh : Int) : Nat → List Itm
  | 0 => []
  | i + 1 => if (kget ks i).h ≤ hh then selF ks kerf hh i ++ [⟨(kget ks i).w + kerf, (kget ks i).v⟩] else selF ks kerf hh i
def numF (ks : List Knd) (hh : Int) : Nat → List Int
  | 0 => []
  | i + 1 => if (kget ks i).h ≤ hh then numF ks hh i ++ [(i : Int)] else numF ks hh i
theorem sel_num (ks : List Knd) (kerf hh : Int) : ∀ i, (selF ks kerf hh i).length = (numF ks hh i).length
  | 0 => rfl
  | i + 1 => by
    rw [selF, numF]
    split
    · rw [List.length_append, List.length_append, sel_num ks kerf hh i]; rfl
    · exact sel_num ks kerf hh i
theorem num_len (ks : List Knd) (hh : Int) : ∀ i, (numF ks hh i).length ≤ i
  | 0 => Nat.le_refl _
  | i + 1 => by
    have := num_len ks hh i
    rw [numF]
    split
    · rw [List.length_append, List.length_singleton]; omega
    · omega
theorem num_lt (ks : List Knd) (hh : Int) : ∀ i, ∀ x ∈ numF ks hh i, 0 ≤ x ∧ x < i ∧ (kget ks x.toNat).h ≤ hh
  | 0, x, h => by cases h
  | i + 1, x, h => by
    rw [numF] at h
    split at h
    · rename_i hc
      rcases List.mem_append.1 h with h | h
      · obtain ⟨a, b, c⟩ := num_lt ks hh i x h
        exact ⟨a, by omega, c⟩
      · obtain rfl : x = i := by simpa using h
        exact ⟨by omega, by omega, by rw [Int.toNat_natCast]; exact hc⟩
    · obtain ⟨a, b, c⟩ := num_lt ks hh i x h
      exact ⟨a, by omega, c⟩
theorem sel_mem (ks : List Knd) (kerf hh : Int) : ∀ i, ∀ x ∈ selF ks kerf hh i, ∃ j, j < i ∧ x = ⟨(kget ks j).w + kerf, (kget ks j).v⟩ ∧ (kget ks j).h ≤ hh
  | 0, x, h => by cases h
  | i + 1, x, h => by
    rw [selF] at h
    split at h
    · rename_i hc
      rcases List.mem_append.1 h with h | h
      · obtain ⟨j, a, b⟩ := sel_mem ks kerf hh i x h
        exact ⟨j, by omega, b⟩
      · obtain rfl := List.mem_singleton.1 h
        exact ⟨i, by omega, rfl, hc⟩
    · obtain ⟨j, a, b⟩ := sel_mem ks kerf hh i x h
      exact ⟨j, by omega, b⟩
theorem itget_mem {l : List Itm} {i : Nat} (h : i < l.length) : itget l i ∈ l := by
  unfold itget
  rw [List.getD, List.getElem?_eq_getElem h]
  exact List.getElem_mem h
theorem sel_its {ks : List Knd} {kerf hh : Int} (p : KsOk ks kerf) {n : Nat} (hn : n ≤ ks.length) : Its (selF ks kerf hh n) 1000000 := by
  have k0 := p.k0
  have k1 := p.k1
  refine ⟨fun i hi => ?_, fun i hi => ?_, by decide⟩
  · obtain ⟨j, hj, e, _⟩ := sel_mem ks kerf hh n _ (itget_mem hi)
    have := p.at' (i := j) (by omega)
    have := this.w0; have := p.at' (i := j) (by omega)
    have := this.w1
    rw [e]
    constructor
    · show 1 ≤ _ + kerf; omega
    · show _ + kerf ≤ 100000; omega
  · obtain ⟨j, hj, e, _⟩ := sel_mem ks kerf hh n _ (itget_mem hi)
    have q := p.at' (i := j) (by omega)
    rw [e]
    exact ⟨q.v0, q.v1⟩
structure Stp where
  h : Int
  v : Int
  c : List Int
abbrev st0 : Stp := ⟨0, 0, []⟩
def capI (n : Int) : Nat := n.toNat
def valOf (ks : List Knd) (kerf w hh : Int) : Int := (kV (selF ks kerf hh ks.length) (capI (w + kerf) + 1)).getD (capI (w + kerf)) 0
def colsOf (ks : List Knd) (kerf w hh : Int) : List Int := (tkL (selF ks kerf hh ks.length) (capI (w + kerf))).map fun i => iget (numF ks hh ks.length) i.toNat
def stpF (ks : List Knd) (kerf w h : Int) : Nat → List Stp
  | 0 => []
  | n + 1 => if (kget ks n).h > h ∨ (kget ks n).h ∈ (stpF ks kerf w h n).map Stp.h then stpF ks kerf w h n else stpF ks kerf w h n ++ [⟨(kget ks n).h, valOf ks kerf w (kget ks n).h, colsOf ks kerf w (kget ks n).h⟩]
def itmS (kerf : Int) (s : Stp) : Itm := ⟨s.h + kerf, s.v⟩
def stsF (ks : List Knd) (kerf w h : Int) : List Stp := stpF ks kerf w h ks.length
def psF (ks : List Knd) (kerf w h : Int) : List (Int × List Int) := (tkL ((stsF ks kerf w h).map (itmS kerf)) (capI (h + kerf))).map fun i => (((stsF ks kerf w h).getD i.toNat st0).h, ((stsF ks kerf w h).getD i.toNat st0).c)
def bestV (ks : List Knd) (w h kerf : Int) : Int := (kV ((stsF ks kerf w h).map (itmS kerf)) (capI (h + kerf) + 1)).getD (capI (h + kerf)) 0
def bestT (ks : List Knd) (w h kerf : Int) : List Nd := sheetT ks kerf (psF ks kerf w h) w h 0
/-- What Best returns. -/
def bestR (ks : List Knd) (w h kerf : Int) : Int × List Nd × Int := if probB ks w h kerf = false then (0, [], 1) else if manyB ks w h kerf = true then (0, [], 9) else (bestV ks w h kerf, bestT ks w h kerf, 0)
abbrev bestE (x : Int × List Nd × Int) : TV := .tup [.one (i64 x.1), .one (ndS x.2.1), .one (i64 x.2.2)]
theorem stp_len (ks : List Knd) (kerf w h : Int) : ∀ n, (stpF ks kerf w h n).length ≤ n
  | 0 => Nat.le_refl _
  | n + 1 => by
    have := stp_len ks kerf w h n
    rw [stpF]
    split
    · omega
    · rw [List.length_append, List.length_singleton]; omega
theorem stp_mem (ks : List Knd) (kerf w h : Int) : ∀ n, ∀ s ∈ stpF ks kerf w h n, ∃ j, j < n ∧ (kget ks j).h ≤ h ∧ s = ⟨(kget ks j).h, valOf ks kerf w (kget ks j).h, colsOf ks kerf w (kget ks j).h⟩
  | 0, s, hs => by cases hs
  | n + 1, s, hs => by
    rw [stpF] at hs
    split at hs
    · obtain ⟨j, a, b⟩ := stp_mem ks kerf w h n s hs
      exact ⟨j, by omega, b⟩
    · rename_i hc
      rcases List.mem_append.1 hs with hs | hs
      · obtain ⟨j, a, b⟩ := stp_mem ks kerf w h n s hs
        exact ⟨j, by omega, b⟩
      · obtain rfl := List.mem_singleton.1 hs
        exact ⟨n, by omega, by omega, rfl⟩
theorem tkF_len {its : List Itm} {M : Int} (H : Its its M) {cap : Nat} : ∀ f c, c ≤ cap → (tkF its (kT its (cap + 1)) f c).length ≤ c ∧ ∀ x ∈ tkF its (kT its (cap + 1)) f c, 0 ≤ x ∧ x < its.length
  | 0, c, _ => ⟨Nat.zero_le _, fun x h => by cases h⟩
  | f + 1, c, hc => by
    rw [tkF]
    split
    · rename_i h
      obtain ⟨t1, t2, t3, t4⟩ := (take_ok H hc).resolve_left (fun w => by rw [w] at h; omega)
      obtain ⟨i1, i2⟩ := tkF_len (cap := cap) H f (c - (itget its ((kT its (cap + 1)).getD c 0).toNat).s.toNat) (by omega)
      refine ⟨by rw [List.length_cons]; omega, fun x hx => ?_⟩
      rcases List.mem_cons.1 hx with rfl | hx
      · exact ⟨t1, t2⟩
      · exact i2 x hx
    · exact ⟨Nat.zero_le _, fun x h => by cases h⟩
theorem tk_len {its : List Itm} {M : Int} (H : Its its M) (cap : Nat) : (tkL its cap).length ≤ cap ∧ ∀ x ∈ tkL its cap, 0 ≤ x ∧ x < its.length := tkF_len H _ _ (Nat.le_refl _)
section
variable {ks : List Knd} {w h kerf : Int} (p : Pb ks w h kerf)
include p
theorem Pb.kok : KsOk ks kerf := ⟨p.ok, by have := p.len; omega, p.k0, p.k1⟩
theorem Pb.capw : ((capI (w + kerf) : Nat) : Int) = w + kerf ∧ capI (w + kerf) ≤ 2050 := by
  have := p.w0; have := p.w1; have := p.k0; have := p.k1
  unfold capI
  omega
theorem Pb.caph : ((capI (h + kerf) : Nat) : Int) = h + kerf ∧ capI (h + kerf) ≤ 2050 := by
  have := p.h0; have := p.h1; have := p.k0; have := p.k1
  unfold capI
  omega
theorem val_bd (hh : Int) : 0 ≤ valOf ks kerf w hh ∧ valOf ks kerf w hh ≤ 2050000000 := by
  obtain ⟨b1, b2⟩ := kV_bd (sel_its (hh := hh) p.kok (Nat.le_refl _)) (capI (w + kerf) + 1) (capI (w + kerf)) (Nat.lt_succ_self _)
  have := p.capw.2
  unfold valOf
  omega
theorem cols_ok (hh : Int) : (colsOf ks kerf w hh).length ≤ 2050 ∧ ∀ c ∈ colsOf ks kerf w hh, 0 ≤ c ∧ c < ks.length ∧ (kget ks c.toNat).h ≤ hh := by
  obtain ⟨a, b⟩ := tk_len (sel_its (hh := hh) p.kok (Nat.le_refl _)) (capI (w + kerf))
  have := p.capw.2
  refine ⟨by unfold colsOf; rw [List.length_map]; omega, fun c hc => ?_⟩
  obtain ⟨i, hi, rfl⟩ := List.mem_map.1 hc
  obtain ⟨b1, b2⟩ := b i hi
  have hl := sel_num ks kerf hh ks.length
  refine num_lt ks hh ks.length _ ?_
  unfold iget
  rw [List.getD, List.getElem?_eq_getElem (by omega)]
  exact List.getElem_mem (by omega)
theorem sts_its (n : Nat) (hn : n ≤ ks.length) : Its ((stpF ks kerf w h n).map (itmS kerf)) 2050000000 := by
  have k0 := p.k0
  have k1 := p.k1
  have key : ∀ i, i < ((stpF ks kerf w h n).map (itmS kerf)).length → ∃ j, j < n ∧ itget ((stpF ks kerf w h n).map (itmS kerf)) i = ⟨(kget ks j).h + kerf, valOf ks kerf w (kget ks j).h⟩ := fun i hi => by
    obtain ⟨s, hs, e⟩ := List.mem_map.1 (itget_mem hi)
    obtain ⟨j, a, _, rfl⟩ := stp_mem ks kerf w h n s hs
    exact ⟨j, a, e.symm⟩
  refine ⟨fun i hi => ?_, fun i hi => ?_, by decide⟩
  · obtain ⟨j, hj, e⟩ := key i hi
    have q := p.at' (i := j) (by omega)
    have := q.h0; have := q.h1
    rw [e]
    constructor
    · show 1 ≤ _ + kerf; omega
    · show _ + kerf ≤ 100000; omega
  · obtain ⟨j, hj, e⟩ := key i hi
    rw [e]
    exact val_bd p _
theorem ps_ok : (psF ks kerf w h).length ≤ 2050 ∧ ∀ x ∈ psF ks kerf w h, (∃ j, j < ks.length ∧ (kget ks j).h ≤ h ∧ x = ((kget ks j).h, colsOf ks kerf w (kget ks j).h)) := by
  obtain ⟨a, b⟩ := tk_len (sts_its p ks.length (Nat.le_refl _)) (capI (h + kerf))
  have := p.caph.2
  refine ⟨by unfold psF stsF; rw [List.length_map]; omega, fun x hx => ?_⟩
  obtain ⟨i, hi, rfl⟩ := List.mem_map.1 hx
  obtain ⟨b1, b2⟩ := b i hi
  rw [List.length_map] at b2
  have hm : (stsF ks kerf w h).getD i.toNat st0 ∈ stsF ks kerf w h := by
    rw [List.getD, List.getElem?_eq_getElem (by unfold stsF; omega)]
    exact List.getElem_mem _
  obtain ⟨j, c1, c2, c3⟩ := stp_mem ks kerf w h _ _ hm
  exact ⟨j, c1, c2, by rw [c3]⟩
theorem ps_cols : ∀ x ∈ psF ks kerf w h, ColsOk ks w x := fun x hx => by
  obtain ⟨j, hj, hh, rfl⟩ := (ps_ok p).2 x hx
  obtain ⟨c1, c2⟩ := cols_ok p (kget ks j).h
  have q := p.at' hj
  have := p.w0
  exact ⟨fun c hc => ⟨(c2 c hc).1, (c2 c hc).2.1⟩, by show -900000000 + 3000 * ((colsOf ks kerf w (kget ks j).h).length : Int) ≤ w; omega, by have := q.h0; show 0 ≤ (kget ks j).h; omega, q.h1⟩
end
theorem colT_len (ks : List Knd) (k h : Int) (b : Nat) : (colT ks k h b).length ≤ 3 := by
  unfold colT
  split
  · simp
  · simp [cutT]
theorem stripT_len (ks : List Knd) (kerf : Int) : ∀ (cols : List Int) (w h : Int) (b : Nat), (stripT ks kerf cols w h b).length ≤ 4 * cols.length + 3
  | [], _, _, _ => by simp [stripT]
  | k :: r, w, h, b => by
    rw [stripT]
    split
    · have := colT_len ks k h b
      rw [List.length_cons]; omega
    · have h1 := colT_len ks k h (b + 1)
      have h2 := stripT_len ks kerf r (w - (kget ks k.toNat).w - kerf) h (b + 1 + (colT ks k h (b + 1)).length)
      simp only [cutT, List.length_cons, List.length_append]
      omega
theorem sheetT_len (ks : List Knd) (kerf : Int) (n : Nat) : ∀ (ps : List (Int × List Int)) (w h : Int) (b : Nat), (∀ x ∈ ps, x.2.length ≤ n) → (sheetT ks kerf ps w h b).length ≤ ps.length * (4 * n + 4) + 4 * n + 3
  | [], _, _, _, _ => by simp [sheetT]
  | x :: r, w, h, b, hp => by
    have hx := hp x (by simp)
    rw [sheetT]
    have hm : (x :: r).length * (4 * n + 4) = r.length * (4 * n + 4) + (4 * n + 4) := by rw [List.length_cons, Nat.add_mul, Nat.one_mul]
    split
    · have := stripT_len ks kerf x.2 w h b
      omega
    · have h1 := stripT_len ks kerf x.2 w x.1 (b + 1)
      have h2 := sheetT_len ks kerf n r w (h - x.1 - kerf) (b + 1 + (stripT ks kerf x.2 w x.1 (b + 1)).length) (fun y hy => hp y (by simp [hy]))
      simp only [cutT, List.length_cons, List.length_append] at hm ⊢
      omega
theorem bestT_len {ks : List Knd} {w h kerf : Int} (p : Pb ks w h kerf) : (bestT ks w h kerf).length ≤ 20000000 := by
  have h1 := (ps_ok p).1
  have := sheetT_len ks kerf 2050 (psF ks kerf w h) w h 0 (fun x hx => by
    obtain ⟨j, _, _, rfl⟩ := (ps_ok p).2 x hx
    exact (cols_ok p (kget ks j).h).1)
  have h2 := Nat.mul_le_mul_right (4 * 2050 + 4) h1
  unfold bestT
  omega
end St
end Go.Vm
