/-
  Layer 38: contract of Saw.
-/
import Derived.Test.YtfoblfchkgapoaaGuiL
import Derived.Test.YtfoblfchkgapoaaGuiM
namespace Go.Vm
set_option maxRecDepth 20000
set_option linter.unusedVariables false
set_option linter.unusedSimpArgs false
open Go Go.RowKit Go.Proofs
namespace St

abbrev sg0 : Sg.Seg := ⟨⟨0, 0⟩, ⟨0, 0⟩⟩
abbrev sgS (l : List Sg.Seg) : SV := .sl l.length 4 (lG Sg.sL sg0 l)
abbrev sgE (x : List Sg.Seg × Int) : TV := .tup [.one (sgS x.1), .one (i64 x.2)]
def cutS (r : Rc) (n : Nd) : Sg.Seg := if n.v = true then ⟨⟨r.x + n.a, r.y⟩, ⟨r.x + n.a, r.y + r.h⟩⟩ else ⟨⟨r.x, r.y + n.a⟩, ⟨r.x + r.w, r.y + n.a⟩⟩
def sawL (t : List Nd) (w h kerf : Int) : Nat → List Sg.Seg
  | 0 => []
  | k + 1 => if (ndget t k).f = -1 then sawL t w h kerf k else sawL t w h kerf k ++ [cutS (rcget (rT t w h kerf k) k) (ndget t k)]
theorem sawL_len (t : List Nd) (w h kerf : Int) : ∀ k, (sawL t w h kerf k).length ≤ k
  | 0 => Nat.le_refl _
  | k + 1 => by
    have := sawL_len t w h kerf k
    rw [sawL]
    split
    · omega
    · rw [List.length_append, List.length_singleton]; omega
def pl1 (n : Nd) : Nd := if n.f = -1 then ⟨n.v, n.a, n.f, n.s, -1⟩ else n
def plK (t : List Nd) : Nat → List Nd
  | 0 => t
  | k + 1 => if (ndget t k).f = -1 then (plK t k).set k (pl1 (ndget t k)) else plK t k
theorem plK_len (t : List Nd) : ∀ k, (plK t k).length = t.length
  | 0 => rfl
  | k + 1 => by
    rw [plK]
    split
    · rw [List.length_set, plK_len t k]
    · exact plK_len t k
theorem plK_at (t : List Nd) (i : Nat) : ∀ k, k ≤ t.length → ndget (plK t k) i = if i < k then pl1 (ndget t i) else ndget t i
  | 0, _ => by rw [if_neg (Nat.not_lt_zero _)]; rfl
  | k + 1, hk => by
    have ih := plK_at t i k (by omega)
    have hl := plK_len t k
    rw [plK]
    by_cases e : i = k
    · subst e
      rw [if_pos (Nat.lt_succ_self _)]
      split
      · unfold ndget
        rw [getD_set_eq (by omega)]
      · rename_i q
        rw [ih, if_neg (Nat.lt_irrefl _), pl1, if_neg q]
    · have e2 : (if i < k + 1 then pl1 (ndget t i) else ndget t i) = if i < k then pl1 (ndget t i) else ndget t i := by
        by_cases c : i < k
        · rw [if_pos c, if_pos (by omega)]
        · rw [if_neg c, if_neg (by omega)]
      rw [e2, ← ih]
      split
      · unfold ndget
        rw [getD_set_ne (fun h => e h.symm)]
      · rfl
structure SmT (t u : List Nd) : Prop where
  len : u.length = t.length
  v : ∀ i, (ndget u i).v = (ndget t i).v
  a : ∀ i, (ndget u i).a = (ndget t i).a
  f : ∀ i, (ndget u i).f = (ndget t i).f
  s : ∀ i, (ndget u i).s = (ndget t i).s
theorem plK_sm (t : List Nd) : SmT t (plK t t.length) := by
  have h := fun i => plK_at t i t.length (Nat.le_refl _)
  have q : ∀ n : Nd, (pl1 n).v = n.v ∧ (pl1 n).a = n.a ∧ (pl1 n).f = n.f ∧ (pl1 n).s = n.s := fun n => by
    unfold pl1
    split
    · exact ⟨rfl, rfl, rfl, rfl⟩
    · exact ⟨rfl, rfl, rfl, rfl⟩
  refine ⟨plK_len t _, fun i => ?_, fun i => ?_, fun i => ?_, fun i => ?_⟩ <;> (rw [h]; split <;> first | exact (q _).1 | exact (q _).2.1 | exact (q _).2.2.1 | exact (q _).2.2.2 | rfl)
theorem allN_congr {n : Nat} {f g : Nat → Bool} (h : ∀ i, i < n → f i = g i) : allN n f = allN n g := by
  rw [Bool.eq_iff_iff, allN_iff, allN_iff]
  exact ⟨fun q i hi => by rw [← h i hi]; exact q i hi, fun q i hi => by rw [h i hi]; exact q i hi⟩
section
variable {t u : List Nd} (S : SmT t u)
include S
theorem SmT.leaf (i : Nat) : leafI (ndget u i) = leafI (ndget t i) := by rw [leafI, leafI, S.f, S.s]
theorem SmT.rT (w h kerf : Int) : ∀ k, rT u w h kerf k = rT t w h kerf k
  | 0 => by rw [St.rT, St.rT, S.len]
  | k + 1 => by
    have e1 : ∀ r, cutA r (ndget u k) = cutA r (ndget t k) := fun r => by rw [cutA, cutA, S.v, S.a]
    have e2 : ∀ r, cutB r (ndget u k) kerf = cutB r (ndget t k) kerf := fun r => by rw [cutB, cutB, S.v, S.a]
    rw [St.rT, St.rT, S.leaf, SmT.rT w h kerf k, S.f, S.s, e1, e2]
theorem SmT.pT : ∀ k, pT u k = pT t k
  | 0 => by rw [St.pT, St.pT, S.len]
  | k + 1 => by rw [St.pT, St.pT, S.leaf, SmT.pT k, S.f, S.s]
theorem SmT.join : joinB u = joinB t := by
  have e : ∀ i, ndOkB t.length i (ndget u i) = ndOkB t.length i (ndget t i) := fun i => by rw [ndOkB, ndOkB, S.leaf, S.v, S.f, S.s]
  rw [joinB, joinB, S.len, S.pT]
  congr 1
  exact allN_congr (fun i _ => e i)
theorem SmT.pos (r : Rc) (i : Nat) : posB r (ndget u i) = posB r (ndget t i) := by rw [posB, posB, S.leaf, S.v, S.a]
theorem SmT.rect (w h kerf : Int) : rectB u w h kerf = rectB t w h kerf := by
  rw [rectB, rectB, S.len]
  exact allN_congr (fun i _ => by rw [S.rT, S.pos])
end
def sawR (t : List Nd) (w h kerf : Int) : List Sg.Seg × Int := if validB (plK t t.length) [] w h kerf = true then (sawL t w h kerf t.length, 0) else ([], 1)
theorem gclone_detM (l : List Nd) (hl : l.length ≤ 100000) : DetM Try.prog 67 [.d (.one (ndS l))] [] (.hdl (.n 3000) 0) [] (.bld 0 l.length 5 96 (lG ndL nd0 l)) := by
  refine detM_of_awp TTok mixed Try.func67 rfl rfl [0] (Nat.le_of_ble_eq_true rfl) (Nat.le_of_ble_eq_true rfl) (sigM_of rfl) ?_
  refine Cut.mk (Adj.id ?_)
  refine NilW.mk ?_ (fun h0 => ?_)
  · refine Need.mk (needApp (by omega) (by decide)) ?_
    refine Cut.mk (Adj.id ?_)
    exact EndM.mk ⟨.n 5, .one (.hdl rfl rfl rfl), .nil _, .inr ⟨.bldN (Nat.zero_add _) (fun h => absurd h (by decide)) (fun i hi j hj => SLe.of_eq (by rw [blt_f (Nat.not_lt_zero i)]; rfl)), rfl⟩⟩
  · obtain rfl : l = [] := List.eq_nil_of_length_eq_zero h0
    refine Cut.mk (Adj.nil 2 7 5 96 (lG ndL nd0 []) rfl rfl (Adj.id ?_))
    exact EndM.mk ⟨.n 7, .one (.hdl rfl rfl rfl), .nil _, .inr ⟨.bld (fun h => absurd h (by decide)) (fun i hi => absurd hi (Nat.not_lt_zero i)), rfl⟩⟩
abbrev v20 : Sg.V2 := ⟨0, 0⟩
def loP (r : Rc) : Sg.V2 := ⟨r.x, r.y⟩
def hiP (r : Rc) : Sg.V2 := ⟨r.x + r.w, r.y + r.h⟩
theorem map_get {α β : Type} (f : α → β) (l : List α) (d : α) (i : Nat) : (l.map f).getD i (f d) = f (l.getD i d) := by
  simp only [List.getD, List.getElem?_map]
  cases l[i]? <;> rfl
theorem saw_det (t : List Nd) (w h kerf : Int) (hl : t.length ≤ 100000) : Det Try.prog 33 [.one (ndS t), .one (i64 w), .one (i64 h), .one (i64 kerf)] (sgE (sawR t w h kerf)) := by
  refine det_of_awp TTok mixed Try.func33 rfl rfl [67 + 2000000] (Nat.le_of_ble_eq_true rfl) ?_
  refine CallM.mk' [] (gclone_detM t hl) ⟨.nil, .cons (.d (DLe.refl _)) .nil, rfl, rfl, fun _ => rfl⟩ ?_
  refine Loop.by (α := Nat) (fun k => [(0, .d (.one (ndS t))), (1, tint w), (2, tint h), (3, tint kerf), (10, .hdl 23 0), (24, .hdl 23 0), (25, tint t.length), (26, tint k)])
    (fun k => [(23, .bld 0 (plK t k).length 5 96 (lG ndL nd0 (plK t k)))]) (fun k => k ≤ t.length) (fun k => t.length - k)
    (Adj.at 0 (Nat.zero_le _) (.cons (.bld (fun _ _ _ _ => SLe.refl _)) .nil) (.cons .same (.cons .same (.cons .same (.cons .same (.cons (.hdl rfl rfl) (.cons (.hdl rfl rfl) (.cons .same (.cons .same .nil))))))))) (fun k hk => ?_)
  have hpl := plK_len t k
  refine Split.mk (fun c1 => ?_) (fun c1 => ?_)
  · have hlt : k < t.length := by have := of_decide_eq_true c1; omega
    have hat : ndget (plK t k) k = ndget t k := by rw [plK_at t k k (by omega), if_neg (Nat.lt_irrefl _)]
    have hst : plK t (k + 1) = if (ndget t k).f = -1 then (plK t k).set k (pl1 (ndget t k)) else plK t k := rfl
    refine Need.mk (by omega) ?_
    show Split ((ndget (plK t k) k).f == -1) _
    rw [hat]
    refine Split.mk (fun c2 => ?_) (fun c2 => ?_)
    · have c2' : (ndget t k).f = -1 := eq_of_beq c2
      rw [if_pos c2'] at hst
      refine Need.mk (by omega) ?_
      refine Adj.back (x := k) (k + 1) (by omega) (by omega) (.cons (.bldN (by rw [hpl, plK_len]) (fun i hi j hj => ?_)) .nil) (.cons .same (.cons .same (.cons .same (.cons .same (.cons (.hdl rfl rfl) (.cons (.hdl rfl rfl) (.cons .same (.cons (SlotLe.int (hS k (by omega))) .nil))))))))
      rw [hst]
      have hp1 : pl1 (ndget t k) = ⟨(ndget t k).v, (ndget t k).a, (ndget t k).f, (ndget t k).s, -1⟩ := by rw [pl1, if_pos c2']
      rw [hp1]
      refine lG_cell ndL nd0 (plK t k) ⟨(ndget t k).v, (ndget t k).a, (ndget t k).f, (ndget t k).s, -1⟩ k i j 4 5 (i64 (-1)) hi hj rfl (fun j hj hne => ?_)
      have hat' : (plK t k).getD k nd0 = ndget t k := hat
      rw [hat']
      match j, hj, hne with
      | 0, _, _ => rfl
      | 1, _, _ => rfl
      | 2, _, _ => rfl
      | 3, _, _ => rfl
      | 4, _, q => exact absurd rfl q
    · have c2' : ¬ (ndget t k).f = -1 := ne_of_beq_false c2
      rw [if_neg c2'] at hst
      exact Adj.back (x := k) (k + 1) (by omega) (by omega) (.cons (.bldN (by rw [hst]) (fun i hi j hj => SLe.of_eq (by rw [hst]))) .nil) (.cons .same (.cons .same (.cons .same (.cons .same (.cons (.hdl rfl rfl) (.cons (.hdl rfl rfl) (.cons .same (.cons (SlotLe.int (hS k (by omega))) .nil))))))))
  have he : k = t.length := by have := of_decide_eq_false c1; omega
  subst he
  refine CallW.bool ((valid_det (plK t t.length) [] w h kerf (by omega) (by decide)).le (.cons (DLe.refl _) (.cons (DLe.one (SLe.nil _ _)) (.cons (DLe.refl _) (.cons (DLe.refl _) (.cons (DLe.refl _) .nil)))))) (fun b hb => ?_)
  refine Split.mk (fun c2 => ?_) (fun c2 => ?_)
  · have : validB (plK t t.length) [] w h kerf = false := by rw [← hb]; simpa using c2
    rw [sawR, if_neg (by rw [this]; simp)]
    exact Fin.tup (.cons (DLe.one (SLe.nil _ _)) (.cons (DLe.refl _) .nil))
  have hv : validB (plK t t.length) [] w h kerf = true := by rw [← hb]; simpa using c2
  rw [sawR, if_pos hv]
  rw [validB, Bool.and_eq_true, Bool.and_eq_true, Bool.and_eq_true] at hv
  obtain ⟨hp, hj, hr, hk'⟩ := hv
  have p := prob_iff.1 hp
  have S := plK_sm t
  have P0 : ∀ i, i < t.length → ndget (plK t t.length) i = pl1 (ndget t i) := fun i hi => by rw [plK_at t i _ (Nat.le_refl _), if_pos hi]
  rw [S.join] at hj
  rw [S.rect] at hr
  clear hb c1 c2 hpl hk hk' S P0 hp
  have J := joined_of hj
  have jl0 := J.l0
  have w0 := p.w0; have w1 := p.w1; have h0 := p.h0; have h1 := p.h1; have k0 := p.k0; have k1 := p.k1
  have hmk : 0 ≤ (t.length : Int) ∧ (t.length : Int) ≤ (t.length : Int) ∧ ((16 : Nat) : Int) * (t.length : Int) ≤ 281474976710656 ∧ (t.length : Int) ≤ 9223372036854775807 := by omega
  have r0 : ∀ i, (rT t w h kerf 0).getD i rc0 = if i = 0 then ⟨0, 0, w, h⟩ else rc0 := fun i => by
    show ((List.replicate t.length rc0).set 0 ⟨0, 0, w, h⟩).getD i rc0 = _
    split
    · rename_i e; subst e
      rw [getD_set_eq (by rw [List.length_replicate]; exact jl0)]
    · rename_i e
      rw [getD_set_ne (fun q => e q.symm), List.getD, List.getElem?_replicate]
      split <;> rfl
  refine Need.mk hmk ?_
  refine Need.mk hmk ?_
  refine Need.mk (by kernel_rfl) ?_
  refine Need.mk (by omega) ?_
  refine Loop.by (α := Nat) (fun k => [(0, .d (.one (ndS t))), (3, tint kerf), (13, .hdl 47 0), (14, .hdl 50 0), (15, .hdl 500 0), (56, .d (.one (ndS t))), (57, tint t.length), (58, tint k)])
    (fun k => [(47, .bld 0 t.length 2 62 (lG Sg.vL v20 ((rT t w h kerf k).map loP))), (50, .bld 0 t.length 2 62 (lG Sg.vL v20 ((rT t w h kerf k).map hiP))), (500, .bld 0 (sawL t w h kerf k).length 4 64 (lG Sg.sL sg0 (sawL t w h kerf k)))]) (fun k => k ≤ t.length) (fun k => t.length - k)
    (Adj.nil 15 500 4 64 (lG Sg.sL sg0 []) rfl rfl
      (Adj.at 0 (Nat.zero_le _) (.cons (.bldN (by rw [Int.toNat_natCast]) (fun i hi j hj => ?_)) (.cons (.bldN (by rw [Int.toNat_natCast]) (fun i hi j hj => ?_)) (.cons (.bld (fun _ h => absurd h (Nat.not_lt_zero _))) .nil)))
      (.cons .same (.cons .same (.cons (.hdl rfl rfl) (.cons (.hdl rfl rfl) (.cons (.hdl rfl rfl) (.cons .same (.cons .same (.cons .same .nil)))))))))) (fun k hk => ?_)
  · refine SLe.of_eq ?_
    have hj : j < 2 := hj
    show [i64 0, i64 0].getD j (.v Go.undef) = (Sg.vL (((rT t w h kerf 0).map loP).getD i (loP rc0))).getD j (.v Go.undef)
    rw [map_get, r0]
    split <;> rfl
  · have hj : j < 2 := hj
    show SLe (bif Nat.beq i 0 && Nat.ble 0 j && Nat.blt j (0 + 2) then [i64 w, i64 h].getD (j - 0) (.v Go.undef) else [i64 0, i64 0].getD j (.v Go.undef)) ((Sg.vL (((rT t w h kerf 0).map hiP).getD i (hiP rc0))).getD j (.v Go.undef))
    rw [map_get, r0]
    refine SLe.of_eq ?_
    by_cases e : i = 0
    · subst e
      rw [if_pos rfl]
      match j, hj with
      | 0, _ => show i64 w = i64 (0 + w); rw [Int.zero_add]
      | 1, _ => show i64 h = i64 (0 + h); rw [Int.zero_add]
    · rw [if_neg e, beq_f e]
      match j, hj with
      | 0, _ => rfl
      | 1, _ => rfl
  refine Split.mk (fun c1 => ?_) (fun c1 => ?_)
  · have hlt : k < t.length := by have := of_decide_eq_true c1; omega
    have hrl := rT_len t w h kerf k
    have inn := rT_in (t := t) (kerf := kerf) (show 0 ≤ w by omega) (show 0 ≤ h by omega) k0 k (fun i hi => rect_at hr (by omega)) k
    have hpos := rect_at hr hlt
    have ok := join_nd hj hlt
    have hsl := sawL_len t w h kerf k
    have hsn : sawL t w h kerf (k + 1) = if (ndget t k).f = -1 then sawL t w h kerf k else sawL t w h kerf k ++ [cutS (rcget (rT t w h kerf k) k) (ndget t k)] := rfl
    have hrn : rT t w h kerf (k + 1) = if leafI (ndget t k) = true then rT t w h kerf k else ((rT t w h kerf k).set (ndget t k).f.toNat (cutA (rcget (rT t w h kerf k) k) (ndget t k))).set (ndget t k).s.toNat (cutB (rcget (rT t w h kerf k) k) (ndget t k) kerf) := rfl
    refine Need.mk (by omega) ?_
    show Split ((ndget t k).f == -1) _
    refine Split.mk (fun c2 => ?_) (fun c2 => ?_)
    · have c2' : (ndget t k).f = -1 := eq_of_beq c2
      have hleaf : leafI (ndget t k) = true := by
        cases hq : leafI (ndget t k) with
        | true => rfl
        | false =>
          rw [ndOkB, hq, Bool.false_and, Bool.false_or, Bool.and_eq_true, inB_iff, inB_iff] at ok
          omega
      rw [if_pos c2'] at hsn
      rw [if_pos hleaf] at hrn
      exact Adj.back (x := k) (k + 1) (by omega) (by omega) (.cons (.bld (fun i hi j hj => SLe.of_eq (by rw [hrn]))) (.cons (.bld (fun i hi j hj => SLe.of_eq (by rw [hrn]))) (.cons (.bldN (by rw [hsn]) (fun i hi j hj => SLe.of_eq (by rw [hsn]))) .nil)))
        (.cons .same (.cons .same (.cons (.hdl rfl rfl) (.cons (.hdl rfl rfl) (.cons (.hdl rfl rfl) (.cons .same (.cons .same (.cons (SlotLe.int (hS k (by omega))) .nil))))))))
    have c2' : ¬ (ndget t k).f = -1 := ne_of_beq_false c2
    have hleaf : leafI (ndget t k) = false := by rw [leafI, decide_eq_false c2', Bool.false_and]
    rw [if_neg c2'] at hsn
    rw [if_neg (by rw [hleaf]; simp)] at hrn
    obtain ⟨⟨kf1, kf2, kf3⟩, ⟨ks1, ks2, ks3⟩⟩ := J.kids k hlt hleaf
    have kne := J.ne k hlt hleaf
    rw [posB, if_neg (by rw [hleaf]; simp), inB_iff] at hpos
    have i0 := inn.x0; have i1 := inn.y0; have i2 := inn.w0; have i3 := inn.h0; have i4 := inn.x1; have i5 := inn.y1
    have glo := map_get loP (rT t w h kerf k) rc0 k
    have ghi := map_get hiP (rT t w h kerf k) rc0 k
    refine Need.mk (by omega) ?_
    refine Need.mk (by omega) ?_
    refine Need.mk (by kernel_rfl) ?_
    replace glo : ((rT t w h kerf k).map loP).getD k v20 = loP (rcget (rT t w h kerf k) k) := glo
    replace ghi : ((rT t w h kerf k).map hiP).getD k v20 = hiP (rcget (rT t w h kerf k) k) := ghi
    have nf : 0 ≤ (ndget t k).f ∧ (ndget t k).f < (t.length : Int) := by omega
    have ns : 0 ≤ (ndget t k).s ∧ (ndget t k).s < (t.length : Int) := by omega
    refine Need.mk nf ?_
    refine Need.mk nf ?_
    refine Need.mk ns ?_
    refine Need.mk ns ?_
    refine Need.mk (by kernel_rfl) ?_
    have hcA : cutA (rcget (rT t w h kerf k) k) (ndget t k) = if (ndget t k).v = true then ⟨(rcget (rT t w h kerf k) k).x, (rcget (rT t w h kerf k) k).y, (ndget t k).a, (rcget (rT t w h kerf k) k).h⟩ else ⟨(rcget (rT t w h kerf k) k).x, (rcget (rT t w h kerf k) k).y, (rcget (rT t w h kerf k) k).w, (ndget t k).a⟩ := rfl
    have hcB : cutB (rcget (rT t w h kerf k) k) (ndget t k) kerf = if (ndget t k).v = true then ⟨(rcget (rT t w h kerf k) k).x + minI (rcget (rT t w h kerf k) k).w ((ndget t k).a + kerf), (rcget (rT t w h kerf k) k).y, maxI 0 ((rcget (rT t w h kerf k) k).w - (ndget t k).a - kerf), (rcget (rT t w h kerf k) k).h⟩ else ⟨(rcget (rT t w h kerf k) k).x, (rcget (rT t w h kerf k) k).y + minI (rcget (rT t w h kerf k) k).h ((ndget t k).a + kerf), (rcget (rT t w h kerf k) k).w, maxI 0 ((rcget (rT t w h kerf k) k).h - (ndget t k).a - kerf)⟩ := rfl
    have lA : loP (cutA (rcget (rT t w h kerf k) k) (ndget t k)) = ((rT t w h kerf k).map loP).getD k v20 := by
      rw [glo, cutA]; split <;> rfl
    have mlo : (rT t w h kerf (k + 1)).map loP = ((((rT t w h kerf k).map loP).set (ndget t k).f.toNat (((rT t w h kerf k).map loP).getD k v20)).set (ndget t k).s.toNat (((rT t w h kerf k).map loP).getD k v20)).set (ndget t k).s.toNat (loP (cutB (rcget (rT t w h kerf k) k) (ndget t k) kerf)) := by
      rw [hrn, List.map_set, List.map_set, List.set_set, lA]
    have mhi : (rT t w h kerf (k + 1)).map hiP = ((((rT t w h kerf k).map hiP).set (ndget t k).f.toNat (((rT t w h kerf k).map hiP).getD k v20)).set (ndget t k).s.toNat (hiP (cutB (rcget (rT t w h kerf k) k) (ndget t k) kerf))).set (ndget t k).f.toNat (hiP (cutA (rcget (rT t w h kerf k) k) (ndget t k))) := by
      rw [hrn, List.map_set, List.map_set, List.set_comm _ _ (fun q => kne q.symm), List.set_set]
    show Split (ndget t k).v _
    refine Split.mk (fun c3 => ?_) (fun c3 => ?_)
    · rw [c3] at hcA hcB
      rw [if_pos c3] at hpos
      have cS : cutS (rcget (rT t w h kerf k) k) (ndget t k) = ⟨⟨(rcget (rT t w h kerf k) k).x + (ndget t k).a, (rcget (rT t w h kerf k) k).y⟩, ⟨(rcget (rT t w h kerf k) k).x + (ndget t k).a, (rcget (rT t w h kerf k) k).y + (rcget (rT t w h kerf k) k).h⟩⟩ := by rw [cutS, c3]; rfl
      replace hcA : cutA (rcget (rT t w h kerf k) k) (ndget t k) = ⟨(rcget (rT t w h kerf k) k).x, (rcget (rT t w h kerf k) k).y, (ndget t k).a, (rcget (rT t w h kerf k) k).h⟩ := hcA
      replace hcB : cutB (rcget (rT t w h kerf k) k) (ndget t k) kerf = ⟨(rcget (rT t w h kerf k) k).x + minI (rcget (rT t w h kerf k) k).w ((ndget t k).a + kerf), (rcget (rT t w h kerf k) k).y, maxI 0 ((rcget (rT t w h kerf k) k).w - (ndget t k).a - kerf), (rcget (rT t w h kerf k) k).h⟩ := hcB
      have hBe : hiP (cutB (rcget (rT t w h kerf k) k) (ndget t k) kerf) = hiP (rcget (rT t w h kerf k) k) := by
        have z1 := minI_spec (rcget (rT t w h kerf k) k).w ((ndget t k).a + kerf)
        have z2 := maxI_spec ((rcget (rT t w h kerf k) k).w - (ndget t k).a - kerf)
        rw [hcB]
        refine Sg.V2.ext ?_ ?_
        · show (rcget (rT t w h kerf k) k).x + minI (rcget (rT t w h kerf k) k).w ((ndget t k).a + kerf) + maxI 0 ((rcget (rT t w h kerf k) k).w - (ndget t k).a - kerf) = (rcget (rT t w h kerf k) k).x + (rcget (rT t w h kerf k) k).w
          omega
        · show (rcget (rT t w h kerf k) k).y + (rcget (rT t w h kerf k) k).h = (rcget (rT t w h kerf k) k).y + (rcget (rT t w h kerf k) k).h
          omega
      rw [hBe, ← ghi] at mhi
      have e1 : IntKind.i64.wrap ((rcget (rT t w h kerf k) k).x + (ndget t k).a) = (rcget (rT t w h kerf k) k).x + (ndget t k).a := hw _ (by omega) (by omega)
      have e2 : IntKind.i64.wrap (IntKind.i64.wrap ((rcget (rT t w h kerf k) k).x + (ndget t k).a) + kerf) = (rcget (rT t w h kerf k) k).x + (ndget t k).a + kerf := by rw [e1, hw _ (by omega) (by omega)]
      refine Need.mk (needApp (n := (sawL t w h kerf k).length + 1) (by omega) (by decide)) ?_
      refine Need.mk nf ?_
      refine Need.mk ns ?_
      refine Adj.back (x := k) (k + 1) (by omega) (by omega) (.cons (.bld (fun i hi j hj => ?_)) (.cons (.bld (fun i hi j hj => ?_)) (.cons (.bldN (by rw [hsn, List.length_append]; rfl) (fun i hi j hj => ?_)) .nil)))
        (.cons .same (.cons .same (.cons (.hdl rfl rfl) (.cons (.hdl rfl rfl) (.cons (.hdl rfl rfl) (.cons .same (.cons .same (.cons (SlotLe.int (hS k (by omega))) .nil))))))))
      · rw [mlo]
        refine SLe.ite (lG_cell Sg.vL v20 _ (loP (cutB (rcget (rT t w h kerf k) k) (ndget t k) kerf)) (ndget t k).s.toNat i j 0 2 _ (by rw [List.length_set, List.length_set, List.length_map]; omega) hj ?_ (fun j hj hne => ?_)) (SLe.ite (lG_set Sg.vL v20 _ (((rT t w h kerf k).map loP).getD k v20) (ndget t k).s.toNat i j 2 _ rfl (by rw [List.length_set, List.length_map]; omega) hj) (lG_set Sg.vL v20 _ (((rT t w h kerf k).map loP).getD k v20) (ndget t k).f.toNat i j 2 _ rfl (by rw [List.length_map]; omega) hj))
        · show i64 (loP (cutB (rcget (rT t w h kerf k) k) (ndget t k) kerf)).x = i64 (if IntKind.i64.wrap (IntKind.i64.wrap ((((rT t w h kerf k).map loP).getD k v20).x + (ndget t k).a) + kerf) < (((rT t w h kerf k).map hiP).getD k v20).x then IntKind.i64.wrap (IntKind.i64.wrap ((((rT t w h kerf k).map loP).getD k v20).x + (ndget t k).a) + kerf) else (((rT t w h kerf k).map hiP).getD k v20).x)
          rw [glo, ghi]
          show _ = i64 (if IntKind.i64.wrap (IntKind.i64.wrap ((rcget (rT t w h kerf k) k).x + (ndget t k).a) + kerf) < (rcget (rT t w h kerf k) k).x + (rcget (rT t w h kerf k) k).w then IntKind.i64.wrap (IntKind.i64.wrap ((rcget (rT t w h kerf k) k).x + (ndget t k).a) + kerf) else (rcget (rT t w h kerf k) k).x + (rcget (rT t w h kerf k) k).w)
          rw [e2, hcB]
          show i64 ((rcget (rT t w h kerf k) k).x + minI (rcget (rT t w h kerf k) k).w ((ndget t k).a + kerf)) = _
          congr 2
          unfold minI
          split <;> split <;> omega
        · rw [getD_set_eq (by rw [List.length_set, List.length_map]; omega), glo, hcB]
          match j, hj, hne with
          | 1, _, _ => rfl
          | 0, _, q => exact absurd rfl q
      · rw [mhi]
        refine SLe.ite (lG_cell Sg.vL v20 _ (hiP (cutA (rcget (rT t w h kerf k) k) (ndget t k))) (ndget t k).f.toNat i j 0 2 _ (by rw [List.length_set, List.length_set, List.length_map]; omega) hj ?_ (fun j hj hne => ?_)) (SLe.ite (lG_set Sg.vL v20 _ (((rT t w h kerf k).map hiP).getD k v20) (ndget t k).s.toNat i j 2 _ rfl (by rw [List.length_set, List.length_map]; omega) hj) (lG_set Sg.vL v20 _ (((rT t w h kerf k).map hiP).getD k v20) (ndget t k).f.toNat i j 2 _ rfl (by rw [List.length_map]; omega) hj))
        · show i64 (hiP (cutA (rcget (rT t w h kerf k) k) (ndget t k))).x = i64 (IntKind.i64.wrap ((((rT t w h kerf k).map loP).getD k v20).x + (ndget t k).a))
          rw [glo]
          show _ = i64 (IntKind.i64.wrap ((rcget (rT t w h kerf k) k).x + (ndget t k).a))
          rw [e1, hcA]; rfl
        · rw [getD_set_ne (fun q => kne q.symm), getD_set_eq (by rw [List.length_map]; omega), ghi, hcA]
          match j, hj, hne with
          | 1, _, _ => rfl
          | 0, _, q => exact absurd rfl q
      · rw [hsn]
        refine lG_snoc Sg.sL sg0 _ (cutS (rcget (rT t w h kerf k) k) (ndget t k)) 4 _ i j [i64 (IntKind.i64.wrap ((((rT t w h kerf k).map loP).getD k v20).x + (ndget t k).a)), i64 (((rT t w h kerf k).map loP).getD k v20).y, i64 (IntKind.i64.wrap ((((rT t w h kerf k).map loP).getD k v20).x + (ndget t k).a)), i64 (((rT t w h kerf k).map hiP).getD k v20).y] ?_ rfl hi hj
        rw [glo, ghi, cS]
        show [i64 (IntKind.i64.wrap ((rcget (rT t w h kerf k) k).x + (ndget t k).a)), i64 (rcget (rT t w h kerf k) k).y, i64 (IntKind.i64.wrap ((rcget (rT t w h kerf k) k).x + (ndget t k).a)), i64 ((rcget (rT t w h kerf k) k).y + (rcget (rT t w h kerf k) k).h)] = _
        rw [e1]
    · rw [c3] at hcA hcB
      rw [if_neg (by rw [c3]; simp)] at hpos
      have cS : cutS (rcget (rT t w h kerf k) k) (ndget t k) = ⟨⟨(rcget (rT t w h kerf k) k).x, (rcget (rT t w h kerf k) k).y + (ndget t k).a⟩, ⟨(rcget (rT t w h kerf k) k).x + (rcget (rT t w h kerf k) k).w, (rcget (rT t w h kerf k) k).y + (ndget t k).a⟩⟩ := by rw [cutS, c3]; rfl
      replace hcA : cutA (rcget (rT t w h kerf k) k) (ndget t k) = ⟨(rcget (rT t w h kerf k) k).x, (rcget (rT t w h kerf k) k).y, (rcget (rT t w h kerf k) k).w, (ndget t k).a⟩ := hcA
      replace hcB : cutB (rcget (rT t w h kerf k) k) (ndget t k) kerf = ⟨(rcget (rT t w h kerf k) k).x, (rcget (rT t w h kerf k) k).y + minI (rcget (rT t w h kerf k) k).h ((ndget t k).a + kerf), (rcget (rT t w h kerf k) k).w, maxI 0 ((rcget (rT t w h kerf k) k).h - (ndget t k).a - kerf)⟩ := hcB
      have hBe : hiP (cutB (rcget (rT t w h kerf k) k) (ndget t k) kerf) = hiP (rcget (rT t w h kerf k) k) := by
        have z1 := minI_spec (rcget (rT t w h kerf k) k).h ((ndget t k).a + kerf)
        have z2 := maxI_spec ((rcget (rT t w h kerf k) k).h - (ndget t k).a - kerf)
        rw [hcB]
        refine Sg.V2.ext ?_ ?_
        · show (rcget (rT t w h kerf k) k).x + (rcget (rT t w h kerf k) k).w = (rcget (rT t w h kerf k) k).x + (rcget (rT t w h kerf k) k).w
          omega
        · show (rcget (rT t w h kerf k) k).y + minI (rcget (rT t w h kerf k) k).h ((ndget t k).a + kerf) + maxI 0 ((rcget (rT t w h kerf k) k).h - (ndget t k).a - kerf) = (rcget (rT t w h kerf k) k).y + (rcget (rT t w h kerf k) k).h
          omega
      rw [hBe, ← ghi] at mhi
      have e1 : IntKind.i64.wrap ((rcget (rT t w h kerf k) k).y + (ndget t k).a) = (rcget (rT t w h kerf k) k).y + (ndget t k).a := hw _ (by omega) (by omega)
      have e2 : IntKind.i64.wrap (IntKind.i64.wrap ((rcget (rT t w h kerf k) k).y + (ndget t k).a) + kerf) = (rcget (rT t w h kerf k) k).y + (ndget t k).a + kerf := by rw [e1, hw _ (by omega) (by omega)]
      refine Need.mk (needApp (n := (sawL t w h kerf k).length + 1) (by omega) (by decide)) ?_
      refine Need.mk nf ?_
      refine Need.mk ns ?_
      refine Adj.back (x := k) (k + 1) (by omega) (by omega) (.cons (.bld (fun i hi j hj => ?_)) (.cons (.bld (fun i hi j hj => ?_)) (.cons (.bldN (by rw [hsn, List.length_append]; rfl) (fun i hi j hj => ?_)) .nil)))
        (.cons .same (.cons .same (.cons (.hdl rfl rfl) (.cons (.hdl rfl rfl) (.cons (.hdl rfl rfl) (.cons .same (.cons .same (.cons (SlotLe.int (hS k (by omega))) .nil))))))))
      · rw [mlo]
        refine SLe.ite (lG_cell Sg.vL v20 _ (loP (cutB (rcget (rT t w h kerf k) k) (ndget t k) kerf)) (ndget t k).s.toNat i j 1 2 _ (by rw [List.length_set, List.length_set, List.length_map]; omega) hj ?_ (fun j hj hne => ?_)) (SLe.ite (lG_set Sg.vL v20 _ (((rT t w h kerf k).map loP).getD k v20) (ndget t k).s.toNat i j 2 _ rfl (by rw [List.length_set, List.length_map]; omega) hj) (lG_set Sg.vL v20 _ (((rT t w h kerf k).map loP).getD k v20) (ndget t k).f.toNat i j 2 _ rfl (by rw [List.length_map]; omega) hj))
        · show i64 (loP (cutB (rcget (rT t w h kerf k) k) (ndget t k) kerf)).y = i64 (if IntKind.i64.wrap (IntKind.i64.wrap ((((rT t w h kerf k).map loP).getD k v20).y + (ndget t k).a) + kerf) < (((rT t w h kerf k).map hiP).getD k v20).y then IntKind.i64.wrap (IntKind.i64.wrap ((((rT t w h kerf k).map loP).getD k v20).y + (ndget t k).a) + kerf) else (((rT t w h kerf k).map hiP).getD k v20).y)
          rw [glo, ghi]
          show _ = i64 (if IntKind.i64.wrap (IntKind.i64.wrap ((rcget (rT t w h kerf k) k).y + (ndget t k).a) + kerf) < (rcget (rT t w h kerf k) k).y + (rcget (rT t w h kerf k) k).h then IntKind.i64.wrap (IntKind.i64.wrap ((rcget (rT t w h kerf k) k).y + (ndget t k).a) + kerf) else (rcget (rT t w h kerf k) k).y + (rcget (rT t w h kerf k) k).h)
          rw [e2, hcB]
          show i64 ((rcget (rT t w h kerf k) k).y + minI (rcget (rT t w h kerf k) k).h ((ndget t k).a + kerf)) = _
          congr 2
          unfold minI
          split <;> split <;> omega
        · rw [getD_set_eq (by rw [List.length_set, List.length_map]; omega), glo, hcB]
          match j, hj, hne with
          | 0, _, _ => rfl
          | 1, _, q => exact absurd rfl q
      · rw [mhi]
        refine SLe.ite (lG_cell Sg.vL v20 _ (hiP (cutA (rcget (rT t w h kerf k) k) (ndget t k))) (ndget t k).f.toNat i j 1 2 _ (by rw [List.length_set, List.length_set, List.length_map]; omega) hj ?_ (fun j hj hne => ?_)) (SLe.ite (lG_set Sg.vL v20 _ (((rT t w h kerf k).map hiP).getD k v20) (ndget t k).s.toNat i j 2 _ rfl (by rw [List.length_set, List.length_map]; omega) hj) (lG_set Sg.vL v20 _ (((rT t w h kerf k).map hiP).getD k v20) (ndget t k).f.toNat i j 2 _ rfl (by rw [List.length_map]; omega) hj))
        · show i64 (hiP (cutA (rcget (rT t w h kerf k) k) (ndget t k))).y = i64 (IntKind.i64.wrap ((((rT t w h kerf k).map loP).getD k v20).y + (ndget t k).a))
          rw [glo]
          show _ = i64 (IntKind.i64.wrap ((rcget (rT t w h kerf k) k).y + (ndget t k).a))
          rw [e1, hcA]; rfl
        · rw [getD_set_ne (fun q => kne q.symm), getD_set_eq (by rw [List.length_map]; omega), ghi, hcA]
          match j, hj, hne with
          | 0, _, _ => rfl
          | 1, _, q => exact absurd rfl q
      · rw [hsn]
        refine lG_snoc Sg.sL sg0 _ (cutS (rcget (rT t w h kerf k) k) (ndget t k)) 4 _ i j [i64 (((rT t w h kerf k).map loP).getD k v20).x, i64 (IntKind.i64.wrap ((((rT t w h kerf k).map loP).getD k v20).y + (ndget t k).a)), i64 (((rT t w h kerf k).map hiP).getD k v20).x, i64 (IntKind.i64.wrap ((((rT t w h kerf k).map loP).getD k v20).y + (ndget t k).a))] ?_ rfl hi hj
        rw [glo, ghi, cS]
        show [i64 (rcget (rT t w h kerf k) k).x, i64 (IntKind.i64.wrap ((rcget (rT t w h kerf k) k).y + (ndget t k).a)), i64 ((rcget (rT t w h kerf k) k).x + (rcget (rT t w h kerf k) k).w), i64 (IntKind.i64.wrap ((rcget (rT t w h kerf k) k).y + (ndget t k).a))] = _
        rw [e1]
  have he : k = t.length := by have := of_decide_eq_false c1; omega
  subst he
  exact Fin.tup (.cons (DLe.refl _) (.cons (DLe.refl _) .nil))
end St
end Go.Vm
