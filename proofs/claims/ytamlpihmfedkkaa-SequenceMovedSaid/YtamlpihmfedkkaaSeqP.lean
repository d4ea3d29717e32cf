/-
  Layer 47: SequenceMoved, the plain part.
-/
import Derived.Test.YtamlpihmfedkkaaSeqM
namespace Go.Vm
set_option maxRecDepth 20000
set_option linter.unusedVariables false
set_option linter.unusedSimpArgs false
open Go Go.RowKit Go.Proofs
namespace Sg

def mvC (v : V2) (c : Ct) : Ct := ⟨c.pl, c.hole, movL c.ring v, addW c.st v, c.at_⟩
structure Mv (l M : List Ct) (v : V2) : Prop where
  len : M.length = l.length
  at_ : ∀ i, i < l.length → ctGet M i = mvC v (ctGet l i)
  ring : ∀ i, i < l.length → RingOk (ctGet l i).ring ∧ nearR (movL (ctGet l i).ring v) = true
  st : ∀ i, i < l.length → In 7000 (ctGet l i).st
  v5 : In 500 v
theorem distV_move {a b v : V2} (ha : In 8000 a) (hb : In 8000 b) (hv : In 500 v) : distV (addW a v) (addW b v) = distV a b := by
  have e1 := addW_eq (ha.up (by decide)) (hv.up (by decide))
  have e2 := addW_eq (hb.up (by decide)) (hv.up (by decide))
  rw [e1, e2]
  simp only [distV, subW, addP]
  rw [show a.x + v.x - (b.x + v.x) = a.x - b.x by omega, show a.y + v.y - (b.y + v.y) = a.y - b.y by omega]
namespace Mv
variable {l M : List Ct} {v : V2}
theorem moved (h : Mv l M v) {i : Nat} (hi : i < l.length) : Moved (ctGet l i).ring (movL (ctGet l i).ring v) v :=
  mov_moved (h.ring i hi).1.near ((h.v5.up (by decide)).within (m := 4000) (by decide) (by decide))
theorem ring' (h : Mv l M v) {i : Nat} (hi : i < l.length) : RingOk (movL (ctGet l i).ring v) := (h.moved hi).ok (h.ring i hi).1 (h.ring i hi).2
theorem area (h : Mv l M v) {i : Nat} (hi : i < l.length) : area2R (movL (ctGet l i).ring v) = area2R (ctGet l i).ring := by
  have r := (h.ring i hi).1
  have r' := h.ring' hi
  unfold area2R
  rw [if_pos (ring_ok.2 r), if_pos (ring_ok.2 r'), area_eq (h.ring i hi).2 (by have := r'.forty; omega), area_eq r.near (by have := r.forty; omega), (h.moved hi).area]
theorem where_ (h : Mv l M v) {i j k : Nat} (hi : i < l.length) (hj : j < l.length) (hk : k < (ctGet l j).ring.length) : whereV (movL (ctGet l i).ring v) (gt (movL (ctGet l j).ring v) k) = whereV (ctGet l i).ring (gt (ctGet l j).ring k) := by
  have e : gt (movL (ctGet l j).ring v) k = addP (gt (ctGet l j).ring k) v := (h.moved hj).at_ k hk
  rw [whereV_eq (h.ring' hi), whereV_eq (h.ring i hi).1, e, (h.moved hi).where]
theorem inC_eq (h : Mv l M v) {i j : Nat} (hi : i < l.length) (hj : j < l.length) : inC (ctGet M j) (ctGet M i) = inC (ctGet l j) (ctGet l i) := by
  rw [h.at_ i hi, h.at_ j hj]
  show ((allB (movL (ctGet l j).ring v).length fun k => !decide (whereV (movL (ctGet l i).ring v) (gt (movL (ctGet l j).ring v) k) = 0)) && (decide (area2R (movL (ctGet l j).ring v) < area2R (movL (ctGet l i).ring v)) || (decide (area2R (movL (ctGet l j).ring v) = area2R (movL (ctGet l i).ring v)) && decide ((ctGet l j).hole < 0) && decide (0 ≤ (ctGet l i).hole)))) = _
  rw [h.area hi, h.area hj, movL_len, inC]
  congr 1
  exact allB_congr (fun k hk => by rw [h.where_ hi hj hk])
theorem depK_eq (h : Mv l M v) {i : Nat} (hi : i < l.length) : ∀ k, k ≤ l.length → depK M i k = depK l i k
  | 0, _ => rfl
  | k + 1, hk => by rw [depK, depK, h.depK_eq hi k (by omega), h.inC_eq hi (by omega)]
theorem depIn_eq (h : Mv l M v) {i : Nat} (hi : i < l.length) (s : List Int) : depIn M i s = depIn l i s := by rw [depIn, depIn, h.len, h.depK_eq hi _ (Nat.le_refl _)]
theorem readyK_eq (h : Mv l M v) (o : List Int) : ∀ k, k ≤ l.length → readyK M o k = readyK l o k
  | 0, _ => rfl
  | k + 1, hk => by rw [readyK, readyK, h.readyK_eq o k (by omega), readyB, readyB, h.depIn_eq (by omega)]
theorem stO_eq (h : Mv l M v) {x : Int} (h0 : 0 ≤ x) (hx : x < l.length) : stO M x = addW (stO l x) v := by
  show (ctGet M x.toNat).st = _
  rw [h.at_ x.toNat (by omega)]; rfl
theorem stO_in (h : Mv l M v) {x : Int} (h0 : 0 ≤ x) (hx : x < l.length) : In 8000 (stO l x) := (h.st x.toNat (by omega)).up (by decide)
theorem nowB_eq (h : Mv l M v) (ht : Int) (o : List Int) (ho : ∀ i, i < o.length → 0 ≤ iGet o i ∧ iGet o i < l.length) {x : Int} (h0 : 0 ≤ x) (hx : x < l.length) : nowB M ht o x = nowB l ht o x := by
  unfold nowB
  by_cases hz : o.length = 0
  · rw [decide_eq_true hz]; rfl
  · have := ho (o.length - 1) (by omega)
    rw [h.stO_eq this.1 this.2, h.stO_eq h0 hx, distV_move (h.stO_in this.1 this.2) (h.stO_in h0 hx) h.v5]
theorem headO_eq (h : Mv l M v) (hc : chkI l = 0) (first : V2) (o : List Int) (ho : ∀ i, i < o.length → 0 ≤ iGet o i ∧ iGet o i < l.length) : ∀ k, k ≤ o.length → headO M o (addW first v) k = addW (headO l o first k) v
  | 0, _ => rfl
  | k + 1, hk => by
    have := ho k (by omega)
    have ha := ok_at hc this.1 this.2
    show enC (ctGet M (iGet o k).toNat) = addW (enC (ctGet l (iGet o k).toNat)) v
    rw [h.at_ _ (by omega)]
    have e : gt (movL (ctGet l (iGet o k).toNat).ring v) (ctGet l (iGet o k).toNat).at_.toNat = addW (gt (ctGet l (iGet o k).toNat).ring (ctGet l (iGet o k).toNat).at_.toNat) v := movL_at _ v _ (by omega)
    exact e
theorem headO_in (h : Mv l M v) (hc : chkI l = 0) {first : V2} (hf : In 8000 first) (o : List Int) (ho : ∀ i, i < o.length → 0 ≤ iGet o i ∧ iGet o i < l.length) : ∀ k, k ≤ o.length → In 8000 (headO l o first k)
  | 0, _ => hf
  | k + 1, hk => by
    have := ho k (by omega)
    exact (near_in (h.ring (iGet o k).toNat (by omega)).1.near _).up (by decide)
end Mv
theorem amin_congr {f g : Int → Int} {L : List Int} (h : ∀ x, x ∈ L → f x = g x) : amin f L = amin g L := by
  cases L with
  | nil => rfl
  | cons a r =>
    have key : ∀ (r : List Int) (b : Int), f b = g b → (∀ x, x ∈ r → f x = g x) → r.foldl (aminF f) b = r.foldl (aminF g) b := by
      intro r
      induction r with
      | nil => intro b _ _; rfl
      | cons x r ih =>
        intro b hb hr
        rw [List.foldl_cons, List.foldl_cons]
        have hx := hr x (List.mem_cons_self ..)
        have e : aminF f b x = aminF g b x := by rw [aminF, aminF, hb, hx]
        rw [e]
        refine ih _ ?_ (fun y hy => hr y (List.mem_cons_of_mem _ hy))
        rw [aminF]
        split
        · exact hx
        · exact hb
    exact key r a (h a (List.mem_cons_self ..)) (fun x hx => h x (List.mem_cons_of_mem _ hx))
theorem filter_congr' {p q : Int → Bool} : ∀ {L : List Int}, (∀ x, x ∈ L → p x = q x) → L.filter p = L.filter q
  | [], _ => rfl
  | x :: L, h => by
    rw [List.filter_cons, List.filter_cons, h x (List.mem_cons_self ..), filter_congr' (fun y hy => h y (List.mem_cons_of_mem _ hy))]
namespace Mv
variable {l M : List Ct} {v : V2}
theorem choO_eq (h : Mv l M v) (ht : Int) (o : List Int) (ho : ∀ i, i < o.length → 0 ≤ iGet o i ∧ iGet o i < l.length) {head : V2} (hh : In 8000 head) : choO M ht o (addW head v) = choO l ht o head := by
  unfold choO
  rw [h.len, h.readyK_eq o _ (Nat.le_refl _)]
  have hm : ∀ x, x ∈ readyK l o l.length → 0 ≤ x ∧ x < l.length := fun x hx => by
    have := (readyK_mem l o l.length x).1 hx; exact ⟨this.1, this.2.1⟩
  rw [filter_congr' (fun x hx => h.nowB_eq ht o ho (hm x hx).1 (hm x hx).2)]
  refine amin_congr (fun x hx => ?_)
  have hx' := hm x (pickL_sub hx)
  show distV (stO M x) (addW head v) = distV (stO l x) head
  rw [h.stO_eq hx'.1 hx'.2, distV_move (h.stO_in hx'.1 hx'.2) hh h.v5]
theorem ordO_eq (h : Mv l M v) (hc : chkI l = 0) (ht : Int) {first : V2} (hf : In 8000 first) : ∀ k, k ≤ l.length → ordO M ht (addW first v) k = ordO l ht first k
  | 0, _ => rfl
  | k + 1, hk => by
    have hr : ∀ i, i < (ordO l ht first k).length → 0 ≤ iGet (ordO l ht first k) i ∧ iGet (ordO l ht first k) i < l.length := fun i hi => ordO_range l ht first (n := k) (by omega) (by rwa [ordO_len] at hi)
    rw [ordO, ordO, h.ordO_eq hc ht hf k (by omega), h.headO_eq hc first _ hr k (by rw [ordO_len]; exact Nat.le_refl _), h.choO_eq ht _ hr (h.headO_in hc hf _ hr k (by rw [ordO_len]; exact Nat.le_refl _))]
theorem okC_eq (h : Mv l M v) {i : Nat} (hi : i < l.length) : okC (ctGet M i) = okC (ctGet l i) := by
  have r := ring_ok.2 (h.ring i hi).1
  have r' := ring_ok.2 (h.ring' hi)
  have s := ((h.st i hi).up (show (7000 : Int) ≤ 8000 by decide)).within (by decide) (by decide)
  have s' : withinV (addW (ctGet l i).st v) 8000 = true := by
    have a := h.st i hi
    have b := h.v5
    rw [addW_eq (a.up (by decide)) (b.up (by decide))]
    refine In.within (by decide) (by decide) ⟨?_, ?_, ?_, ?_⟩
    · have := a.x0; have := b.x0; simp only [addP]; omega
    · have := a.x1; have := b.x1; simp only [addP]; omega
    · have := a.y0; have := b.y0; simp only [addP]; omega
    · have := a.y1; have := b.y1; simp only [addP]; omega
  rw [h.at_ i hi]
  show (validR (movL (ctGet l i).ring v) && decide (0 ≤ (ctGet l i).at_) && decide ((ctGet l i).at_ < (movL (ctGet l i).ring v).length) && decide (-1 ≤ (ctGet l i).hole) && withinV (addW (ctGet l i).st v) 8000) = _
  rw [r', s', movL_len, okC, r, s]
theorem chk_eq (h : Mv l M v) : chkI M = chkI l := by
  unfold chkI
  rw [h.len, allB_congr (fun i hi => h.okC_eq hi)]
theorem first_in (h : Mv l M v) {first : V2} (hf : In 500 first) : withinV (addW first v) 8000 = true := by
  have b := h.v5
  rw [addW_eq (hf.up (by decide)) (b.up (by decide))]
  refine In.within (by decide) (by decide) ⟨?_, ?_, ?_, ?_⟩
  · have := hf.x0; have := b.x0; simp only [addP]; omega
  · have := hf.x1; have := b.x1; simp only [addP]; omega
  · have := hf.y0; have := b.y0; simp only [addP]; omega
  · have := hf.y1; have := b.y1; simp only [addP]; omega
theorem ordT_eq (h : Mv l M v) (ht : Int) {first : V2} (hf : In 500 first) : ordT M ht (addW first v) = ordT l ht first := by
  unfold ordT
  rw [h.chk_eq, h.first_in hf, (hf.up (show (500 : Int) ≤ 8000 by decide)).within (by decide) (by decide)]
  by_cases hc : chkI l = 0
  · rw [h.len, h.ordO_eq hc ht (hf.up (by decide)) _ (Nat.le_refl _)]
  · rw [if_pos hc]
    exact (if_pos hc).symm
theorem stepB_eq (h : Mv l M v) (o : List Int) (k : Nat) : stepB M o k = stepB l o k := by
  unfold stepB
  rw [h.len]
  by_cases h1 : 0 ≤ iGet o k ∧ iGet o k < l.length
  · rw [h.depIn_eq (by omega)]
  · by_cases h2 : 0 ≤ iGet o k
    · rw [decide_eq_false (show ¬ iGet o k < l.length by omega)]; simp
    · rw [decide_eq_false h2]; simp
theorem chkT_eq (h : Mv l M v) (o : List Int) : chkT M o = chkT l o := by
  unfold chkT ordE
  rw [h.chk_eq, h.len, allB_congr (fun k _ => h.stepB_eq o k)]
theorem travK_eq (h : Mv l M v) (hc : chkI l = 0) {first : V2} (hf : In 8000 first) (o : List Int) (ho : ∀ i, i < o.length → 0 ≤ iGet o i ∧ iGet o i < l.length) : ∀ k, k ≤ o.length → travK M o (addW first v) k = travK l o first k
  | 0, _ => rfl
  | k + 1, hk => by
    have := ho k (by omega)
    rw [travK, travK, h.travK_eq hc hf o ho k (by omega), h.headO_eq hc first o ho k (by omega), h.stO_eq this.1 this.2, distV_move (h.stO_in this.1 this.2) (h.headO_in hc hf o ho k (by omega)) h.v5]
theorem travT_eq (h : Mv l M v) {first : V2} (hf : In 500 first) {o : List Int} (hk : chkT l o = 0) : travT M o (addW first v) = travT l o first := by
  obtain ⟨hc, hl, hst⟩ := chkT_ok hk
  unfold travT
  rw [h.chkT_eq, h.first_in hf, (hf.up (show (500 : Int) ≤ 8000 by decide)).within (by decide) (by decide), h.travK_eq hc (hf.up (by decide)) o (fun i hi => by have := step_in (hst i hi); exact ⟨this.1, this.2.1⟩) _ (Nat.le_refl _)]
end Mv
theorem distV_le {a b : V2} (ha : In 8000 a) (hb : In 8000 b) : 0 ≤ distV a b ∧ distV a b ≤ 16000 := by
  rw [distV_eq ha hb]
  obtain ⟨h1, h2, h3, h4⟩ := ha
  obtain ⟨k1, k2, k3, k4⟩ := hb
  unfold maxI
  constructor
  · repeat' split
    all_goals omega
  · repeat' split
    all_goals omega
theorem headO_in8 {l : List Ct} (hc : chkI l = 0) {first : V2} (hf : In 8000 first) (o : List Int) (ho : ∀ i, i < o.length → 0 ≤ iGet o i ∧ iGet o i < l.length) : ∀ k, k ≤ o.length → In 8000 (headO l o first k)
  | 0, _ => hf
  | k + 1, hk => by
    have := ho k (by omega)
    have := chk_ok hc (i := (iGet o k).toNat) (by omega)
    simp only [okC, Bool.and_eq_true] at this
    exact (near_in (ring_ok.1 this.1.1.1.1).near _).up (by decide)
theorem travK_grow {l : List Ct} (hc : chkI l = 0) {first : V2} (hf : In 8000 first) (o : List Int) (ho : ∀ i, i < o.length → 0 ≤ iGet o i ∧ iGet o i < l.length) (hl : o.length ≤ 120) : ∀ k, k ≤ o.length → 0 ≤ travK l o first k ∧ travK l o first k ≤ k * 16000 ∧ (1 ≤ k → distV (stO l (iGet o 0)) first ≤ travK l o first k)
  | 0, _ => ⟨Int.le_refl _, by simp [travK], fun h => absurd h (by decide)⟩
  | k + 1, hk => by
    obtain ⟨h1, h2, h3⟩ := travK_grow hc hf o ho hl k (by omega)
    have := ho k (by omega)
    have d := distV_le (ok_st hc this.1 this.2) (headO_in8 hc hf o ho k (by omega))
    have e : travK l o first (k + 1) = travK l o first k + distV (stO l (iGet o k)) (headO l o first k) := by rw [travK, wid' (by omega) (by omega)]
    refine ⟨by omega, by omega, fun _ => ?_⟩
    by_cases hz : k = 0
    · subst hz
      have : travK l o first 0 = 0 := rfl
      have : headO l o first 0 = first := rfl
      rw [this] at e
      omega
    · have := h3 (by omega); omega
theorem ord_bad' {l : List Ct} {h : Int} {v : V2} (he : (ordT l h v).2 ≠ 0) : (ordT l h v).1 = [] := by
  unfold ordT at he ⊢
  split
  · rfl
  · rename_i h1
    rw [if_neg h1] at he
    split
    · rfl
    · rename_i h2
      rw [if_neg h2] at he
      exact absurd rfl he
theorem lmov_det (l : List Ct) (o : List Int) (p : V2) (ht : Int) (v : V2) (hl : l.length ≤ maxLen) (hr : ∀ i, (ctGet l i).ring.length ≤ maxLen) : Det Try.prog 6 [.one (ctS l), .agg [ilS o, i64 p.x, i64 p.y, i64 ht], vD v] (tbool true) := by
  refine det_of_awp TTok mixed Try.func6 rfl rfl [16] (Nat.le_of_ble_eq_true rfl) ?_
  refine CallW.mk' awake47_det ?_
  refine Split.f ?_
  refine CallW.bool (few47_det l hl hr) (fun b hb => ?_)
  refine Split.mk (fun h => ?_) (fun h => ?_)
  · repeat' first | refine Split.isT h ?_ | refine Split.t ?_ | refine Split.f ?_ | fail
    exact Fin.rfl'
  have hf0 : fewCB l = true := by rw [← hb]; simpa using h
  obtain ⟨h8, hf⟩ := fewCB_iff hf0
  repeat' first | refine Split.isF h ?_ | refine Split.t ?_ | refine Split.f ?_ | fail
  refine CallW.bool (within_det v 500) (fun b1 hb1 => ?_)
  repeat' first | refine Split.isF h ?_ | refine Split.t ?_ | refine Split.f ?_ | fail
  refine Split.mk (fun h1 => ?_) (fun h1 => ?_)
  · repeat' first | refine Split.isF h ?_ | refine Split.isT h1 ?_ | refine Split.t ?_ | refine Split.f ?_ | fail
    exact Fin.rfl'
  have hv5 : In 500 v := In.of (by decide) (by decide) (by rw [← hb1]; simpa using h1)
  repeat' first | refine Split.isF h ?_ | refine Split.isF h1 ?_ | refine Split.t ?_ | refine Split.f ?_ | fail
  refine CallW.bool (within_det p 500) (fun b2 hb2 => ?_)
  repeat' first | refine Split.isF h ?_ | refine Split.isF h1 ?_ | refine Split.t ?_ | refine Split.f ?_ | fail
  refine Split.mk (fun h2 => ?_) (fun h2 => ?_)
  · exact Fin.rfl'
  have hp5 : In 500 p := In.of (by decide) (by decide) (by rw [← hb2]; simpa using h2)
  have hM : ∃ M, M = l.map (mvC v) := ⟨_, rfl⟩
  obtain ⟨M, hM⟩ := hM
  have hML : M.length = l.length := by rw [hM]; simp
  have hMat : ∀ i, i < l.length → ctGet M i = mvC v (ctGet l i) := fun i hi => by rw [hM]; simp [ctGet, List.getD, hi]
  refine Loop.by (α := Nat) (fun k => [(0, .d (.one (ctS l))), (4, .ptr 4 0), (5, .ptr 5 0), (7, .hdl 71 0), (8, tint k)]) (fun k => [(4, .box [ilS o, i64 p.x, i64 p.y, i64 ht]), (5, .box (vL v)), (71, .bld 0 k 6 48 (ctG M))]) (fun k => k ≤ l.length ∧ ∀ i, i < k → (RingOk (ctGet l i).ring ∧ nearR (movL (ctGet l i).ring v) = true) ∧ In 7000 (ctGet l i).st) (fun k => l.length - k)
    (Adj.nil 7 71 6 48 (ctG M) rfl rfl (Adj.at 0 ⟨Nat.zero_le _, fun _ h => absurd h (Nat.not_lt_zero _)⟩ (.cons (.box (LLe.of_eq rfl)) (.cons (.box (LLe.of_eq rfl)) (.cons (.bld (fun _ h => absurd h (Nat.not_lt_zero _))) .nil))) (.cons .same (.cons (.box rfl rfl) (.cons (.box rfl rfl) (.cons (.hdl rfl rfl) (.cons .same .nil))))))) (fun k hk => ?_)
  obtain ⟨hk, hall⟩ := hk
  refine Split.mk (fun h3 => ?_) (fun h3 => ?_)
  · have hlt : k < l.length := by have := of_decide_eq_true h3; omega
    refine Need.mk (by omega) ?_
    by_cases hmv : (movR (ctGet l k).ring v).2 = 0
    case neg =>
      refine CallW.ring (rmove_det (ctGet l k).ring v (by have := hf k; omega)) (fun e he => ?_)
      have hne : (e != 0) = true := by rw [he]; simpa using hmv
      repeat' first | refine Split.isT hne ?_ | refine Split.t ?_ | refine Split.f ?_ | fail
      exact Fin.rfl'
    obtain ⟨m1, m2, m3, m4⟩ := mov_ok hmv
    refine CallW.mk' ((rmove_det (ctGet l k).ring v (by have := hf k; omega)).eq (by rw [hmv, m4])) ?_
    repeat' first | refine Split.t ?_ | refine Split.f ?_ | fail
    refine CallW.bool (within_det (ctGet l k).st 7000) (fun b3 hb3 => ?_)
    repeat' first | refine Split.t ?_ | refine Split.f ?_ | fail
    refine Split.mk (fun h4 => ?_) (fun h4 => ?_)
    · exact Fin.rfl'
    have h7 : In 7000 (ctGet l k).st := In.of (by decide) (by decide) (by rw [← hb3]; simpa using h4)
    refine CallW.mk' (add_det (ctGet l k).st v) ?_
    refine Need.mk (needApp (by omega) (by decide)) ?_
    refine Adj.back (x := k) (k + 1) ⟨by omega, fun i hi => ?_⟩ (by omega) (.cons (.box (LLe.of_eq rfl)) (.cons (.box (LLe.of_eq rfl)) (.cons (.bld (fun i hi j hj => ctG_at M (mvC v (ctGet l k)) k i j hi hj (hMat k hlt).symm)) .nil))) (.cons .same (.cons (.box rfl rfl) (.cons (.box rfl rfl) (.cons (.hdl rfl rfl) (.cons (SlotLe.int ?_) .nil)))))
    · by_cases e : i = k
      · rw [e]; exact ⟨⟨m1, m3⟩, h7⟩
      · exact hall i (by omega)
    · rw [hw _ (by omega) (by omega)]; omega
  · have he : k = l.length := by have := of_decide_eq_false h3; omega
    subst he
    have hMv : Mv l M v := ⟨hML, hMat, fun i hi => (hall i hi).1, fun i hi => (hall i hi).2, hv5⟩
    refine Cut.mk (Adj.freeze 7 71 0 l.length 6 48 (ctG M) rfl rfl (Adj.keep [(0, .d (.one (ctS l))), (4, .ptr 4 0), (5, .ptr 5 0), (7, .d (.one (ctS M)))] [(4, .box [ilS o, i64 p.x, i64 p.y, i64 ht]), (5, .box (vL v))] (.cons (.box (LLe.of_eq rfl)) (.cons (.box (LLe.of_eq rfl)) .nil)) (.cons .same (.cons (.box rfl rfl) (.cons (.box rfl rfl) (.cons (.data (DLe.one (SLe.slN hML.symm (fun _ _ _ _ => SLe.refl _)))) .nil)))) ?_))
    have hfM : FewC M := fun i => by
      by_cases hi : i < l.length
      · rw [hMat i hi]; show (movL _ _).length ≤ 60; rw [movL_len]; exact hf i
      · have : ctGet M i = ct0 := by simp [ctGet, List.getD, hML, Nat.le_of_not_lt hi]
        rw [this]; exact Nat.zero_le _
    refine CallW.mk' (own_det l (by omega)) ?_
    refine CallW.mk' (order_det l p ht (by omega) hf) ?_
    refine Need.mk (by kernel_rfl) ?_
    refine CallW.mk' (own_det M (by omega)) ?_
    refine CallW.mk' (add_det p v) ?_
    refine CallW.mk' ((order_det M (addW p v) ht (by omega) hfM).eq (by rw [hMv.ordT_eq ht hp5])) ?_
    refine Need.mk (by kernel_rfl) ?_
    by_cases hE : (ordT l ht p).2 = 0
    case neg =>
      rw [ord_bad' hE]
      have hE' : ∃ e, e = (ordT l ht p).2 := ⟨_, rfl⟩
      obtain ⟨e, he⟩ := hE'
      rw [← he] at hE ⊢
      have ee : (e != e) = false := by simp
      have e0 : (e != 0) = true := by simpa using hE
      repeat' first | refine Split.isF ee ?_ | refine Split.t ?_ | refine Split.f ?_ | fail
      refine CallW.mk' ((samei_det [] [] (by decide)).eq (by rw [decide_eq_true rfl])) ?_
      repeat' first | refine Split.isF ee ?_ | refine Split.isT e0 ?_ | refine Split.t ?_ | refine Split.f ?_ | fail
      exact Fin.rfl'
    obtain ⟨h0, hO1, hok⟩ := ord_ok hE
    rw [hE]
    have hOx : ∃ O, O = (ordT l ht p).1 := ⟨_, rfl⟩
    obtain ⟨O, hO⟩ := hOx
    rw [← hO] at hO1 hok ⊢
    have hol : O.length = l.length := by rw [hO1, ordO_len]
    obtain ⟨_, _, hst⟩ := chkT_ok hok
    have hrg : ∀ k, k < O.length → 0 ≤ iGet O k ∧ iGet O k < l.length := fun k hk => by
      have := step_in (hst k hk); exact ⟨this.1, this.2.1⟩
    repeat' first | refine Split.t ?_ | refine Split.f ?_ | fail
    refine CallW.mk' ((samei_det O O (by omega)).eq (by rw [decide_eq_true rfl])) ?_
    repeat' first | refine Split.t ?_ | refine Split.f ?_ | fail
    refine Split.mk (fun h5 => ?_) (fun h5 => ?_)
    · have hz : O.length = 0 := by
        have : ((l.length : Int) == 0) = true := h5
        have : (l.length : Int) = 0 := by simpa using this
        omega
      refine Fin.bool ?_
      rw [hz]; rfl
    have hpos : 0 < O.length := by
      have h5' : ((l.length : Int) == 0) = false := h5
      rw [hol]
      refine Nat.pos_of_ne_zero (fun q => ?_)
      rw [q] at h5'
      simp at h5'
    refine CallW.mk' (own_det l (by omega)) ?_
    refine CallW.mk' (travel_det l O p (by omega) (by omega) hf) ?_
    refine Need.mk (by kernel_rfl) ?_
    refine CallW.mk' (own_det M (by omega)) ?_
    refine CallW.mk' (add_det p v) ?_
    refine CallW.mk' ((travel_det M O (addW p v) (by omega) (by omega) hfM).eq (by rw [hMv.travT_eq hp5 hok])) ?_
    refine Need.mk (by kernel_rfl) ?_
    have hT : travT l O p = (travK l O p O.length, 0) := by
      rw [travT, if_neg (by simp [hok]), if_neg (by rw [(hp5.up (show (500 : Int) ≤ 8000 by decide)).within (by decide) (by decide)]; simp)]
    rw [hT]
    have hg := (travK_grow h0 (hp5.up (by decide)) O hrg (by omega) O.length (Nat.le_refl _)).2.2 (by omega)
    have hn : ∃ n, n = travK l O p O.length := ⟨_, rfl⟩
    obtain ⟨n, hn⟩ := hn
    rw [← hn] at hg ⊢
    have en : (n == n) = true := by simp
    repeat' first | refine Split.isT en ?_ | refine Split.t ?_ | refine Split.f ?_ | fail
    refine Need.mk (by omega) ?_
    repeat' first | refine Split.isT en ?_ | refine Split.t ?_ | refine Split.f ?_ | fail
    refine Need.mk (hrg 0 hpos) ?_
    repeat' first | refine Split.isT en ?_ | refine Split.t ?_ | refine Split.f ?_ | fail
    refine CallW.v (sub_det (stO l (iGet O 0)) p) (fun s hs => ?_)
    repeat' first | refine Split.isT en ?_ | refine Split.t ?_ | refine Split.f ?_ | fail
    refine CallW.int (rnorm_det s) (fun d hd => ?_)
    repeat' first | refine Split.isT en ?_ | refine Split.t ?_ | refine Split.f ?_ | fail
    refine Need.mk (by kernel_rfl) ?_
    refine Fin.bool ?_
    refine decide_eq_true ?_
    show n ≥ d
    rw [hd, hs]
    exact hg
theorem lmov_all : ∀ dvs, TypL Try.prog Try.f6.params.toList dvs → Det Try.prog 6 dvs (tbool true) := by
  intro dvs h
  obtain ⟨v0, r0, rfl, h0, q0⟩ := TypL.inv_cons (t := 22) (ts := [52, 35]) h
  obtain ⟨v1, r1, rfl, h1, q1⟩ := TypL.inv_cons (t := 52) (ts := [35]) q0
  obtain ⟨v2, r2, rfl, h2, q2⟩ := TypL.inv_cons (t := 35) (ts := []) q1
  obtain rfl := TypL.inv_nil q2
  obtain ⟨l, hl, hr, hle⟩ := cts_of h0
  obtain ⟨o, p, n, ho, hle2, _⟩ := asked_of h1
  obtain ⟨v, rfl, _⟩ := vecIn h2
  exact Det.le (.cons hle (.cons hle2 (.cons (DLe.refl _) .nil))) (lmov_det l o p n v hl hr)
end Sg
end Go.Vm
