/-
  Layer 37, plain: what the leaves of a tree add up to; the contract of StripArea.
-/
import Derived.Test.YtfoblfchkgapoaaStpM
namespace Go.Vm
set_option maxRecDepth 20000
set_option linter.unusedVariables false
set_option linter.unusedSimpArgs false
open Go Go.RowKit Go.Proofs
namespace St

def sumI : Nat → (Nat → Int) → Int
  | 0, _ => 0
  | n + 1, g => sumI n g + g n
theorem sumI_congr {g g' : Nat → Int} : ∀ {n : Nat}, (∀ i, i < n → g i = g' i) → sumI n g = sumI n g'
  | 0, _ => rfl
  | n + 1, h => by rw [sumI, sumI, sumI_congr (fun i hi => h i (by omega)), h n (by omega)]
theorem sumI_le {g g' : Nat → Int} : ∀ {n : Nat}, (∀ i, i < n → g i ≤ g' i) → sumI n g ≤ sumI n g'
  | 0, _ => Int.le_refl _
  | n + 1, h => by
    have := sumI_le (n := n) (fun i hi => h i (by omega))
    have := h n (by omega)
    simp only [sumI]; omega
theorem sumI_nonneg {g : Nat → Int} : ∀ {n : Nat}, (∀ i, i < n → 0 ≤ g i) → 0 ≤ sumI n g
  | 0, _ => Int.le_refl _
  | n + 1, h => by
    have := sumI_nonneg (n := n) (fun i hi => h i (by omega))
    have := h n (by omega)
    simp only [sumI]; omega
theorem sumI_upd {g g' : Nat → Int} : ∀ {n k : Nat}, k < n → (∀ i, i ≠ k → g' i = g i) → sumI n g' = sumI n g - g k + g' k
  | 0, k, hk, _ => absurd hk (Nat.not_lt_zero _)
  | n + 1, k, hk, h => by
    simp only [sumI]
    by_cases e : k = n
    · subst e
      rw [sumI_congr (g := g') (g' := g) (fun i hi => h i (by omega))]
      omega
    · rw [sumI_upd (n := n) (k := k) (by omega) h, h n (by omega)]
      omega
theorem rc_set_eq (R : List Rc) (i : Nat) (x : Rc) (h : i < R.length) : rcget (R.set i x) i = x := by simp [rcget, List.getD, h]
theorem rc_set_ne (R : List Rc) (i j : Nat) (x : Rc) (h : i ≠ j) : rcget (R.set i x) j = rcget R j := by simp [rcget, List.getD, List.getElem?_set_ne h]
theorem rect_at {t : List Nd} {w h kerf : Int} (hr : rectB t w h kerf = true) {i : Nat} (hi : i < t.length) : posB (rcget (rT t w h kerf i) i) (ndget t i) = true := allN_iff.1 hr i hi
/-- What is shared out from the root to the leaves. -/
theorem pot {t : List Nd} {w h kerf : Int} (φ : Rc → Int) (φ0 : φ rc0 = 0) (hw : 0 ≤ w) (hh : 0 ≤ h) (hk : 0 ≤ kerf) (pos : ∀ r, InR w h r → 0 ≤ φ r)
    (cut : ∀ r n, InR w h r → leafI n = false → posB r n = true → φ (cutA r n) + φ (cutB r n kerf) ≤ φ r) (hj : joinB t = true) (hr : rectB t w h kerf = true) :
    sumI t.length (fun i => if leafI (ndget t i) = true then φ (rcget (rT t w h kerf t.length) i) else 0) ≤ φ ⟨0, 0, w, h⟩ := by
  have hlen : 1 ≤ t.length := by
    simp only [joinB, Bool.and_eq_true, inB_iff] at hj
    omega
  have inn : ∀ k, k ≤ t.length → ∀ j, InR w h (rcget (rT t w h kerf k) j) := fun k hk' j => rT_in hw hh hk k (fun i hi => rect_at hr (by omega)) j
  have key : ∀ k, k ≤ t.length → sumI t.length (fun i => if i < k ∧ leafI (ndget t i) = false then 0 else φ (rcget (rT t w h kerf k) i)) ≤ φ ⟨0, 0, w, h⟩ := by
    intro k
    induction k with
    | zero =>
      intro _
      have e : sumI t.length (fun i => if i < 0 ∧ leafI (ndget t i) = false then 0 else φ (rcget (rT t w h kerf 0) i)) = φ ⟨0, 0, w, h⟩ := by
        rw [sumI_upd (g := fun _ => 0) (k := 0) hlen (fun i hi => by
          rw [if_neg (by omega), rT, rc_set_ne _ _ _ _ (Ne.symm hi)]
          have : rcget (List.replicate t.length rc0) i = rc0 := by rw [rcget, List.getD, List.getElem?_replicate]; split <;> rfl
          rw [this, φ0])]
        rw [if_neg (by omega), rT, rc_set_eq _ _ _ (by rw [List.length_replicate]; exact hlen)]
        have : ∀ n : Nat, sumI n (fun _ => 0) = 0 := fun n => by
          induction n with
          | zero => rfl
          | succ n ih => rw [sumI, ih]; rfl
        rw [this]
        omega
      omega
    | succ k ih =>
      intro hk'
      have ihk := ih (by omega)
      have hkl : k < t.length := by omega
      have ok := join_nd hj hkl
      have hp := rect_at hr hkl
      cases hl : leafI (ndget t k) with
      | true =>
        have e : rT t w h kerf (k + 1) = rT t w h kerf k := by rw [rT, if_pos hl]
        rw [e]
        refine Int.le_trans (Int.le_of_eq (sumI_congr fun i hi => ?_)) ihk
        by_cases h1 : i = k
        · subst h1
          rw [if_neg (by rw [hl]; simp), if_neg (by rw [hl]; simp)]
        · have : (i < k + 1 ∧ leafI (ndget t i) = false) ↔ (i < k ∧ leafI (ndget t i) = false) := by
            constructor <;> rintro ⟨a, b⟩ <;> exact ⟨by omega, b⟩
          simp only [this]
      | false =>
        rw [ndOkB, hl, Bool.false_and, Bool.false_or, Bool.and_eq_true, inB_iff, inB_iff] at ok
        have hc := cut (rcget (rT t w h kerf k) k) (ndget t k) (inn k (by omega) k) hl hp
        obtain ⟨iA, iB⟩ := cut_in (kerf := kerf) (inn k (by omega) k) hk hl hp
        have e : rT t w h kerf (k + 1) = ((rT t w h kerf k).set (ndget t k).f.toNat (cutA (rcget (rT t w h kerf k) k) (ndget t k))).set (ndget t k).s.toNat (cutB (rcget (rT t w h kerf k) k) (ndget t k) kerf) := by rw [rT, if_neg (by rw [hl]; simp)]
        have hRl := rT_len t w h kerf k
        rw [e]
        generalize hA : cutA (rcget (rT t w h kerf k) k) (ndget t k) = A at *
        generalize hB : cutB (rcget (rT t w h kerf k) k) (ndget t k) kerf = B at *
        have inR := inn k (by omega)
        generalize rT t w h kerf k = R at *
        obtain ⟨f, hf⟩ : ∃ f : Nat, (ndget t k).f = f := ⟨(ndget t k).f.toNat, by omega⟩
        obtain ⟨s, hs⟩ : ∃ s : Nat, (ndget t k).s = s := ⟨(ndget t k).s.toNat, by omega⟩
        rw [hf, hs] at ok ⊢
        simp only [Int.toNat_natCast]
        have s1 : sumI t.length (fun i => if i < k + 1 ∧ leafI (ndget t i) = false then 0 else φ (rcget R i)) = sumI t.length (fun i => if i < k ∧ leafI (ndget t i) = false then 0 else φ (rcget R i)) - φ (rcget R k) := by
          rw [sumI_upd (g := fun i => if i < k ∧ leafI (ndget t i) = false then 0 else φ (rcget R i)) (k := k) hkl (fun i hi => by
            have : (i < k + 1 ∧ leafI (ndget t i) = false) ↔ (i < k ∧ leafI (ndget t i) = false) := by
              constructor <;> rintro ⟨a, b⟩ <;> exact ⟨by omega, b⟩
            simp only [this])]
          rw [if_neg (by omega), if_pos ⟨Nat.lt_succ_self k, hl⟩]
          omega
        have s2 : sumI t.length (fun i => if i < k + 1 ∧ leafI (ndget t i) = false then 0 else φ (rcget (R.set f A) i)) = sumI t.length (fun i => if i < k + 1 ∧ leafI (ndget t i) = false then 0 else φ (rcget R i)) - φ (rcget R f) + φ A := by
          rw [sumI_upd (g := fun i => if i < k + 1 ∧ leafI (ndget t i) = false then 0 else φ (rcget R i)) (k := f) (by omega) (fun i hi => by rw [rc_set_ne _ _ _ _ (Ne.symm hi)])]
          rw [if_neg (by omega), if_neg (by omega), rc_set_eq _ _ _ (by omega)]
        have s3 : sumI t.length (fun i => if i < k + 1 ∧ leafI (ndget t i) = false then 0 else φ (rcget ((R.set f A).set s B) i)) = sumI t.length (fun i => if i < k + 1 ∧ leafI (ndget t i) = false then 0 else φ (rcget (R.set f A) i)) - φ (rcget (R.set f A) s) + φ B := by
          rw [sumI_upd (g := fun i => if i < k + 1 ∧ leafI (ndget t i) = false then 0 else φ (rcget (R.set f A) i)) (k := s) (by omega) (fun i hi => by rw [rc_set_ne _ _ _ _ (Ne.symm hi)])]
          rw [if_neg (by omega), if_neg (by omega), rc_set_eq _ _ _ (by rw [List.length_set]; omega)]
        have p1 := pos _ (inR f)
        have p2 : 0 ≤ φ (rcget (R.set f A) s) := getD_set R f s A rc0 (fun r => 0 ≤ φ r) (pos _ iA) (pos _ (inR s))
        omega
  refine Int.le_trans (Int.le_of_eq (sumI_congr fun i hi => ?_)) (key t.length (Nat.le_refl _))
  cases hl : leafI (ndget t i) with
  | true => simp
  | false => simp [hi]
def areaR (r : Rc) : Int := r.w * r.h
theorem area_cut {w h kerf : Int} (hk : 0 ≤ kerf) (r : Rc) (n : Nd) (hr : InR w h r) (hl : leafI n = false) (hp : posB r n = true) : areaR (cutA r n) + areaR (cutB r n kerf) ≤ areaR r := by
  have w0 := hr.w0; have h0 := hr.h0
  rw [posB, if_neg (by rw [hl]; simp), inB_iff] at hp
  unfold cutA cutB areaR
  cases hv : n.v with
  | true =>
    rw [hv] at hp
    simp only [if_true] at hp ⊢
    have b := maxI_spec (r.w - n.a - kerf)
    generalize maxI 0 (r.w - n.a - kerf) = y at *
    have := Int.mul_le_mul_of_nonneg_right (show n.a + y ≤ r.w by omega) h0
    rw [Int.add_mul] at this
    exact this
  | false =>
    rw [hv] at hp
    simp only [Bool.false_eq_true, if_false] at hp ⊢
    have b := maxI_spec (r.h - n.a - kerf)
    generalize maxI 0 (r.h - n.a - kerf) = y at *
    have := Int.mul_le_mul_of_nonneg_left (show n.a + y ≤ r.h by omega) w0
    rw [Int.mul_add] at this
    exact this
/-- The pieces' values, without wraps. -/
def vvI (t : List Nd) (ks : List Knd) (i : Nat) : Int := if leafP (ndget t i) = true ∧ inB (ndget t i).k 0 (ks.length - 1) = true then (kget ks (ndget t i).k.toNat).v else 0
theorem valS_eq {t : List Nd} {ks : List Knd} (hks : ∀ k ∈ ks, 0 ≤ k.v ∧ k.v ≤ 1000000) : ∀ k, k ≤ 1000000 → valS t ks k = sumI k (vvI t ks) ∧ 0 ≤ valS t ks k ∧ valS t ks k ≤ k * 1000000
  | 0, _ => ⟨rfl, Int.le_refl _, Int.le_refl _⟩
  | k + 1, hk => by
    obtain ⟨e, a, b⟩ := valS_eq (t := t) hks k (by omega)
    have ev : vvI t ks k = if leafP (ndget t k) = true ∧ inB (ndget t k).k 0 (ks.length - 1) = true then (kget ks (ndget t k).k.toNat).v else 0 := rfl
    rw [valS, sumI, ev]
    split
    · rename_i h
      have hin := inB_iff.1 h.2
      have hm : kget ks (ndget t k).k.toNat ∈ ks := kget_mem (by omega)
      obtain ⟨v0, v1⟩ := hks _ hm
      rw [wid' (by omega) (by omega), e]
      exact ⟨rfl, by omega, by omega⟩
    · rw [e]
      exact ⟨by omega, by omega, by omega⟩
theorem val_pot {t : List Nd} {ks : List Knd} {w h kerf : Int} (hv : validB t ks w h kerf = true) (φ : Rc → Int) (φ0 : φ rc0 = 0) (pos : ∀ r, InR w h r → 0 ≤ φ r)
    (cut : ∀ r n, InR w h r → leafI n = false → posB r n = true → φ (cutA r n) + φ (cutB r n kerf) ≤ φ r) (piece : ∀ k ∈ ks, ∀ r, InR w h r → r.w = k.w → r.h = k.h → k.v ≤ φ r) : valS t ks t.length ≤ φ ⟨0, 0, w, h⟩ := by
  simp only [validB, Bool.and_eq_true] at hv
  obtain ⟨hp, hj, hr, hkb⟩ := hv
  have p := prob_iff.1 hp
  have hlen : t.length ≤ 4000 := by
    have := hj
    simp only [joinB, Bool.and_eq_true, inB_iff] at this
    omega
  rw [(valS_eq (fun k hk => ⟨(p.ok k hk).v0, (p.ok k hk).v1⟩) t.length (by omega)).1]
  have w0 := p.w0; have h0 := p.h0
  have key := pot φ φ0 (by omega) (by omega) p.k0 pos cut hj hr
  refine Int.le_trans (sumI_le fun i hi => ?_) key
  have inn := rT_in (t := t) (kerf := kerf) (show 0 ≤ w by omega) (show 0 ≤ h by omega) p.k0 t.length (fun i hi => rect_at hr hi) i
  have hls := leaf_same hj hr hi
  have hko : kindOkB ks (rcget (rT t w h kerf t.length) i) (ndget t i) = true := allN_iff.1 hkb i hi
  unfold vvI
  rw [hls]
  cases hl : leafI (ndget t i) with
  | false => simp
  | true =>
    simp only [true_and, if_true]
    split
    · rename_i hin
      rw [kindOkB, if_pos hl, Bool.or_eq_true, decide_eq_true_eq, Bool.and_eq_true, Bool.and_eq_true, decide_eq_true_eq, decide_eq_true_eq] at hko
      rw [inB_iff] at hin
      rcases hko with q | ⟨_, q1, q2⟩
      · omega
      · exact piece _ (kget_mem (by omega)) _ inn q1 q2
    · exact pos _ inn
theorem tree_area {t : List Nd} {ks : List Knd} {w h kerf : Int} (hv : validB t ks w h kerf = true) (ha : ∀ k ∈ ks, k.v = k.w * k.h) : valS t ks t.length ≤ w * h := by
  have hp := hv
  simp only [validB, Bool.and_eq_true] at hp
  have p := prob_iff.1 hp.1
  exact val_pot hv areaR rfl (fun r hr => Int.mul_nonneg hr.w0 hr.h0) (fun r n hr hl hq => area_cut p.k0 r n hr hl hq) (fun k hk r _ h1 h2 => by rw [ha k hk, areaR, h1, h2]; exact Int.le_refl _)
/-! ### Own, StripArea -/
theorem own_det (l : List Nd) (hl : l.length ≤ 100000000) : Det Try.prog 25 [.one (ndS l)] (.d (.one (ndS l))) := by
  refine det_of_awp TTok mixed Try.func25 rfl rfl [] (Nat.le_of_ble_eq_true rfl) ?_
  refine Loop.by (α := Nat) (fun k => [(3, .hdl 15 0), (6, .d (.one (ndS l))), (7, tint l.length), (8, tint k)]) (fun k => [(15, .bld 0 k 5 96 (lG ndL nd0 l))]) (fun k => k ≤ l.length) (fun k => l.length - k)
    (Adj.nil 3 15 5 96 (lG ndL nd0 l) rfl rfl (Adj.at 0 (Nat.zero_le _) (.cons (.bld (fun _ h => absurd h (Nat.not_lt_zero _))) .nil) (.cons (.hdl rfl rfl) (.cons .same (.cons .same (.cons .same .nil)))))) (fun k hk => ?_)
  refine Split.mk (fun h => ?_) (fun h => ?_)
  · have hlt : k < l.length := by have := of_decide_eq_true h; omega
    refine Need.mk (by omega) ?_
    refine Need.mk (needApp (n := k + 1) (by omega) (by decide)) ?_
    refine Adj.back (x := k) (k + 1) (by omega) (by omega) (.cons (.bld (fun i hi j hj => lG_at ndL nd0 l k 5 i j _ rfl hi)) .nil) (.cons (.hdl rfl rfl) (.cons .same (.cons .same (.cons (SlotLe.int (hS k (by omega))) .nil))))
  · have he : k = l.length := by have := of_decide_eq_false h; omega
    refine Fin.one ?_
    exact SLe.slN he (fun _ _ _ _ => SLe.refl _)
theorem CallW.nds {P : Program} {f : FuncId} {args : List DV} {K : TV → Prop} {a : List Nd} (h : Det P f args (.d (.one (ndS a)))) (kk : K (.d (.one (ndS a)))) : CallW P f args K := ⟨_, h, kk⟩
def areaK (l : List Knd) : List Knd := l.map fun k => ⟨k.w, k.h, k.w * k.h⟩
theorem larea_det (z : Pz) (t : List Nd) (hl : z.ks.length ≤ maxLen) : Det Try.prog 6 [.agg (pzL z), .one (ndS t)] (tbool true) := by
  refine det_of_awp TTok mixed Try.func6 rfl rfl [14] (Nat.le_of_ble_eq_true rfl) ?_
  refine CallW.mk' awake37_det ?_
  refine Split.f ?_
  refine CallW.bool (small_det z) (fun b1 hb1' => ?_)
  refine Split.mk (fun c1 => ?_) (fun c1 => ?_)
  · repeat' first | refine Split.isT c1 ?_ | refine Split.t ?_ | refine Split.f ?_ | fail
    exact Fin.rfl'
  have hsm := small_iff.1 (by rw [← hb1']; simpa using c1 : smallB z = true)
  repeat' first | refine Split.isF c1 ?_ | refine Split.t ?_ | refine Split.f ?_ | fail
  refine Split.mk (fun c2 => ?_) (fun c2 => ?_)
  · repeat' first | refine Split.isF c1 ?_ | refine Split.isT c2 ?_ | refine Split.t ?_ | refine Split.f ?_ | fail
    exact Fin.rfl'
  have htl : t.length ≤ 300 := by have := of_decide_eq_false c2; omega
  repeat' first | refine Split.isF c1 ?_ | refine Split.isF c2 ?_ | refine Split.t ?_ | refine Split.f ?_ | fail
  refine CallW.bool (rproblem_det z.ks z.w z.h z.kerf (by omega)) (fun b2 hb2 => ?_)
  repeat' first | refine Split.isF c1 ?_ | refine Split.isF c2 ?_ | refine Split.t ?_ | refine Split.f ?_ | fail
  refine Split.mk (fun c3 => ?_) (fun c3 => ?_)
  · exact Fin.rfl'
  have p : Pb z.ks z.w z.h z.kerf := prob_iff.1 (by rw [← hb2]; simpa using c3)
  have hal : (areaK z.ks).length = z.ks.length := by simp [areaK]
  have hag : ∀ i, i < z.ks.length → kget (areaK z.ks) i = ⟨(kget z.ks i).w, (kget z.ks i).h, (kget z.ks i).w * (kget z.ks i).h⟩ := fun i hi => by simp [areaK, kget, List.getD, hi]
  have w0 := p.w0; have w1 := p.w1; have h0 := p.h0; have h1 := p.h1
  refine Loop.by (α := Nat) (fun k => [(1, .d (.one (ndS t))), (2, .ptr 2 0), (5, .hdl 61 0), (35, .d (.one (kS z.ks))), (36, tint z.ks.length), (37, tint k)]) (fun k => [(2, .box (pzL z)), (61, .bld 0 k 3 46 (lG kL k0 (areaK z.ks)))]) (fun k => k ≤ z.ks.length ∧ ∀ i, i < k → (kget z.ks i).w ≤ 500 ∧ (kget z.ks i).h ≤ 500) (fun k => z.ks.length - k)
    (Adj.nil 5 61 3 46 (lG kL k0 (areaK z.ks)) rfl rfl (Adj.at 0 ⟨Nat.zero_le _, fun _ h => absurd h (Nat.not_lt_zero _)⟩ (.cons (.box (LLe.of_eq rfl)) (.cons (.bld (fun _ h => absurd h (Nat.not_lt_zero _))) .nil)) (.cons .same (.cons (.box rfl rfl) (.cons (.hdl rfl rfl) (.cons .same (.cons .same (.cons .same .nil)))))))) (fun k hk => ?_)
  obtain ⟨hk, hall⟩ := hk
  refine Split.mk (fun h => ?_) (fun h => ?_)
  · have hlt : k < z.ks.length := by have := of_decide_eq_true h; omega
    have q := p.at' hlt
    have q1 := q.w0; have q2 := q.h0; have q3 := q.w1; have q4 := q.h1
    refine Need.mk (by omega) ?_
    show Split (decide ((kget z.ks k).w > 500)) _
    refine Split.mk (fun d1 => ?_) (fun d1 => ?_)
    · repeat' first | refine Split.isT d1 ?_ | refine Split.t ?_ | refine Split.f ?_ | fail
      exact Fin.rfl'
    have d1' : ¬ (kget z.ks k).w > 500 := of_decide_eq_false d1
    repeat' first | refine Split.isF d1 ?_ | refine Split.t ?_ | refine Split.f ?_ | fail
    show Split (decide ((kget z.ks k).h > 500)) _
    refine Split.mk (fun d2 => ?_) (fun d2 => ?_)
    · exact Fin.rfl'
    have d2' : ¬ (kget z.ks k).h > 500 := of_decide_eq_false d2
    refine Need.mk (needApp (n := k + 1) (by omega) (by decide)) ?_
    have hb : (kget z.ks k).w * (kget z.ks k).h ≤ 500 * 500 := Int.mul_le_mul (by omega) (by omega) (by omega) (by decide)
    have hb0 : 0 ≤ (kget z.ks k).w * (kget z.ks k).h := Int.mul_nonneg (by omega) (by omega)
    have em : IntKind.i64.wrap ((kget z.ks k).w * (kget z.ks k).h) = (kget z.ks k).w * (kget z.ks k).h := hw _ (by omega) (by omega)
    refine Adj.back (x := k) (k + 1) ⟨by omega, fun i hi => ?_⟩ (by omega) (.cons (.box (LLe.of_eq rfl)) (.cons (.bld (fun i hi j hj => lG_at kL k0 (areaK z.ks) k 3 i j [i64 (kget z.ks k).w, i64 (kget z.ks k).h, i64 (IntKind.i64.wrap ((kget z.ks k).w * (kget z.ks k).h))] (by rw [em]; exact (congrArg kL (hag k hlt)).symm) hi)) .nil)) (.cons .same (.cons (.box rfl rfl) (.cons (.hdl rfl rfl) (.cons .same (.cons .same (.cons (SlotLe.int (hS k (by omega))) .nil))))))
    rcases Nat.lt_succ_iff_lt_or_eq.1 hi with hi | rfl
    · exact hall i hi
    · exact ⟨by omega, by omega⟩
  have he : k = z.ks.length := by have := of_decide_eq_false h; omega
  subst he
  have pa : Pb (areaK z.ks) z.w z.h z.kerf := ⟨by rw [hal]; exact p.len, fun a ha => by
    obtain ⟨i, hi, e⟩ := kget_of ha
    rw [hal] at hi
    rw [hag i hi] at e
    subst e
    obtain ⟨u1, u2⟩ := hall i hi
    have q := p.at' hi
    have q1 := q.w0; have q2 := q.h0
    have hb : (kget z.ks i).w * (kget z.ks i).h ≤ 500 * 500 := Int.mul_le_mul u1 u2 (by omega) (by decide)
    have hb0 : 0 ≤ (kget z.ks i).w * (kget z.ks i).h := Int.mul_nonneg (by omega) (by omega)
    exact ⟨q1, q.w1, q2, q.h1, hb0, by show _ * _ ≤ _; omega⟩, p.w0, p.w1, p.h0, p.h1, p.k0, p.k1⟩
  have hav : ∀ k ∈ areaK z.ks, k.v = k.w * k.h := fun a ha => by
    obtain ⟨x, _, rfl⟩ := List.mem_map.1 ha
    rfl
  refine Cut.mk (Adj.freeze 5 61 0 _ 3 46 _ rfl rfl (Adj.id ?_))
  have hsl : DLe (.one (.sl z.ks.length 3 (lG kL k0 (areaK z.ks)))) (.one (kS (areaK z.ks))) := DLe.one (SLe.slN hal.symm (fun _ _ _ _ => SLe.refl _))
  refine CallW.best ((best_det (areaK z.ks) z.w z.h z.kerf (by rw [hal]; exact hl)).le (.cons hsl (.cons (DLe.refl _) (.cons (DLe.refl _) (.cons (DLe.refl _) .nil))))) (fun v hv => ?_)
  refine CallW.nds (own_det t (by omega)) ?_
  have ewh : IntKind.i64.wrap (z.w * z.h) = z.w * z.h := by
    have hb : z.w * z.h ≤ 2000 * 2000 := Int.mul_le_mul w1 h1 (by omega) (by decide)
    have hb0 : 0 ≤ z.w * z.h := Int.mul_nonneg (by omega) (by omega)
    exact hw _ (by omega) (by omega)
  have gv : v.2.2 = 0 → decide (v.1 ≤ IntKind.i64.wrap (z.w * z.h)) = true := fun h => decide_eq_true (by
    rw [ewh]
    rw [hv] at h ⊢
    obtain ⟨_, _, q3⟩ := bestR_ok h
    rw [q3]
    exact best_area pa hav)
  clear hv
  obtain ⟨v1, v2, v3⟩ := v
  replace gv : v3 = 0 → decide (v1 ≤ IntKind.i64.wrap (z.w * z.h)) = true := gv
  have ht : validB t (areaK z.ks) z.w z.h z.kerf = true → decide (valS t (areaK z.ks) t.length ≤ IntKind.i64.wrap (z.w * z.h)) = true := fun h => decide_eq_true (by rw [ewh]; exact tree_area h hav)
  show Split (v3 != 0) _
  refine Split.mk (fun d1 => ?_) (fun d1 => ?_)
  all_goals
    have d1' := gv
    first | replace d1' := d1' (by simpa using d1) | skip
    repeat' first | refine Split.isT d1 ?_ | refine Split.isF d1 ?_ | refine Split.isT d1' ?_ | refine Split.t ?_ | refine Split.f ?_ | fail
    refine CallW.bool ((valid_det t (areaK z.ks) z.w z.h z.kerf (by omega) (by rw [hal]; exact hl)).le (.cons (DLe.refl _) (.cons hsl (.cons (DLe.refl _) (.cons (DLe.refl _) (.cons (DLe.refl _) .nil)))))) (fun b5 hb5 => ?_)
    repeat' first | refine Split.isT d1 ?_ | refine Split.isF d1 ?_ | refine Split.isT d1' ?_ | refine Split.t ?_ | refine Split.f ?_ | fail
    refine Split.mk (fun d2 => ?_) (fun d2 => ?_)
  all_goals
    first
    | have ht' := ht (by rw [← hb5]; simpa using d2)
      repeat' first | refine Split.isF d2 ?_ | refine Split.isT d1' ?_ | refine Split.t ?_ | refine Split.f ?_ | fail
      refine CallW.int ((value_det t (areaK z.ks) (by omega) (by rw [hal]; omega)).le (.cons (DLe.refl _) (.cons hsl .nil))) (fun m hm => ?_)
      rw [← hm] at ht'
      repeat' first | refine Split.isF d2 ?_ | refine Split.isT d1' ?_ | refine Split.isT ht' ?_ | refine Split.t ?_ | refine Split.f ?_ | fail
      refine Need.mk (by kernel_rfl) ?_
      refine Fin.bool ?_
      first | rfl | assumption
    | repeat' first | refine Split.isT d2 ?_ | refine Split.isT d1' ?_ | refine Split.t ?_ | refine Split.f ?_ | fail
      refine Need.mk (by kernel_rfl) ?_
      refine Fin.bool ?_
      first | rfl | assumption
theorem ndsIn {v : DV} (h : TypD Try.prog 37 v) : ∃ l : List Nd, l.length ≤ maxLen ∧ DLe v (.one (ndS l)) := by
  obtain ⟨c, rfl, h1⟩ := TypD.one (by kernel_rfl) h
  obtain ⟨n, get, e, hn, hr⟩ := Typ.inv_slc (P := Try.prog) (e := 97) rfl h1
  cases e
  obtain ⟨l, h1, _, h3⟩ := lst_of (f := ndL) (d := nd0) (Q := fun _ => True) (k := 5) (n := n) (get := get) (fun i hi => by
    obtain ⟨a0, a1, a2, a3, a4, e, _⟩ := typ97 (hr i hi)
    exact ⟨⟨a0, a1, a2, a3, a4⟩, trivial, e⟩)
  exact ⟨l, by rw [h1]; exact hn, h3⟩
theorem larea_all : ∀ dvs, TypL Try.prog Try.f6.params.toList dvs → Det Try.prog 6 dvs (tbool true) := by
  intro dvs h
  obtain ⟨v0, r0, rfl, h0, q0⟩ := TypL.inv_cons (t := 24) (ts := [37]) h
  obtain ⟨v1, r1, rfl, h1, q1⟩ := TypL.inv_cons (t := 37) (ts := []) q0
  obtain rfl := TypL.inv_nil q1
  obtain ⟨z, hz, _, _, _, hle⟩ := pzIn h0
  obtain ⟨t, ht, hle2⟩ := ndsIn h1
  exact Det.le (.cons hle (.cons hle2 .nil)) (larea_det z t hz)
end St
end Go.Vm
