/-
  Layer 38: contract of the reference's Best.
  Layer 38: the tree of Best is valid and has the best value; law Best.
-/
import Derived.Test.YtfoblfchkgapoaaGuiW
import Derived.Test.YtfoblfchkgapoaaVmY
namespace Go.Vm
set_option maxRecDepth 20000
set_option linter.unusedVariables false
set_option linter.unusedSimpArgs false
open Go Go.RowKit Go.Proofs
namespace St

theorem glimit_det (l : List Knd) (w h kerf : Int) (p : Pb l w h kerf) : Det Try.prog 72 [.one (kS l), .one (i64 w), .one (i64 h), .one (i64 kerf)] (tbool (gBadB l w h kerf)) := by
  refine det_of_awp TTok mixed Try.func72 rfl rfl [] (Nat.le_of_ble_eq_true rfl) ?_
  have hl := p.len
  have hbad : gBadB l w h kerf = (decide (w > 200) || (decide (h > 200) || gmanyB l w h kerf)) := rfl
  refine Split.mk (fun c1 => ?_) (fun c1 => ?_)
  · repeat' first | refine Split.isT c1 ?_ | refine Split.t ?_ | refine Split.f ?_ | fail
    exact Fin.bool (by rw [hbad, c1]; rfl)
  repeat' first | refine Split.isF c1 ?_ | refine Split.t ?_ | refine Split.f ?_ | fail
  refine Split.mk (fun c2 => ?_) (fun c2 => ?_)
  · exact Fin.bool (by rw [hbad, c2, Bool.true_or, Bool.or_true])
  have hb2 : gBadB l w h kerf = gmanyB l w h kerf := by rw [hbad, c1, c2]; rfl
  refine Split.mk (fun h1 => ?_) (fun h1 => ?_)
  · refine Fin.bool ?_
    have : l = [] := List.eq_nil_of_length_eq_zero (by simpa using h1)
    rw [hb2, gmanyB, if_pos this]
  have hne : l ≠ [] := fun e => by rw [e] at h1; simp at h1
  refine Loop.by (α := Nat) (fun k => [(0, .d (.one (kS l))), (1, tint w), (2, tint h), (3, tint kerf), (9, tint (lowL Knd.w (l.take k) 2000)), (10, tint (lowL Knd.h (l.take k) 2000)), (11, tint k)]) (fun _ => []) (fun k => k ≤ l.length) (fun k => l.length - k)
    (Adj.at 0 (Nat.zero_le _) .nil (.cons .same (.cons .same (.cons .same (.cons .same (.cons .same (.cons .same (.cons .same .nil)))))))) (fun k hk => ?_)
  refine Split.mk (fun h => ?_) (fun h => ?_)
  · have hlt : k < l.length := by have := of_decide_eq_true h; omega
    refine Need.mk (by omega) ?_
    refine Need.mk (by omega) ?_
    refine Need.mk (by kernel_rfl) ?_
    refine Adj.back (x := k) (k + 1) (by omega) (by omega) .nil (.cons .same (.cons .same (.cons .same (.cons .same (.cons (SlotLe.int (lowL_take Knd.w l _ k hlt).symm) (.cons (SlotLe.int (lowL_take Knd.h l _ k hlt).symm) (.cons (SlotLe.int (hS k (by omega))) .nil)))))))
  · have he : k = l.length := by have := of_decide_eq_false h; omega
    subst he
    rw [List.take_length] at *
    have a0 : 1 ≤ lowL Knd.w l 2000 := lowL_ge _ 1 _ _ (fun k hk => (p.ok k hk).w0) (by decide)
    have a1 := lowL_le Knd.w l 2000
    have b0 : 1 ≤ lowL Knd.h l 2000 := lowL_ge _ 1 _ _ (fun k hk => (p.ok k hk).h0) (by decide)
    have b1 := lowL_le Knd.h l 2000
    obtain ⟨e, ne⟩ := gmany_w p.w0 p.w1 p.h0 p.h1 p.k0 p.k1 a0 a1 b0 b1
    refine Need.mk ne ?_
    refine Fin.bool ?_
    rw [e, hb2, gmanyB, if_neg hne]
/-! ### at -/
abbrev ttget (T : List (List Int)) (i : Nat) : List Int := T.getD i []
def atI (T : List (List Int)) (w h : Int) : Int := if w < 1 ∨ h < 1 then 0 else iget (ttget T w.toNat) h.toNat
theorem gat_det (T : List (List Int)) (w h : Int) (hh : 1 ≤ w → 1 ≤ h → w < T.length ∧ h < (ttget T w.toNat).length) : Det Try.prog 73 [.one (ccS T), .one (i64 w), .one (i64 h)] (tint (atI T w h)) := by
  refine det_of_awp TTok mixed Try.func73 rfl rfl [] (Nat.le_of_ble_eq_true rfl) ?_
  refine Split.mk (fun c1 => ?_) (fun c1 => ?_)
  · repeat' first | refine Split.isT c1 ?_ | refine Split.t ?_ | refine Split.f ?_ | fail
    refine Fin.int ?_
    rw [atI, if_pos (.inl (of_decide_eq_true c1))]
  repeat' first | refine Split.isF c1 ?_ | refine Split.t ?_ | refine Split.f ?_ | fail
  refine Split.mk (fun c2 => ?_) (fun c2 => ?_)
  · refine Fin.int ?_
    rw [atI, if_pos (.inr (of_decide_eq_true c2))]
  have c1' : ¬ w < 1 := of_decide_eq_false c1
  have c2' : ¬ h < 1 := of_decide_eq_false c2
  obtain ⟨h1, h2⟩ := hh (by omega) (by omega)
  refine Need.mk (by omega) ?_
  refine Need.mk (by show 0 ≤ h ∧ h < ((ttget T w.toNat).length : Int); omega) ?_
  refine Fin.int ?_
  rw [atI, if_neg (by omega)]
/-! ### greatest sums -/
def bM (f : Nat → Int) (p : Int) : Nat → Int
  | 0 => p
  | n + 1 => if f (n + 1) > bM f p n then f (n + 1) else bM f p n
theorem bM_spec (f : Nat → Int) (p : Int) : ∀ n, p ≤ bM f p n ∧ (∀ j, 1 ≤ j → j ≤ n → f j ≤ bM f p n) ∧ (bM f p n = p ∨ ∃ j, 1 ≤ j ∧ j ≤ n ∧ bM f p n = f j)
  | 0 => ⟨Int.le_refl _, fun j a b => by omega, .inl rfl⟩
  | n + 1 => by
    obtain ⟨i1, i2, i3⟩ := bM_spec f p n
    rw [bM]
    split
    · refine ⟨by omega, fun j a b => ?_, .inr ⟨n + 1, by omega, Nat.le_refl _, rfl⟩⟩
      rcases Nat.lt_or_ge j (n + 1) with c | c
      · have := i2 j a (by omega); omega
      · obtain rfl : j = n + 1 := by omega
        exact Int.le_refl _
    · refine ⟨i1, fun j a b => ?_, ?_⟩
      · rcases Nat.lt_or_ge j (n + 1) with c | c
        · exact i2 j a (by omega)
        · obtain rfl : j = n + 1 := by omega
          omega
      · rcases i3 with c | ⟨j, a, b, c⟩
        · exact .inl c
        · exact .inr ⟨j, a, by omega, c⟩
def bK (ks : List Knd) (w h : Int) : Nat → Int
  | 0 => 0
  | n + 1 => if (kget ks n).w ≤ w ∧ (kget ks n).h ≤ h then (if (kget ks n).v > bK ks w h n then (kget ks n).v else bK ks w h n) else bK ks w h n
theorem bK_spec (ks : List Knd) (w h : Int) : ∀ n, n ≤ ks.length → 0 ≤ bK ks w h n ∧ (∀ i, i < n → (kget ks i).w ≤ w → (kget ks i).h ≤ h → (kget ks i).v ≤ bK ks w h n) ∧ (bK ks w h n = 0 ∨ ∃ i, i < n ∧ (kget ks i).w ≤ w ∧ (kget ks i).h ≤ h ∧ bK ks w h n = (kget ks i).v)
  | 0, _ => ⟨Int.le_refl _, fun i a => absurd a (Nat.not_lt_zero _), .inl rfl⟩
  | n + 1, hn => by
    obtain ⟨i1, i2, i3⟩ := bK_spec ks w h n (by omega)
    rw [bK]
    have keep : bK ks w h n = 0 ∨ ∃ i, i < n + 1 ∧ (kget ks i).w ≤ w ∧ (kget ks i).h ≤ h ∧ bK ks w h n = (kget ks i).v := by
      rcases i3 with c | ⟨i, a, b⟩
      · exact .inl c
      · exact .inr ⟨i, by omega, b⟩
    split
    · rename_i c
      split
      · refine ⟨by omega, fun i a b d => ?_, .inr ⟨n, by omega, c.1, c.2, rfl⟩⟩
        rcases Nat.lt_succ_iff_lt_or_eq.1 a with a | rfl
        · have := i2 i a b d; omega
        · omega
      · refine ⟨i1, fun i a b d => ?_, keep⟩
        rcases Nat.lt_succ_iff_lt_or_eq.1 a with a | rfl
        · exact i2 i a b d
        · omega
    · rename_i c
      refine ⟨i1, fun i a b d => ?_, keep⟩
      rcases Nat.lt_succ_iff_lt_or_eq.1 a with a | rfl
      · exact i2 i a b d
      · exact absurd ⟨b, d⟩ c
def gvX (ks : List Knd) (kerf w h : Int) (x : Nat) : Int := gval ks x h kerf + gval ks (w - x - kerf) h kerf
def gvY (ks : List Knd) (kerf w h : Int) (y : Nat) : Int := gval ks w y kerf + gval ks w (h - y - kerf) kerf
def rcell (ks : List Knd) (kerf w h : Int) : Int := bM (gvY ks kerf w h) (bM (gvX ks kerf w h) (bK ks w h ks.length) (w - 1).toNat) (h - 1).toNat
theorem rcell_eq {ks : List Knd} {kerf w h : Int} (hk : ∀ k ∈ ks, 1 ≤ k.w ∧ 1 ≤ k.h) (k0 : 0 ≤ kerf) (w0 : 1 ≤ w) (h0 : 1 ≤ h) : rcell ks kerf w h = gval ks w h kerf := by
  obtain ⟨a1, a2, a3⟩ := bK_spec ks w h ks.length (Nat.le_refl _)
  obtain ⟨b1, b2, b3⟩ := bM_spec (gvX ks kerf w h) (bK ks w h ks.length) (w - 1).toNat
  obtain ⟨c1, c2, c3⟩ := bM_spec (gvY ks kerf w h) (bM (gvX ks kerf w h) (bK ks w h ks.length) (w - 1).toNat) (h - 1).toNat
  have S := gval_sup hk k0 w h
  have hx : ∀ x : Nat, 1 ≤ x → (x : Int) < w → gvX ks kerf w h x ≤ gval ks w h kerf := fun x p q => S.cw w h x (by omega) q (Int.le_refl _) h0 (Int.le_refl _)
  have hy : ∀ y : Nat, 1 ≤ y → (y : Int) < h → gvY ks kerf w h y ≤ gval ks w h kerf := fun y p q => S.ch w h y (by omega) q (Int.le_refl _) w0 (Int.le_refl _)
  have hkk : bK ks w h ks.length ≤ gval ks w h kerf := by
    rcases a3 with e | ⟨i, i1, i2, i3, e⟩
    · rw [e]; exact gval_nn hk k0 w h
    · rw [e]; exact S.kd _ (kget_mem i1) w h (Int.le_refl _) (Int.le_refl _) i2 i3
  refine Int.le_antisymm ?_ ?_
  · rw [rcell]
    rcases c3 with e | ⟨y, y0, y1, e⟩
    · rw [e]
      rcases b3 with e | ⟨x, x0, x1, e⟩
      · rw [e]; exact hkk
      · rw [e]; exact hx x x0 (by omega)
    · rw [e]; exact hy y y0 (by omega)
  · have A := (gfix ks kerf k0 (w := w) (h := h) (by omega) (by omega)).att
    have at' : ∀ a b, a ≤ w → b ≤ h → valI (gtab ks w h kerf) a b = gval ks a b kerf := fun a b p q => (gval_at hk k0 (by omega) (by omega) p q).symm
    have e := A.att w h w0 (Int.le_refl _) h0 (Int.le_refl _)
    have z : (0 : Int) ≤ rcell ks kerf w h := by rw [rcell]; omega
    rw [at' w h (Int.le_refl _) (Int.le_refl _)] at e
    rcases e with e | ⟨k, hkm, k1, k2, e⟩ | ⟨x, x0, x1, e⟩ | ⟨y, y0, y1, e⟩
    · rw [e]; exact z
    · rw [e]
      obtain ⟨i, hi, rfl⟩ := List.getElem_of_mem hkm
      have ee : kget ks i = ks[i] := by simp [kget, List.getD, hi]
      have := a2 i hi (by rw [ee]; exact k1) (by rw [ee]; exact k2)
      rw [ee] at this
      rw [rcell]; omega
    · rw [at' x h (by omega) (Int.le_refl _), at' (w - x - kerf) h (by omega) (Int.le_refl _)] at e
      have := b2 x.toNat (by omega) (by omega)
      rw [gvX, show ((x.toNat : Nat) : Int) = x by omega] at this
      rw [rcell, e]; omega
    · rw [at' w y (Int.le_refl _) (by omega), at' w (h - y - kerf) (Int.le_refl _) (by omega)] at e
      have := c2 y.toNat (by omega) (by omega)
      rw [gvY, show ((y.toNat : Nat) : Int) = y by omega] at this
      rw [rcell, e]; omega
/-! ### the table in memory -/
def msT (W H : Nat) (T : List (List Int)) : List (Id × Mem) := (.n 39, .bldc 0 (W + 1) 1 53 (fun i _ => .hdl (.s 900 i) 0)) :: (famL 900 (W + 1) (fun i => .bld 0 (H + 1) 1 3 (lG iL 0 (ttget T i))) ++ [])
theorem msT_row (W H : Nat) (T : List (List Int)) (i : Nat) (hi : i < W + 1) : memsOf (msT W H T) (.s 900 i) = .bld 0 (H + 1) 1 3 (lG iL 0 (ttget T i)) := by
  show memsOf (famL 900 (W + 1) (fun i => .bld 0 (H + 1) 1 3 (lG iL 0 (ttget T i))) ++ []) (.s 900 i) = _
  rw [memsOf_fam _ _ _ _ _ hi]
theorem keepT {m : Id → Mem} {W H : Nat} {T : List (List Int)} {g0 : Nat} {get0 : Nat → Nat → CV} (h39 : m (.n 39) = .bldc g0 (W + 1) 1 53 get0) (hg0 : ∀ i, i < W + 1 → get0 i 0 = .hdl (.s 900 i) 0)
    (hf : ∀ i, i < W + 1 → ∃ get, m (.s 900 i) = .bld 0 (H + 1) 1 3 get ∧ ∀ b, b < H + 1 → ∀ j, j < 1 → SLe (get b j) (lG iL 0 (ttget T i) b j)) : KeepM m (memsOf (msT W H T)) (msT W H T) := by
  refine .cons ?_ (.fam (fun i hi => ?_) .nil)
  · rw [h39]
    refine .bldc (fun i hi j hj => ?_) (fun h => absurd h (by decide))
    obtain rfl : j = 0 := by omega
    obtain ⟨get, e, _⟩ := hf i hi
    rw [hg0 i hi]
    exact .hdl (by rw [msT_row W H T i hi]; simp) (by rw [e]; rfl) (by rw [msT_row W H T i hi]; rfl)
  · obtain ⟨get, e, h⟩ := hf i hi
    rw [e]
    exact .bld h
theorem keepTT (W H : Nat) (T : List (List Int)) : KeepM (memsOf (msT W H T)) (memsOf (msT W H T)) (msT W H T) :=
  keepT (g0 := 0) (get0 := fun i _ => .hdl (.s 900 i) 0) rfl (fun _ _ => rfl) (fun i hi => ⟨_, msT_row W H T i hi, fun _ _ _ _ => SLe.refl _⟩)
theorem lendT (W H : Nat) (T : List (List Int)) : Lend (memsOf (msT W H T)) [39, 900] (.hdl 39 0) (.sl (W + 1) 1 fun i _ => .sl (H + 1) 1 (lG iL 0 (ttget T i))) :=
  .bldc (by simp [Id.key]) rfl (fun i hi j hj => .bld (by simp [Id.key]) (msT_row W H T i hi))
structure TShape (W H : Nat) (T : List (List Int)) : Prop where
  len : T.length = W + 1
  row : ∀ a, a < W + 1 → (ttget T a).length = H + 1
theorem TShape.le {W H : Nat} {T : List (List Int)} (s : TShape W H T) : DLe (.one (.sl (W + 1) 1 fun i _ => .sl (H + 1) 1 (lG iL 0 (ttget T i)))) (.one (ccS T)) := by
  refine DLe.one (SLe.slN s.len.symm (fun i hi j hj => ?_))
  obtain rfl : j = 0 := by omega
  exact SLe.slN (s.row i hi).symm (fun _ _ _ _ => SLe.refl _)
theorem TShape.set {W H : Nat} {T : List (List Int)} (s : TShape W H T) (i k : Nat) (v : Int) : TShape W H (T.set i ((ttget T i).set k v)) := by
  refine ⟨by rw [List.length_set, s.len], fun a ha => ?_⟩
  have hl := s.len
  by_cases e : i = a
  · subst e
    unfold ttget
    rw [getD_set_eq (by omega), List.length_set]; exact s.row i ha
  · unfold ttget
    rw [getD_set_ne e]; exact s.row a ha
def TDone (ks : List Knd) (kerf : Int) (H : Nat) (T : List (List Int)) (i k : Nat) : Prop := ∀ a b : Nat, 1 ≤ a → 1 ≤ b → b ≤ H → (a < i ∨ (a = i ∧ b ≤ k)) → iget (ttget T a) b = gval ks a b kerf
theorem TDone.at' {ks : List Knd} {kerf : Int} {H : Nat} {T : List (List Int)} {i k : Nat} (d : TDone ks kerf H T i k) (x y : Int) (hy : y ≤ H) (h : x < i ∨ (x = i ∧ y ≤ k)) : atI T x y = gval ks x y kerf := by
  by_cases o : x < 1 ∨ y < 1
  · rw [atI, if_pos o, gval_zero o]
  · rw [atI, if_neg o, d x.toNat y.toNat (by omega) (by omega) (by omega) (by omega), show ((x.toNat : Nat) : Int) = x by omega, show ((y.toNat : Nat) : Int) = y by omega]
theorem TDone.step {ks : List Knd} {kerf : Int} {W H : Nat} {T : List (List Int)} {i k : Nat} (s : TShape W H T) (d : TDone ks kerf H T i k) (hi : i ≤ W) (hk : k + 1 ≤ H) {v : Int} (hv : v = gval ks i ((k + 1 : Nat) : Int) kerf) : TDone ks kerf H (T.set i ((ttget T i).set (k + 1) v)) i (k + 1) := by
  intro a b a0 b0 b1 h
  have hl := s.len
  have hr := s.row i (by omega)
  by_cases e : i = a
  · subst e
    have e1 : ttget (T.set i ((ttget T i).set (k + 1) v)) i = (ttget T i).set (k + 1) v := by unfold ttget; rw [getD_set_eq (by omega)]
    rw [e1]
    by_cases e2 : k + 1 = b
    · subst e2
      unfold iget
      rw [getD_set_eq (by omega), hv]
    · unfold iget
      rw [getD_set_ne e2]
      exact d i b a0 b0 b1 (by omega)
  · have e1 : ttget (T.set i ((ttget T i).set (k + 1) v)) a = ttget T a := by unfold ttget; rw [getD_set_ne e]
    rw [e1]
    exact d a b a0 b0 b1 (by omega)
def rgbestR (ks : List Knd) (w h kerf : Int) : Int × Int := if probB ks w h kerf = false then (0, 1) else if gBadB ks w h kerf = true then (0, 9) else (gval ks w h kerf, 0)
theorem rgbest_det (ks : List Knd) (w h kerf : Int) (hl : ks.length ≤ 100000000) : Det Try.prog 36 [.one (kS ks), .one (i64 w), .one (i64 h), .one (i64 kerf)] (twoI (rgbestR ks w h kerf)) := by
  refine det_of_awp TTok mixed Try.func36 rfl rfl [38 + 7000000, 39 + 8000000] (Nat.le_of_ble_eq_true rfl) ?_
  refine CallW.bool (rproblem_det ks w h kerf hl) (fun b hb => ?_)
  refine Split.mk (fun h1 => ?_) (fun h1 => ?_)
  · have : probB ks w h kerf = false := by rw [← hb]; simpa using h1
    rw [rgbestR, if_pos this]
    exact Fin.rfl'
  have hp : probB ks w h kerf = true := by rw [← hb]; simpa using h1
  have p := prob_iff.1 hp
  refine CallW.bool (glimit_det ks w h kerf p) (fun b2 hb2 => ?_)
  refine Split.mk (fun h2 => ?_) (fun h2 => ?_)
  · rw [rgbestR, if_neg (by rw [hp]; simp), if_pos (by rw [← hb2, h2])]
    exact Fin.rfl'
  rw [rgbestR, if_neg (by rw [hp]; simp), if_neg (by rw [← hb2, h2]; simp)]
  have hbad : gBadB ks w h kerf = false := by rw [← hb2, h2]
  rw [gBadB, Bool.or_eq_false_iff, Bool.or_eq_false_iff, decide_eq_false_iff_not, decide_eq_false_iff_not] at hbad
  have w0 := p.w0; have h0 := p.h0; have kf0 := p.k0; have kf1 := p.k1; have hlen := p.len
  obtain ⟨W, rfl⟩ : ∃ W : Nat, w = W := ⟨w.toNat, by omega⟩
  obtain ⟨H, rfl⟩ : ∃ H : Nat, h = H := ⟨h.toNat, by omega⟩
  have gw : W ≤ 200 := by omega
  have gh : H ≤ 200 := by omega
  have gb : ∀ a b : Int, a ≤ W → b ≤ H → 0 ≤ gval ks a b kerf ∧ gval ks a b kerf ≤ 1000000000000 := fun a b ha hb => by
    rw [gval_at p.posk kf0 (w := W) (h := H) (by omega) (by omega) ha hb]
    exact tR_bd (W := W) (H := H) (fun k hk => (p.ok k hk).v1) kf0 gw gh a b
  have eh : IntKind.i64.wrap ((H : Int) + 1) = ((H + 1 : Nat) : Int) := hS H (by omega)
  clear hb hb2 hbad
  refine Loop.by (α := Nat) (fun c => [(0, .d (.one (kS ks))), (1, tint W), (2, tint H), (3, tint kerf), (10, .hdl 39 0), (11, tint c)])
    (fun c => (.n 39, .bldc 0 c 1 53 (fun i _ => .hdl (.s 900 i) 0)) :: (.n 37, .none) :: (.n 38, .none) :: (famL 900 c (fun _ => .bld 0 (H + 1) 1 3 (lG iL 0 (List.replicate (H + 1) 0))) ++ [])) (fun c => c ≤ W + 1) (fun c => W + 1 - c)
    (Adj.nil 10 39 1 53 (fun _ _ => .v Go.undef) rfl rfl
      (Adj.at 0 (Nat.zero_le _) (.cons (.bldObj (fun _ h => absurd h (Nat.not_lt_zero _))) (.none (.none .nil)))
        (.cons .same (.cons .same (.cons .same (.cons .same (.cons (.hdl rfl rfl) (.cons .same .nil)))))))) (fun c hc => ?_)
  refine Split.mk (fun c1 => ?_) (fun c1 => ?_)
  · have hcW : c ≤ W := by have := of_decide_eq_true c1; omega
    refine Need.mk (by rw [eh]; exact needMk (by omega) (by decide)) ?_
    refine Need.mk (needApp (n := c + 1) (by omega) (by decide)) ?_
    refine Adj.move 39 37 900 c 2 (c + 1) 53 _ (fun i _ => .hdl (.s 900 i) 0) 0 _ 1 3 _ rfl rfl ?_ (by decide) (fun i hi => ?_) (Adj.back (x := c) (c + 1) (by omega) (by omega) (.cons (.bldc (fun i hi j hj => ?_) (fun h => absurd h (by decide))) (.none (.none (.fam (fun i hi => ?_) .nil))))
      (.cons .same (.cons .same (.cons .same (.cons .same (.cons (.hdl rfl rfl) (.cons (SlotLe.int (hS c (by omega))) .nil)))))))
    · show memsOf (famL 900 c (fun _ => .bld 0 (H + 1) 1 3 (lG iL 0 (List.replicate (H + 1) 0))) ++ []) (.s 900 c) = .none
      rw [memsOf_fam_ne _ _ _ _ _ (fun i hi e => by cases e; omega)]; rfl
    · by_cases e : i = c
      · subst e
        refine .inl ⟨?_, rfl⟩
        show (bif Nat.blt i i then (CV.hdl (.s 900 i) 0) else CV.hdl 37 0) = .hdl 37 0
        rw [blt_f (Nat.lt_irrefl i)]; rfl
      · refine .inr ?_
        show CV.hdl (.s 900 i) 0 = (bif Nat.blt i c then (CV.hdl (.s 900 i) 0) else CV.hdl 37 0)
        rw [blt_t (by omega)]; rfl
    · refine .hdl ?_ ?_ ?_
      · show memsOf (famL 900 (c + 1) _ ++ []) (.s 900 i) ≠ .none
        rw [memsOf_fam _ _ _ _ _ hi]; simp
      · rw [upd_ne _ _ _ (show (Id.s 900 i) ≠ 39 by intro q; cases q)]
        by_cases e : i = c
        · subst e
          rw [upd_same]; rfl
        · rw [upd_ne _ _ _ (show (Id.s 900 i) ≠ Id.s 900 c by intro q; cases q; exact e rfl)]
          show 0 = (memsOf (famL 900 c _ ++ []) (.s 900 i)).gen
          rw [memsOf_fam _ _ _ _ _ (by omega)]; rfl
      · show 0 = (memsOf (famL 900 (c + 1) _ ++ []) (.s 900 i)).gen
        rw [memsOf_fam _ _ _ _ _ hi]; rfl
    · rw [upd_ne _ _ _ (show (Id.s 900 i) ≠ 39 by intro q; cases q)]
      by_cases e : i = c
      · subst e
        rw [upd_same]
        refine .bldN (by rw [eh, Int.toNat_natCast]) (fun b hb j hj => SLe.of_eq ?_)
        obtain rfl : j = 0 := by omega
        show i64 0 = i64 ((List.replicate (H + 1) (0 : Int)).getD b 0)
        rw [List.getD, List.getElem?_replicate]; split <;> rfl
      · rw [upd_ne _ _ _ (show (Id.s 900 i) ≠ Id.s 900 c by intro q; cases q; exact e rfl)]
        show MemLe _ _ (memsOf (famL 900 c _ ++ []) (.s 900 i)) _
        rw [memsOf_fam _ _ _ _ _ (by omega)]
        exact .bld (fun _ _ _ _ => SLe.refl _)
  have he : c = W + 1 := by have := of_decide_eq_false c1; omega
  subst he
  refine Loop.by (α := Nat × List (List Int)) (fun x => [(0, .d (.one (kS ks))), (1, tint W), (2, tint H), (3, tint kerf), (10, .hdl 39 0), (12, tint ((x.1 + 1 : Nat) : Int))])
    (fun x => msT W H x.2) (fun x => x.1 ≤ W ∧ TShape W H x.2 ∧ TDone ks kerf H x.2 (x.1 + 1) 0) (fun x => W - x.1)
    (Adj.at (0, List.replicate (W + 1) (List.replicate (H + 1) 0)) ⟨Nat.zero_le _, ⟨by simp, fun a ha => by simp [ttget, List.getD, List.getElem?_replicate, ha]⟩, fun a b a0 b0 b1 h => by omega⟩
      (keepT (g0 := 0) (get0 := fun i _ => .hdl (.s 900 i) 0) rfl (fun _ _ => rfl) (fun i hi => ?_))
      (.cons .same (.cons .same (.cons .same (.cons .same (.cons (.hdl rfl rfl) (.cons .same .nil))))))) (fun x hx => ?_)
  · refine ⟨lG iL 0 (List.replicate (H + 1) 0), ?_, fun b hb j hj => ?_⟩
    · show memsOf (famL 900 (W + 1) _ ++ []) (.s 900 i) = _
      rw [memsOf_fam _ _ _ _ _ hi]
    · have : ttget (List.replicate (W + 1) (List.replicate (H + 1) (0 : Int))) i = List.replicate (H + 1) 0 := by simp [ttget, List.getD, List.getElem?_replicate, hi]
      rw [this]; exact SLe.refl _
  obtain ⟨n, T⟩ := x
  obtain ⟨hn, hsh, hdn⟩ := hx
  replace hn : n ≤ W := hn
  replace hsh : TShape W H T := hsh
  replace hdn : TDone ks kerf H T (n + 1) 0 := hdn
  refine Split.mk (fun d1 => ?_) (fun d1 => ?_)
  · have hnW : n + 1 ≤ W := by have : ((n + 1 : Nat) : Int) ≤ W := of_decide_eq_true d1; omega
    refine Loop.by (α := Nat × List (List Int)) (fun x => [(0, .d (.one (kS ks))), (1, tint W), (2, tint H), (3, tint kerf), (10, .hdl 39 0), (12, tint ((n + 1 : Nat) : Int)), (13, tint ((x.1 + 1 : Nat) : Int))])
      (fun x => msT W H x.2) (fun x => x.1 ≤ H ∧ TShape W H x.2 ∧ TDone ks kerf H x.2 (n + 1) x.1) (fun x => H - x.1)
      (Adj.at (0, T) ⟨Nat.zero_le _, hsh, hdn⟩ (keepTT W H T)
        (.cons .same (.cons .same (.cons .same (.cons .same (.cons (.hdl rfl rfl) (.cons .same (.cons .same .nil)))))))) (fun x hx => ?_)
    obtain ⟨k, T'⟩ := x
    obtain ⟨hk, hsh', hdn'⟩ := hx
    replace hk : k ≤ H := hk
    replace hsh' : TShape W H T' := hsh'
    replace hdn' : TDone ks kerf H T' (n + 1) k := hdn'
    refine Split.mk (fun d2 => ?_) (fun d2 => ?_)
    · have hkH : k + 1 ≤ H := by have : ((k + 1 : Nat) : Int) ≤ H := of_decide_eq_true d2; omega
      refine Loop.by (α := Nat) (fun i => [(0, .d (.one (kS ks))), (1, tint W), (2, tint H), (3, tint kerf), (10, .hdl 39 0), (12, tint ((n + 1 : Nat) : Int)), (13, tint ((k + 1 : Nat) : Int)), (14, tint (bK ks ((n + 1 : Nat) : Int) ((k + 1 : Nat) : Int) i)), (15, tint i)])
        (fun _ => msT W H T') (fun i => i ≤ ks.length) (fun i => ks.length - i)
        (Adj.at 0 (Nat.zero_le _) (keepTT W H T')
          (.cons .same (.cons .same (.cons .same (.cons .same (.cons (.hdl rfl rfl) (.cons .same (.cons .same (.cons .same (.cons .same .nil)))))))))) (fun i hi => ?_)
      refine Split.mk (fun e1 => ?_) (fun e1 => ?_)
      · have hil : i < ks.length := by have := of_decide_eq_true e1; omega
        have es : bK ks ((n + 1 : Nat) : Int) ((k + 1 : Nat) : Int) (i + 1) = if (kget ks i).w ≤ ((n + 1 : Nat) : Int) ∧ (kget ks i).h ≤ ((k + 1 : Nat) : Int) then (if (kget ks i).v > bK ks ((n + 1 : Nat) : Int) ((k + 1 : Nat) : Int) i then (kget ks i).v else bK ks ((n + 1 : Nat) : Int) ((k + 1 : Nat) : Int) i) else bK ks ((n + 1 : Nat) : Int) ((k + 1 : Nat) : Int) i := rfl
        refine Need.mk (by omega) ?_
        show Split (decide ((kget ks i).w ≤ ((n + 1 : Nat) : Int))) _
        refine Split.mk (fun g1 => ?_) (fun g1 => ?_)
        · repeat' first | refine Split.isT g1 ?_ | refine Split.t ?_ | refine Split.f ?_ | fail
          refine Need.mk (by omega) ?_
          repeat' first | refine Split.isT g1 ?_ | refine Split.t ?_ | refine Split.f ?_ | fail
          show Split (decide ((kget ks i).h ≤ ((k + 1 : Nat) : Int))) _
          refine Split.mk (fun g2 => ?_) (fun g2 => ?_)
          · refine Need.mk (by omega) ?_
            refine Adj.back (x := i) (i + 1) (by omega) (by omega) (keepTT W H T')
              (.cons .same (.cons .same (.cons .same (.cons .same (.cons (.hdl rfl rfl) (.cons .same (.cons .same (.cons (SlotLe.int ?_) (.cons (SlotLe.int (hS i (by omega))) .nil)))))))))
            rw [es, if_pos (show (kget ks i).w ≤ ((n + 1 : Nat) : Int) ∧ (kget ks i).h ≤ ((k + 1 : Nat) : Int) from ⟨of_decide_eq_true g1, of_decide_eq_true g2⟩)]
            rfl
          · exact Adj.back (x := i) (i + 1) (by omega) (by omega) (keepTT W H T')
              (.cons .same (.cons .same (.cons .same (.cons .same (.cons (.hdl rfl rfl) (.cons .same (.cons .same (.cons (SlotLe.int (by rw [es, if_neg (fun q => of_decide_eq_false g2 q.2)])) (.cons (SlotLe.int (hS i (by omega))) .nil)))))))))
        · repeat' first | refine Split.isF g1 ?_ | refine Split.t ?_ | refine Split.f ?_ | fail
          exact Adj.back (x := i) (i + 1) (by omega) (by omega) (keepTT W H T')
            (.cons .same (.cons .same (.cons .same (.cons .same (.cons (.hdl rfl rfl) (.cons .same (.cons .same (.cons (SlotLe.int (by rw [es, if_neg (fun q => of_decide_eq_false g1 q.1)])) (.cons (SlotLe.int (hS i (by omega))) .nil)))))))))
      have he : i = ks.length := by have := of_decide_eq_false e1; omega
      subst he
      refine Loop.by (α := Nat) (fun m => [(0, .d (.one (kS ks))), (1, tint W), (2, tint H), (3, tint kerf), (10, .hdl 39 0), (12, tint ((n + 1 : Nat) : Int)), (13, tint ((k + 1 : Nat) : Int)), (14, tint (bM (gvX ks kerf ((n + 1 : Nat) : Int) ((k + 1 : Nat) : Int)) (bK ks ((n + 1 : Nat) : Int) ((k + 1 : Nat) : Int) ks.length) m)), (16, tint ((m + 1 : Nat) : Int))])
        (fun _ => msT W H T') (fun m => m ≤ n) (fun m => n - m)
        (Adj.at 0 (Nat.zero_le _) (keepTT W H T')
          (.cons .same (.cons .same (.cons .same (.cons .same (.cons (.hdl rfl rfl) (.cons .same (.cons .same (.cons .same (.cons .same .nil)))))))))) (fun m hm => ?_)
      refine Split.mk (fun e1 => ?_) (fun e1 => ?_)
      · have hml : m < n := by have : ((m + 1 : Nat) : Int) < ((n + 1 : Nat) : Int) := of_decide_eq_true e1; omega
        have e2 : IntKind.i64.wrap (IntKind.i64.wrap (((n + 1 : Nat) : Int) - ((m + 1 : Nat) : Int)) - kerf) = ((n + 1 : Nat) : Int) - ((m + 1 : Nat) : Int) - kerf := by rw [hw (((n + 1 : Nat) : Int) - ((m + 1 : Nat) : Int)) (by omega) (by omega), hw _ (by omega) (by omega)]
        have es : bM (gvX ks kerf ((n + 1 : Nat) : Int) ((k + 1 : Nat) : Int)) (bK ks ((n + 1 : Nat) : Int) ((k + 1 : Nat) : Int) ks.length) (m + 1) = if gvX ks kerf ((n + 1 : Nat) : Int) ((k + 1 : Nat) : Int) (m + 1) > bM (gvX ks kerf ((n + 1 : Nat) : Int) ((k + 1 : Nat) : Int)) (bK ks ((n + 1 : Nat) : Int) ((k + 1 : Nat) : Int) ks.length) m then gvX ks kerf ((n + 1 : Nat) : Int) ((k + 1 : Nat) : Int) (m + 1) else bM (gvX ks kerf ((n + 1 : Nat) : Int) ((k + 1 : Nat) : Int)) (bK ks ((n + 1 : Nat) : Int) ((k + 1 : Nat) : Int) ks.length) m := rfl
        have sh : ∀ a b : Int, 1 ≤ a → 1 ≤ b → a ≤ W → b ≤ H → a < T'.length ∧ b < (ttget T' a.toNat).length := fun a b a0 b0 a1 b1 => by
          rw [hsh'.len, hsh'.row a.toNat (by omega)]; omega
        refine ⟨⟨_, _, lendT W H T', ?_⟩⟩
        refine CallW.int ((gat_det T' ((m + 1 : Nat) : Int) ((k + 1 : Nat) : Int) (fun a0 b0 => sh _ _ a0 b0 (by omega) (by omega))).le (.cons hsh'.le (.cons (DLe.refl _) (.cons (DLe.refl _) .nil)))) (fun a ha => ?_)
        refine ⟨⟨_, _, lendT W H T', ?_⟩⟩
        refine CallW.int ((gat_det T' (((n + 1 : Nat) : Int) - ((m + 1 : Nat) : Int) - kerf) ((k + 1 : Nat) : Int) (fun a0 b0 => sh _ _ a0 b0 (by omega) (by omega))).le (.cons hsh'.le (.cons (DLe.of_eq (by rw [← e2])) (.cons (DLe.refl _) .nil)))) (fun b hb => ?_)
        rw [hdn'.at' ((m + 1 : Nat) : Int) ((k + 1 : Nat) : Int) (by omega) (.inl (by omega))] at ha
        rw [hdn'.at' (((n + 1 : Nat) : Int) - ((m + 1 : Nat) : Int) - kerf) ((k + 1 : Nat) : Int) (by omega) (.inl (by omega))] at hb
        have ga := gb ((m + 1 : Nat) : Int) ((k + 1 : Nat) : Int) (by omega) (by omega)
        have gb' := gb (((n + 1 : Nat) : Int) - ((m + 1 : Nat) : Int) - kerf) ((k + 1 : Nat) : Int) (by omega) (by omega)
        rw [← ha] at ga
        rw [← hb] at gb'
        have ef : gvX ks kerf ((n + 1 : Nat) : Int) ((k + 1 : Nat) : Int) (m + 1) = a + b := by rw [gvX, ha, hb]
        have e3 : IntKind.i64.wrap (a + b) = a + b := wid (by omega) (by omega)
        refine Adj.back (x := m) (m + 1) (by omega) (by omega) (keepTT W H T')
          (.cons .same (.cons .same (.cons .same (.cons .same (.cons (.hdl rfl rfl) (.cons .same (.cons .same (.cons (SlotLe.int ?_) (.cons (SlotLe.int (hS (m + 1) (by omega))) .nil)))))))))
        rw [es, ef, e3]
      have he : n = m := by have : ¬ ((m + 1 : Nat) : Int) < ((n + 1 : Nat) : Int) := of_decide_eq_false e1; omega
      subst he
      refine Loop.by (α := Nat) (fun m => [(0, .d (.one (kS ks))), (1, tint W), (2, tint H), (3, tint kerf), (10, .hdl 39 0), (12, tint ((n + 1 : Nat) : Int)), (13, tint ((k + 1 : Nat) : Int)), (14, tint (bM (gvY ks kerf ((n + 1 : Nat) : Int) ((k + 1 : Nat) : Int)) (bM (gvX ks kerf ((n + 1 : Nat) : Int) ((k + 1 : Nat) : Int)) (bK ks ((n + 1 : Nat) : Int) ((k + 1 : Nat) : Int) ks.length) n) m)), (17, tint ((m + 1 : Nat) : Int))])
        (fun _ => msT W H T') (fun m => m ≤ k) (fun m => k - m)
        (Adj.at 0 (Nat.zero_le _) (keepTT W H T')
          (.cons .same (.cons .same (.cons .same (.cons .same (.cons (.hdl rfl rfl) (.cons .same (.cons .same (.cons .same (.cons .same .nil)))))))))) (fun m hm => ?_)
      refine Split.mk (fun e1 => ?_) (fun e1 => ?_)
      · have hml : m < k := by have : ((m + 1 : Nat) : Int) < ((k + 1 : Nat) : Int) := of_decide_eq_true e1; omega
        have e2 : IntKind.i64.wrap (IntKind.i64.wrap (((k + 1 : Nat) : Int) - ((m + 1 : Nat) : Int)) - kerf) = ((k + 1 : Nat) : Int) - ((m + 1 : Nat) : Int) - kerf := by rw [hw (((k + 1 : Nat) : Int) - ((m + 1 : Nat) : Int)) (by omega) (by omega), hw _ (by omega) (by omega)]
        have es : bM (gvY ks kerf ((n + 1 : Nat) : Int) ((k + 1 : Nat) : Int)) (bM (gvX ks kerf ((n + 1 : Nat) : Int) ((k + 1 : Nat) : Int)) (bK ks ((n + 1 : Nat) : Int) ((k + 1 : Nat) : Int) ks.length) n) (m + 1) = if gvY ks kerf ((n + 1 : Nat) : Int) ((k + 1 : Nat) : Int) (m + 1) > bM (gvY ks kerf ((n + 1 : Nat) : Int) ((k + 1 : Nat) : Int)) (bM (gvX ks kerf ((n + 1 : Nat) : Int) ((k + 1 : Nat) : Int)) (bK ks ((n + 1 : Nat) : Int) ((k + 1 : Nat) : Int) ks.length) n) m then gvY ks kerf ((n + 1 : Nat) : Int) ((k + 1 : Nat) : Int) (m + 1) else bM (gvY ks kerf ((n + 1 : Nat) : Int) ((k + 1 : Nat) : Int)) (bM (gvX ks kerf ((n + 1 : Nat) : Int) ((k + 1 : Nat) : Int)) (bK ks ((n + 1 : Nat) : Int) ((k + 1 : Nat) : Int) ks.length) n) m := rfl
        have sh : ∀ a b : Int, 1 ≤ a → 1 ≤ b → a ≤ W → b ≤ H → a < T'.length ∧ b < (ttget T' a.toNat).length := fun a b a0 b0 a1 b1 => by
          rw [hsh'.len, hsh'.row a.toNat (by omega)]; omega
        refine ⟨⟨_, _, lendT W H T', ?_⟩⟩
        refine CallW.int ((gat_det T' ((n + 1 : Nat) : Int) ((m + 1 : Nat) : Int) (fun a0 b0 => sh _ _ a0 b0 (by omega) (by omega))).le (.cons hsh'.le (.cons (DLe.refl _) (.cons (DLe.refl _) .nil)))) (fun a ha => ?_)
        refine ⟨⟨_, _, lendT W H T', ?_⟩⟩
        refine CallW.int ((gat_det T' ((n + 1 : Nat) : Int) (((k + 1 : Nat) : Int) - ((m + 1 : Nat) : Int) - kerf) (fun a0 b0 => sh _ _ a0 b0 (by omega) (by omega))).le (.cons hsh'.le (.cons (DLe.refl _) (.cons (DLe.of_eq (by rw [← e2])) .nil)))) (fun b hb => ?_)
        rw [hdn'.at' ((n + 1 : Nat) : Int) ((m + 1 : Nat) : Int) (by omega) (.inr ⟨rfl, by omega⟩)] at ha
        rw [hdn'.at' ((n + 1 : Nat) : Int) (((k + 1 : Nat) : Int) - ((m + 1 : Nat) : Int) - kerf) (by omega) (.inr ⟨rfl, by omega⟩)] at hb
        have ga := gb ((n + 1 : Nat) : Int) ((m + 1 : Nat) : Int) (by omega) (by omega)
        have gb' := gb ((n + 1 : Nat) : Int) (((k + 1 : Nat) : Int) - ((m + 1 : Nat) : Int) - kerf) (by omega) (by omega)
        rw [← ha] at ga
        rw [← hb] at gb'
        have ef : gvY ks kerf ((n + 1 : Nat) : Int) ((k + 1 : Nat) : Int) (m + 1) = a + b := by rw [gvY, ha, hb]
        have e3 : IntKind.i64.wrap (a + b) = a + b := wid (by omega) (by omega)
        refine Adj.back (x := m) (m + 1) (by omega) (by omega) (keepTT W H T')
          (.cons .same (.cons .same (.cons .same (.cons .same (.cons (.hdl rfl rfl) (.cons .same (.cons .same (.cons (SlotLe.int ?_) (.cons (SlotLe.int (hS (m + 1) (by omega))) .nil)))))))))
        rw [es, ef, e3]
      have he : k = m := by have : ¬ ((m + 1 : Nat) : Int) < ((k + 1 : Nat) : Int) := of_decide_eq_false e1; omega
      subst he
      have hrc := rcell_eq (ks := ks) (kerf := kerf) (w := ((n + 1 : Nat) : Int)) (h := ((k + 1 : Nat) : Int)) p.posk kf0 (by omega) (by omega)
      rw [rcell, show (((n + 1 : Nat) : Int) - 1).toNat = n by omega, show (((k + 1 : Nat) : Int) - 1).toNat = k by omega] at hrc
      generalize bM (gvY ks kerf ((n + 1 : Nat) : Int) ((k + 1 : Nat) : Int)) (bM (gvX ks kerf ((n + 1 : Nat) : Int) ((k + 1 : Nat) : Int)) (bK ks ((n + 1 : Nat) : Int) ((k + 1 : Nat) : Int) ks.length) n) k = v at *
      have hrow := msT_row W H T' (n + 1) (by omega)
      refine Need.mk (by omega) ?_
      refine ⟨⟨.hdl (.s 900 (n + 1)) 0, rfl, ?_⟩⟩
      refine ⟨⟨_, hrow, ?_⟩⟩
      refine Need.mk (by omega) ?_
      refine ⟨⟨_, hrow, ?_⟩⟩
      refine Adj.back (x := (k, T')) (k + 1, T'.set (n + 1) ((ttget T' (n + 1)).set (k + 1) v)) ⟨by show k + 1 ≤ H; omega, hsh'.set _ _ _, hdn'.step hsh' (by omega) hkH hrc⟩ (by show H - (k + 1) < H - k; omega)
        (keepT (g0 := 0) (get0 := fun i _ => .hdl (.s 900 i) 0) rfl (fun _ _ => rfl) (fun i hi => ?_))
        (.cons .same (.cons .same (.cons .same (.cons .same (.cons (.hdl rfl rfl) (.cons .same (.cons (SlotLe.int (hS (k + 1) (by omega))) .nil)))))))
      by_cases e : i = n + 1
      · subst e
        refine ⟨_, upd_same _ _ _, fun b hb j hj => ?_⟩
        have et : ttget (T'.set (n + 1) ((ttget T' (n + 1)).set (k + 1) v)) (n + 1) = (ttget T' (n + 1)).set (k + 1) v := by unfold ttget; rw [getD_set_eq (by rw [hsh'.len]; omega)]
        rw [et]
        exact lG_set iL 0 (ttget T' (n + 1)) v (k + 1) b j 1 _ rfl (by rw [hsh'.row _ hi]; exact hb) hj
      · refine ⟨lG iL 0 (ttget T' i), ?_, fun b hb j hj => ?_⟩
        · rw [upd_ne _ _ _ (show (Id.s 900 i) ≠ Id.s 900 (n + 1) by intro q; cases q; exact e rfl)]
          exact msT_row W H T' i hi
        · have et : ttget (T'.set (n + 1) ((ttget T' (n + 1)).set (k + 1) v)) i = ttget T' i := by unfold ttget; rw [getD_set_ne (fun q => e q.symm)]
          rw [et]; exact SLe.refl _
    have he : k = H := by have : ¬ ((k + 1 : Nat) : Int) ≤ H := of_decide_eq_false d2; omega
    subst he
    exact Adj.back (x := (n, T)) (n + 1, T') ⟨by show n + 1 ≤ W; omega, hsh', fun a b a0 b0 b1 h => hdn' a b a0 b0 b1 (by omega)⟩ (by show W - (n + 1) < W - n; omega) (keepTT W k T')
      (.cons .same (.cons .same (.cons .same (.cons .same (.cons (.hdl rfl rfl) (.cons (SlotLe.int (hS (n + 1) (by omega))) .nil))))))
  have he : n = W := by have : ¬ ((n + 1 : Nat) : Int) ≤ W := of_decide_eq_false d1; omega
  subst he
  have hrow := msT_row n H T n (by omega)
  have hfin := hdn n H (by omega) (by omega) (Nat.le_refl _) (.inl (by omega))
  refine Need.mk (by omega) ?_
  refine ⟨⟨.hdl (.s 900 n) 0, rfl, ?_⟩⟩
  refine ⟨⟨_, hrow, ?_⟩⟩
  refine Need.mk (by omega) ?_
  refine ⟨⟨_, hrow, ?_⟩⟩
  refine Fin.tup (.cons (DLe.of_eq (by rw [← hfin]; rfl)) (.cons (DLe.refl _) .nil))
end St
end Go.Vm
namespace Go.Vm
set_option maxRecDepth 20000
set_option linter.unusedVariables false
set_option linter.unusedSimpArgs false
open Go Go.RowKit Go.Proofs
namespace St

def pcC0 (ks : List Knd) (kind h : Int) : CT := if (kget ks kind.toNat).h < h then .cut false (kget ks kind.toNat).h (.leaf kind) (.leaf (-1)) else .leaf kind
def pcC (ks : List Knd) (kind w h : Int) : CT := if (kget ks kind.toNat).w < w then .cut true (kget ks kind.toNat).w (pcC0 ks kind h) (.leaf (-1)) else pcC0 ks kind h
def mkC (ks : List Knd) (kerf : Int) (rows : List (List Pn)) : Nat → Int → Int → CT
  | 0, _, _ => .leaf (-1)
  | n + 1, w, h => if valI rows w h = 0 then .leaf (-1) else
      if (pnget (rwget rows h.toNat) w.toNat).k > 0 then pcC ks ((pnget (rwget rows h.toNat) w.toNat).k - 1) w h
      else if (pnget (rwget rows h.toNat) w.toNat).d = true then .cut true (pnget (rwget rows h.toNat) w.toNat).a (mkC ks kerf rows n (pnget (rwget rows h.toNat) w.toNat).a h) (mkC ks kerf rows n (w - (pnget (rwget rows h.toNat) w.toNat).a - kerf) h)
      else .cut false (pnget (rwget rows h.toNat) w.toNat).a (mkC ks kerf rows n w (pnget (rwget rows h.toNat) w.toNat).a) (mkC ks kerf rows n w (h - (pnget (rwget rows h.toNat) w.toNat).a - kerf))
theorem pcT_flat (ks : List Knd) (kind w h : Int) (b : Nat) : pcT ks kind w h b = (pcC ks kind w h).flat b := by
  have h0 : ∀ b, pcT0 ks kind h b = (pcC0 ks kind h).flat b := fun b => by
    unfold pcT0 pcC0
    split <;> rfl
  unfold pcT pcC
  split
  · exact cutT_congr h0 (fun _ => rfl)
  · exact h0 b
theorem mkT_flat (ks : List Knd) (kerf : Int) (rows : List (List Pn)) : ∀ (n : Nat) (w h : Int) (b : Nat), mkT ks kerf rows n w h b = (mkC ks kerf rows n w h).flat b
  | 0, _, _, _ => rfl
  | n + 1, w, h, b => by
    rw [mkT, mkC]
    split
    · rfl
    · split
      · exact pcT_flat _ _ _ _ _
      · split
        · exact cutT_congr (fun b => mkT_flat ks kerf rows n _ _ b) (fun b => mkT_flat ks kerf rows n _ _ b)
        · exact cutT_congr (fun b => mkT_flat ks kerf rows n _ _ b) (fun b => mkT_flat ks kerf rows n _ _ b)
section
variable {ks : List Knd} {kerf : Int} (hk : ∀ k ∈ ks, 1 ≤ k.w ∧ 1 ≤ k.h)
include hk
theorem pcC0_ok {kind h : Int} (hi : InK ks kind) (hh : (kget ks kind.toNat).h ≤ h) (q : Rc) (qw : q.w = (kget ks kind.toNat).w) (qh : q.h = h) : okC ks kerf (pcC0 ks kind h) q ∧ valC ks (pcC0 ks kind h) = (kget ks kind.toNat).v := by
  have i0 := hi.1; have i1 := hi.2
  have p := hk _ (kget_mem (l := ks) (i := kind.toNat) (by omega))
  unfold pcC0
  split
  · rename_i c
    refine ⟨⟨⟨p.2, ?_⟩, .inr ⟨i0, i1, ?_, ?_⟩, .inl rfl⟩, ?_⟩
    · rw [if_neg (by simp)]; omega
    · show q.w = _; exact qw
    · rfl
    · rw [valC, valC_leaf hi, valC_waste]; omega
  · exact ⟨.inr ⟨i0, i1, qw, by omega⟩, valC_leaf hi⟩
theorem pcC_ok {kind w h : Int} (hi : InK ks kind) (hw : (kget ks kind.toNat).w ≤ w) (hh : (kget ks kind.toNat).h ≤ h) (q : Rc) (qw : q.w = w) (qh : q.h = h) : okC ks kerf (pcC ks kind w h) q ∧ valC ks (pcC ks kind w h) = (kget ks kind.toNat).v := by
  have i0 := hi.1; have i1 := hi.2
  have p := hk _ (kget_mem (l := ks) (i := kind.toNat) (by omega))
  unfold pcC
  split
  · rename_i c
    obtain ⟨o, v⟩ := pcC0_ok (kerf := kerf) hk hi hh (cutA q ⟨true, (kget ks kind.toNat).w, 0, 0, -1⟩) rfl (by show q.h = h; exact qh)
    refine ⟨⟨⟨p.1, ?_⟩, o, .inl rfl⟩, ?_⟩
    · rw [if_pos rfl]; omega
    · rw [valC, v, valC_waste]; omega
  · exact pcC0_ok (kerf := kerf) hk hi hh q (by omega) qh
theorem mkC_ok {W H : Int} {T : List (List Pn)} (F : Fixd ks kerf W H T) (k0 : 0 ≤ kerf) : ∀ (n : Nat) (w h : Int) (q : Rc), w ≤ W → h ≤ H → w + h < n → q.w = w → q.h = h → okC ks kerf (mkC ks kerf T n w h) q ∧ valC ks (mkC ks kerf T n w h) = (if valI T w h = 0 then 0 else valI T w h) := by
  intro n
  induction n with
  | zero =>
    intro w h q _ _ hn _ _
    refine ⟨.inl rfl, ?_⟩
    rw [show mkC ks kerf T 0 w h = .leaf (-1) from rfl, valC_waste]
    split
    · rfl
    · rename_i c; have := val_pos c; omega
  | succ n ih =>
    intro w h q hw hh hn qw qh
    by_cases hv : valI T w h = 0
    · rw [mkC, if_pos hv, if_pos hv]
      exact ⟨.inl rfl, valC_waste ks⟩
    obtain ⟨w0, h0⟩ := val_pos hv
    obtain ⟨a, e⟩ := F.val w0 hw h0 hh
    have hp := a.ok
    rw [if_neg hv]
    have hm : mkC ks kerf T (n + 1) w h = if valI T w h = 0 then .leaf (-1) else
      if (pnget (rwget T h.toNat) w.toNat).k > 0 then pcC ks ((pnget (rwget T h.toNat) w.toNat).k - 1) w h
      else if (pnget (rwget T h.toNat) w.toNat).d = true then .cut true (pnget (rwget T h.toNat) w.toNat).a (mkC ks kerf T n (pnget (rwget T h.toNat) w.toNat).a h) (mkC ks kerf T n (w - (pnget (rwget T h.toNat) w.toNat).a - kerf) h)
      else .cut false (pnget (rwget T h.toNat) w.toNat).a (mkC ks kerf T n w (pnget (rwget T h.toNat) w.toNat).a) (mkC ks kerf T n w (h - (pnget (rwget T h.toNat) w.toNat).a - kerf)) := rfl
    rw [if_neg hv] at hm
    rw [hm]
    rw [e] at hv ⊢
    generalize pnget (rwget T h.toNat) w.toNat = p at *
    cases hp with
    | none => exact absurd rfl hv
    | kind i hi b c d =>
      rw [if_pos (show ((i + 1 : Nat) : Int) > 0 by omega)]
      have ei : (((i + 1 : Nat) : Int) - 1).toNat = i := by omega
      have := pcC_ok (kerf := kerf) hk (kind := ((i + 1 : Nat) : Int) - 1) (w := w) (h := h) ⟨by omega, by omega⟩ (by rw [ei]; exact b) (by rw [ei]; exact c) q qw qh
      rw [ei] at this
      exact this
    | cw x x0 x1 q1 q2 =>
      rw [if_neg (show ¬ (0 : Int) > 0 by decide), if_pos rfl]
      have p2 := val_pos (show valI T (w - x - kerf) h ≠ 0 by omega)
      have mx : maxI 0 (w - x - kerf) = w - x - kerf := by rcases maxI_spec (w - x - kerf) with ⟨_, c⟩ | ⟨c, _⟩ <;> omega
      obtain ⟨o1, v1⟩ := ih x h (cutA q ⟨true, x, 0, 0, -1⟩) (by omega) hh (by omega) rfl qh
      obtain ⟨o2, v2⟩ := ih (w - x - kerf) h (cutB q ⟨true, x, 0, 0, -1⟩ kerf) (by omega) hh (by omega) (by show maxI 0 (q.w - x - kerf) = _; rw [qw, mx]) qh
      refine ⟨⟨⟨x0, ?_⟩, o1, o2⟩, ?_⟩
      · rw [if_pos rfl, qw]; show x ≤ _; omega
      · show valC ks _ + valC ks _ = _
        rw [if_neg (by omega)] at v1 v2
        rw [v1, v2]
    | ch y y0 y1 q1 q2 =>
      rw [if_neg (show ¬ (0 : Int) > 0 by decide), if_neg (by simp)]
      have p2 := val_pos (show valI T w (h - y - kerf) ≠ 0 by omega)
      have mx : maxI 0 (h - y - kerf) = h - y - kerf := by rcases maxI_spec (h - y - kerf) with ⟨_, c⟩ | ⟨c, _⟩ <;> omega
      obtain ⟨o1, v1⟩ := ih w y (cutA q ⟨false, y, 0, 0, -1⟩) hw (by omega) (by omega) qw rfl
      obtain ⟨o2, v2⟩ := ih w (h - y - kerf) (cutB q ⟨false, y, 0, 0, -1⟩ kerf) hw (by omega) (by omega) qw (by show maxI 0 (q.h - y - kerf) = _; rw [qh, mx])
      refine ⟨⟨⟨y0, ?_⟩, o1, o2⟩, ?_⟩
      · rw [if_neg (by simp), qh]; show y ≤ _; omega
      · show valC ks _ + valC ks _ = _
        rw [if_neg (by omega)] at v1 v2
        rw [v1, v2]
end
theorem gtree_ok {ks : List Knd} {w h kerf : Int} (p : Pb ks w h kerf) (hb : gBadB ks w h kerf = false) : validB (gtree ks w h kerf) ks w h kerf = true ∧ valS (gtree ks w h kerf) ks (gtree ks w h kerf).length = gval ks w h kerf ∧ (gtree ks w h kerf).length ≤ 3600 := by
  have w0 := p.w0; have h0 := p.h0
  rw [gBadB, Bool.or_eq_false_iff, Bool.or_eq_false_iff, decide_eq_false_iff_not, decide_eq_false_iff_not] at hb
  obtain ⟨W, rfl⟩ : ∃ W : Nat, w = W := ⟨w.toNat, by omega⟩
  obtain ⟨H, rfl⟩ : ∃ H : Nat, h = H := ⟨h.toNat, by omega⟩
  have g : Gok ks W H kerf := ⟨p, by omega, by omega, hb.2.2⟩
  have F := tR_fix ks kerf p.k0 W H
  obtain ⟨o, v⟩ := mkC_ok p.posk F p.k0 (W + H + 1) W H ⟨0, 0, W, H⟩ (Int.le_refl _) (Int.le_refl _) (by omega) rfl rfl
  have e : gtree ks W H kerf = (mkC ks kerf (tR ks kerf W (H + 1)) (W + H + 1) W H).flat 0 := mkT_flat ks kerf _ _ _ _ _
  have hl : (gtree ks W H kerf).length ≤ 3600 := gtree_len g (W + H + 1) W H 0 (Int.le_refl _) (Int.le_refl _)
  have hs : (mkC ks kerf (tR ks kerf W (H + 1)) (W + H + 1) W H).size ≤ 4000 := by
    rw [e, flat_len] at hl; omega
  refine ⟨?_, ?_, hl⟩
  · rw [e]; exact at_valid p hs o
  · rw [e, at_value hs (fun k hk => ⟨(p.ok k hk).v0, (p.ok k hk).v1⟩), v]
    show _ = valI (tR ks kerf W (H + 1)) W H
    split
    · rename_i z; exact z.symm
    · rfl
theorem lgbest_det (z : Pz) (hl : z.ks.length ≤ maxLen) : Det Try.prog 12 [.agg (pzL z)] (tbool true) := by
  refine det_of_awp TTok mixed Try.func12 rfl rfl [] (Nat.le_of_ble_eq_true rfl) ?_
  refine CallW.mk' awake38_det ?_
  refine Split.f ?_
  refine CallW.bool (gsmall_det z) (fun b1 hb1' => ?_)
  refine Split.mk (fun c1 => ?_) (fun c1 => ?_)
  · exact Fin.rfl'
  have hsm := smallG_iff.1 (by rw [← hb1']; simpa using c1 : smallG z = true)
  clear hb1' c1
  refine CallW.kds (kinds_det z.ks (by omega)) ?_
  have r2 := rgbest_det z.ks z.w z.h z.kerf (by omega)
  have r3 := rbound_det z.ks z.w z.h z.kerf (by omega)
  have hrb : rgbestR z.ks z.w z.h z.kerf = ((gbestR z.ks z.w z.h z.kerf).1, (gbestR z.ks z.w z.h z.kerf).2.2) := by
    unfold rgbestR gbestR
    split
    · rfl
    · split <;> rfl
  rw [hrb] at r2
  have hbad : ¬ (gbestR z.ks z.w z.h z.kerf).2.2 = 0 → (gbestR z.ks z.w z.h z.kerf).2.1 = [] := fun q => by
    unfold gbestR at q ⊢
    split
    · rfl
    · rename_i hp
      rw [if_neg hp] at q
      split
      · rfl
      · rename_i hm
        rw [if_neg hm] at q
        exact absurd rfl q
  have hgood : (gbestR z.ks z.w z.h z.kerf).2.2 = 0 → validB (gbestR z.ks z.w z.h z.kerf).2.1 z.ks z.w z.h z.kerf = true ∧ valS (gbestR z.ks z.w z.h z.kerf).2.1 z.ks (gbestR z.ks z.w z.h z.kerf).2.1.length = (gbestR z.ks z.w z.h z.kerf).1 ∧ (gbestR z.ks z.w z.h z.kerf).2.1.length ≤ 3600 ∧ (gbestR z.ks z.w z.h z.kerf).1 ≤ (bndR z.ks z.w z.h z.kerf).1 := fun q => by
    obtain ⟨p, hm, hv⟩ := gbestR_ok q
    have e : (gbestR z.ks z.w z.h z.kerf).2.1 = gtree z.ks z.w z.h z.kerf := by
      unfold gbestR
      rw [if_neg (by rw [prob_iff.2 p]; simp), if_neg (by rw [hm]; simp)]
    obtain ⟨a, b, c⟩ := gtree_ok p hm
    rw [e, hv]
    refine ⟨a, b, c, ?_⟩
    rw [bndR, if_neg (by rw [prob_iff.2 p]; simp)]
    exact gval_bound p
  refine CallW.best (gbest_det z.ks z.w z.h z.kerf hl) (fun v hv => ?_)
  rw [← hv] at r2 hbad hgood
  refine CallW.mk' r2 ?_
  refine CallW.twoI (bound_det z.ks z.w z.h z.kerf hl) (fun y hy => ?_)
  rw [← hy] at r3 hgood
  refine CallW.mk' r3 ?_
  clear hv hrb hy r2 r3
  obtain ⟨v1, B, e⟩ := v
  obtain ⟨y1, y2⟩ := y
  replace hbad : ¬ e = 0 → B = [] := hbad
  replace hgood : e = 0 → validB B z.ks z.w z.h z.kerf = true ∧ valS B z.ks B.length = v1 ∧ B.length ≤ 3600 ∧ v1 ≤ y1 := hgood
  have f1 : (e != e) = false := bne_self_eq_false _
  have f2 : (v1 != v1) = false := bne_self_eq_false _
  have f3 : (y1 != y1) = false := bne_self_eq_false _
  have f4 : (y2 != y2) = false := bne_self_eq_false _
  refine Split.isF f1 ?_
  repeat' first | refine Split.isF f1 ?_ | refine Split.isF f2 ?_ | refine Split.isF f3 ?_ | refine Split.t ?_ | refine Split.f ?_ | fail
  refine Split.isF f4 ?_
  show Split (e != 0) _
  refine Split.mk (fun c1 => ?_) (fun c1 => ?_)
  · have hB : B = [] := hbad (by simpa using c1)
    subst hB
    exact Fin.rfl'
  obtain ⟨g1, g2, g3, g4⟩ := hgood (by simpa using c1)
  refine CallW.nds (theirs_det B (by omega)) ?_
  have f5 : decide (v1 ≤ y1) = true := decide_eq_true g4
  repeat' first | refine Split.isT f5 ?_ | refine Split.t ?_ | refine Split.f ?_ | fail
  refine CallW.mk' ((rvalid_det B z.ks z.w z.h z.kerf (by omega) (by omega)).eq (by rw [g1])) ?_
  repeat' first | refine Split.isT f5 ?_ | refine Split.t ?_ | refine Split.f ?_ | fail
  refine CallW.mk' ((rvalue_det B z.ks (by omega) (by omega)).eq (by rw [g2])) ?_
  have f6 : (v1 == v1) = true := by simp
  repeat' first | refine Split.isT f5 ?_ | refine Split.isT f6 ?_ | refine Split.t ?_ | refine Split.f ?_ | fail
  refine Fin.bool ?_
  exact f6
theorem lgbest_all : ∀ dvs, TypL Try.prog Try.f12.params.toList dvs → Det Try.prog 12 dvs (tbool true) := by
  intro dvs h
  obtain ⟨v0, r0, rfl, h0, q0⟩ := TypL.inv_cons (t := 24) (ts := []) h
  obtain rfl := TypL.inv_nil q0
  obtain ⟨z, hz, _, _, _, hle⟩ := pzIn h0
  exact Det.le (.cons hle .nil) (lgbest_det z hz)
end St
end Go.Vm
