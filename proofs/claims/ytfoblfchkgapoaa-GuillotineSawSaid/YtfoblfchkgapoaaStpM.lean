/-
  Layer 37: the contracts of StripGrows and StripParts.
-/
import Derived.Test.YtfoblfchkgapoaaStpL
namespace Go.Vm
set_option maxRecDepth 20000
set_option linter.unusedVariables false
set_option linter.unusedSimpArgs false
open Go Go.RowKit Go.Proofs
namespace St

structure Pz where
  ks : List Knd
  w : Int
  h : Int
  kerf : Int
abbrev pzL (z : Pz) : List SV := [kS z.ks, i64 z.w, i64 z.h, i64 z.kerf]
def fewB (ks : List Knd) (w h : Int) : Bool := decide (ks.length ≤ 8) && (decide (w ≤ 60) && decide (h ≤ 60))
def smallB (z : Pz) : Bool := fewB z.ks z.w z.h && decide (z.kerf ≤ 60)
theorem few_det (ks : List Knd) (w h : Int) : Det Try.prog 39 [.one (kS ks), .one (i64 w), .one (i64 h)] (tbool (fewB ks w h)) := by
  refine det_of_awp TTok mixed Try.func39 rfl rfl [] (Nat.le_of_ble_eq_true rfl) ?_
  refine Split.mk (fun c1 => ?_) (fun c1 => ?_)
  · have e1 : ks.length ≤ 8 := by have := of_decide_eq_true c1; omega
    repeat' first | refine Split.isT c1 ?_ | refine Split.t ?_ | refine Split.f ?_ | fail
    refine Split.mk (fun c2 => ?_) (fun c2 => ?_)
    · repeat' first | refine Split.isT c1 ?_ | refine Split.isT c2 ?_ | refine Split.t ?_ | refine Split.f ?_ | fail
      refine Fin.bool ?_
      rw [fewB, decide_eq_true e1, c2]; rfl
    · repeat' first | refine Split.isT c1 ?_ | refine Split.isF c2 ?_ | refine Split.t ?_ | refine Split.f ?_ | fail
      refine Fin.bool ?_
      rw [fewB, c2, Bool.false_and, Bool.and_false]
  · have e1 : ¬ ks.length ≤ 8 := by have := of_decide_eq_false c1; omega
    repeat' first | refine Split.isF c1 ?_ | refine Split.t ?_ | refine Split.f ?_ | fail
    refine Fin.bool ?_
    rw [fewB, decide_eq_false e1, Bool.false_and]
theorem small_det (z : Pz) : Det Try.prog 16 [.agg (pzL z)] (tbool (smallB z)) := by
  refine det_of_awp TTok mixed Try.func16 rfl rfl [] (Nat.le_of_ble_eq_true rfl) ?_
  refine CallW.bool (few_det z.ks z.w z.h) (fun b hb => ?_)
  refine Split.mk (fun c1 => ?_) (fun c1 => ?_)
  · repeat' first | refine Split.isT c1 ?_ | refine Split.t ?_ | refine Split.f ?_ | fail
    refine Fin.bool ?_
    rw [smallB, ← hb, c1]; rfl
  · repeat' first | refine Split.isF c1 ?_ | refine Split.t ?_ | refine Split.f ?_ | fail
    refine Fin.bool ?_
    rw [smallB, ← hb, c1]; rfl
theorem small_iff {z : Pz} : smallB z = true ↔ z.ks.length ≤ 8 ∧ z.w ≤ 60 ∧ z.h ≤ 60 ∧ z.kerf ≤ 60 := by
  simp [smallB, fewB, Bool.and_eq_true, and_assoc]
theorem lG_at {α : Type} (f : α → List SV) (d : α) (l : List α) (k n i j : Nat) (cs : List SV) (hc : cs = f (l.getD k d)) (hi : i < k + 1) : SLe (bif Nat.blt i k then lG f d l i j else cs.getD ((i - k) * n + j) (.v Go.undef)) (lG f d l i j) := by
  subst hc
  refine SLe.bif (fun _ => SLe.refl _) (fun h => ?_)
  have e : i = k := by omega
  subst e
  rw [Nat.sub_self, Nat.zero_mul, Nat.zero_add]
  exact SLe.refl _
theorem kinds_det (l : List Knd) (hl : l.length ≤ 100000000) : Det Try.prog 17 [.one (kS l)] (.d (.one (kS l))) := by
  refine det_of_awp TTok mixed Try.func17 rfl rfl [] (Nat.le_of_ble_eq_true rfl) ?_
  refine Loop.by (α := Nat) (fun k => [(3, .hdl 15 0), (6, .d (.one (kS l))), (7, tint l.length), (8, tint k)]) (fun k => [(15, .bld 0 k 3 46 (lG kL k0 l))]) (fun k => k ≤ l.length) (fun k => l.length - k)
    (Adj.nil 3 15 3 46 (lG kL k0 l) rfl rfl (Adj.at 0 (Nat.zero_le _) (.cons (.bld (fun _ h => absurd h (Nat.not_lt_zero _))) .nil) (.cons (.hdl rfl rfl) (.cons .same (.cons .same (.cons .same .nil)))))) (fun k hk => ?_)
  refine Split.mk (fun h => ?_) (fun h => ?_)
  · have hlt : k < l.length := by have := of_decide_eq_true h; omega
    refine Need.mk (by omega) ?_
    refine Need.mk (needApp (n := k + 1) (by omega) (by decide)) ?_
    refine Adj.back (x := k) (k + 1) (by omega) (by omega) (.cons (.bld (fun i hi j hj => ?_)) .nil) (.cons (.hdl rfl rfl) (.cons .same (.cons .same (.cons (SlotLe.int (hS k (by omega))) .nil))))
    exact lG_at kL k0 l k 3 i j _ rfl hi
  · have he : k = l.length := by have := of_decide_eq_false h; omega
    refine Fin.one ?_
    exact SLe.slN he (fun _ _ _ _ => SLe.refl _)
theorem CallW.kds {P : Program} {f : FuncId} {args : List DV} {K : TV → Prop} {a : List Knd} (h : Det P f args (.d (.one (kS a)))) (kk : K (.d (.one (kS a)))) : CallW P f args K := ⟨_, h, kk⟩
theorem cons_le (k : Knd) (ks : List Knd) : DLe (.one (.sl (1 + ks.length) 3 fun i j => bif Nat.blt i 1 then (kL k).getD (i * 3 + j) (.v Go.undef) else lG kL k0 ks (i - 1) j)) (.one (kS (k :: ks))) := by
  refine DLe.one (SLe.slN (by rw [List.length_cons]; omega) (fun i hi j hj => SLe.bif (fun h => ?_) (fun h => ?_)))
  · obtain rfl : i = 0 := by omega
    rw [Nat.zero_mul, Nat.zero_add]
    exact SLe.refl _
  · obtain ⟨i, rfl⟩ : ∃ i', i = i' + 1 := ⟨i - 1, by omega⟩
    exact SLe.of_eq (lG_eq (by simp [List.getD]) j)
theorem bestR_ok {ks : List Knd} {w h kerf : Int} (hz : (bestR ks w h kerf).2.2 = 0) : Pb ks w h kerf ∧ manyB ks w h kerf = false ∧ (bestR ks w h kerf).1 = bestV ks w h kerf := by
  unfold bestR at hz ⊢
  cases hp : probB ks w h kerf with
  | false => rw [hp] at hz; simp at hz
  | true =>
    cases hm : manyB ks w h kerf with
    | true => rw [hp, hm] at hz; simp at hz
    | false =>
      refine ⟨prob_iff.1 hp, rfl, ?_⟩
      simp
theorem bestR_err {ks : List Knd} {w h kerf : Int} (p : Pb ks w h kerf) : (bestR ks w h kerf).2.2 = 9 ∨ ((bestR ks w h kerf).2.2 = 0 ∧ manyB ks w h kerf = false ∧ (bestR ks w h kerf).1 = bestV ks w h kerf) := by
  unfold bestR
  rw [prob_iff.2 p]
  cases hm : manyB ks w h kerf with
  | true => left; simp
  | false => right; simp
theorem rem_w {n m : Int} (h0 : 0 ≤ n) : n.tmod m = n % m := Int.tmod_eq_emod_of_nonneg h0
/-! ### StripGrows -/
theorem lgrows_det (z : Pz) (k : Knd) (a b : Int) (hl : z.ks.length ≤ maxLen) (ha0 : 0 ≤ a) (ha1 : a ≤ 255) (hb0 : 0 ≤ b) (hb1 : b ≤ 255) : Det Try.prog 4 [.agg (pzL z), .agg (kL k), .agg [.v (.int .u8 a), .v (.int .u8 b)]] (tbool true) := by
  refine det_of_awp TTok mixed Try.func4 rfl rfl [33 + 6000000, 85 + 6000000] (Nat.le_of_ble_eq_true rfl) ?_
  refine CallW.mk' awake37_det ?_
  refine Split.f ?_
  refine CallW.bool (small_det z) (fun b1 hb1' => ?_)
  refine Split.mk (fun c1 => ?_) (fun c1 => ?_)
  · repeat' first | refine Split.isT c1 ?_ | refine Split.t ?_ | refine Split.f ?_ | fail
    refine Need.mk (by kernel_rfl) ?_
    repeat' first | refine Split.t ?_ | refine Split.f ?_ | fail
    exact Fin.rfl'
  have hsm := small_iff.1 (by rw [← hb1']; simpa using c1 : smallB z = true)
  repeat' first | refine Split.isF c1 ?_ | refine Split.t ?_ | refine Split.f ?_ | fail
  refine Split.mk (fun c2 => ?_) (fun c2 => ?_)
  · repeat' first | refine Split.isF c1 ?_ | refine Split.isT c2 ?_ | refine Split.t ?_ | refine Split.f ?_ | fail
    refine Need.mk (by kernel_rfl) ?_
    repeat' first | refine Split.t ?_ | refine Split.f ?_ | fail
    exact Fin.rfl'
  have h7 : z.ks.length ≤ 7 := by have := of_decide_eq_false c2; omega
  repeat' first | refine Split.isF c1 ?_ | refine Split.isF c2 ?_ | refine Split.t ?_ | refine Split.f ?_ | fail
  refine Need.mk (needApp (n := 1 + z.ks.length) (by omega) (by decide)) ?_
  repeat' first | refine Split.isF c1 ?_ | refine Split.isF c2 ?_ | refine Split.t ?_ | refine Split.f ?_ | fail
  refine CallW.bool ((rproblem_det (k :: z.ks) z.w z.h z.kerf (by rw [List.length_cons]; omega)).le (.cons (cons_le k z.ks) (.cons (DLe.refl _) (.cons (DLe.refl _) (.cons (DLe.refl _) .nil))))) (fun b2 hb2 => ?_)
  repeat' first | refine Split.isF c1 ?_ | refine Split.isF c2 ?_ | refine Split.t ?_ | refine Split.f ?_ | fail
  refine Need.mk (by kernel_rfl) ?_
  refine Split.mk (fun c3 => ?_) (fun c3 => ?_)
  · exact Fin.rfl'
  have p : Pb (k :: z.ks) z.w z.h z.kerf := prob_iff.1 (by rw [← hb2]; simpa using c3)
  have p0 : Pb z.ks z.w z.h z.kerf := ⟨by have := p.len; rw [List.length_cons] at this; omega, fun x hx => p.ok x (by simp [hx]), p.w0, p.w1, p.h0, p.h1, p.k0, p.k1⟩
  have w0 := p.w0; have h0 := p.h0; have k0 := p.k0
  refine CallW.kds (kinds_det z.ks (by omega)) ?_
  refine CallW.best (best_det z.ks z.w z.h z.kerf hl) (fun v hv => ?_)
  refine Need.mk (by decide) ?_
  refine Need.mk ⟨_, rfl⟩ ?_
  refine Need.mk (by decide) ?_
  refine Need.mk (by decide) ?_
  refine Need.mk ⟨_, rfl⟩ ?_
  refine Need.mk (by decide) ?_
  have ea : IntKind.i64.wrap a = a := hw _ (by omega) (by omega)
  have eb : IntKind.i64.wrap b = b := hw _ (by omega) (by omega)
  have em1 : (IntKind.i64.wrap a).tmod 20 = a % 20 := by rw [ea, rem_w ha0]
  have em2 : (IntKind.i64.wrap b).tmod 20 = b % 20 := by rw [eb, rem_w hb0]
  have em3 : (IntKind.i64.wrap a).tmod 3 = a % 3 := by rw [ea, rem_w ha0]
  have ew : IntKind.i64.wrap (z.w + (IntKind.i64.wrap a).tmod 20) = z.w + a % 20 := by rw [em1]; exact hw _ (by omega) (by omega)
  have eh : IntKind.i64.wrap (z.h + (IntKind.i64.wrap b).tmod 20) = z.h + b % 20 := by rw [em2]; exact hw _ (by omega) (by omega)
  refine CallW.best ((best_det z.ks (z.w + a % 20) (z.h + b % 20) z.kerf hl).le (.cons (DLe.refl _) (.cons (DLe.of_eq (by rw [← ew])) (.cons (DLe.of_eq (by rw [← eh])) (.cons (DLe.refl _) .nil))))) (fun x hx => ?_)
  refine Need.mk (needApp (n := 1 + z.ks.length) (by omega) (by decide)) ?_
  refine CallW.best ((best_det (k :: z.ks) z.w z.h z.kerf (by rw [List.length_cons]; simp only [maxLen]; omega)).le (.cons (cons_le k z.ks) (.cons (DLe.refl _) (.cons (DLe.refl _) (.cons (DLe.refl _) .nil))))) (fun y hy => ?_)
  refine Need.mk (by kernel_rfl) ?_
  refine Need.mk (by decide) ?_
  refine Need.mk ⟨_, rfl⟩ ?_
  refine Need.mk (by decide) ?_
  have ek : IntKind.i64.wrap (z.kerf - (if (IntKind.i64.wrap a).tmod 3 < z.kerf then (IntKind.i64.wrap a).tmod 3 else z.kerf)) = z.kerf - minI z.kerf (a % 3) := by
    rw [em3, minI]
    split <;> exact hw _ (by omega) (by omega)
  refine CallW.best ((best_det z.ks z.w z.h (z.kerf - minI z.kerf (a % 3)) hl).le (.cons (DLe.refl _) (.cons (DLe.refl _) (.cons (DLe.refl _) (.cons (DLe.of_eq (by rw [← ek])) .nil))))) (fun u hu => ?_)
  have hmin := minI_spec z.kerf (a % 3)
  rcases bestR_err p0 with he | ⟨he, _, hv0⟩
  · rw [← hv] at he
    have e1 : (v.2.2 != 0) = true := by rw [he]; rfl
    refine Split.isT e1 ?_
    refine Fin.bool ?_
    rw [he]; rfl
  rw [← hv] at he hv0
  have e1 : (v.2.2 != 0) = false := by rw [he]; rfl
  refine Split.isF e1 ?_
  have gx : x.2.2 = 0 → x.1 ≥ v.1 := fun h => by
    rw [hx] at h ⊢
    obtain ⟨q1, _, q3⟩ := bestR_ok h
    rw [q3, hv0]
    exact best_mono p0 q1 (fun _ h => h) (by omega) (by omega) (Int.le_refl _)
  have gy : y.2.2 = 0 → y.1 ≥ v.1 := fun h => by
    rw [hy] at h ⊢
    obtain ⟨q1, _, q3⟩ := bestR_ok h
    rw [q3, hv0]
    exact best_mono p0 q1 (fun _ h => by simp [h]) (Int.le_refl _) (Int.le_refl _) (Int.le_refl _)
  have gu : u.2.2 = 0 → u.1 ≥ v.1 := fun h => by
    rw [hu] at h ⊢
    obtain ⟨q1, _, q3⟩ := bestR_ok h
    rw [q3, hv0]
    exact best_mono p0 q1 (fun _ h => h) (Int.le_refl _) (Int.le_refl _) (by omega)
  clear hx hy hu hv
  obtain ⟨x1, x2, x3⟩ := x
  obtain ⟨y1, y2, y3⟩ := y
  obtain ⟨u1, u2, u3⟩ := u
  obtain ⟨v1, v2, v3⟩ := v
  replace gx : x3 = 0 → x1 ≥ v1 := gx
  replace gy : y3 = 0 → y1 ≥ v1 := gy
  replace gu : u3 = 0 → u1 ≥ v1 := gu
  show Split (x3 != 0) _
  refine Split.mk (fun d1 => ?_) (fun d1 => ?_)
  all_goals
    have d1' : x3 = 0 → decide (x1 ≥ v1) = true := fun h => decide_eq_true (gx h)
    first | replace d1' := d1' (by simpa using d1) | skip
    repeat' first | refine Split.isT d1 ?_ | refine Split.isF d1 ?_ | refine Split.isT d1' ?_ | refine Split.t ?_ | refine Split.f ?_ | fail
    refine Split.mk (fun d2 => ?_) (fun d2 => ?_)
    all_goals
      have d2' : y3 = 0 → decide (y1 ≥ v1) = true := fun h => decide_eq_true (gy h)
      first | replace d2' := d2' (by simpa using d2) | skip
      repeat' first | refine Split.isT d2 ?_ | refine Split.isF d2 ?_ | refine Split.isT d2' ?_ | refine Split.t ?_ | refine Split.f ?_ | fail
      refine Split.mk (fun d3 => ?_) (fun d3 => ?_)
      all_goals
        have d3' : u3 = 0 → decide (u1 ≥ v1) = true := fun h => decide_eq_true (gu h)
        first | replace d3' := d3' (by simpa using d3) | skip
        repeat' first | refine Split.isT d3 ?_ | refine Split.isF d3 ?_ | refine Split.isT d3' ?_ | refine Split.t ?_ | refine Split.f ?_ | fail
        refine Fin.bool ?_
        first | rfl | assumption
/-! ### StripParts -/
theorem lparts_det (z : Pz) (a : Int) (hl : z.ks.length ≤ maxLen) (ha0 : 0 ≤ a) (ha1 : a ≤ 255) : Det Try.prog 5 [.agg (pzL z), .one (.v (.int .u8 a))] (tbool true) := by
  refine det_of_awp TTok mixed Try.func5 rfl rfl [] (Nat.le_of_ble_eq_true rfl) ?_
  refine CallW.mk' awake37_det ?_
  refine Split.f ?_
  refine CallW.bool (small_det z) (fun b1 hb1' => ?_)
  refine Split.mk (fun c1 => ?_) (fun c1 => ?_)
  · repeat' first | refine Split.isT c1 ?_ | refine Split.t ?_ | refine Split.f ?_ | fail
    exact Fin.rfl'
  have hsm := small_iff.1 (by rw [← hb1']; simpa using c1 : smallB z = true)
  repeat' first | refine Split.isF c1 ?_ | refine Split.t ?_ | refine Split.f ?_ | fail
  refine CallW.bool (rproblem_det z.ks z.w z.h z.kerf (by omega)) (fun b2 hb2 => ?_)
  repeat' first | refine Split.isF c1 ?_ | refine Split.t ?_ | refine Split.f ?_ | fail
  refine Split.mk (fun c3 => ?_) (fun c3 => ?_)
  · exact Fin.rfl'
  have p : Pb z.ks z.w z.h z.kerf := prob_iff.1 (by rw [← hb2]; simpa using c3)
  have w0 := p.w0; have h0 := p.h0; have h1 := p.h1; have k0 := p.k0; have k1 := p.k1
  refine Need.mk ⟨_, rfl⟩ ?_
  refine Need.mk (by omega) ?_
  have ea : IntKind.i64.wrap a = a := hw _ (by omega) (by omega)
  have hr0 := Int.emod_nonneg a (show z.h ≠ 0 by omega)
  have hr1 := Int.emod_lt_of_pos a (show 0 < z.h by omega)
  have elo : IntKind.i64.wrap (1 + (IntKind.i64.wrap a).tmod z.h) = 1 + a % z.h := by rw [ea, rem_w ha0]; exact hw _ (by omega) (by omega)
  have ehi : IntKind.i64.wrap (IntKind.i64.wrap (z.h - IntKind.i64.wrap (1 + (IntKind.i64.wrap a).tmod z.h)) - z.kerf) = z.h - (1 + a % z.h) - z.kerf := by
    rw [elo, hw (z.h - (1 + a % z.h)) (by omega) (by omega)]; exact hw _ (by omega) (by omega)
  generalize a % z.h = m at *
  show Split (decide (IntKind.i64.wrap (IntKind.i64.wrap (z.h - IntKind.i64.wrap (1 + (IntKind.i64.wrap a).tmod z.h)) - z.kerf) < 1)) _
  refine Split.mk (fun c4 => ?_) (fun c4 => ?_)
  · exact Fin.rfl'
  have c4' : 1 ≤ z.h - (1 + m) - z.kerf := by have := of_decide_eq_false c4; rw [ehi] at this; omega
  refine CallW.kds (kinds_det z.ks (by omega)) ?_
  refine CallW.best (best_det z.ks z.w z.h z.kerf hl) (fun v hv => ?_)
  refine CallW.best ((best_det z.ks z.w (1 + m) z.kerf hl).le (.cons (DLe.refl _) (.cons (DLe.refl _) (.cons (DLe.of_eq (by rw [← elo])) (.cons (DLe.refl _) .nil))))) (fun x hx => ?_)
  refine CallW.best ((best_det z.ks z.w (z.h - (1 + m) - z.kerf) z.kerf hl).le (.cons (DLe.refl _) (.cons (DLe.refl _) (.cons (DLe.of_eq (by rw [← ehi])) (.cons (DLe.refl _) .nil))))) (fun y hy => ?_)
  rcases bestR_err p with he | ⟨he, hm, hv0⟩
  · rw [← hv] at he
    have e1 : (v.2.2 != 0) = true := by rw [he]; rfl
    refine Split.isT e1 ?_
    refine Fin.bool ?_
    rw [he]; rfl
  rw [← hv] at he hv0
  have e1 : (v.2.2 != 0) = false := by rw [he]; rfl
  refine Split.isF e1 ?_
  have p1 : Pb z.ks z.w (1 + m) z.kerf := ⟨p.len, p.ok, p.w0, p.w1, by omega, by omega, p.k0, p.k1⟩
  have p2 : Pb z.ks z.w (z.h - (1 + m) - z.kerf) z.kerf := ⟨p.len, p.ok, p.w0, p.w1, by omega, by omega, p.k0, p.k1⟩
  have hx0 : x.2.2 = 0 ∧ x.1 = bestV z.ks z.w (1 + m) z.kerf := by
    rw [hx]
    rcases bestR_err p1 with h | ⟨h, _, h'⟩
    · have := many_mono p p.w0 p1.h0 (Int.le_refl _) (by omega) hm
      unfold bestR at h
      rw [prob_iff.2 p1, this] at h
      simp at h
    · exact ⟨h, h'⟩
  have hy0 : y.2.2 = 0 ∧ y.1 = bestV z.ks z.w (z.h - (1 + m) - z.kerf) z.kerf := by
    rw [hy]
    rcases bestR_err p2 with h | ⟨h, _, h'⟩
    · have := many_mono p p.w0 p2.h0 (Int.le_refl _) (by omega) hm
      unfold bestR at h
      rw [prob_iff.2 p2, this] at h
      simp at h
    · exact ⟨h, h'⟩
  have key := best_parts p p1 p2 (by omega)
  have bnd : ∀ {w h : Int}, Pb z.ks w h z.kerf → 0 ≤ bestV z.ks w h z.kerf ∧ bestV z.ks w h z.kerf ≤ 2050 * 2050000000 := fun {w h} q => by
    obtain ⟨b1, b2⟩ := kV_bd (sts_its q z.ks.length (Nat.le_refl _)) (capI (h + z.kerf) + 1) (capI (h + z.kerf)) (Nat.lt_succ_self _)
    have := q.caph.2
    have e : bestV z.ks w h z.kerf = (kV ((stpF z.ks z.kerf w h z.ks.length).map (itmS z.kerf)) (capI (h + z.kerf) + 1)).getD (capI (h + z.kerf)) 0 := rfl
    omega
  have q1 := bnd p1
  have q2 := bnd p2
  rw [← hx0.2] at key q1
  rw [← hy0.2] at key q2
  rw [← hv0] at key
  have f1 : (x.2.2 == 0) = true := by rw [hx0.1]; rfl
  have f2 : (y.2.2 == 0) = true := by rw [hy0.1]; rfl
  have f3 : decide (IntKind.i64.wrap (x.1 + y.1) ≤ v.1) = true := decide_eq_true (by rw [wid (by omega) (by omega)]; exact key)
  repeat' first | refine Split.isT f1 ?_ | refine Split.isT f2 ?_ | refine Split.t ?_ | refine Split.f ?_ | fail
  refine Fin.bool ?_
  first | exact f3 | rfl
/-! ### what comes in -/
theorem u8_bd {a : Int} (h : InK .u8 a) : 0 ≤ a ∧ a ≤ 255 := by
  simp [InK, Lit.wf, IntKind.min, IntKind.max, IntKind.bits, IntKind.signed] at h
  omega
theorem kndsIn {c : SV} (h : Typ Try.prog 22 [c]) : ∃ l : List Knd, l.length ≤ maxLen ∧ SLe c (kS l) := by
  obtain ⟨n, get, e, hn, hr⟩ := Typ.inv_slc (P := Try.prog) (e := 43) rfl h
  cases e
  obtain ⟨l, h1, _, h3⟩ := lst_of (f := kL) (d := k0) (Q := fun _ => True) (k := 3) (n := n) (get := get) (fun i hi => by
    obtain ⟨a0, a1, a2, e, _⟩ := typ43 (hr i hi)
    exact ⟨⟨a0, a1, a2⟩, trivial, e⟩)
  exact ⟨l, by rw [h1]; exact hn, fun S w x r => h3 S w x r⟩
theorem pzIn {v : DV} (h : TypD Try.prog 24 v) : ∃ z : Pz, z.ks.length ≤ maxLen ∧ R64 z.w ∧ R64 z.h ∧ R64 z.kerf ∧ DLe v (.agg (pzL z)) := by
  obtain ⟨cs, rfl, k⟩ := TypD.agg (by kernel_rfl) h
  have hl : cs.length = 4 := (Typ.inv_str rfl k).1
  match cs, hl, k with
  | [c0, c1, c2, c3], _, k =>
    obtain ⟨l, hl1, hl2⟩ := kndsIn (k.field rfl 0 0 1 22 rfl)
    obtain ⟨w, e1, r1⟩ := Typ.inv_i64 rfl (k.field rfl 1 1 1 3 rfl)
    obtain ⟨hh, e2, r2⟩ := Typ.inv_i64 rfl (k.field rfl 2 2 1 3 rfl)
    obtain ⟨q, e3, r3⟩ := Typ.inv_i64 rfl (k.field rfl 3 3 1 3 rfl)
    cases (show [c1] = [i64 w] from e1)
    cases (show [c2] = [i64 hh] from e2)
    cases (show [c3] = [i64 q] from e3)
    exact ⟨⟨l, w, hh, q⟩, hl1, r1, r2, r3, DLe.agg (.cons hl2 (LLe.refl _))⟩
theorem kndIn {v : DV} (h : TypD Try.prog 43 v) : ∃ k : Knd, v = .agg (kL k) := by
  obtain ⟨cs, rfl, k⟩ := TypD.agg (by kernel_rfl) h
  obtain ⟨a0, a1, a2, rfl, _⟩ := typ43 k
  exact ⟨⟨a0, a1, a2⟩, rfl⟩
theorem u8In {v : DV} (h : TypD Try.prog 5 v) : ∃ a : Int, v = .one (.v (.int .u8 a)) ∧ 0 ≤ a ∧ a ≤ 255 := by
  obtain ⟨a, rfl, r⟩ := TypD.int (k := .u8) (by kernel_rfl) rfl h
  exact ⟨a, rfl, u8_bd r⟩
theorem arrIn {v : DV} (h : TypD Try.prog 44 v) : ∃ a b : Int, v = .agg [.v (.int .u8 a), .v (.int .u8 b)] ∧ 0 ≤ a ∧ a ≤ 255 ∧ 0 ≤ b ∧ b ≤ 255 := by
  obtain ⟨cs, rfl, k⟩ := TypD.agg (by kernel_rfl) h
  obtain ⟨hl, hr⟩ := Typ.inv_arr (e := 5) (n := 2) rfl k
  replace hl : cs.length = 2 := hl
  match cs, hl, hr with
  | [c0, c1], _, hr =>
    obtain ⟨a, e0, r0⟩ := Typ.inv_int (k := .u8) rfl (hr 0 (by decide))
    obtain ⟨b, e1, r1⟩ := Typ.inv_int (k := .u8) rfl (hr 1 (by decide))
    cases (show [c0] = [.v (.int .u8 a)] from e0)
    cases (show [c1] = [.v (.int .u8 b)] from e1)
    exact ⟨a, b, rfl, (u8_bd r0).1, (u8_bd r0).2, u8_bd r1⟩
theorem lgrows_all : ∀ dvs, TypL Try.prog Try.f4.params.toList dvs → Det Try.prog 4 dvs (tbool true) := by
  intro dvs h
  obtain ⟨v0, r0, rfl, h0, q0⟩ := TypL.inv_cons (t := 24) (ts := [43, 44]) h
  obtain ⟨v1, r1, rfl, h1, q1⟩ := TypL.inv_cons (t := 43) (ts := [44]) q0
  obtain ⟨v2, r2, rfl, h2, q2⟩ := TypL.inv_cons (t := 44) (ts := []) q1
  obtain rfl := TypL.inv_nil q2
  obtain ⟨z, hz, _, _, _, hle⟩ := pzIn h0
  obtain ⟨k, rfl⟩ := kndIn h1
  obtain ⟨a, b, rfl, a0, a1, b0, b1⟩ := arrIn h2
  exact Det.le (.cons hle (.cons (DLe.refl _) (.cons (DLe.refl _) .nil))) (lgrows_det z k a b hz a0 a1 b0 b1)
theorem lparts_all : ∀ dvs, TypL Try.prog Try.f5.params.toList dvs → Det Try.prog 5 dvs (tbool true) := by
  intro dvs h
  obtain ⟨v0, r0, rfl, h0, q0⟩ := TypL.inv_cons (t := 24) (ts := [5]) h
  obtain ⟨v1, r1, rfl, h1, q1⟩ := TypL.inv_cons (t := 5) (ts := []) q0
  obtain rfl := TypL.inv_nil q1
  obtain ⟨z, hz, _, _, _, hle⟩ := pzIn h0
  obtain ⟨a, rfl, a0, a1⟩ := u8In h1
  exact Det.le (.cons hle (.cons (DLe.refl _) .nil)) (lparts_det z a hz a0 a1)
end St
end Go.Vm
