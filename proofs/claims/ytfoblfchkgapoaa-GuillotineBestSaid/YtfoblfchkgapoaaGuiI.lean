/-
  Layer 38: the contract of Best.
-/
import Derived.Test.YtfoblfchkgapoaaGuiH
namespace Go.Vm
set_option maxRecDepth 20000
set_option linter.unusedVariables false
set_option linter.unusedSimpArgs false
open Go Go.RowKit Go.Proofs
namespace St

def gBadB (ks : List Knd) (w h kerf : Int) : Bool := decide (w > 200) || (decide (h > 200) || gmanyB ks w h kerf)
abbrev gtab (ks : List Knd) (w h kerf : Int) : List (List Pn) := tR ks kerf w.toNat (h.toNat + 1)
def gtree (ks : List Knd) (w h kerf : Int) : List Nd := mkT ks kerf (gtab ks w h kerf) (w.toNat + h.toNat + 1) w h 0
def gval (ks : List Knd) (w h kerf : Int) : Int := valI (gtab ks w h kerf) w h
def gbestR (ks : List Knd) (w h kerf : Int) : Int × List Nd × Int := if probB ks w h kerf = false then (0, [], 1) else if gBadB ks w h kerf = true then (0, [], 9) else (gval ks w h kerf, gtree ks w h kerf, 0)
structure Gok (ks : List Knd) (W H : Nat) (kerf : Int) : Prop where
  p : Pb ks W H kerf
  w2 : W ≤ 200
  h2 : H ≤ 200
  m : gmanyB ks W H kerf = false
theorem gtree_len {ks : List Knd} {W H : Nat} {kerf : Int} (g : Gok ks W H kerf) (n : Nat) (w h : Int) (b : Nat) (hw : w ≤ W) (hh : h ≤ H) : (mkT ks kerf (tR ks kerf W (H + 1)) n w h b).length ≤ 3600 := by
  have k0 := g.p.k0
  by_cases hv : valI (tR ks kerf W (H + 1)) w h = 0
  · cases n with
    | zero => show 1 ≤ 3600; decide
    | succ n =>
      rw [mkT, if_pos hv]; show 1 ≤ 3600; decide
  have F := tR_fix ks kerf k0 W H
  obtain ⟨w0, h0⟩ := val_pos hv
  by_cases hne : ks = []
  · obtain ⟨a, e⟩ := F.val w0 hw h0 hh
    have hp := a.ok
    subst hne
    exfalso
    have z : ∀ (n : Nat) (w h : Int), w ≤ W → h ≤ H → w + h ≤ n → valI (tR [] kerf W (H + 1)) w h = 0 := by
      intro n
      induction n with
      | zero =>
        intro w h _ _ hn
        exact Classical.byContradiction fun q => by have := val_pos q; omega
      | succ n ih =>
        intro w h w1 h1 hn
        refine Classical.byContradiction fun q => ?_
        obtain ⟨w0, h0⟩ := val_pos q
        obtain ⟨a, e⟩ := F.val w0 w1 h0 h1
        have hp := a.ok
        rw [e] at q
        generalize pnget (rwget (tR [] kerf W (H + 1)) h.toNat) w.toNat = p at *
        cases hp with
        | none => exact q rfl
        | kind i hi => exact absurd hi (Nat.not_lt_zero _)
        | cw x x0 x1 q1 q2 => rw [ih x h (by omega) h1 (by omega)] at q1; omega
        | ch y y0 y1 q1 q2 => rw [ih w y w1 (by omega) (by omega)] at q1; omega
    exact hv (z (w + h).toNat w h hw hh (by omega))
  have hm := g.m
  rw [gmanyB, if_neg hne, decide_eq_false_iff_not] at hm
  have a0 : 1 ≤ lowL Knd.w ks 2000 := lowL_ge _ 1 _ _ (fun k hk => (g.p.ok k hk).w0) (by decide)
  have b0 : 1 ≤ lowL Knd.h ks 2000 := lowL_ge _ 1 _ _ (fun k hk => (g.p.ok k hk).h0) (by decide)
  have lowm : ∀ (f : Knd → Int) (l : List Knd) (a : Int), ∀ k ∈ l, lowL f l a ≤ f k := by
    intro f l
    induction l with
    | nil => intro a k hk; cases hk
    | cons k' r ih =>
      intro a k hk
      show lowL f r (if f k' < a then f k' else a) ≤ _
      rcases List.mem_cons.1 hk with rfl | hk
      · refine Int.le_trans (lowL_le f r _) ?_
        split <;> omega
      · exact ih _ k hk
  have D0 : 1 * 1 ≤ (lowL Knd.w ks 2000 + kerf) * (lowL Knd.h ks 2000 + kerf) := Int.mul_le_mul (by omega) (by omega) (by decide) (by omega)
  have hl := F.mk_len k0 ((lowL Knd.w ks 2000 + kerf) * (lowL Knd.h ks 2000 + kerf)) (by omega) (fun k hk => ⟨(g.p.ok k hk).w0, (g.p.ok k hk).h0, Int.mul_le_mul (by have := lowm Knd.w ks 2000 k hk; omega) (by have := lowm Knd.h ks 2000 k hk; omega) (by omega) (by have := (g.p.ok k hk).w0; omega)⟩) n w h b hw hh hv
  have mono : (w + kerf) * (h + kerf) ≤ (W + kerf) * (H + kerf) := Int.mul_le_mul (by omega) (by omega) (by omega) (by omega)
  have := Int.ediv_le_ediv (show 0 < (lowL Knd.w ks 2000 + kerf) * (lowL Knd.h ks 2000 + kerf) by omega) mono
  omega
theorem tR_bd {ks : List Knd} {W H : Nat} {kerf : Int} (hk : ∀ k ∈ ks, k.v ≤ 1000000) (k0 : 0 ≤ kerf) (w2 : W ≤ 200) (h2 : H ≤ 200) (a b : Int) : 0 ≤ valI (tR ks kerf W (H + 1)) a b ∧ valI (tR ks kerf W (H + 1)) a b ≤ 1000000000000 := by
  by_cases c : a < 1 ∨ b < 1
  · rw [valI, if_pos c]; omega
  have F := tR_fix ks kerf k0 W H
  by_cases c1 : (H : Int) < b
  · rw [valI, if_neg c, rwget_out (by rw [tR_len]; omega)]
    show (0 : Int) ≤ 0 ∧ (0 : Int) ≤ _; omega
  by_cases c2 : (W : Int) < a
  · rw [valI, if_neg c, tR_le ks kerf W (y := b.toNat + 1) (by omega) (H + 1) (by omega), tR_at, rF_gt ks kerf W _ _ _ (by split <;> omega)]
    show (0 : Int) ≤ 0 ∧ (0 : Int) ≤ _; omega
  have u := F.ub hk k0 (a + b).toNat a b (by omega) (by omega) (by omega) (by omega) (by omega)
  have ab : a * b ≤ 200 * 200 := Int.mul_le_mul (by omega) (by omega) (by omega) (by decide)
  exact ⟨F.nn (by omega) (by omega), by omega⟩
theorem gRwOk {ks : List Knd} {W H : Nat} {kerf : Int} (g : Gok ks W H kerf) : RwOk ks (tR ks kerf W (H + 1)) W H := by
  have F := tR_fix ks kerf g.p.k0 W H
  refine ⟨by have := g.h2; omega, by have := g.w2; omega, fun h h0 h1 => ?_, fun w h w0 w1 h0 h1 => ?_, fun w h w0 w1 h0 h1 hv hk => ?_⟩
  · rw [tR_row ks kerf W (H + 1) h.toNat (by omega)]; omega
  · have hp := (F.val w0 w1 h0 h1).1.ok
    generalize pnget (rwget (tR ks kerf W (H + 1)) h.toNat) w.toNat = p at *
    cases hp with
    | none => show (0 : Int) ≤ _; omega
    | kind i hi => show ((i + 1 : Nat) : Int) ≤ _; omega
    | cw => show (0 : Int) ≤ _; omega
    | ch => show (0 : Int) ≤ _; omega
  · obtain ⟨q, e⟩ := F.val w0 w1 h0 h1
    have hp := q.ok
    rw [e] at hv
    generalize pnget (rwget (tR ks kerf W (H + 1)) h.toNat) w.toNat = p at *
    cases hp with
    | none => exact absurd rfl hv
    | kind i hi => exact absurd (show ((i + 1 : Nat) : Int) > 0 by omega) hk
    | cw x x0 x1 => rw [if_pos rfl]; exact ⟨x0, x1⟩
    | ch y y0 y1 => rw [if_neg (by simp)]; exact ⟨y0, y1⟩
theorem needMk {n B : Nat} (h : n ≤ 1000) (hB : B ≤ 1000) : 0 ≤ (n : Int) ∧ (n : Int) ≤ (n : Int) ∧ (B : Int) * (n : Int) ≤ 281474976710656 ∧ (n : Int) ≤ 9223372036854775807 := by
  have := Nat.mul_le_mul hB h
  have e : ((B * n : Nat) : Int) = (B : Int) * (n : Int) := by simp
  omega
theorem gbest_det (ks : List Knd) (w h kerf : Int) (hl : ks.length ≤ maxLen) : Det Try.prog 30 [.one (kS ks), .one (i64 w), .one (i64 h), .one (i64 kerf)] (bestE (gbestR ks w h kerf)) := by
  refine det_of_awp TTok mixed Try.func30 rfl rfl [66 + 3000000, 51 + 4000000, 85 + 3000000, 63 + 2000000] (Nat.le_of_ble_eq_true rfl) ?_
  refine CallW.bool (gproblem_det ks w h kerf hl) (fun b hb => ?_)
  refine Split.mk (fun h1 => ?_) (fun h1 => ?_)
  · have : probB ks w h kerf = false := by rw [← hb]; simpa using h1
    rw [gbestR, if_pos this]
    exact Fin.tup (.cons (DLe.refl _) (.cons (DLe.one (SLe.nil _ _)) (.cons (DLe.refl _) .nil)))
  have hp : probB ks w h kerf = true := by rw [← hb]; simpa using h1
  have p := prob_iff.1 hp
  have hR : gbestR ks w h kerf = if gBadB ks w h kerf = true then (0, [], 9) else (gval ks w h kerf, gtree ks w h kerf, 0) := by rw [gbestR, if_neg (by rw [hp]; simp)]
  rw [hR]
  clear hR hb
  have hbad : gBadB ks w h kerf = (decide (w > 200) || (decide (h > 200) || gmanyB ks w h kerf)) := rfl
  refine Split.mk (fun c1 => ?_) (fun c1 => ?_)
  · repeat' first | refine Split.isT c1 ?_ | refine Split.t ?_ | refine Split.f ?_ | fail
    rw [if_pos (by rw [hbad, c1]; rfl)]
    exact Fin.tup (.cons (DLe.refl _) (.cons (DLe.one (SLe.nil _ _)) (.cons (DLe.refl _) .nil)))
  repeat' first | refine Split.isF c1 ?_ | refine Split.t ?_ | refine Split.f ?_ | fail
  refine Split.mk (fun c2 => ?_) (fun c2 => ?_)
  · repeat' first | refine Split.isT c2 ?_ | refine Split.t ?_ | refine Split.f ?_ | fail
    rw [if_pos (by rw [hbad, c2, Bool.true_or, Bool.or_true])]
    exact Fin.tup (.cons (DLe.refl _) (.cons (DLe.one (SLe.nil _ _)) (.cons (DLe.refl _) .nil)))
  repeat' first | refine Split.isF c2 ?_ | refine Split.t ?_ | refine Split.f ?_ | fail
  refine CallW.bool (gmany_det ks w h kerf p) (fun b2 hb2 => ?_)
  repeat' first | refine Split.isF c2 ?_ | refine Split.isF c1 ?_ | refine Split.t ?_ | refine Split.f ?_ | fail
  refine Split.mk (fun c3 => ?_) (fun c3 => ?_)
  · rw [if_pos (by rw [hbad, ← hb2, c3, Bool.or_true, Bool.or_true])]
    exact Fin.tup (.cons (DLe.refl _) (.cons (DLe.one (SLe.nil _ _)) (.cons (DLe.refl _) .nil)))
  rw [if_neg (by rw [hbad, ← hb2, c1, c2, c3]; simp)]
  have hw2 : ¬ w > 200 := of_decide_eq_false c1
  have hh2 : ¬ h > 200 := of_decide_eq_false c2
  have w0 := p.w0; have h0 := p.h0; have k0 := p.k0; have k1 := p.k1; have hlen := p.len
  obtain ⟨W, rfl⟩ : ∃ W : Nat, w = W := ⟨w.toNat, by omega⟩
  obtain ⟨H, rfl⟩ : ∃ H : Nat, h = H := ⟨h.toNat, by omega⟩
  have g : Gok ks W H kerf := ⟨p, by omega, by omega, by rw [← hb2, c3]⟩
  have gw := g.w2
  have gh := g.h2
  have eh : IntKind.i64.wrap ((H : Int) + 1) = ((H + 1 : Nat) : Int) := hS H (by omega)
  have ew : IntKind.i64.wrap ((W : Int) + 1) = ((W + 1 : Nat) : Int) := hS W (by omega)
  have ewn : (IntKind.i64.wrap ((W : Int) + 1)).toNat = W + 1 := by rw [ew, Int.toNat_natCast]
  clear hbad hb2 c1 c2 c3
  refine Loop.by (α := Nat) (fun y => [(1, tint W), (2, tint H), (11, .ptr 38 0), (40, tint ((H + 1 : Nat) : Int)), (41, tint y)])
    (fun y => [(38, .obj (slL ks kerf (tR ks kerf W y) (.hdl 39 0))), (39, .bld 0 0 5 96 (lG ndL nd0 []))]) (fun y => y ≤ H + 1) (fun y => H + 1 - y)
    (Adj.nilCell 38 203 39 5 96 (lG ndL nd0 []) _ _ rfl rfl rfl rfl
      (Adj.at 0 (Nat.zero_le _) (.cons (.obj (slL_nils ks kerf (.hdl (by intro q; cases q) rfl rfl) _ rfl)) (.cons (.bld (fun _ h => absurd h (Nat.not_lt_zero _))) .nil))
        (.cons .same (.cons .same (.cons (.ptr (by intro q; cases q)) (.cons (SlotLe.int eh) (.cons .same .nil))))))) (fun y hy => ?_)
  have hyl := tR_len ks kerf W y
  refine Split.mk (fun c1 => ?_) (fun c1 => ?_)
  · have hy1 : y ≤ H := by have := of_decide_eq_true c1; omega
    refine Need.mk (by rw [ew]; exact needMk (by omega) (by decide)) ?_
    refine Need.mk (by omega) ?_
    refine ⟨⟨slH ks kerf (tR ks kerf W y) y (.hdl (.n 48) 0) (.hdl (.n 39) 0), ?_, by rw [slL_len]; show 0 + 2 + (y : Int).toNat * 1 < 204; omega, ?_⟩⟩
    · rw [setC_one, slH_def]
      show (slL ks kerf (tR ks kerf W y) (.hdl 39 0)).set (0 + 2 + (y : Int).toNat * 1) _ = _
      rw [Int.toNat_natCast, Nat.zero_add, Nat.mul_one]
      rfl
    refine Need.mk (by kernel_rfl) ?_
    refine Loop.by (α := Nat) (fun n => [(1, tint W), (2, tint H), (11, .ptr 38 0), (40, tint ((H + 1 : Nat) : Int)), (41, tint y), (12, tint y), (13, tint ((n + 1 : Nat) : Int))])
      (fun n => [(38, .obj (slH ks kerf (tR ks kerf W y) y (.hdl 48 0) (.hdl 39 0))), (39, .bld 0 0 5 96 (lG ndL nd0 [])), (48, .bld 0 (rF ks kerf W (tR ks kerf W y) y n).length 4 112 (lG pnL pn0 (rF ks kerf W (tR ks kerf W y) y n)))]) (fun n => n ≤ W ∧ (y = 0 → n = 0)) (fun n => W - n)
      (Adj.at 0 ⟨Nat.zero_le _, fun _ => rfl⟩ (.cons (.obj (slH_le ks kerf _ y (.hdl (by intro q; cases q) rfl rfl) (.hdl (by intro q; cases q) rfl rfl))) (.cons (.bld (fun _ h => absurd h (Nat.not_lt_zero _))) (.cons (.bldN (by rw [rF_len, ewn]) (fun i hi j hj => ?_)) .nil)))
        (.cons .same (.cons .same (.cons (.ptr (by intro q; cases q)) (.cons .same (.cons .same (.cons .same (.cons .same .nil)))))))) (fun n hn => ?_)
    · refine SLe.of_eq ?_
      show ([i64 0, i64 0, i64 0, .v (.bool false)] : List SV).getD j (.v Go.undef) = lG pnL pn0 (List.replicate (W + 1) pn0) i j
      unfold lG
      have : (List.replicate (W + 1) pn0).getD i pn0 = pn0 := by
        rw [List.getD, List.getElem?_replicate]; split <;> rfl
      rw [this]
    obtain ⟨hn1, hn2⟩ := hn
    have hrl := rF_len ks kerf W (tR ks kerf W y) y n
    have frz : (n = if y = 0 then 0 else W) → Frz (.n 48) 0 (pnS (rF ks kerf W (tR ks kerf W y) y n)) (slH ks kerf (tR ks kerf W y) y (.hdl (.n 48) 0) (.hdl (.n 39) 0)) (slL ks kerf (tR ks kerf W (y + 1)) (.hdl (.n 39) 0)) := fun e => by
      have sn := slL_snoc ks kerf (tR ks kerf W y) (rF ks kerf W (tR ks kerf W y) y n) (by omega) (.hdl (.n 39) 0)
      rw [hyl] at sn
      rw [tR_step, ← e, ← sn, slH_def, slH_def]
      exact Frz.set _ _ _ _ _
    have done : (¬ ((n + 1 : Nat) : Int) ≤ W ∨ y = 0) → n = if y = 0 then 0 else W := fun q => by split <;> omega
    refine Split.mk (fun d1 => ?_) (fun d1 => ?_)
    · repeat' first | refine Split.isT d1 ?_ | refine Split.t ?_ | refine Split.f ?_ | fail
      refine Split.mk (fun d2 => ?_) (fun d2 => ?_)
      · have hnW : ((n + 1 : Nat) : Int) ≤ W := of_decide_eq_true d1
        have hy0 : y ≠ 0 := by have : (y : Int) > 0 := of_decide_eq_true d2; omega
        refine Need.mk (by omega) ?_
        refine ⟨⟨.hdl (.n 48) 0, ?_, rfl, rfl, ?_⟩⟩
        · show (slH ks kerf (tR ks kerf W y) y (.hdl (.n 48) 0) (.hdl (.n 39) 0))[0 + 2 + (y : Int).toNat * 1]? = _
          rw [Int.toNat_natCast, Nat.zero_add, Nat.mul_one]
          exact slH_at _ _ _ (by omega) _ _
        refine ⟨⟨_, _, slH_lend ks kerf (tR ks kerf W y) (rF ks kerf W (tR ks kerf W y) y n) hyl (by omega) rfl rfl rfl, ?_⟩⟩
        have mid := mid_val ks kerf W H y n hy1 (by omega) hy0
        have hrw : ∀ i : Nat, i < y → rwget (tR ks kerf W y ++ [rF ks kerf W (tR ks kerf W y) y n]) i = rwget (tR ks kerf W y) i := fun i hi => rwget_app_l (by omega)
        have sd := solve_det ks kerf (tR ks kerf W y ++ [rF ks kerf W (tR ks kerf W y) y n]) (.sl 0 5 (lG ndL nd0 [])) ((n + 1 : Nat) : Int) (y : Int) (by omega) (by omega) (by omega) (by omega) (by omega) k0 k1
          (fun a b => by
            have bd := tR_bd (W := W) (H := H) (fun k hk => (p.ok k hk).v1) k0 gw gh a b
            rw [mid]
            split
            · exact bd
            · omega)
          (fun i hi0 hi => by rw [hrw i (by omega), tR_row ks kerf W y i (by omega)]; omega)
          (by rw [Int.toNat_natCast, rwget_app hyl.symm, hrl]; omega)
        have hnx := rF_step ks kerf W (tR ks kerf W y) y n
        obtain ⟨q, hq⟩ : ∃ q, q = solP (tR ks kerf W y ++ [rF ks kerf W (tR ks kerf W y) y n]) ks kerf ((n + 1 : Nat) : Int) y := ⟨_, rfl⟩
        rw [← hq] at sd hnx
        refine CallW.mk' sd ?_
        refine Need.mk (by omega) ?_
        refine Need.mk (by kernel_rfl) ?_
        refine Adj.back (x := n) (n + 1) ⟨by omega, fun e => absurd e hy0⟩ (by omega) (.cons (.obj (slH_le ks kerf _ y (.hdl (by intro q; cases q) rfl rfl) (.hdl (by intro q; cases q) rfl rfl))) (.cons (.bld (fun _ h => absurd h (Nat.not_lt_zero _))) (.cons (.bldN (by rw [hrl, rF_len]) (fun i hi j hj => ?_)) .nil)))
          (.cons .same (.cons .same (.cons (.ptr (by intro q; cases q)) (.cons .same (.cons .same (.cons .same (.cons (SlotLe.int (hS (n + 1) (by omega))) .nil)))))))
        rw [hnx]
        exact lG_set pnL pn0 _ q (n + 1) i j 4 _ rfl hi hj
      · have d2' : ¬ (y : Int) > 0 := of_decide_eq_false d2
        have hd := done (.inr (by omega))
        refine Adj.freezeObj 38 48 _ (slL ks kerf (tR ks kerf W (y + 1)) (.hdl (.n 39) 0)) 0 _ 4 112 _ rfl rfl (frz hd) (Adj.back (x := y) (y + 1) (by omega) (by omega) (.cons (.obj (slL_le ks kerf _ (.hdl (by intro q; cases q) rfl rfl))) (.cons (.bld (fun _ h => absurd h (Nat.not_lt_zero _))) .nil))
          (.cons .same (.cons .same (.cons (.ptr (by intro q; cases q)) (.cons .same (.cons (SlotLe.int (hS y (by omega))) .nil))))))
    · repeat' first | refine Split.isF d1 ?_ | refine Split.t ?_ | refine Split.f ?_ | fail
      have d1' : ¬ ((n + 1 : Nat) : Int) ≤ W := of_decide_eq_false d1
      have hd := done (.inl d1')
      refine Adj.freezeObj 38 48 _ (slL ks kerf (tR ks kerf W (y + 1)) (.hdl (.n 39) 0)) 0 _ 4 112 _ rfl rfl (frz hd) (Adj.back (x := y) (y + 1) (by omega) (by omega) (.cons (.obj (slL_le ks kerf _ (.hdl (by intro q; cases q) rfl rfl))) (.cons (.bld (fun _ h => absurd h (Nat.not_lt_zero _))) .nil))
        (.cons .same (.cons .same (.cons (.ptr (by intro q; cases q)) (.cons .same (.cons (SlotLe.int (hS y (by omega))) .nil))))))
  have he : y = H + 1 := by have := of_decide_eq_false c1; omega
  subst he
  have mk := make_detM ks kerf (tR ks kerf W (H + 1)) W H (by omega) k0 k1 (gRwOk g) (W + H + 1) W H [] (Int.le_refl _) (Int.le_refl _) (by omega) (by omega) (by omega) (by omega) (by have := gtree_len g (W + H + 1) W H 0 (Int.le_refl _) (Int.le_refl _); show 0 + (mkT ks kerf (tR ks kerf W (H + 1)) (W + H + 1) W H 0).length ≤ _; omega)
  refine CallM.mk' [38, 39] mk ⟨.cons (.obj (slL_fit ks kerf _ (.hdl rfl rfl))) (.cons (.bld (fun _ h => absurd h (Nat.not_lt_zero _))) .nil), .cons (.ptr rfl) (.cons (.d (DLe.refl _)) (.cons (.d (DLe.refl _)) .nil)), rfl, rfl, fun h => absurd rfl h⟩ ?_
  refine ⟨⟨_, _, sl_lend ks kerf _ rfl rfl, ?_⟩⟩
  refine CallW.int (gvalue_det ks kerf (tR ks kerf W (H + 1)) _ W H (fun _ _ => ⟨by omega, by rw [tR_row ks kerf W (H + 1) _ (by omega)]; omega⟩)) (fun v hv => ?_)
  refine ⟨⟨_, slL_t _ _ _ _, rfl, rfl, ?_⟩⟩
  refine Need.mk (by kernel_rfl) ?_
  refine Fin.tup (.cons (DLe.of_eq (by rw [hv]; rfl)) (.cons (DLe.refl _) (.cons (DLe.refl _) .nil)))
end St
end Go.Vm
