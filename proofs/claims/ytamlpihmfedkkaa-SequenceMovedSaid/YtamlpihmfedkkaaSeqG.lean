/-
  Layer 47: distances, Depends, lists that hold a number, the program's check of an order.
  Layer 47: Check of the program and of the specification.
-/
import Derived.Test.YtamlpihmfedkkaaSeqE
namespace Go.Vm
set_option maxRecDepth 20000
set_option linter.unusedVariables false
set_option linter.unusedSimpArgs false
open Go Go.RowKit Go.Proofs
namespace Sg

def distV (a b : V2) : Int := maxI (absI (subW a b).x) (absI (subW a b).y)
theorem vabs_det (n : Int) : Det Try.prog 141 [.one (i64 n)] (tint (absI n)) := by
  refine det_of_awp TTok mixed Try.func141 rfl rfl [] (Nat.le_of_ble_eq_true rfl) ?_
  repeat' first | refine Split.t ?_ | refine Split.f ?_ | refine Split.mk (fun _ => ?_) (fun _ => ?_) | refine Fin.int ?_ | fail
  all_goals simp_all [absI, ng, w64] <;> omega
theorem vnorm_det (v : V2) : Det Try.prog 123 [vD v] (tint (maxI (absI v.x) (absI v.y))) := by
  refine det_of_awp TTok mixed Try.func123 rfl rfl [] (Nat.le_of_ble_eq_true rfl) ?_
  refine CallW.int (vabs_det v.x) (fun a ha => ?_)
  refine CallW.int (vabs_det v.y) (fun b hb => ?_)
  repeat' first | refine Need.mk (by kernel_rfl) ?_ | fail
  refine Fin.int ?_
  rw [← ha, ← hb]; rfl
theorem rnorm_det (v : V2) : Det Try.prog 31 [vD v] (tint (maxI (absI v.x) (absI v.y))) := by
  refine det_of_awp TTok mixed Try.func31 rfl rfl [] (Nat.le_of_ble_eq_true rfl) ?_
  refine CallW.int (abs_det v.x) (fun a ha => ?_)
  refine CallW.int (abs_det v.y) (fun b hb => ?_)
  repeat' first | refine Need.mk (by kernel_rfl) ?_ | fail
  refine Fin.int ?_
  rw [← ha, ← hb]; rfl
theorem dist_det (a b : V2) : Det Try.prog 74 [vD a, vD b] (tint (distV a b)) := by
  refine det_of_awp TTok mixed Try.func74 rfl rfl [] (Nat.le_of_ble_eq_true rfl) ?_
  refine CallW.v (vsub_det a b) (fun v hv => ?_)
  refine CallW.int (vnorm_det v) (fun n hn => ?_)
  refine Fin.int ?_
  rw [hn, hv]; rfl
theorem rdist_det (a b : V2) : Det Try.prog 76 [vD a, vD b] (tint (distV a b)) := by
  refine det_of_awp TTok mixed Try.func76 rfl rfl [] (Nat.le_of_ble_eq_true rfl) ?_
  refine CallW.v (sub_det a b) (fun v hv => ?_)
  refine CallW.int (rnorm_det v) (fun n hn => ?_)
  refine Fin.int ?_
  rw [hn, hv]; rfl
theorem hot_det (a b : Ct) (h : Int) : Det Try.prog 73 [ctD a, ctD b, .one (i64 h)] (tbool (decide (distV a.st b.st < h))) := by
  refine det_of_awp TTok mixed Try.func73 rfl rfl [] (Nat.le_of_ble_eq_true rfl) ?_
  refine CallW.int (dist_det a.st b.st) (fun n hn => ?_)
  refine Fin.bool ?_
  rw [← hn]
theorem ranged_det (v : V2) : Det Try.prog 75 [vD v] (tint (if withinV v 8000 = true then 0 else 2)) := by
  refine det_of_awp TTok mixed Try.func75 rfl rfl [] (Nat.le_of_ble_eq_true rfl) ?_
  refine CallW.bool (within_det v 8000) (fun b hb => ?_)
  rw [← hb]
  refine Split.mk (fun h => ?_) (fun h => ?_)
  · refine Fin.int ?_
    have : b = false := by simpa using h
    rw [this]; rfl
  · refine Fin.int ?_
    have : b = true := by simpa using h
    rw [this]; rfl
/-! ### Depends -/
theorem depends47_det (l : List Ct) (hl : l.length ≤ 10000) (hf : FewC l) : Det Try.prog 17 [.one (ctS l)] (depV (depT l).1 (depT l).2) := by
  refine det_of_awp TTok mixed Try.func17 rfl rfl [] (Nat.le_of_ble_eq_true rfl) ?_
  refine CallW.int (check_det l hl hf) (fun e he => ?_)
  refine Split.mk (fun h => ?_) (fun h => ?_)
  · have hne : chkI l ≠ 0 := by rw [← he]; simpa using h
    rw [depT, if_pos hne]
    exact Fin.tup (.cons (DLe.one (SLe.nil _ _)) (.cons (DLe.of_eq (by rw [he])) .nil))
  have h0 : chkI l = 0 := by rw [← he]; simpa using h
  rw [depT, if_neg (by simp [h0])]
  refine CallW.mk' (depends_det l (chk_len h0) hf) ?_
  exact Fin.tup (.cons (DLe.refl _) (.cons (DLe.refl _) .nil))
/-! ### lists of numbers -/
theorem iGet_take {l : List Int} {k i : Nat} (h : i < k) : iGet (l.take k) i = iGet l i := by
  simp [iGet, List.getD, List.getElem?_take, h]
theorem iGet_mem {l : List Int} {i : Nat} (h : i < l.length) : iGet l i ∈ l := by
  simp [iGet, List.getD, h]
theorem mem_iGet {l : List Int} {x : Int} (h : x ∈ l) : ∃ i, i < l.length ∧ iGet l i = x := by
  obtain ⟨i, hi, e⟩ := List.getElem_of_mem h
  exact ⟨i, hi, by simp [iGet, List.getD, hi, e]⟩
theorem take_succ' {l : List Int} {k : Nat} (h : k < l.length) : l.take (k + 1) = l.take k ++ [iGet l k] := by
  rw [List.take_add_one]
  congr 1
  simp [iGet, List.getD, h]
theorem contains_det (l : List Int) (n : Int) (hl : l.length ≤ 10000) : Det Try.prog 82 [.one (ilS l), .one (i64 n)] (tbool (decide (n ∈ l))) := by
  refine det_of_awp TTok mixed Try.func82 rfl rfl [] (Nat.le_of_ble_eq_true rfl) ?_
  refine Loop.by (α := Nat) (fun k => [(0, .d (.one (ilS l))), (1, tint n), (5, tint k)]) (fun _ => []) (fun k => k ≤ l.length ∧ n ∉ l.take k) (fun k => l.length - k)
    (Adj.at 0 ⟨Nat.zero_le _, by simp⟩ .nil (.cons .same (.cons .same (.cons .same .nil)))) (fun k hk => ?_)
  obtain ⟨hk, hall⟩ := hk
  refine Split.mk (fun h => ?_) (fun h => ?_)
  · have hlt : k < l.length := by have := of_decide_eq_true h; omega
    refine Need.mk (by omega) ?_
    refine Split.mk (fun h1 => ?_) (fun h1 => ?_)
    · refine Fin.bool ?_
      have h1' : iGet l k = n := by simpa using h1
      rw [decide_eq_true]
      rw [← h1']
      exact iGet_mem hlt
    · have h1' : ¬ iGet l k = n := by simpa using h1
      refine Adj.back (x := k) (k + 1) ⟨by omega, ?_⟩ (by omega) .nil (.cons .same (.cons .same (.cons (SlotLe.int ?_) .nil)))
      · rw [take_succ' hlt, List.mem_append, List.mem_singleton]
        exact fun q => q.elim hall (fun q => h1' q.symm)
      · rw [hw _ (by omega) (by omega)]; omega
  · have he : k = l.length := by have := of_decide_eq_false h; omega
    subst he
    refine Fin.bool ?_
    rw [List.take_length] at hall
    rw [decide_eq_false hall]
theorem ilS_take {l : List Int} {k : Nat} (hk : k ≤ l.length) {f : Nat → Nat} (hf : ∀ i, f i = i) {n : Nat} (hn : n = k) : DLe (.one (.sl n 1 fun i j => iG l (f i) j)) (.one (ilS (l.take k))) := by
  subst hn
  refine DLe.one (SLe.slN (by simp; omega) (fun i hi j hj => SLe.of_eq ?_))
  show i64 (iGet l (f i)) = i64 (iGet (l.take n) i)
  rw [hf, iGet_take hi]
/-! ### a closure over a list -/
theorem idxI_det (l : List Int) (f : FuncId) (cap : Nat → SV) (B : Int → Bool) (hl : l.length ≤ 10000) (hB : ∀ k, k < l.length → Det Try.prog f [.one (i64 (iGet l k)), .one (cap 0)] (tbool (B (iGet l k)))) :
    Det Try.prog 122 [.one (ilS l), .one (.fn f 1 cap)] (tint (fI l.length fun k => B (iGet l k))) := by
  refine det_of_awp TTok mixed Try.func122 rfl rfl [] (Nat.le_of_ble_eq_true rfl) ?_
  refine Loop.by (α := Nat) (fun k => [(0, .d (.one (ilS l))), (1, .d (.one (.fn f 1 cap))), (7, tint l.length), (8, tint k)]) (fun _ => []) (fun k => k ≤ l.length ∧ ∀ i, i < k → B (iGet l i) = false) (fun k => l.length - k)
    (Adj.at 0 ⟨Nat.zero_le _, fun _ h => absurd h (Nat.not_lt_zero _)⟩ .nil (.cons .same (.cons .same (.cons .same (.cons .same .nil))))) (fun k hk => ?_)
  obtain ⟨hk, hall⟩ := hk
  refine Split.mk (fun h => ?_) (fun h => ?_)
  · have hlt : k < l.length := by simpa using h
    refine Need.mk (by omega) ?_
    refine CallW.bool (hB k hlt) (fun b hb => ?_)
    refine Split.mk (fun h1 => ?_) (fun h1 => ?_)
    · refine Fin.int ?_
      exact (fI_some hlt (by rw [← hb, h1]) hall).symm
    · refine Adj.back (x := k) (k + 1) ⟨by omega, fun i hi => ?_⟩ (by omega) .nil (.cons .same (.cons .same (.cons .same (.cons (SlotLe.int ?_) .nil))))
      · by_cases e : i = k
        · rw [e, ← hb, h1]
        · exact hall i (by omega)
      · rw [hw _ (by omega) (by omega)]; omega
  · have hge : k = l.length := by
      have : ¬ k < l.length := by simpa using h
      omega
    subst hge
    refine Fin.int ?_
    rw [fI_none hall]
theorem cfI_det (l : List Int) (f : FuncId) (cap : Nat → SV) (B : Int → Bool) (hl : l.length ≤ 10000) (hB : ∀ k, k < l.length → Det Try.prog f [.one (i64 (iGet l k)), .one (cap 0)] (tbool (B (iGet l k)))) :
    Det Try.prog 71 [.one (ilS l), .one (.fn f 1 cap)] (tbool (!allB l.length fun k => !B (iGet l k))) := by
  refine det_of_awp TTok mixed Try.func71 rfl rfl [] (Nat.le_of_ble_eq_true rfl) ?_
  refine CallW.int (idxI_det l f cap B hl hB) (fun n hn => ?_)
  refine Fin.bool ?_
  rw [← fI_any l.length (fun k => B (iGet l k)), ← hn]
/-- What is done, as a slice of truth values. -/
abbrev dnG (s : List Int) : Nat → Nat → SV := fun i _ => .v (.bool (decide ((i : Int) ∈ s)))
abbrev dnC (n : Nat) (s : List Int) : Nat → SV := fun _ => .ad 1 fun _ => .sl n 1 (dnG s)
theorem olam_det (n : Nat) (s : List Int) (j : Int) (h0 : 0 ≤ j) (hj : j < n) : Det Try.prog 124 [.one (i64 j), .one (dnC n s 0)] (tbool (!decide (j ∈ s))) := by
  refine det_of_awp TTok mixed Try.func124 rfl rfl [] (Nat.le_of_ble_eq_true rfl) ?_
  refine Need.mk (by omega) ?_
  refine Fin.bool ?_
  show (!decide (((j.toNat : Nat) : Int) ∈ s)) = _
  rw [show ((j.toNat : Nat) : Int) = j by omega]
theorem plam_det (n : Nat) (s : List Int) (j : Int) (h0 : 0 ≤ j) (hj : j < n) : Det Try.prog 72 [.one (i64 j), .one (dnC n s 0)] (tbool (!decide (j ∈ s))) := by
  refine det_of_awp TTok mixed Try.func72 rfl rfl [] (Nat.le_of_ble_eq_true rfl) ?_
  refine Need.mk (by omega) ?_
  refine Fin.bool ?_
  show (!decide (((j.toNat : Nat) : Int) ∈ s)) = _
  rw [show ((j.toNat : Nat) : Int) = j by omega]
theorem depK_lt (l : List Ct) (i : Nat) : ∀ (k : Nat) (x : Int), x ∈ depK l i k → 0 ≤ x ∧ x < k
  | 0, x, h => by simp [depK] at h
  | k + 1, x, h => by
    simp only [depK] at h
    split at h
    · rcases List.mem_append.1 h with h | h
      · have := depK_lt l i k x h; omega
      · have := List.mem_singleton.1 h; omega
    · have := depK_lt l i k x h; omega
/-- All on which contour i depends is in the list. -/
def depIn (l : List Ct) (i : Nat) (s : List Int) : Bool := (depK l i l.length).all fun j => decide (j ∈ s)
theorem allB_iGet (L : List Int) (B : Int → Bool) : (allB L.length fun k => B (iGet L k)) = L.all B := by
  cases h : L.all B with
  | true => exact allB_iff.2 fun i hi => (List.all_eq_true.1 h) _ (iGet_mem hi)
  | false =>
    have : ∃ x, x ∈ L ∧ B x = false := by simpa using h
    obtain ⟨x, hx, hb⟩ := this
    obtain ⟨i, hi, rfl⟩ := mem_iGet hx
    exact allB_false i hi hb
theorem dep_cf (l : List Ct) (i : Nat) (s : List Int) : (!allB (depK l i l.length).length fun k => !!decide (iGet (depK l i l.length) k ∈ s)) = !depIn l i s := by
  rw [allB_iGet (depK l i l.length) (fun x => !!decide (x ∈ s))]
  simp [depIn]
end Sg
end Go.Vm
namespace Go.Vm
set_option maxRecDepth 20000
set_option linter.unusedVariables false
set_option linter.unusedSimpArgs false
open Go Go.RowKit Go.Proofs
namespace Sg

def stepB (l : List Ct) (o : List Int) (k : Nat) : Bool := decide (0 ≤ iGet o k) && decide (iGet o k < l.length) && !decide (iGet o k ∈ o.take k) && depIn l (iGet o k).toNat (o.take k)
def ordE (l : List Ct) (o : List Int) : Int := if o.length ≠ l.length then 22 else if (allB o.length (stepB l o)) = true then 0 else 22
def chkT (l : List Ct) (o : List Int) : Int := if chkI l ≠ 0 then chkI l else ordE l o
theorem SLe.bifB {b : Bool} {x y z : SV} (h1 : b = true → SLe x z) (h2 : b = false → SLe y z) : SLe (bif b then x else y) z := by
  cases b
  · exact h2 rfl
  · exact h1 rfl
theorem dnG_put {s : List Int} {x : Int} {i : Nat} {b : Bool} (hb : b = true ↔ (i : Int) = x) : SLe (bif b then .v (.bool true) else dnG s i 0) (dnG (s ++ [x]) i 0) := by
  refine SLe.bifB (fun h => SLe.of_eq ?_) (fun h => SLe.of_eq ?_)
  · show SV.v (.bool true) = .v (.bool (decide ((i : Int) ∈ s ++ [x])))
    rw [decide_eq_true (by rw [List.mem_append, List.mem_singleton]; exact .inr (hb.1 h))]
  · show SV.v (.bool (decide ((i : Int) ∈ s))) = .v (.bool (decide ((i : Int) ∈ s ++ [x])))
    congr 2
    rw [decide_eq_decide, List.mem_append, List.mem_singleton]
    have : ¬ (i : Int) = x := fun e => by rw [hb.2 e] at h; cases h
    exact ⟨.inl, fun q => q.elim id (fun q => absurd q this)⟩
theorem beq_idx {i : Nat} {x : Int} (hx : 0 ≤ x) : (Nat.beq i x.toNat && true && true) = true ↔ (i : Int) = x := by
  rw [Bool.and_true, Bool.and_true]
  constructor
  · intro h
    have := Nat.eq_of_beq_eq_true h
    omega
  · intro h
    rw [show i = x.toNat by omega]; exact Nat.beq_refl _
theorem dep_lend (n : Nat) (s : List Int) {m : Id → Mem} (o d : Id) (e : TypeId) (ho : m o = .obj [.hdl d 0]) (hd : m d = .bld 0 n 1 e (dnG s)) (f : FuncId) : Lend m [o.key, d.key] (.clo f [.ptr o 0]) (.fn f 1 (dnC n s)) := by
  refine .clo rfl (fun j hj => ?_)
  obtain rfl : j = 0 := by omega
  refine .obj (by simp) ho (by simp) (fun j hj => ?_)
  obtain rfl : j = 0 := by omega
  exact .bld (by simp) hd
theorem ordered_det (l : List Ct) (o : List Int) (hl : l.length ≤ 120) (ho : o.length ≤ 10000) (hf : FewC l) : Det Try.prog 77 [.one (ctS l), .one (ilS o)] (tint (ordE l o)) := by
  refine det_of_awp TTok mixed Try.func77 rfl rfl [] (Nat.le_of_ble_eq_true rfl) ?_
  refine Split.mk (fun h => ?_) (fun h => ?_)
  · have hne : o.length ≠ l.length := by
      have : ((o.length : Int) != l.length) = true := h
      intro e; rw [e] at this; simp at this
    refine Fin.int ?_
    rw [ordE, if_pos hne]
  have hne : o.length = l.length := by
    have : ((o.length : Int) != l.length) = false := h
    have : (o.length : Int) = l.length := by simpa using this
    omega
  have bad : ∀ k, k < o.length → stepB l o k = false → ordE l o = 22 := fun k hk h => by
    rw [ordE, if_neg (by simp [hne]), allB_false k hk h]; rfl
  refine CallW.mk' (depends_det l hl hf) ?_
  refine Need.mk ⟨by omega, by omega, (show (1 : Int) * l.length ≤ 281474976710656 by omega), by omega⟩ ?_
  refine Loop.by (α := Nat) (fun k => [(0, .d (.one (ctS l))), (5, .d (.one (illS (depL l)))), (6, .ptr 6 0), (19, .d (.one (ilS o))), (20, tint o.length), (21, tint k)]) (fun k => [(6, .obj [.hdl 18 0]), (18, .bld 0 l.length 1 4 (dnG (o.take k)))]) (fun k => k ≤ o.length ∧ ∀ i, i < k → stepB l o i = true) (fun k => o.length - k)
    (Adj.at 0 ⟨Nat.zero_le _, fun _ h => absurd h (Nat.not_lt_zero _)⟩ (.cons (.obj (.cons (.hdl (by intro q; cases q) rfl rfl) .nil)) (.cons (.bldN (by simp) (fun p hp j hj => ?_)) .nil)) (.cons .same (.cons .same (.cons (.ptr (by intro q; cases q)) (.cons .same (.cons .same (.cons .same .nil))))))) (fun k hk => ?_)
  · obtain rfl : j = 0 := by have : j < 1 := hj; omega
    exact SLe.of_eq rfl
  obtain ⟨hk, hall⟩ := hk
  refine Split.mk (fun h => ?_) (fun h => ?_)
  · have hlt : k < o.length := by have := of_decide_eq_true h; omega
    refine Need.mk (by omega) ?_
    have hb := bad k hlt
    refine Split.mk (fun h1 => ?_) (fun h1 => ?_)
    · repeat' first | refine Split.t ?_ | refine Split.f ?_ | refine Split.isT h1 ?_ | fail
      refine Fin.int ?_
      have g1 : iGet o k < 0 := of_decide_eq_true h1
      rw [hb (by rw [stepB, decide_eq_false (show ¬ 0 ≤ iGet o k by omega)]; rfl)]
    have g1 : 0 ≤ iGet o k := by have : ¬ iGet o k < 0 := of_decide_eq_false h1; omega
    repeat' first | refine Split.t ?_ | refine Split.f ?_ | refine Split.isF h1 ?_ | fail
    refine Split.mk (fun h2 => ?_) (fun h2 => ?_)
    · repeat' first | refine Split.t ?_ | refine Split.f ?_ | refine Split.isF h1 ?_ | refine Split.isT h2 ?_ | fail
      refine Fin.int ?_
      have g2 : iGet o k ≥ l.length := of_decide_eq_true h2
      rw [hb (by rw [stepB, decide_eq_false (show ¬ iGet o k < l.length by omega), Bool.and_false]; rfl)]
    have g2 : iGet o k < l.length := by have : ¬ iGet o k ≥ l.length := of_decide_eq_false h2; omega
    repeat' first | refine Split.t ?_ | refine Split.f ?_ | refine Split.isF h1 ?_ | refine Split.isF h2 ?_ | fail
    refine Need.mk ⟨g1, g2⟩ ?_
    have gn : (((iGet o k).toNat : Nat) : Int) = iGet o k := by omega
    repeat' first | refine Split.isF h1 ?_ | refine Split.isF h2 ?_ | refine Split.f ?_ | fail
    refine Split.mk (fun h3 => ?_) (fun h3 => ?_)
    · repeat' first | refine Split.t ?_ | refine Split.f ?_ | refine Split.isF h1 ?_ | refine Split.isF h2 ?_ | refine Split.isT h3 ?_ | fail
      refine Fin.int ?_
      have g3 : (((iGet o k).toNat : Nat) : Int) ∈ o.take k := of_decide_eq_true h3
      rw [gn] at g3
      rw [hb (by rw [stepB, decide_eq_true g3]; simp)]
    have g3 : ¬ iGet o k ∈ o.take k := by have := of_decide_eq_false (show decide ((((iGet o k).toNat : Nat) : Int) ∈ o.take k) = false from h3); rwa [gn] at this
    repeat' first | refine Split.t ?_ | refine Split.f ?_ | refine Split.isF h1 ?_ | refine Split.isF h2 ?_ | refine Split.isF h3 ?_ | fail
    refine Need.mk ⟨g1, by rw [show (depL l).length = l.length by simp [depL]]; exact g2⟩ ?_
    repeat' first | refine Split.isF h1 ?_ | refine Split.isF h2 ?_ | refine Split.isF h3 ?_ | refine Split.f ?_ | refine Split.t ?_ | fail
    refine ⟨⟨_, _, dep_lend l.length (o.take k) 6 18 _ rfl rfl _, ?_⟩⟩
    have hlen := depK_len l (iGet o k).toNat l.length
    have hi : (iGet o k).toNat < l.length := by omega
    have hdet := cfI_det (depK l (iGet o k).toNat l.length) 124 (dnC l.length (o.take k)) (fun x => !decide (x ∈ o.take k)) (by omega) (fun q hq => by
      have := depK_lt l (iGet o k).toNat l.length _ (iGet_mem hq)
      exact olam_det l.length (o.take k) _ this.1 this.2)
    rw [dep_cf] at hdet
    refine CallW.le hdet (.cons (DLe.of_eq (congrArg DV.one (congrArg ilS (depL_at l hi)))) (.cons (DLe.refl _) .nil)) ?_
    have hn : ∃ b, b = depIn l (iGet o k).toNat (o.take k) := ⟨_, rfl⟩
    obtain ⟨b, hbq⟩ := hn
    rw [← hbq]
    repeat' first | refine Split.isF h1 ?_ | refine Split.isF h2 ?_ | refine Split.isF h3 ?_ | refine Split.f ?_ | fail
    refine Split.mk (fun h4 => ?_) (fun h4 => ?_)
    · refine Fin.int ?_
      have : b = false := by simpa using h4
      rw [hb (by rw [stepB, ← hbq, this, Bool.and_false])]
    have g4 : b = true := by simpa using h4
    refine Need.mk ⟨g1, g2⟩ ?_
    refine Adj.back (x := k) (k + 1) ⟨by omega, fun i hi => ?_⟩ (by omega) (.cons (.obj (.cons (.hdl (by intro q; cases q) rfl rfl) .nil)) (.cons (.bldN rfl (fun p hp j hj => ?_)) .nil)) (.cons .same (.cons .same (.cons (.ptr (by intro q; cases q)) (.cons .same (.cons .same (.cons (SlotLe.int ?_) .nil))))))
    · by_cases e : i = k
      · rw [e, stepB, ← hbq, g4, decide_eq_true g1, decide_eq_true g2, decide_eq_false g3]; rfl
      · exact hall i (by omega)
    · obtain rfl : j = 0 := by have : j < 1 := hj; omega
      show SLe _ (dnG (o.take (k + 1)) p 0)
      rw [take_succ' hlt]
      exact dnG_put (beq_idx g1)
    · rw [hw _ (by omega) (by omega)]; omega
  · have he : k = o.length := by have := of_decide_eq_false h; omega
    subst he
    refine Fin.int ?_
    rw [ordE, if_neg (by simp [hne]), if_pos (allB_iff.2 hall)]
theorem chk47_det (l : List Ct) (o : List Int) (hl : l.length ≤ 10000) (ho : o.length ≤ 10000) (hf : FewC l) : Det Try.prog 23 [.one (ctS l), .one (ilS o)] (tint (chkT l o)) := by
  refine det_of_awp TTok mixed Try.func23 rfl rfl [] (Nat.le_of_ble_eq_true rfl) ?_
  refine CallW.int (check_det l hl hf) (fun e he => ?_)
  refine Split.mk (fun h => ?_) (fun h => ?_)
  · have hne : chkI l ≠ 0 := by rw [← he]; simpa using h
    refine Fin.int ?_
    rw [chkT, if_pos hne, he]
  have h0 : chkI l = 0 := by rw [← he]; simpa using h
  refine CallW.int (ordered_det l o (chk_len h0) ho hf) (fun n hn => ?_)
  refine Fin.int ?_
  rw [chkT, if_neg (by simp [h0]), hn]
theorem rchk47_det (l : List Ct) (o : List Int) (hl : l.length ≤ 10000) (ho : o.length ≤ 10000) (hf : FewC l) : Det Try.prog 36 [.one (ctS l), .one (ilS o)] (tint (chkT l o)) := by
  refine det_of_awp TTok mixed Try.func36 rfl rfl [] (Nat.le_of_ble_eq_true rfl) ?_
  refine CallW.mk' (rdepends_det l hl hf) ?_
  have hc : ∃ e, e = (depT l).2 := ⟨_, rfl⟩
  obtain ⟨e, he⟩ := hc
  rw [← he]
  refine Split.mk (fun h => ?_) (fun h => ?_)
  · have hne : chkI l ≠ 0 := fun h0 => by
      rw [depT, if_neg (by simp [h0])] at he
      subst he
      simp at h
    refine Fin.int ?_
    rw [chkT, if_pos hne, he, depT, if_pos hne]
  have h0 : chkI l = 0 := by
    have h' : e = 0 := by simpa using h
    by_cases h0 : chkI l = 0
    · exact h0
    · rw [depT, if_pos h0] at he
      exact (show e = chkI l from he).symm.trans h'
  rw [depT, if_neg (by simp [h0]), chkT, if_neg (by simp [h0])]
  have hl2 := chk_len h0
  refine Split.mk (fun h => ?_) (fun h => ?_)
  · have hne : o.length ≠ l.length := by
      have : ((o.length : Int) != l.length) = true := h
      intro e; rw [e] at this; simp at this
    refine Fin.int ?_
    rw [ordE, if_pos hne]
  have hne : o.length = l.length := by
    have : ((o.length : Int) != l.length) = false := h
    have : (o.length : Int) = l.length := by simpa using this
    omega
  have bad : ∀ k, k < o.length → stepB l o k = false → ordE l o = 22 := fun k hk h => by
    rw [ordE, if_neg (by simp [hne]), allB_false k hk h]; rfl
  refine Loop.by (α := Nat) (fun k => [(0, .d (.one (ctS l))), (1, .d (.one (ilS o))), (5, .d (.one (illS (depL l)))), (7, tint k)]) (fun _ => []) (fun k => k ≤ o.length ∧ ∀ i, i < k → stepB l o i = true) (fun k => o.length - k)
    (Adj.at 0 ⟨Nat.zero_le _, fun _ h => absurd h (Nat.not_lt_zero _)⟩ .nil (.cons .same (.cons .same (.cons .same (.cons .same .nil))))) (fun k hk => ?_)
  obtain ⟨hk, hall⟩ := hk
  refine Split.mk (fun h => ?_) (fun h => ?_)
  · have hlt : k < o.length := by have := of_decide_eq_true h; omega
    have hb := bad k hlt
    refine Need.mk (by omega) ?_
    refine Split.mk (fun h1 => ?_) (fun h1 => ?_)
    · repeat' first | refine Split.t ?_ | refine Split.f ?_ | refine Split.isT h1 ?_ | fail
      refine Need.mk (by kernel_rfl) ?_
      repeat' first | refine Split.t ?_ | refine Split.f ?_ | refine Split.isT h1 ?_ | fail
      refine Fin.int ?_
      have g1 : iGet o k < 0 := of_decide_eq_true h1
      rw [hb (by rw [stepB, decide_eq_false (show ¬ 0 ≤ iGet o k by omega)]; rfl)]
    have g1 : 0 ≤ iGet o k := by have : ¬ iGet o k < 0 := of_decide_eq_false h1; omega
    repeat' first | refine Split.t ?_ | refine Split.f ?_ | refine Split.isF h1 ?_ | refine Need.mk (by omega) ?_ | fail
    refine Split.mk (fun h2 => ?_) (fun h2 => ?_)
    · repeat' first | refine Split.t ?_ | refine Split.f ?_ | refine Split.isF h1 ?_ | refine Split.isT h2 ?_ | fail
      refine Need.mk (by kernel_rfl) ?_
      repeat' first | refine Split.t ?_ | refine Split.f ?_ | refine Split.isF h1 ?_ | refine Split.isT h2 ?_ | fail
      refine Fin.int ?_
      have g2 : iGet o k ≥ l.length := of_decide_eq_true h2
      rw [hb (by rw [stepB, decide_eq_false (show ¬ iGet o k < l.length by omega), Bool.and_false]; rfl)]
    have g2 : iGet o k < l.length := by have : ¬ iGet o k ≥ l.length := of_decide_eq_false h2; omega
    repeat' first | refine Split.t ?_ | refine Split.f ?_ | refine Split.isF h1 ?_ | refine Split.isF h2 ?_ | refine Need.mk (by omega) ?_ | fail
    have ktn : (k : Int).toNat = k := rfl
    refine CallW.le (contains_det (o.take k) (iGet o k) (by simp; omega)) (.cons (ilS_take hk (fun i => Nat.zero_add i) rfl) (.cons (DLe.refl _) .nil)) ?_
    have hc : ∃ c, c = decide (iGet o k ∈ o.take k) := ⟨_, rfl⟩
    obtain ⟨c, hc⟩ := hc
    rw [← hc]
    repeat' first | refine Split.isF h1 ?_ | refine Split.isF h2 ?_ | refine Split.f ?_ | refine Split.t ?_ | fail
    refine Need.mk (by kernel_rfl) ?_
    refine Split.mk (fun h3 => ?_) (fun h3 => ?_)
    · refine Fin.int ?_
      rw [hb (by rw [stepB, ← hc, show c = true from h3]; simp)]
    have g3 : ¬ iGet o k ∈ o.take k := of_decide_eq_false (by rw [← hc]; exact h3)
    have hi : (iGet o k).toNat < l.length := by omega
    have hdl : (depL l).length = l.length := by simp [depL]
    have hdat : (depL l).getD (iGet o k).toNat [] = depK l (iGet o k).toNat l.length := depL_at l hi
    have hlen := depK_len l (iGet o k).toNat l.length
    have hs : ∃ d, d = depK l (iGet o k).toNat l.length := ⟨_, rfl⟩
    obtain ⟨d, hd⟩ := hs
    rw [← hd] at hdat hlen
    have hstep : stepB l o k = d.all fun j => decide (j ∈ o.take k) := by
      rw [stepB, depIn, ← hd, decide_eq_true g1, decide_eq_true g2, decide_eq_false g3]; rfl
    refine Loop.by (α := Nat) (fun q => [(0, .d (.one (ctS l))), (1, .d (.one (ilS o))), (5, .d (.one (illS (depL l)))), (7, tint k), (8, tint q)]) (fun _ => []) (fun q => q ≤ d.length ∧ ∀ i, i < q → iGet d i ∈ o.take k) (fun q => d.length - q)
      (Adj.at 0 ⟨Nat.zero_le _, fun _ h => absurd h (Nat.not_lt_zero _)⟩ .nil (.cons .same (.cons .same (.cons .same (.cons .same (.cons .same .nil)))))) (fun q hq => ?_)
    obtain ⟨hq, hin⟩ := hq
    refine Need.mk (by omega) ?_
    refine Need.mk ⟨g1, by rw [hdl]; exact g2⟩ ?_
    refine Split.mk (fun h4 => ?_) (fun h4 => ?_)
    · have hql : q < d.length := by
        have h4' : (q : Int) < ((depL l).getD (iGet o k).toNat []).length := of_decide_eq_true h4
        rw [hdat] at h4'; omega
      have hbn : (q : Int) < ((depL l).getD (iGet o k).toNat []).length := by rw [hdat]; omega
      refine Need.mk (by omega) ?_
      refine Need.mk (by omega) ?_
      refine Need.mk ⟨g1, by rw [hdl]; exact g2⟩ ?_
      refine Need.mk ⟨by omega, hbn⟩ ?_
      refine CallW.le (contains_det (o.take k) (iGet d q) (by simp; omega)) (.cons (ilS_take hk (fun i => Nat.zero_add i) rfl) (.cons (DLe.of_eq (by rw [← hdat]; rfl)) .nil)) ?_
      have hc : ∃ c, c = decide (iGet d q ∈ o.take k) := ⟨_, rfl⟩
      obtain ⟨c, hc⟩ := hc
      rw [← hc]
      refine Need.mk (by kernel_rfl) ?_
      refine Split.mk (fun h5 => ?_) (fun h5 => ?_)
      · refine Fin.int ?_
        have h5' : c = false := by simpa using h5
        rw [hb ?_]
        rw [hstep]
        refine Bool.eq_false_iff.2 (fun hall => ?_)
        have := List.all_eq_true.1 hall _ (iGet_mem hql)
        rw [← hc, h5'] at this
        cases this
      · have h5' : c = true := by simpa using h5
        refine Adj.back (x := q) (q + 1) ⟨by omega, fun i hi => ?_⟩ (by omega) .nil (.cons .same (.cons .same (.cons .same (.cons .same (.cons (SlotLe.int ?_) .nil)))))
        · by_cases e : i = q
          · rw [e]; exact of_decide_eq_true (by rw [← hc, h5'])
          · exact hin i (by omega)
        · rw [hw _ (by omega) (by omega)]; omega
    · have hql : q = d.length := by
        have h4' : ¬ (q : Int) < ((depL l).getD (iGet o k).toNat []).length := of_decide_eq_false h4
        rw [hdat] at h4'; omega
      refine Adj.back (x := k) (k + 1) ⟨by omega, fun i hi => ?_⟩ (by omega) .nil (.cons .same (.cons .same (.cons .same (.cons (SlotLe.int ?_) .nil))))
      · by_cases e : i = k
        · rw [e, hstep, List.all_eq_true]
          intro x hx
          obtain ⟨i, hi, rfl⟩ := mem_iGet hx
          exact decide_eq_true (hin i (by omega))
        · exact hall i (by omega)
      · rw [hw _ (by omega) (by omega)]; omega
  · have he : k = o.length := by have := of_decide_eq_false h; omega
    subst he
    refine Fin.int ?_
    rw [ordE, if_neg (by simp [hne]), if_pos (allB_iff.2 hall)]
end Sg
end Go.Vm
