/-
  Layer 7: the law SegSymmetric.
-/
import Derived.Test.YtbhjhbmdgdnbeaaSegP
namespace Go.Vm
namespace Sg
open Go Go.RowKit Go.Proofs

def movW (s : Seg) (v : V2) : Seg := ⟨addW s.a v, addW s.b v⟩
theorem turned_det (s : Seg) : Det Try.prog 19 [sD s] (.d (sD (turnS s))) := by
  refine det_of_awp TTok mixed Try.func19 rfl rfl [] (Nat.le_of_ble_eq_true rfl) ?_
  repeat' first | refine Need.mk (by kernel_rfl) ?_ | fail
  exact Fin.rfl'
theorem add_det (a b : V2) : Det Try.prog 42 [vD a, vD b] (.d (vD (addW a b))) := by
  refine det_of_awp TTok mixed Try.func42 rfl rfl [] (Nat.le_of_ble_eq_true rfl) ?_
  repeat' first | refine Need.mk (by kernel_rfl) ?_ | fail
  exact Fin.rfl'
theorem moved_det (s : Seg) (v : V2) : Det Try.prog 20 [sD s, vD v] (.d (sD (movW s v))) := by
  refine det_of_awp TTok mixed Try.func20 rfl rfl [] (Nat.le_of_ble_eq_true rfl) ?_
  refine CallW.mk' (add_det s.a v) ?_
  refine CallW.mk' (add_det s.b v) ?_
  repeat' first | refine Need.mk (by kernel_rfl) ?_ | fail
  exact Fin.rfl'
theorem mov_eq {s : Seg} {v : V2} (ha : In 1000000 s.a) (hb : In 1000000 s.b) (hv : In 1000000 v) : movW s v = movS s v := by
  obtain ⟨a1, a2, a3, a4⟩ := ha
  obtain ⟨b1, b2, b3, b4⟩ := hb
  obtain ⟨c1, c2, c3, c4⟩ := hv
  unfold movW movS addW addP
  simp (disch := omega) only [wid']
theorem In.mono {m n : Int} {v : V2} (h : In m v) (k : m ≤ n) : In n v := by
  obtain ⟨a1, a2, a3, a4⟩ := h
  exact ⟨by omega, by omega, by omega, by omega⟩
theorem CallW.sg {P : Program} {f : FuncId} {args : List DV} {K : TV → Prop} {e : Seg} (h : Det P f args (.d (sD e))) (kk : ∀ c, c = e → K (.d (sD c))) : CallW P f args K := ⟨_, h, kk e rfl⟩
theorem common_in {s t : Seg} (hs : validS s = true) (ht : validS t = true) {i : Nat} (hi : i < (commonL s t).length) : In 4000 ((commonL s t).getD i v0) := by
  have hm : (commonL s t).getD i v0 ∈ commonL s t := by
    simp only [List.getD, List.getElem?_eq_getElem hi, Option.getD_some]
    exact List.getElem_mem hi
  obtain ⟨sa, sb⟩ := valid_in hs
  obtain ⟨ta, tb⟩ := valid_in ht
  have := ((sort_facts _).2 _).1 hm
  rcases (mem_common.1 this).1 with h | h | h | h <;> rw [h] <;> assumption
theorem share_in {s t : Seg} (hs : validS s = true) (ht : validS t = true) : In 4000 (rshareS s t).a ∧ In 4000 (rshareS s t).b := by
  unfold rshareS
  split
  · rename_i h
    have hl := rmeet_len.2 h
    exact ⟨common_in hs ht (by omega), common_in hs ht (by omega)⟩
  · exact ⟨⟨by decide, by decide, by decide, by decide⟩, ⟨by decide, by decide, by decide, by decide⟩⟩
theorem low_small {x y d : Int} (hx : Small x) (hy : Small y) (hd : -134217728 ≤ d ∧ d ≤ 134217728) : Small (low x y d).x ∧ Small (low x y d).y ∧ -134217728 ≤ (low x y d).d ∧ (low x y d).d ≤ 134217728 := by
  have key : ∀ a g : Int, (a.tdiv g).natAbs ≤ a.natAbs := fun a g => by
    rw [Int.natAbs_tdiv]
    exact Nat.div_le_self _ _
  unfold low
  have k1 := key x (Int.gcd (Int.gcd x y : Nat) d : Nat)
  have k2 := key y (Int.gcd (Int.gcd x y : Nat) d : Nat)
  have k3 := key d (Int.gcd (Int.gcd x y : Nat) d : Nat)
  refine ⟨⟨?_, ?_⟩, ⟨?_, ?_⟩, ?_, ?_⟩ <;> simp only <;> omega
theorem rat_small {s t : Seg} (hs : validS s = true) (ht : validS t = true) : Small (ratP s t).x ∧ Small (ratP s t).y ∧ -134217728 ≤ (ratP s t).d ∧ (ratP s t).d ≤ 134217728 := by
  unfold ratP
  split
  · rename_i h
    have hl := rmeet_len.1 h
    have := common_in hs ht (i := 0) (by omega)
    obtain ⟨a1, a2, a3, a4⟩ := this
    refine ⟨⟨?_, ?_⟩, ⟨?_, ?_⟩, ?_, ?_⟩ <;> simp only <;> omega
  · split
    · obtain ⟨sa, sb⟩ := valid_in hs
      obtain ⟨ta, tb⟩ := valid_in ht
      obtain ⟨_, iu⟩ := subW_eq (by decide) sb sa
      obtain ⟨_, iv⟩ := subW_eq (by decide) tb ta
      obtain ⟨_, ig⟩ := subW_eq (by decide) ta sa
      obtain ⟨_, ba1, ba2⟩ := crossW_eq (by decide) (by decide) ig iv
      obtain ⟨_, bd1, bd2⟩ := crossW_eq (by decide) (by decide) iu iv
      have k1 := mul_abs (x := s.a.x) (y := dirC s t) (X := 4000) (Y := 128000000) ⟨sa.x0, sa.x1⟩ ⟨by simp only [dirC]; omega, by simp only [dirC]; omega⟩
      have k2 := mul_abs (x := s.a.y) (y := dirC s t) (X := 4000) (Y := 128000000) ⟨sa.y0, sa.y1⟩ ⟨by simp only [dirC]; omega, by simp only [dirC]; omega⟩
      have k3 := mul_abs (x := (subP s.b s.a).x) (y := crossP (subP t.a s.a) (subP t.b t.a)) (X := 8000) (Y := 128000000) ⟨iu.x0, iu.x1⟩ ⟨by omega, by omega⟩
      have k4 := mul_abs (x := (subP s.b s.a).y) (y := crossP (subP t.a s.a) (subP t.b t.a)) (X := 8000) (Y := 128000000) ⟨iu.y0, iu.y1⟩ ⟨by omega, by omega⟩
      have hd : -128000000 ≤ dirC s t ∧ dirC s t ≤ 128000000 := ⟨by simp only [dirC]; omega, by simp only [dirC]; omega⟩
      unfold lowP
      split
      · exact low_small ⟨by omega, by omega⟩ ⟨by omega, by omega⟩ ⟨by omega, by omega⟩
      · exact low_small ⟨by omega, by omega⟩ ⟨by omega, by omega⟩ ⟨by omega, by omega⟩
    · refine ⟨⟨by decide, by decide⟩, ⟨by decide, by decide⟩, by decide, by decide⟩

set_option maxRecDepth 100000 in
set_option maxHeartbeats 800000 in
theorem lsym_det (s t : Seg) (v : V2) : Det Try.prog 4 [sD s, sD t, vD v] (tbool true) := by
  obtain ⟨m1, m2, m3⟩ := meet_agree s t
  have ag : ∀ s' t', Same s t s' t' → (meetC s' t').kind = rmeetI s t ∧ (meetC s' t').p = ratP s t ∧ (meetC s' t').s = rshareS s t := fun s' t' h => by
    obtain ⟨n1, n2, n3⟩ := meet_agree s' t'
    obtain ⟨r1, r2, r3⟩ := h.agree
    exact ⟨n1.trans r1, n2.trans r2, n3.trans r3⟩
  obtain ⟨a1, a2, a3⟩ := ag t s (same_swap s t)
  obtain ⟨b1, b2, b3⟩ := ag (turnS s) t (same_turn1 s t)
  obtain ⟨c1, c2, c3⟩ := ag s (turnS t) (same_turn2 s t)
  refine det_of_awp TTok mixed Try.func4 rfl rfl [] (Nat.le_of_ble_eq_true rfl) ?_
  refine CallW.mk' awake_det ?_
  refine Split.f ?_
  refine CallW.int (vmeet_det s t) (fun k hk => ?_)
  refine CallW.ptOk (at_det s t) (fun p ok hp hok => ?_)
  refine CallW.segOk (share_det s t) (fun x is hx his => ?_)
  rw [m1] at hk his
  rw [m2] at hp
  rw [m3] at hx
  have ek : (k != k) = false := by simp
  refine CallW.mk' (turned_det s) ?_
  refine CallW.mk' (turned_det t) ?_
  refine Need.mk (by kernel_rfl) ?_
  refine Loop.by (α := Nat) (fun q => [(3, .ptr 3 0), (4, .ptr 4 0), (5, .ptr 5 0), (7, tint k), (8, .ptr 8 0), (9, tbool ok), (10, .ptr 10 0), (11, tbool is), (12, .ptr 12 0), (13, tint q)])
    (fun _ => [(3, .box (sL s)), (4, .box (sL t)), (5, .box (vL v)), (8, .box (pL p)), (10, .box (sL x)), (12, .box (sL t ++ sL s ++ sL (turnS s) ++ sL t ++ sL s ++ sL (turnS t)))]) (fun q => q ≤ 3) (fun q => 3 - q)
    (Adj.at 0 (Nat.zero_le _) (.cons (.box (LLe.refl _)) (.cons (.box (LLe.refl _)) (.cons (.box (LLe.refl _)) (.cons (.box (LLe.refl _)) (.cons (.box (LLe.refl _)) (.cons (.box (LLe.refl _)) .nil)))))) (.cons (.box rfl rfl) (.cons (.box rfl rfl) (.cons (.box rfl rfl) (.cons .same (.cons (.box rfl rfl) (.cons .same (.cons (.box rfl rfl) (.cons .same (.cons (.box rfl rfl) (.cons .same .nil))))))))))) (fun q hq => ?_)
  rcases q with _ | _ | _ | q
  · refine Split.isT (by decide) ?_
    repeat' first | refine Need.mk (by decide) ?_ | fail
    refine CallW.ptOk (at_det t s) (fun p1 _ hp1 _ => ?_)
    obtain rfl : p = p1 := by rw [hp1, hp, a2]
    repeat' first | refine Need.mk (by kernel_rfl) ?_ | refine Need.mk (by decide) ?_ | fail
    refine CallW.segOk (share_det t s) (fun x1 _ hx1 _ => ?_)
    obtain rfl : x = x1 := by rw [hx1, hx, a3]
    repeat' first | refine Need.mk (by kernel_rfl) ?_ | refine Need.mk (by decide) ?_ | fail
    refine CallW.int (vmeet_det t s) (fun k1 hk1 => ?_)
    obtain rfl : k = k1 := by rw [hk1, hk, a1]
    repeat' first | refine Split.f ?_ | refine Split.isF ek ?_ | refine EqW.pr p ?_ | refine EqW.sr x ?_ | refine Need.mk (by kernel_rfl) ?_ | fail
    exact Adj.back (x := 0) (0 + 1) (by decide) (by decide) (.cons (.box (LLe.refl _)) (.cons (.box (LLe.refl _)) (.cons (.box (LLe.refl _)) (.cons (.box (LLe.refl _)) (.cons (.box (LLe.refl _)) (.cons (.box (LLe.refl _)) .nil)))))) (.cons (.box rfl rfl) (.cons (.box rfl rfl) (.cons (.box rfl rfl) (.cons .same (.cons (.box rfl rfl) (.cons .same (.cons (.box rfl rfl) (.cons .same (.cons (.box rfl rfl) (.cons (SlotLe.int (by decide)) .nil))))))))))
  · refine Split.isT (by decide) ?_
    repeat' first | refine Need.mk (by decide) ?_ | fail
    refine CallW.ptOk (at_det (turnS s) t) (fun p1 _ hp1 _ => ?_)
    obtain rfl : p = p1 := by rw [hp1, hp, b2]
    repeat' first | refine Need.mk (by kernel_rfl) ?_ | refine Need.mk (by decide) ?_ | fail
    refine CallW.segOk (share_det (turnS s) t) (fun x1 _ hx1 _ => ?_)
    obtain rfl : x = x1 := by rw [hx1, hx, b3]
    repeat' first | refine Need.mk (by kernel_rfl) ?_ | refine Need.mk (by decide) ?_ | fail
    refine CallW.int (vmeet_det (turnS s) t) (fun k1 hk1 => ?_)
    obtain rfl : k = k1 := by rw [hk1, hk, b1]
    repeat' first | refine Split.f ?_ | refine Split.isF ek ?_ | refine EqW.pr p ?_ | refine EqW.sr x ?_ | refine Need.mk (by kernel_rfl) ?_ | fail
    exact Adj.back (x := 1) (1 + 1) (by decide) (by decide) (.cons (.box (LLe.refl _)) (.cons (.box (LLe.refl _)) (.cons (.box (LLe.refl _)) (.cons (.box (LLe.refl _)) (.cons (.box (LLe.refl _)) (.cons (.box (LLe.refl _)) .nil)))))) (.cons (.box rfl rfl) (.cons (.box rfl rfl) (.cons (.box rfl rfl) (.cons .same (.cons (.box rfl rfl) (.cons .same (.cons (.box rfl rfl) (.cons .same (.cons (.box rfl rfl) (.cons (SlotLe.int (by decide)) .nil))))))))))
  · refine Split.isT (by decide) ?_
    repeat' first | refine Need.mk (by decide) ?_ | fail
    refine CallW.ptOk (at_det s (turnS t)) (fun p1 _ hp1 _ => ?_)
    obtain rfl : p = p1 := by rw [hp1, hp, c2]
    repeat' first | refine Need.mk (by kernel_rfl) ?_ | refine Need.mk (by decide) ?_ | fail
    refine CallW.segOk (share_det s (turnS t)) (fun x1 _ hx1 _ => ?_)
    obtain rfl : x = x1 := by rw [hx1, hx, c3]
    repeat' first | refine Need.mk (by kernel_rfl) ?_ | refine Need.mk (by decide) ?_ | fail
    refine CallW.int (vmeet_det s (turnS t)) (fun k1 hk1 => ?_)
    obtain rfl : k = k1 := by rw [hk1, hk, c1]
    repeat' first | refine Split.f ?_ | refine Split.isF ek ?_ | refine EqW.pr p ?_ | refine EqW.sr x ?_ | refine Need.mk (by kernel_rfl) ?_ | fail
    exact Adj.back (x := 2) (2 + 1) (by decide) (by decide) (.cons (.box (LLe.refl _)) (.cons (.box (LLe.refl _)) (.cons (.box (LLe.refl _)) (.cons (.box (LLe.refl _)) (.cons (.box (LLe.refl _)) (.cons (.box (LLe.refl _)) .nil)))))) (.cons (.box rfl rfl) (.cons (.box rfl rfl) (.cons (.box rfl rfl) (.cons .same (.cons (.box rfl rfl) (.cons .same (.cons (.box rfl rfl) (.cons .same (.cons (.box rfl rfl) (.cons (SlotLe.int (by decide)) .nil))))))))))
  obtain rfl : q = 0 := by omega
  refine Split.isF (by decide) ?_
  refine CallW.sg (moved_det s v) (fun a ha => ?_)
  refine CallW.sg (moved_det t v) (fun b hb => ?_)
  refine Need.mk (by kernel_rfl) ?_
  refine CallW.bool (within_det v 10000) (fun w1 hw1 => ?_)
  refine Split.mk (fun n1 => ?_) (fun n1 => ?_)
  · repeat' first | refine Split.t ?_ | refine Fin.bool ?_ | fail
    rfl
  repeat' first | refine Split.f ?_ | fail
  refine CallW.bool (valid_det s) (fun w2 hw2 => ?_)
  repeat' first | refine Split.f ?_ | fail
  refine Split.mk (fun n2 => ?_) (fun n2 => ?_)
  · repeat' first | refine Split.t ?_ | refine Fin.bool ?_ | fail
    rfl
  repeat' first | refine Split.f ?_ | fail
  refine CallW.bool (valid_det t) (fun w3 hw3 => ?_)
  repeat' first | refine Split.f ?_ | fail
  refine Split.mk (fun n3 => ?_) (fun n3 => ?_)
  · repeat' first | refine Split.t ?_ | refine Fin.bool ?_ | fail
    rfl
  repeat' first | refine Split.f ?_ | fail
  refine CallW.bool (valid_det a) (fun w4 hw4 => ?_)
  repeat' first | refine Split.f ?_ | fail
  refine Split.mk (fun n4 => ?_) (fun n4 => ?_)
  · repeat' first | refine Split.t ?_ | refine Fin.bool ?_ | fail
    rfl
  repeat' first | refine Split.f ?_ | fail
  refine CallW.bool (valid_det b) (fun w5 hw5 => ?_)
  repeat' first | refine Split.f ?_ | fail
  refine Split.mk (fun n5 => ?_) (fun n5 => ?_)
  · repeat' first | refine Split.t ?_ | refine Fin.bool ?_ | fail
    rfl
  have hvin : In 10000 v := In.of (by decide) (by decide) (by rw [← hw1]; simpa using n1)
  have hs : validS s = true := by rw [← hw2]; simpa using n2
  have ht : validS t = true := by rw [← hw3]; simpa using n3
  have hva : validS a = true := by rw [← hw4]; simpa using n4
  have hvb : validS b = true := by rw [← hw5]; simpa using n5
  have ea : a = movS s v := by rw [ha, mov_eq ((valid_in hs).1.mono (by decide)) ((valid_in hs).2.mono (by decide)) (hvin.mono (by decide))]
  have eb : b = movS t v := by rw [hb, mov_eq ((valid_in ht).1.mono (by decide)) ((valid_in ht).2.mono (by decide)) (hvin.mono (by decide))]
  rw [ea] at hva
  rw [eb] at hvb
  obtain ⟨l1, l2, l3⟩ := meet_agree a b
  rw [ea, eb] at l1 l2 l3
  obtain ⟨hk', _⟩ := mov_agree hs ht hva hvb
  obtain ⟨r1, r2⟩ := rat_mov hs ht hva hvb
  refine CallW.ptOk (at_det a b) (fun q ok' hq hok' => ?_)
  refine CallW.segOk (share_det a b) (fun y is' hy his' => ?_)
  rw [ea, eb, l2] at hq
  rw [ea, eb, l3] at hy
  rw [ea, eb, l1, hk'] at his'
  rw [ea, eb, atB, l1, hk'] at hok'
  refine CallW.int (vmeet_det a b) (fun k' hkk => ?_)
  obtain rfl : k = k' := by rw [hkk, ea, eb, l1, hk', hk]
  have ek2 : (k == k) = true := beq_self_eq_true k
  repeat' first | refine Split.t ?_ | refine Split.isT ek2 ?_ | fail
  refine Split.mk (fun n6 => ?_) (fun n6 => ?_)
  · repeat' first | refine Split.t ?_ | refine Split.f ?_ | refine Split.isT ek2 ?_ | fail
    refine Split.mk (fun z1 => ?_) (fun z1 => ?_)
    · repeat' first | refine Split.t ?_ | refine Split.f ?_ | refine Need.mk (by kernel_rfl) ?_ | refine Fin.bool ?_ | fail
      rfl
    have hi3 : rmeetI s t = 3 := by
      have : is' = true := by simpa using z1
      rw [this] at his'
      have := of_decide_eq_true his'.symm
      omega
    have ys : y = movW x v := by rw [hy, r2 hi3, hx, mov_eq ((share_in hs ht).1.mono (by decide)) ((share_in hs ht).2.mono (by decide)) (hvin.mono (by decide))]
    repeat' first | refine Split.t ?_ | refine Split.f ?_ | fail
    refine CallW.sg (moved_det x v) (fun z hz => ?_)
    obtain rfl : y = z := ys.trans hz.symm
    repeat' first | refine Split.t ?_ | refine Split.f ?_ | refine EqW.sr y ?_ | refine Need.mk (by kernel_rfl) ?_ | refine Fin.bool ?_ | fail
    rfl
  have hok2 : ratB s t = true := by rw [ratB, ← hok']; simpa using n6
  obtain ⟨s1, s2, s3, s4⟩ := rat_small hs ht
  rw [← hp] at s1 s2 s3 s4
  have b1 := mul_abs (x := v.x) (y := p.d) (X := 10000) (Y := 134217728) ⟨hvin.x0, hvin.x1⟩ ⟨s3, s4⟩
  have b2 := mul_abs (x := v.y) (y := p.d) (X := 10000) (Y := 134217728) ⟨hvin.y0, hvin.y1⟩ ⟨s3, s4⟩
  have eq1 : q = ⟨w64 (p.x + w64 (v.x * p.d)), w64 (p.y + w64 (v.y * p.d)), p.d⟩ := by
    rw [hq, r1 hok2, ← hp]
    simp (disch := omega) only [wid']
  repeat' first | refine Split.t ?_ | refine Split.f ?_ | refine Split.isT ek2 ?_ | fail
  refine EqW.p q ⟨w64 (p.x + w64 (v.x * p.d)), w64 (p.y + w64 (v.y * p.d)), p.d⟩ (fun g hg => ?_)
  obtain rfl : g = true := hg.2 eq1
  repeat' first | refine Split.t ?_ | refine Split.f ?_ | refine Split.isT ek2 ?_ | fail
  refine Split.mk (fun z1 => ?_) (fun z1 => ?_)
  · repeat' first | refine Split.t ?_ | refine Split.f ?_ | refine Need.mk (by kernel_rfl) ?_ | refine Fin.bool ?_ | fail
    rfl
  have hi3 : rmeetI s t = 3 := by
    have : is' = true := by simpa using z1
    rw [this] at his'
    have := of_decide_eq_true his'.symm
    omega
  have ys : y = movW x v := by rw [hy, r2 hi3, hx, mov_eq ((share_in hs ht).1.mono (by decide)) ((share_in hs ht).2.mono (by decide)) (hvin.mono (by decide))]
  repeat' first | refine Split.t ?_ | refine Split.f ?_ | fail
  refine CallW.sg (moved_det x v) (fun z hz => ?_)
  obtain rfl : y = z := ys.trans hz.symm
  repeat' first | refine Split.t ?_ | refine Split.f ?_ | refine EqW.sr y ?_ | refine Need.mk (by kernel_rfl) ?_ | refine Fin.bool ?_ | fail
  rfl
theorem lsym_all : ∀ dvs, TypL Try.prog Try.f4.params.toList dvs → Det Try.prog 4 dvs (tbool true) := by
  intro dvs h
  obtain ⟨v0, r0, rfl, h0, q0⟩ := TypL.inv_cons (t := 25) (ts := [25, 23]) h
  obtain ⟨v1, r1, rfl, h1, q1⟩ := TypL.inv_cons q0
  obtain ⟨v2, r2, rfl, h2, q2⟩ := TypL.inv_cons q1
  obtain rfl := TypL.inv_nil q2
  obtain ⟨s, rfl, _⟩ := seg_of h0
  obtain ⟨t, rfl, _⟩ := seg_of h1
  obtain ⟨v, rfl, _⟩ := vec_of h2
  exact lsym_det s t v
end Sg
end Go.Vm
