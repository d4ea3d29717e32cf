/-
  The law BarKerf as a contract.
-/
import Derived.Test.YtlgnghcflnkhcaaBarF
namespace Go.Vm
open Go Go.RowKit Go.Proofs
abbrev u8 (n : Int) : SV := .v (.int .u8 n)

theorem CallW.tup0 {P : Program} {f : FuncId} {args : List DV} {K : TV → Prop} {a e : Int} (h : Det P f args (intErr a e)) (he : e = 0) (kk : ∀ n, n = a → K (.tup [.one (i64 n), .one (i64 0)])) : CallW P f args K := by
  subst he
  exact ⟨_, h, kk a rfl⟩
theorem lkerf_det (n : Nat) (R : Nat → BP) (kerf more : Int) (hn : n ≤ maxLen) (hm : InK .u8 more) : Det Try.prog 3 [.one (rowS n R), .one (i64 kerf), .one (u8 more)] (tbool true) := by
  have hmore : 0 ≤ more ∧ more < 256 := by
    simp [InK, Lit.wf, IntKind.min, IntKind.max, IntKind.bits, IntKind.signed] at hm
    omega
  refine det_of_awp TTok mixed Try.func3 rfl rfl [] (Nat.le_of_ble_eq_true rfl) ?_
  refine CallW.mk' awake_det ?_
  repeat refine Split.f ?_
  refine CallW.bool (small_det n R kerf hn) (fun b hb => ?_)
  repeat refine Split.f ?_
  refine Split.mk (fun h => ?_) (fun h => ?_)
  · repeat' first | refine Split.t ?_ | refine CallW.mk' awake_det ?_ | refine Fin.bool ?_
    all_goals rfl
  have hs : smallB n R kerf = true := by rw [← hb]; simpa using h
  repeat refine Split.f ?_
  refine Split.mk (fun h1 => ?_) (fun h1 => ?_)
  · repeat' first | refine CallW.mk' awake_det ?_ | refine Fin.bool ?_
    all_goals rfl
  have hz : n ≠ 0 := by simpa using h1
  obtain ⟨m, rfl⟩ : ∃ m, n = m + 1 := ⟨n - 1, by omega⟩
  have hk : 0 ≤ kerf ∧ kerf ≤ 100 := by
    simp only [smallB, Bool.and_eq_true, decide_eq_true_eq] at hs
    omega
  have ed : IntKind.i64.wrap (IntKind.i64.wrap (100 - kerf) + 1) = 101 - kerf := by
    rw [show IntKind.i64.wrap (100 - kerf) = 100 - kerf from w64_id ⟨by omega, by omega⟩]
    exact (w64_id ⟨by omega, by omega⟩).trans (by omega)
  have em : IntKind.i64.wrap more = more := w64_id ⟨by omega, by omega⟩
  have ek : ∃ K, (IntKind.i64.wrap more).tmod (IntKind.i64.wrap (IntKind.i64.wrap (100 - kerf) + 1)) = K ∧ 0 ≤ K ∧ K ≤ 100 - kerf := by
    rw [ed, em]
    refine ⟨_, rfl, Int.tmod_nonneg _ (by omega), ?_⟩
    have := Int.tmod_lt_of_pos more (b := 101 - kerf) (by omega)
    omega
  obtain ⟨K, eK, hK0, hK1⟩ := ek
  have ew : IntKind.i64.wrap (kerf + (IntKind.i64.wrap more).tmod (IntKind.i64.wrap (IntKind.i64.wrap (100 - kerf) + 1))) = kerf + K := by
    rw [eK]
    exact w64_id ⟨by omega, by omega⟩
  have en : IntKind.i64.wrap (((m + 1 : Nat) : Int) - 1) = (m : Int) := by
    simp only [maxLen] at hn
    exact (w64_id ⟨by omega, by omega⟩).trans (by omega)
  refine Need.mk ⟨_, rfl⟩ ?_
  refine Need.mk (by rw [ed]; omega) ?_
  refine CallW.tup0 (length_det (m + 1) R kerf hn) (small_err hs hk.1 hk.2) (fun A hA => ?_)
  refine CallW.tup0 (length_det (m + 1) R _ hn) (by rw [ew]; exact small_err hs (by omega) (by omega)) (fun B hB => ?_)
  refine CallW.tup0 (scrap_det (m + 1) R kerf hn) (small_err hs hk.1 hk.2) (fun C hC => ?_)
  refine CallW.tup0 (scrap_det (m + 1) R _ hn) (by rw [ew]; exact small_err hs (by omega) (by omega)) (fun D hD => ?_)
  rw [ew] at hB hD
  obtain ⟨s0, f0⟩ := w64_ex ((m : Int) * K)
  have hAB : B = IntKind.i64.wrap (A + IntKind.i64.wrap (IntKind.i64.wrap (((m + 1 : Nat) : Int) - 1) * (IntKind.i64.wrap more).tmod (IntKind.i64.wrap (IntKind.i64.wrap (100 - kerf) + 1)))) := by
    rw [en, eK, hA, hB]
    obtain ⟨t, e⟩ := length_k m R kerf K
    refine w64_eq_of (length_R _ _ _) ⟨t - s0, ?_⟩
    rw [show IntKind.i64.wrap ((m : Int) * K) = _ from f0]
    omega
  have hCD : D = IntKind.i64.wrap (C + IntKind.i64.wrap (2 * IntKind.i64.wrap (IntKind.i64.wrap (((m + 1 : Nat) : Int) - 1) * (IntKind.i64.wrap more).tmod (IntKind.i64.wrap (IntKind.i64.wrap (100 - kerf) + 1))))) := by
    rw [en, eK, hC, hD]
    obtain ⟨t, e⟩ := scrap_k m R kerf K (m + 1)
    obtain ⟨s1, f1⟩ := w64_ex (2 * w64 ((m : Int) * K))
    refine w64_eq_of (scrap_R _ _ _ _) ⟨t - 2 * s0 - s1, ?_⟩
    rw [show IntKind.i64.wrap (2 * IntKind.i64.wrap ((m : Int) * K)) = _ from f1, f0]
    omega
  repeat' first | refine Split.isT (by first | rfl | (rw [hAB]; exact beq_self_eq_true _)) ?_ | refine Fin.bool ?_
  rw [hCD]
  exact beq_self_eq_true _

/-- A row as it comes in. -/
theorem row_of {v : DV} (h : TypD Try.prog 22 v) : ∃ n R, n ≤ maxLen ∧ DLe v (.one (rowS n R)) := by
  obtain ⟨c, rfl, h1⟩ := TypD.one (by kernel_rfl) h
  obtain ⟨n, get, e, hn, hr⟩ := Typ.inv_slc (P := Try.prog) (e := 30) rfl h1
  cases e
  have hp : ∀ i, ∃ p : BP, i < n → cells 5 (get i) = bpL p := fun i => by
    by_cases hi : i < n
    · obtain ⟨a0, a1, a2, a3, a4, e, _⟩ := typ30 (hr i hi)
      exact ⟨⟨a0, a1, a2, a3, a4⟩, fun _ => e⟩
    · exact ⟨exP, fun h => absurd h hi⟩
  obtain ⟨R, hR⟩ := Classical.axiomOfChoice hp
  refine ⟨n, R, hn, DLe.one (SLe.sl (fun i hi j hj => ?_))⟩
  replace hj : j < 5 := hj
  have e := hR i hi
  have e : [get i 0, get i 1, get i 2, get i 3, get i 4] = bpL (R i) := e
  simp only [List.cons.injEq] at e
  obtain ⟨e0, e1, e2, e3, e4, _⟩ := e
  rcases j with _ | _ | _ | _ | _ | j
  · exact SLe.of_eq e0
  · exact SLe.of_eq e1
  · exact SLe.of_eq e2
  · exact SLe.of_eq e3
  · exact SLe.of_eq e4
  · omega
theorem lkerf_all : ∀ dvs, TypL Try.prog Try.f3.params.toList dvs → Det Try.prog 3 dvs (tbool true) := by
  intro dvs h
  obtain ⟨v0, r0, rfl, h0, q0⟩ := TypL.inv_cons (t := 22) (ts := [3, 5]) h
  obtain ⟨v1, r1, rfl, h1, q1⟩ := TypL.inv_cons q0
  obtain ⟨v2, r2, rfl, h2, q2⟩ := TypL.inv_cons q1
  obtain rfl := TypL.inv_nil q2
  obtain ⟨n, R, hn, hl⟩ := row_of h0
  obtain ⟨kerf, rfl, _⟩ := TypD.i64 (by kernel_rfl) rfl h1
  obtain ⟨more, rfl, hm⟩ := TypD.int (k := .u8) (by kernel_rfl) rfl h2
  exact Det.le (.cons hl (.cons (DLe.refl _) (.cons (DLe.refl _) .nil))) (lkerf_det n R kerf more hn hm)
end Go.Vm
