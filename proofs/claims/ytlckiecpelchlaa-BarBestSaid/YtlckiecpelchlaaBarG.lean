/-
  The law BarKerf as a contract.
-/
import Derived.Test.YtlckiecpelchlaaBarF
namespace Go.Vm
set_option maxRecDepth 20000
set_option linter.unusedVariables false
set_option linter.unusedSimpArgs false
open Go Go.RowKit Go.Proofs
abbrev u8 (n : Int) : SV := .v (.int .u8 n)

theorem CallW.tup0 {P : Program} {f : FuncId} {args : List DV} {K : TV → Prop} {a e : Int} (h : Det P f args (intErr a e)) (he : e = 0) (kk : ∀ n, n = a → K (.tup [.one (i64 n), .one (i64 0)])) : CallW P f args K := by
  subst he
  exact ⟨_, h, kk a rfl⟩
/-- A row as it comes in. -/
theorem row_of {v : DV} (h : TypD Try.prog 22 v) : ∃ n R, n ≤ maxLen ∧ DLe v (.one (rowS n R)) := by
  obtain ⟨c, rfl, h1⟩ := TypD.one (by kernel_rfl) h
  obtain ⟨n, get, e, hn, hr⟩ := Typ.inv_slc (P := Try.prog) (e := 65) rfl h1
  cases e
  have hp : ∀ i, ∃ p : BP, i < n → cells 5 (get i) = bpL p := fun i => by
    by_cases hi : i < n
    · obtain ⟨a0, a1, a2, a3, a4, e, _⟩ := typ65 (hr i hi)
      exact ⟨⟨a0, a1, a2, a3, a4⟩, fun _ => e⟩
    · exact ⟨exP, fun h => absurd h hi⟩
  obtain ⟨R, hR⟩ := Classical.axiomOfChoice hp
  refine ⟨n, R, hn, DLe.one (SLe.sl (fun i hi j hj => ?_))⟩
  replace hj : j < 5 := hj
  have e := hR i hi
  have e : [get i 0, get i 1, get i 2, get i 3, get i 4] = bpL (R i) := e
  simp only [List.cons.injEq] at e
  obtain ⟨e0, e1, e2, e3, e4, _⟩ := e
  rcases j with _ | _ | _ | _ | _ | j
  · exact SLe.of_eq e0
  · exact SLe.of_eq e1
  · exact SLe.of_eq e2
  · exact SLe.of_eq e3
  · exact SLe.of_eq e4
  · omega
end Go.Vm
