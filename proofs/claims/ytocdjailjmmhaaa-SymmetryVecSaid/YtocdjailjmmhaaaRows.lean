/-
  No cell of these rows narrows 'for every input' (looked for: loops, veiled, ifaces, maps, wideKeys, modest, calm, conditions, laid).
  DERIVED. THE GIVEN ROWS OF THIS SEAT. 4 by the template 'for every input the law returns true; each argument reads behind the call as it read before'; 0 by the template 'total and deterministic' (their statements: YtocdjailjmmhaaaTotals.lean).
  GIVEN WITH THE SEED: the statements are not yours to turn. If you find one false, say at which input.
  Laid BY PROGRAM, IN A SANDBOX (cutbox-rows.mjs): the forced cells as the released guide's own fill.sh prints them over the translation 3e45cfb7ca3cae8f… (all of the seat's roots in one cut). By AI agents, Wed Nov 11 2026. No macro, syntax, notation, axiom, sorry.
-/
import Derived.Test.YtocdjailjmmhaaaChecked
import GoSem.Claim
import GoSem.ClaimJoined
import GoSem.ClaimMapViews
import Derived.JoinedTies
import Derived.KernelRfl
namespace Go.Proofs.Ytocdjailjmmhaaa
/- THE CELL 'sum', in the pinned program and in every row, IS THE sha256 OF THE DUMP (.gsa) THAT YtocdjailjmmhaaaProg.lean LOADS. Nothing in Lean hashes anything: it is a label: what it is worth is what the hold of that sum in a sandbox is worth. -/
noncomputable def Try.pinned : Pinned := { name := "ytocdjailjmmhaaa", sum := "3e45cfb7ca3cae8f3841c720fd400f6ecf07ea1312a1373a358be768cc25af84", checked := Try.checked }
namespace Rows
def none {H : Type} : Left H := { results := [], args := [] }

/-- 'fretsawlaw09.SymmetryLinear': WHATEVER THE INPUT: true; the input reads as it did. -/
def symmetryLinearSpec : ChangeSpec := { name := "symmetryLinear", fn := fun _ => fun
  | [d1, d2, d3] => { results := [.lit (.bool true)], args := [d1, d2, d3] }
  | _ => none }
def symmetryLinearRow : OpenClaim := { program := "ytocdjailjmmhaaa", sum := "3e45cfb7ca3cae8f3841c720fd400f6ecf07ea1312a1373a358be768cc25af84", func := "fretsaw/fretsawlaw09.SymmetryLinear", spec := "symmetryLinear", apart := false }
def SymmetryLinearSaid : Prop := symmetryLinearRow.holds Try.pinned (OpenSpec.ofChange symmetryLinearSpec)

/-- ITS FALSE NEIGHBOUR: 'it returns false'. Refute it at one input. -/
def symmetryLinearWrong : ChangeSpec := { name := "symmetryLinear", fn := fun _ => fun
  | [d1, d2, d3] => { results := [.lit (.bool false)], args := [d1, d2, d3] }
  | _ => none }
def SymmetryLinearWrongFalsely : Prop := symmetryLinearRow.holds Try.pinned (OpenSpec.ofChange symmetryLinearWrong)

/-- 'fretsawlaw09.SymmetryThen': WHATEVER THE INPUT: true; the input reads as it did. -/
def symmetryThenSpec : ChangeSpec := { name := "symmetryThen", fn := fun _ => fun
  | [d1, d2] => { results := [.lit (.bool true)], args := [d1, d2] }
  | _ => none }
def symmetryThenRow : OpenClaim := { program := "ytocdjailjmmhaaa", sum := "3e45cfb7ca3cae8f3841c720fd400f6ecf07ea1312a1373a358be768cc25af84", func := "fretsaw/fretsawlaw09.SymmetryThen", spec := "symmetryThen", apart := false }
def SymmetryThenSaid : Prop := symmetryThenRow.holds Try.pinned (OpenSpec.ofChange symmetryThenSpec)

/-- ITS FALSE NEIGHBOUR: 'it returns false'. Refute it at one input. -/
def symmetryThenWrong : ChangeSpec := { name := "symmetryThen", fn := fun _ => fun
  | [d1, d2] => { results := [.lit (.bool false)], args := [d1, d2] }
  | _ => none }
def SymmetryThenWrongFalsely : Prop := symmetryThenRow.holds Try.pinned (OpenSpec.ofChange symmetryThenWrong)

/-- 'fretsawlaw09.SymmetryGroup': WHATEVER THE INPUT: true; the input reads as it did. -/
def symmetryGroupSpec : ChangeSpec := { name := "symmetryGroup", fn := fun _ => fun
  | [d1, d2] => { results := [.lit (.bool true)], args := [d1, d2] }
  | _ => none }
def symmetryGroupRow : OpenClaim := { program := "ytocdjailjmmhaaa", sum := "3e45cfb7ca3cae8f3841c720fd400f6ecf07ea1312a1373a358be768cc25af84", func := "fretsaw/fretsawlaw09.SymmetryGroup", spec := "symmetryGroup", apart := false }
def SymmetryGroupSaid : Prop := symmetryGroupRow.holds Try.pinned (OpenSpec.ofChange symmetryGroupSpec)

/-- ITS FALSE NEIGHBOUR: 'it returns false'. Refute it at one input. -/
def symmetryGroupWrong : ChangeSpec := { name := "symmetryGroup", fn := fun _ => fun
  | [d1, d2] => { results := [.lit (.bool false)], args := [d1, d2] }
  | _ => none }
def SymmetryGroupWrongFalsely : Prop := symmetryGroupRow.holds Try.pinned (OpenSpec.ofChange symmetryGroupWrong)

/-- 'fretsawlaw09.SymmetryVec': WHATEVER THE INPUT: true; the input reads as it did. -/
def symmetryVecSpec : ChangeSpec := { name := "symmetryVec", fn := fun _ => fun
  | [d1, d2, d3] => { results := [.lit (.bool true)], args := [d1, d2, d3] }
  | _ => none }
def symmetryVecRow : OpenClaim := { program := "ytocdjailjmmhaaa", sum := "3e45cfb7ca3cae8f3841c720fd400f6ecf07ea1312a1373a358be768cc25af84", func := "fretsaw/fretsawlaw09.SymmetryVec", spec := "symmetryVec", apart := false }
def SymmetryVecSaid : Prop := symmetryVecRow.holds Try.pinned (OpenSpec.ofChange symmetryVecSpec)

/-- ITS FALSE NEIGHBOUR: 'it returns false'. Refute it at one input. -/
def symmetryVecWrong : ChangeSpec := { name := "symmetryVec", fn := fun _ => fun
  | [d1, d2, d3] => { results := [.lit (.bool false)], args := [d1, d2, d3] }
  | _ => none }
def SymmetryVecWrongFalsely : Prop := symmetryVecRow.holds Try.pinned (OpenSpec.ofChange symmetryVecWrong)

/- THE SECOND FORM. 'bulk': how many values and letters a reading holds, each counted each time it is reached (what is shared counts as often as it is met; a slice's spare places count too). A statement '..UptoSaid' is the law's where the arguments, and the package variables that the reading takes, are together of bulk at most 1048576: NARROWER than '..Said'. Prove '..Said' where nothing that the law and all that it calls make is longer than what came in: it says more and counts as full. Else prove '..UptoSaid'. A law counts once. -/
mutual
def uptoBulk {H : Type} : DataW H → Nat
  | .lit (.string bytes) => bytes.length + 1
  | .lit _ => 1
  | .nil => 1
  | .ptr d => uptoBulk d + 1
  | .slice elems spare => uptoBulkAll elems + uptoBulkAll spare + 1
  | .agg parts => uptoBulkAll parts + 1
  | .iface _ d => uptoBulk d + 1
  | .map entries => uptoBulkEntries entries + 1
  | .held _ => 1
def uptoBulkAll {H : Type} : List (DataW H) → Nat
  | [] => 0
  | d :: r => uptoBulk d + uptoBulkAll r
def uptoBulkEntries {H : Type} : List (Lit × DataW H) → Nat
  | [] => 0
  | x :: r => uptoBulkEntry x + uptoBulkEntries r
def uptoBulkEntry {H : Type} : Lit × DataW H → Nat
  | (.string bytes, d) => bytes.length + uptoBulk d + 1
  | (_, d) => uptoBulk d + 1
 end
def uptoSmall : (H : Type) → List (DataW H) → Bool := fun _ ds => decide (uptoBulkAll ds ≤ 1048576)
def OpenSpec.upto (s : _root_.Go.ChangeSpec) : _root_.Go.OpenSpec := { _root_.Go.OpenSpec.ofChange s with cond := some uptoSmall }

/-- 'fretsawlaw09.SymmetryLinear', WHERE WHAT IT READS IS OF BULK AT MOST 1048576: true; the input reads as it did. -/
def symmetryLinearUptoRow : OpenClaim := { program := "ytocdjailjmmhaaa", sum := "3e45cfb7ca3cae8f3841c720fd400f6ecf07ea1312a1373a358be768cc25af84", func := "fretsaw/fretsawlaw09.SymmetryLinear", spec := "symmetryLinear", apart := false, narrowed := true }
def SymmetryLinearUptoSaid : Prop := symmetryLinearUptoRow.holds Try.pinned (OpenSpec.upto symmetryLinearSpec)

/-- 'fretsawlaw09.SymmetryThen', WHERE WHAT IT READS IS OF BULK AT MOST 1048576: true; the input reads as it did. -/
def symmetryThenUptoRow : OpenClaim := { program := "ytocdjailjmmhaaa", sum := "3e45cfb7ca3cae8f3841c720fd400f6ecf07ea1312a1373a358be768cc25af84", func := "fretsaw/fretsawlaw09.SymmetryThen", spec := "symmetryThen", apart := false, narrowed := true }
def SymmetryThenUptoSaid : Prop := symmetryThenUptoRow.holds Try.pinned (OpenSpec.upto symmetryThenSpec)

/-- 'fretsawlaw09.SymmetryGroup', WHERE WHAT IT READS IS OF BULK AT MOST 1048576: true; the input reads as it did. -/
def symmetryGroupUptoRow : OpenClaim := { program := "ytocdjailjmmhaaa", sum := "3e45cfb7ca3cae8f3841c720fd400f6ecf07ea1312a1373a358be768cc25af84", func := "fretsaw/fretsawlaw09.SymmetryGroup", spec := "symmetryGroup", apart := false, narrowed := true }
def SymmetryGroupUptoSaid : Prop := symmetryGroupUptoRow.holds Try.pinned (OpenSpec.upto symmetryGroupSpec)

/-- 'fretsawlaw09.SymmetryVec', WHERE WHAT IT READS IS OF BULK AT MOST 1048576: true; the input reads as it did. -/
def symmetryVecUptoRow : OpenClaim := { program := "ytocdjailjmmhaaa", sum := "3e45cfb7ca3cae8f3841c720fd400f6ecf07ea1312a1373a358be768cc25af84", func := "fretsaw/fretsawlaw09.SymmetryVec", spec := "symmetryVec", apart := false, narrowed := true }
def SymmetryVecUptoSaid : Prop := symmetryVecUptoRow.holds Try.pinned (OpenSpec.upto symmetryVecSpec)

end Rows
end Go.Proofs.Ytocdjailjmmhaaa
