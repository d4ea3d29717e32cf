/-
  No cell of these rows narrows 'for every input' (looked for: loops, veiled, ifaces, maps, wideKeys, modest, calm, conditions, laid).
  DERIVED. THE GIVEN ROWS OF THIS SEAT. 3 by the template 'for every input the law returns true; each argument reads behind the call as it read before'; 0 by the template 'total and deterministic' (their statements: YtobmlkopbmakcaaGreatTotals.lean).
  GIVEN WITH THE SEED: the statements are not yours to turn. If you find one false, say at which input.
  Laid BY PROGRAM, IN A SANDBOX (cutbox-rows.mjs): the forced cells as the released guide's own fill.sh prints them over the translation e6985a41f67feb3e… (all of the seat's roots in one cut). By AI agents, Wed Nov 11 2026. No macro, syntax, notation, axiom, sorry.
-/
import Derived.Test.YtobmlkopbmakcaaGreatChecked
import GoSem.Claim
import GoSem.ClaimJoined
import GoSem.ClaimMapViews
import Derived.JoinedTies
import Derived.KernelRfl
namespace Go.Proofs.YtobmlkopbmakcaaGreat
/- THE CELL 'sum', in the pinned program and in every row, IS THE sha256 OF THE DUMP (.gsa) THAT YtobmlkopbmakcaaGreatProg.lean LOADS. Nothing in Lean hashes anything: it is a label: what it is worth is what the hold of that sum in a sandbox is worth. -/
noncomputable def Tryz.pinned : Pinned := { name := "ytobmlkopbmakcaagreat", sum := "e6985a41f67feb3e5844562c0593f0a7421598247849474aaa24c98af56eb784", checked := Tryz.checked }
namespace Rows
def none {H : Type} : Left H := { results := [], args := [] }

/-- 'fretsawtop.TopRow': WHATEVER THE INPUT: true; the input reads as it did. -/
def topRowSpec : ChangeSpec := { name := "topRow", fn := fun _ => fun
  | [d1, d2] => { results := [.lit (.bool true)], args := [d1, d2] }
  | _ => none }
def topRowRow : OpenClaim := { program := "ytobmlkopbmakcaagreat", sum := "e6985a41f67feb3e5844562c0593f0a7421598247849474aaa24c98af56eb784", func := "fretsaw/fretsawtop.TopRow", spec := "topRow", unfollowed := true, recurses := true, plainKeys := false, apart := false }
def TopRowSaid : Prop := topRowRow.holds Tryz.pinned (OpenSpec.ofChange topRowSpec)

/-- ITS FALSE NEIGHBOUR: 'it returns false'. Refute it at one input. -/
def topRowWrong : ChangeSpec := { name := "topRow", fn := fun _ => fun
  | [d1, d2] => { results := [.lit (.bool false)], args := [d1, d2] }
  | _ => none }
def TopRowWrongFalsely : Prop := topRowRow.holds Tryz.pinned (OpenSpec.ofChange topRowWrong)

/-- 'fretsawtop.TopInnerFit': WHATEVER THE INPUT: true; the input reads as it did. -/
def topInnerFitSpec : ChangeSpec := { name := "topInnerFit", fn := fun _ => fun
  | [d1, d2] => { results := [.lit (.bool true)], args := [d1, d2] }
  | _ => none }
def topInnerFitRow : OpenClaim := { program := "ytobmlkopbmakcaagreat", sum := "e6985a41f67feb3e5844562c0593f0a7421598247849474aaa24c98af56eb784", func := "fretsaw/fretsawtop.TopInnerFit", spec := "topInnerFit", unfollowed := true, recurses := true, plainKeys := false, apart := false }
def TopInnerFitSaid : Prop := topInnerFitRow.holds Tryz.pinned (OpenSpec.ofChange topInnerFitSpec)

/-- ITS FALSE NEIGHBOUR: 'it returns false'. Refute it at one input. -/
def topInnerFitWrong : ChangeSpec := { name := "topInnerFit", fn := fun _ => fun
  | [d1, d2] => { results := [.lit (.bool false)], args := [d1, d2] }
  | _ => none }
def TopInnerFitWrongFalsely : Prop := topInnerFitRow.holds Tryz.pinned (OpenSpec.ofChange topInnerFitWrong)

/-- 'fretsawtop.TopClearance': WHATEVER THE INPUT: true; the input reads as it did. -/
def topClearanceSpec : ChangeSpec := { name := "topClearance", fn := fun _ => fun
  | [d1, d2, d3] => { results := [.lit (.bool true)], args := [d1, d2, d3] }
  | _ => none }
def topClearanceRow : OpenClaim := { program := "ytobmlkopbmakcaagreat", sum := "e6985a41f67feb3e5844562c0593f0a7421598247849474aaa24c98af56eb784", func := "fretsaw/fretsawtop.TopClearance", spec := "topClearance", unfollowed := true, recurses := true, plainKeys := false, apart := false }
def TopClearanceSaid : Prop := topClearanceRow.holds Tryz.pinned (OpenSpec.ofChange topClearanceSpec)

/-- ITS FALSE NEIGHBOUR: 'it returns false'. Refute it at one input. -/
def topClearanceWrong : ChangeSpec := { name := "topClearance", fn := fun _ => fun
  | [d1, d2, d3] => { results := [.lit (.bool false)], args := [d1, d2, d3] }
  | _ => none }
def TopClearanceWrongFalsely : Prop := topClearanceRow.holds Tryz.pinned (OpenSpec.ofChange topClearanceWrong)

/- THE SECOND FORM. 'bulk': how many values and letters a reading holds, each counted each time it is reached (what is shared counts as often as it is met; a slice's spare places count too). A statement '..UptoSaid' is the law's where the arguments, and the package variables that the reading takes, are together of bulk at most 1048576: NARROWER than '..Said'. Prove '..Said' where nothing that the law and all that it calls make is longer than what came in: it says more and counts as full. Else prove '..UptoSaid'. A law counts once. -/
mutual
def uptoBulk {H : Type} : DataW H → Nat
  | .lit (.string bytes) => bytes.length + 1
  | .lit _ => 1
  | .nil => 1
  | .ptr d => uptoBulk d + 1
  | .slice elems spare => uptoBulkAll elems + uptoBulkAll spare + 1
  | .agg parts => uptoBulkAll parts + 1
  | .iface _ d => uptoBulk d + 1
  | .map entries => uptoBulkEntries entries + 1
  | .held _ => 1
def uptoBulkAll {H : Type} : List (DataW H) → Nat
  | [] => 0
  | d :: r => uptoBulk d + uptoBulkAll r
def uptoBulkEntries {H : Type} : List (Lit × DataW H) → Nat
  | [] => 0
  | x :: r => uptoBulkEntry x + uptoBulkEntries r
def uptoBulkEntry {H : Type} : Lit × DataW H → Nat
  | (.string bytes, d) => bytes.length + uptoBulk d + 1
  | (_, d) => uptoBulk d + 1
 end
def uptoSmall : (H : Type) → List (DataW H) → Bool := fun _ ds => decide (uptoBulkAll ds ≤ 1048576)
def OpenSpec.upto (s : _root_.Go.ChangeSpec) : _root_.Go.OpenSpec := { _root_.Go.OpenSpec.ofChange s with cond := some uptoSmall }

/-- 'fretsawtop.TopRow', WHERE WHAT IT READS IS OF BULK AT MOST 1048576: true; the input reads as it did. -/
def topRowUptoRow : OpenClaim := { program := "ytobmlkopbmakcaagreat", sum := "e6985a41f67feb3e5844562c0593f0a7421598247849474aaa24c98af56eb784", func := "fretsaw/fretsawtop.TopRow", spec := "topRow", unfollowed := true, recurses := true, plainKeys := false, apart := false, narrowed := true }
def TopRowUptoSaid : Prop := topRowUptoRow.holds Tryz.pinned (OpenSpec.upto topRowSpec)

/-- 'fretsawtop.TopInnerFit', WHERE WHAT IT READS IS OF BULK AT MOST 1048576: true; the input reads as it did. -/
def topInnerFitUptoRow : OpenClaim := { program := "ytobmlkopbmakcaagreat", sum := "e6985a41f67feb3e5844562c0593f0a7421598247849474aaa24c98af56eb784", func := "fretsaw/fretsawtop.TopInnerFit", spec := "topInnerFit", unfollowed := true, recurses := true, plainKeys := false, apart := false, narrowed := true }
def TopInnerFitUptoSaid : Prop := topInnerFitUptoRow.holds Tryz.pinned (OpenSpec.upto topInnerFitSpec)

/-- 'fretsawtop.TopClearance', WHERE WHAT IT READS IS OF BULK AT MOST 1048576: true; the input reads as it did. -/
def topClearanceUptoRow : OpenClaim := { program := "ytobmlkopbmakcaagreat", sum := "e6985a41f67feb3e5844562c0593f0a7421598247849474aaa24c98af56eb784", func := "fretsaw/fretsawtop.TopClearance", spec := "topClearance", unfollowed := true, recurses := true, plainKeys := false, apart := false, narrowed := true }
def TopClearanceUptoSaid : Prop := topClearanceUptoRow.holds Tryz.pinned (OpenSpec.upto topClearanceSpec)

end Rows
end Go.Proofs.YtobmlkopbmakcaaGreat
