/-
  No cell of these rows narrows 'for every input' (looked for: loops, veiled, ifaces, maps, wideKeys, modest, calm, conditions, laid).
  DERIVED. THE GIVEN ROWS OF THIS SEAT. 9 by the template 'for every input the law returns true; each argument reads behind the call as it read before'; 0 by the template 'total and deterministic' (their statements: YtgmlblmkcbcgaaaTotals.lean).
  GIVEN WITH THE SEED: the statements are not yours to turn. If you find one false, say at which input.
  Laid BY PROGRAM, IN A SANDBOX (cutbox-rows.mjs): the forced cells as the released guide's own fill.sh prints them over the translation 54537ff9c3e09f31… (all of the seat's roots in one cut). By AI agents, Wed Nov 11 2026. No macro, syntax, notation, axiom, sorry.
-/
import Derived.Test.YtgmlblmkcbcgaaaChecked
import GoSem.Claim
import GoSem.ClaimJoined
import GoSem.ClaimMapViews
import Derived.JoinedTies
import Derived.KernelRfl
namespace Go.Proofs.Ytgmlblmkcbcgaaa
/- THE CELL 'sum', in the pinned program and in every row, IS THE sha256 OF THE DUMP (.gsa) THAT YtgmlblmkcbcgaaaProg.lean LOADS. Nothing in Lean hashes anything: it is a label: what it is worth is what the hold of that sum in a sandbox is worth. -/
noncomputable def Try.pinned : Pinned := { name := "ytgmlblmkcbcgaaa", sum := "54537ff9c3e09f31547dc3c11acb269695b454f214974231ab903fa7eb56170f", checked := Try.checked }
namespace Rows
def none {H : Type} : Left H := { results := [], args := [] }

/-- 'fretsawlaw09.SymmetryRing': WHATEVER THE INPUT: true; the input reads as it did. -/
def symmetryRingSpec : ChangeSpec := { name := "symmetryRing", fn := fun _ => fun
  | [d1, d2] => { results := [.lit (.bool true)], args := [d1, d2] }
  | _ => none }
def symmetryRingRow : OpenClaim := { program := "ytgmlblmkcbcgaaa", sum := "54537ff9c3e09f31547dc3c11acb269695b454f214974231ab903fa7eb56170f", func := "fretsaw/fretsawlaw09.SymmetryRing", spec := "symmetryRing", unfollowed := true, recurses := true, apart := false }
def SymmetryRingSaid : Prop := symmetryRingRow.holds Try.pinned (OpenSpec.ofChange symmetryRingSpec)

/-- ITS FALSE NEIGHBOUR: 'it returns false'. Refute it at one input. -/
def symmetryRingWrong : ChangeSpec := { name := "symmetryRing", fn := fun _ => fun
  | [d1, d2] => { results := [.lit (.bool false)], args := [d1, d2] }
  | _ => none }
def SymmetryRingWrongFalsely : Prop := symmetryRingRow.holds Try.pinned (OpenSpec.ofChange symmetryRingWrong)

/-- 'fretsawlaw09.SymmetryPlaces': WHATEVER THE INPUT: true; the input reads as it did. -/
def symmetryPlacesSpec : ChangeSpec := { name := "symmetryPlaces", fn := fun _ => fun
  | [d1, d2, d3] => { results := [.lit (.bool true)], args := [d1, d2, d3] }
  | _ => none }
def symmetryPlacesRow : OpenClaim := { program := "ytgmlblmkcbcgaaa", sum := "54537ff9c3e09f31547dc3c11acb269695b454f214974231ab903fa7eb56170f", func := "fretsaw/fretsawlaw09.SymmetryPlaces", spec := "symmetryPlaces", unfollowed := true, recurses := true, apart := false }
def SymmetryPlacesSaid : Prop := symmetryPlacesRow.holds Try.pinned (OpenSpec.ofChange symmetryPlacesSpec)

/-- ITS FALSE NEIGHBOUR: 'it returns false'. Refute it at one input. -/
def symmetryPlacesWrong : ChangeSpec := { name := "symmetryPlaces", fn := fun _ => fun
  | [d1, d2, d3] => { results := [.lit (.bool false)], args := [d1, d2, d3] }
  | _ => none }
def SymmetryPlacesWrongFalsely : Prop := symmetryPlacesRow.holds Try.pinned (OpenSpec.ofChange symmetryPlacesWrong)

/-- 'fretsawlaw08.RingWhere': WHATEVER THE INPUT: true; the input reads as it did. -/
def ringWhereSpec : ChangeSpec := { name := "ringWhere", fn := fun _ => fun
  | [d1, d2, d3] => { results := [.lit (.bool true)], args := [d1, d2, d3] }
  | _ => none }
def ringWhereRow : OpenClaim := { program := "ytgmlblmkcbcgaaa", sum := "54537ff9c3e09f31547dc3c11acb269695b454f214974231ab903fa7eb56170f", func := "fretsaw/fretsawlaw08.RingWhere", spec := "ringWhere", unfollowed := true, recurses := true, apart := false }
def RingWhereSaid : Prop := ringWhereRow.holds Try.pinned (OpenSpec.ofChange ringWhereSpec)

/-- ITS FALSE NEIGHBOUR: 'it returns false'. Refute it at one input. -/
def ringWhereWrong : ChangeSpec := { name := "ringWhere", fn := fun _ => fun
  | [d1, d2, d3] => { results := [.lit (.bool false)], args := [d1, d2, d3] }
  | _ => none }
def RingWhereWrongFalsely : Prop := ringWhereRow.holds Try.pinned (OpenSpec.ofChange ringWhereWrong)

/-- 'fretsawlaw08.RingClean': WHATEVER THE INPUT: true; the input reads as it did. -/
def ringCleanSpec : ChangeSpec := { name := "ringClean", fn := fun _ => fun
  | [d] => { results := [.lit (.bool true)], args := [d] }
  | _ => none }
def ringCleanRow : OpenClaim := { program := "ytgmlblmkcbcgaaa", sum := "54537ff9c3e09f31547dc3c11acb269695b454f214974231ab903fa7eb56170f", func := "fretsaw/fretsawlaw08.RingClean", spec := "ringClean", unfollowed := true, recurses := true, apart := false }
def RingCleanSaid : Prop := ringCleanRow.holds Try.pinned (OpenSpec.ofChange ringCleanSpec)

/-- ITS FALSE NEIGHBOUR: 'it returns false'. Refute it at one input. -/
def ringCleanWrong : ChangeSpec := { name := "ringClean", fn := fun _ => fun
  | [d] => { results := [.lit (.bool false)], args := [d] }
  | _ => none }
def RingCleanWrongFalsely : Prop := ringCleanRow.holds Try.pinned (OpenSpec.ofChange ringCleanWrong)

/-- 'fretsawlaw08.RingPick': WHATEVER THE INPUT: true; the input reads as it did. -/
def ringPickSpec : ChangeSpec := { name := "ringPick", fn := fun _ => fun
  | [d] => { results := [.lit (.bool true)], args := [d] }
  | _ => none }
def ringPickRow : OpenClaim := { program := "ytgmlblmkcbcgaaa", sum := "54537ff9c3e09f31547dc3c11acb269695b454f214974231ab903fa7eb56170f", func := "fretsaw/fretsawlaw08.RingPick", spec := "ringPick", unfollowed := true, recurses := true, apart := false }
def RingPickSaid : Prop := ringPickRow.holds Try.pinned (OpenSpec.ofChange ringPickSpec)

/-- ITS FALSE NEIGHBOUR: 'it returns false'. Refute it at one input. -/
def ringPickWrong : ChangeSpec := { name := "ringPick", fn := fun _ => fun
  | [d] => { results := [.lit (.bool false)], args := [d] }
  | _ => none }
def RingPickWrongFalsely : Prop := ringPickRow.holds Try.pinned (OpenSpec.ofChange ringPickWrong)

/-- 'fretsawlaw08.RingPath': WHATEVER THE INPUT: true; the input reads as it did. -/
def ringPathSpec : ChangeSpec := { name := "ringPath", fn := fun _ => fun
  | [d1, d2, d3] => { results := [.lit (.bool true)], args := [d1, d2, d3] }
  | _ => none }
def ringPathRow : OpenClaim := { program := "ytgmlblmkcbcgaaa", sum := "54537ff9c3e09f31547dc3c11acb269695b454f214974231ab903fa7eb56170f", func := "fretsaw/fretsawlaw08.RingPath", spec := "ringPath", unfollowed := true, recurses := true, apart := false }
def RingPathSaid : Prop := ringPathRow.holds Try.pinned (OpenSpec.ofChange ringPathSpec)

/-- ITS FALSE NEIGHBOUR: 'it returns false'. Refute it at one input. -/
def ringPathWrong : ChangeSpec := { name := "ringPath", fn := fun _ => fun
  | [d1, d2, d3] => { results := [.lit (.bool false)], args := [d1, d2, d3] }
  | _ => none }
def RingPathWrongFalsely : Prop := ringPathRow.holds Try.pinned (OpenSpec.ofChange ringPathWrong)

/-- 'fretsawlaw08.RingConvex': WHATEVER THE INPUT: true; the input reads as it did. -/
def ringConvexSpec : ChangeSpec := { name := "ringConvex", fn := fun _ => fun
  | [d] => { results := [.lit (.bool true)], args := [d] }
  | _ => none }
def ringConvexRow : OpenClaim := { program := "ytgmlblmkcbcgaaa", sum := "54537ff9c3e09f31547dc3c11acb269695b454f214974231ab903fa7eb56170f", func := "fretsaw/fretsawlaw08.RingConvex", spec := "ringConvex", unfollowed := true, recurses := true, apart := false }
def RingConvexSaid : Prop := ringConvexRow.holds Try.pinned (OpenSpec.ofChange ringConvexSpec)

/-- ITS FALSE NEIGHBOUR: 'it returns false'. Refute it at one input. -/
def ringConvexWrong : ChangeSpec := { name := "ringConvex", fn := fun _ => fun
  | [d] => { results := [.lit (.bool false)], args := [d] }
  | _ => none }
def RingConvexWrongFalsely : Prop := ringConvexRow.holds Try.pinned (OpenSpec.ofChange ringConvexWrong)

/-- 'fretsawlaw08.RingStart': WHATEVER THE INPUT: true; the input reads as it did. -/
def ringStartSpec : ChangeSpec := { name := "ringStart", fn := fun _ => fun
  | [d1, d2, d3] => { results := [.lit (.bool true)], args := [d1, d2, d3] }
  | _ => none }
def ringStartRow : OpenClaim := { program := "ytgmlblmkcbcgaaa", sum := "54537ff9c3e09f31547dc3c11acb269695b454f214974231ab903fa7eb56170f", func := "fretsaw/fretsawlaw08.RingStart", spec := "ringStart", unfollowed := true, recurses := true, apart := false }
def RingStartSaid : Prop := ringStartRow.holds Try.pinned (OpenSpec.ofChange ringStartSpec)

/-- ITS FALSE NEIGHBOUR: 'it returns false'. Refute it at one input. -/
def ringStartWrong : ChangeSpec := { name := "ringStart", fn := fun _ => fun
  | [d1, d2, d3] => { results := [.lit (.bool false)], args := [d1, d2, d3] }
  | _ => none }
def RingStartWrongFalsely : Prop := ringStartRow.holds Try.pinned (OpenSpec.ofChange ringStartWrong)

/-- 'fretsawlaw08.RingMove': WHATEVER THE INPUT: true; the input reads as it did. -/
def ringMoveSpec : ChangeSpec := { name := "ringMove", fn := fun _ => fun
  | [d1, d2, d3] => { results := [.lit (.bool true)], args := [d1, d2, d3] }
  | _ => none }
def ringMoveRow : OpenClaim := { program := "ytgmlblmkcbcgaaa", sum := "54537ff9c3e09f31547dc3c11acb269695b454f214974231ab903fa7eb56170f", func := "fretsaw/fretsawlaw08.RingMove", spec := "ringMove", unfollowed := true, recurses := true, apart := false }
def RingMoveSaid : Prop := ringMoveRow.holds Try.pinned (OpenSpec.ofChange ringMoveSpec)

/-- ITS FALSE NEIGHBOUR: 'it returns false'. Refute it at one input. -/
def ringMoveWrong : ChangeSpec := { name := "ringMove", fn := fun _ => fun
  | [d1, d2, d3] => { results := [.lit (.bool false)], args := [d1, d2, d3] }
  | _ => none }
def RingMoveWrongFalsely : Prop := ringMoveRow.holds Try.pinned (OpenSpec.ofChange ringMoveWrong)

/- THE SECOND FORM. 'bulk': how many values and letters a reading holds, each counted each time it is reached (what is shared counts as often as it is met; a slice's spare places count too). A statement '..UptoSaid' is the law's where the arguments, and the package variables that the reading takes, are together of bulk at most 1048576: NARROWER than '..Said'. Prove '..Said' where nothing that the law and all that it calls make is longer than what came in: it says more and counts as full. Else prove '..UptoSaid'. A law counts once. -/
mutual
def uptoBulk {H : Type} : DataW H → Nat
  | .lit (.string bytes) => bytes.length + 1
  | .lit _ => 1
  | .nil => 1
  | .ptr d => uptoBulk d + 1
  | .slice elems spare => uptoBulkAll elems + uptoBulkAll spare + 1
  | .agg parts => uptoBulkAll parts + 1
  | .iface _ d => uptoBulk d + 1
  | .map entries => uptoBulkEntries entries + 1
  | .held _ => 1
def uptoBulkAll {H : Type} : List (DataW H) → Nat
  | [] => 0
  | d :: r => uptoBulk d + uptoBulkAll r
def uptoBulkEntries {H : Type} : List (Lit × DataW H) → Nat
  | [] => 0
  | x :: r => uptoBulkEntry x + uptoBulkEntries r
def uptoBulkEntry {H : Type} : Lit × DataW H → Nat
  | (.string bytes, d) => bytes.length + uptoBulk d + 1
  | (_, d) => uptoBulk d + 1
 end
def uptoSmall : (H : Type) → List (DataW H) → Bool := fun _ ds => decide (uptoBulkAll ds ≤ 1048576)
def OpenSpec.upto (s : _root_.Go.ChangeSpec) : _root_.Go.OpenSpec := { _root_.Go.OpenSpec.ofChange s with cond := some uptoSmall }

/-- 'fretsawlaw09.SymmetryRing', WHERE WHAT IT READS IS OF BULK AT MOST 1048576: true; the input reads as it did. -/
def symmetryRingUptoRow : OpenClaim := { program := "ytgmlblmkcbcgaaa", sum := "54537ff9c3e09f31547dc3c11acb269695b454f214974231ab903fa7eb56170f", func := "fretsaw/fretsawlaw09.SymmetryRing", spec := "symmetryRing", unfollowed := true, recurses := true, apart := false, narrowed := true }
def SymmetryRingUptoSaid : Prop := symmetryRingUptoRow.holds Try.pinned (OpenSpec.upto symmetryRingSpec)

/-- 'fretsawlaw09.SymmetryPlaces', WHERE WHAT IT READS IS OF BULK AT MOST 1048576: true; the input reads as it did. -/
def symmetryPlacesUptoRow : OpenClaim := { program := "ytgmlblmkcbcgaaa", sum := "54537ff9c3e09f31547dc3c11acb269695b454f214974231ab903fa7eb56170f", func := "fretsaw/fretsawlaw09.SymmetryPlaces", spec := "symmetryPlaces", unfollowed := true, recurses := true, apart := false, narrowed := true }
def SymmetryPlacesUptoSaid : Prop := symmetryPlacesUptoRow.holds Try.pinned (OpenSpec.upto symmetryPlacesSpec)

/-- 'fretsawlaw08.RingWhere', WHERE WHAT IT READS IS OF BULK AT MOST 1048576: true; the input reads as it did. -/
def ringWhereUptoRow : OpenClaim := { program := "ytgmlblmkcbcgaaa", sum := "54537ff9c3e09f31547dc3c11acb269695b454f214974231ab903fa7eb56170f", func := "fretsaw/fretsawlaw08.RingWhere", spec := "ringWhere", unfollowed := true, recurses := true, apart := false, narrowed := true }
def RingWhereUptoSaid : Prop := ringWhereUptoRow.holds Try.pinned (OpenSpec.upto ringWhereSpec)

/-- 'fretsawlaw08.RingClean', WHERE WHAT IT READS IS OF BULK AT MOST 1048576: true; the input reads as it did. -/
def ringCleanUptoRow : OpenClaim := { program := "ytgmlblmkcbcgaaa", sum := "54537ff9c3e09f31547dc3c11acb269695b454f214974231ab903fa7eb56170f", func := "fretsaw/fretsawlaw08.RingClean", spec := "ringClean", unfollowed := true, recurses := true, apart := false, narrowed := true }
def RingCleanUptoSaid : Prop := ringCleanUptoRow.holds Try.pinned (OpenSpec.upto ringCleanSpec)

/-- 'fretsawlaw08.RingPick', WHERE WHAT IT READS IS OF BULK AT MOST 1048576: true; the input reads as it did. -/
def ringPickUptoRow : OpenClaim := { program := "ytgmlblmkcbcgaaa", sum := "54537ff9c3e09f31547dc3c11acb269695b454f214974231ab903fa7eb56170f", func := "fretsaw/fretsawlaw08.RingPick", spec := "ringPick", unfollowed := true, recurses := true, apart := false, narrowed := true }
def RingPickUptoSaid : Prop := ringPickUptoRow.holds Try.pinned (OpenSpec.upto ringPickSpec)

/-- 'fretsawlaw08.RingPath', WHERE WHAT IT READS IS OF BULK AT MOST 1048576: true; the input reads as it did. -/
def ringPathUptoRow : OpenClaim := { program := "ytgmlblmkcbcgaaa", sum := "54537ff9c3e09f31547dc3c11acb269695b454f214974231ab903fa7eb56170f", func := "fretsaw/fretsawlaw08.RingPath", spec := "ringPath", unfollowed := true, recurses := true, apart := false, narrowed := true }
def RingPathUptoSaid : Prop := ringPathUptoRow.holds Try.pinned (OpenSpec.upto ringPathSpec)

/-- 'fretsawlaw08.RingConvex', WHERE WHAT IT READS IS OF BULK AT MOST 1048576: true; the input reads as it did. -/
def ringConvexUptoRow : OpenClaim := { program := "ytgmlblmkcbcgaaa", sum := "54537ff9c3e09f31547dc3c11acb269695b454f214974231ab903fa7eb56170f", func := "fretsaw/fretsawlaw08.RingConvex", spec := "ringConvex", unfollowed := true, recurses := true, apart := false, narrowed := true }
def RingConvexUptoSaid : Prop := ringConvexUptoRow.holds Try.pinned (OpenSpec.upto ringConvexSpec)

/-- 'fretsawlaw08.RingStart', WHERE WHAT IT READS IS OF BULK AT MOST 1048576: true; the input reads as it did. -/
def ringStartUptoRow : OpenClaim := { program := "ytgmlblmkcbcgaaa", sum := "54537ff9c3e09f31547dc3c11acb269695b454f214974231ab903fa7eb56170f", func := "fretsaw/fretsawlaw08.RingStart", spec := "ringStart", unfollowed := true, recurses := true, apart := false, narrowed := true }
def RingStartUptoSaid : Prop := ringStartUptoRow.holds Try.pinned (OpenSpec.upto ringStartSpec)

/-- 'fretsawlaw08.RingMove', WHERE WHAT IT READS IS OF BULK AT MOST 1048576: true; the input reads as it did. -/
def ringMoveUptoRow : OpenClaim := { program := "ytgmlblmkcbcgaaa", sum := "54537ff9c3e09f31547dc3c11acb269695b454f214974231ab903fa7eb56170f", func := "fretsaw/fretsawlaw08.RingMove", spec := "ringMove", unfollowed := true, recurses := true, apart := false, narrowed := true }
def RingMoveUptoSaid : Prop := ringMoveUptoRow.holds Try.pinned (OpenSpec.upto ringMoveSpec)

end Rows
end Go.Proofs.Ytgmlblmkcbcgaaa
