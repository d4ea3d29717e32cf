/-
  No cell of these rows narrows 'for every input' (looked for: loops, veiled, ifaces, maps, wideKeys, modest, calm, conditions, laid).
  DERIVED. THE GIVEN ROWS OF THIS SEAT. 12 by the template 'for every input the law returns true; each argument reads behind the call as it read before'; 0 by the template 'total and deterministic' (their statements: YtamlpihmfedkkaaTotals.lean).
  GIVEN WITH THE SEED: the statements are not yours to turn. If you find one false, say at which input.
  Laid BY PROGRAM, IN A SANDBOX (cutbox-rows.mjs): the forced cells as the released guide's own fill.sh prints them over the translation 0256729ca6719752… (all of the seat's roots in one cut). By AI agents, Wed Nov 11 2026. No macro, syntax, notation, axiom, sorry.
-/
import Derived.Test.YtamlpihmfedkkaaChecked
import GoSem.Claim
import GoSem.ClaimJoined
import GoSem.ClaimMapViews
import Derived.JoinedTies
import Derived.KernelRfl
namespace Go.Proofs.Ytamlpihmfedkkaa
/- THE CELL 'sum', in the pinned program and in every row, IS THE sha256 OF THE DUMP (.gsa) THAT YtamlpihmfedkkaaProg.lean LOADS. Nothing in Lean hashes anything: it is a label: what it is worth is what the hold of that sum in a sandbox is worth. -/
noncomputable def Try.pinned : Pinned := { name := "ytamlpihmfedkkaa", sum := "0256729ca67197528808d1132a56e3ef705febf749790d9068b2c7b951101794", checked := Try.checked }
namespace Rows
def none {H : Type} : Left H := { results := [], args := [] }

/-- 'fretsawlaw47.SequenceDepends': WHATEVER THE INPUT: true; the input reads as it did. -/
def sequenceDependsSpec : ChangeSpec := { name := "sequenceDepends", fn := fun _ => fun
  | [d] => { results := [.lit (.bool true)], args := [d] }
  | _ => none }
def sequenceDependsRow : OpenClaim := { program := "ytamlpihmfedkkaa", sum := "0256729ca67197528808d1132a56e3ef705febf749790d9068b2c7b951101794", func := "fretsaw/fretsawlaw47.SequenceDepends", spec := "sequenceDepends", unfollowed := true, recurses := true, apart := false }
def SequenceDependsSaid : Prop := sequenceDependsRow.holds Try.pinned (OpenSpec.ofChange sequenceDependsSpec)

/-- ITS FALSE NEIGHBOUR: 'it returns false'. Refute it at one input. -/
def sequenceDependsWrong : ChangeSpec := { name := "sequenceDepends", fn := fun _ => fun
  | [d] => { results := [.lit (.bool false)], args := [d] }
  | _ => none }
def SequenceDependsWrongFalsely : Prop := sequenceDependsRow.holds Try.pinned (OpenSpec.ofChange sequenceDependsWrong)

/-- 'fretsawlaw47.SequenceOrder': WHATEVER THE INPUT: true; the input reads as it did. -/
def sequenceOrderSpec : ChangeSpec := { name := "sequenceOrder", fn := fun _ => fun
  | [d1, d2, d3] => { results := [.lit (.bool true)], args := [d1, d2, d3] }
  | _ => none }
def sequenceOrderRow : OpenClaim := { program := "ytamlpihmfedkkaa", sum := "0256729ca67197528808d1132a56e3ef705febf749790d9068b2c7b951101794", func := "fretsaw/fretsawlaw47.SequenceOrder", spec := "sequenceOrder", unfollowed := true, recurses := true, apart := false }
def SequenceOrderSaid : Prop := sequenceOrderRow.holds Try.pinned (OpenSpec.ofChange sequenceOrderSpec)

/-- ITS FALSE NEIGHBOUR: 'it returns false'. Refute it at one input. -/
def sequenceOrderWrong : ChangeSpec := { name := "sequenceOrder", fn := fun _ => fun
  | [d1, d2, d3] => { results := [.lit (.bool false)], args := [d1, d2, d3] }
  | _ => none }
def SequenceOrderWrongFalsely : Prop := sequenceOrderRow.holds Try.pinned (OpenSpec.ofChange sequenceOrderWrong)

/-- 'fretsawlaw47.SequenceAcyclic': WHATEVER THE INPUT: true; the input reads as it did. -/
def sequenceAcyclicSpec : ChangeSpec := { name := "sequenceAcyclic", fn := fun _ => fun
  | [d] => { results := [.lit (.bool true)], args := [d] }
  | _ => none }
def sequenceAcyclicRow : OpenClaim := { program := "ytamlpihmfedkkaa", sum := "0256729ca67197528808d1132a56e3ef705febf749790d9068b2c7b951101794", func := "fretsaw/fretsawlaw47.SequenceAcyclic", spec := "sequenceAcyclic", unfollowed := true, recurses := true, apart := false }
def SequenceAcyclicSaid : Prop := sequenceAcyclicRow.holds Try.pinned (OpenSpec.ofChange sequenceAcyclicSpec)

/-- ITS FALSE NEIGHBOUR: 'it returns false'. Refute it at one input. -/
def sequenceAcyclicWrong : ChangeSpec := { name := "sequenceAcyclic", fn := fun _ => fun
  | [d] => { results := [.lit (.bool false)], args := [d] }
  | _ => none }
def SequenceAcyclicWrongFalsely : Prop := sequenceAcyclicRow.holds Try.pinned (OpenSpec.ofChange sequenceAcyclicWrong)

/-- 'fretsawlaw47.SequenceMoved': WHATEVER THE INPUT: true; the input reads as it did. -/
def sequenceMovedSpec : ChangeSpec := { name := "sequenceMoved", fn := fun _ => fun
  | [d1, d2, d3] => { results := [.lit (.bool true)], args := [d1, d2, d3] }
  | _ => none }
def sequenceMovedRow : OpenClaim := { program := "ytamlpihmfedkkaa", sum := "0256729ca67197528808d1132a56e3ef705febf749790d9068b2c7b951101794", func := "fretsaw/fretsawlaw47.SequenceMoved", spec := "sequenceMoved", unfollowed := true, recurses := true, apart := false }
def SequenceMovedSaid : Prop := sequenceMovedRow.holds Try.pinned (OpenSpec.ofChange sequenceMovedSpec)

/-- ITS FALSE NEIGHBOUR: 'it returns false'. Refute it at one input. -/
def sequenceMovedWrong : ChangeSpec := { name := "sequenceMoved", fn := fun _ => fun
  | [d1, d2, d3] => { results := [.lit (.bool false)], args := [d1, d2, d3] }
  | _ => none }
def SequenceMovedWrongFalsely : Prop := sequenceMovedRow.holds Try.pinned (OpenSpec.ofChange sequenceMovedWrong)

/-- 'fretsawlaw47.SequenceCheck': WHATEVER THE INPUT: true; the input reads as it did. -/
def sequenceCheckSpec : ChangeSpec := { name := "sequenceCheck", fn := fun _ => fun
  | [d1, d2] => { results := [.lit (.bool true)], args := [d1, d2] }
  | _ => none }
def sequenceCheckRow : OpenClaim := { program := "ytamlpihmfedkkaa", sum := "0256729ca67197528808d1132a56e3ef705febf749790d9068b2c7b951101794", func := "fretsaw/fretsawlaw47.SequenceCheck", spec := "sequenceCheck", unfollowed := true, recurses := true, apart := false }
def SequenceCheckSaid : Prop := sequenceCheckRow.holds Try.pinned (OpenSpec.ofChange sequenceCheckSpec)

/-- ITS FALSE NEIGHBOUR: 'it returns false'. Refute it at one input. -/
def sequenceCheckWrong : ChangeSpec := { name := "sequenceCheck", fn := fun _ => fun
  | [d1, d2] => { results := [.lit (.bool false)], args := [d1, d2] }
  | _ => none }
def SequenceCheckWrongFalsely : Prop := sequenceCheckRow.holds Try.pinned (OpenSpec.ofChange sequenceCheckWrong)

/-- 'fretsawlaw47.SequenceHeat': WHATEVER THE INPUT: true; the input reads as it did. -/
def sequenceHeatSpec : ChangeSpec := { name := "sequenceHeat", fn := fun _ => fun
  | [d1, d2, d3] => { results := [.lit (.bool true)], args := [d1, d2, d3] }
  | _ => none }
def sequenceHeatRow : OpenClaim := { program := "ytamlpihmfedkkaa", sum := "0256729ca67197528808d1132a56e3ef705febf749790d9068b2c7b951101794", func := "fretsaw/fretsawlaw47.SequenceHeat", spec := "sequenceHeat", unfollowed := true, recurses := true, apart := false }
def SequenceHeatSaid : Prop := sequenceHeatRow.holds Try.pinned (OpenSpec.ofChange sequenceHeatSpec)

/-- ITS FALSE NEIGHBOUR: 'it returns false'. Refute it at one input. -/
def sequenceHeatWrong : ChangeSpec := { name := "sequenceHeat", fn := fun _ => fun
  | [d1, d2, d3] => { results := [.lit (.bool false)], args := [d1, d2, d3] }
  | _ => none }
def SequenceHeatWrongFalsely : Prop := sequenceHeatRow.holds Try.pinned (OpenSpec.ofChange sequenceHeatWrong)

/-- 'fretsawlaw09.SymmetryRing': WHATEVER THE INPUT: true; the input reads as it did. -/
def symmetryRingSpec : ChangeSpec := { name := "symmetryRing", fn := fun _ => fun
  | [d1, d2] => { results := [.lit (.bool true)], args := [d1, d2] }
  | _ => none }
def symmetryRingRow : OpenClaim := { program := "ytamlpihmfedkkaa", sum := "0256729ca67197528808d1132a56e3ef705febf749790d9068b2c7b951101794", func := "fretsaw/fretsawlaw09.SymmetryRing", spec := "symmetryRing", unfollowed := true, recurses := true, apart := false }
def SymmetryRingSaid : Prop := symmetryRingRow.holds Try.pinned (OpenSpec.ofChange symmetryRingSpec)

/-- ITS FALSE NEIGHBOUR: 'it returns false'. Refute it at one input. -/
def symmetryRingWrong : ChangeSpec := { name := "symmetryRing", fn := fun _ => fun
  | [d1, d2] => { results := [.lit (.bool false)], args := [d1, d2] }
  | _ => none }
def SymmetryRingWrongFalsely : Prop := symmetryRingRow.holds Try.pinned (OpenSpec.ofChange symmetryRingWrong)

/-- 'fretsawlaw09.SymmetryPlaces': WHATEVER THE INPUT: true; the input reads as it did. -/
def symmetryPlacesSpec : ChangeSpec := { name := "symmetryPlaces", fn := fun _ => fun
  | [d1, d2, d3] => { results := [.lit (.bool true)], args := [d1, d2, d3] }
  | _ => none }
def symmetryPlacesRow : OpenClaim := { program := "ytamlpihmfedkkaa", sum := "0256729ca67197528808d1132a56e3ef705febf749790d9068b2c7b951101794", func := "fretsaw/fretsawlaw09.SymmetryPlaces", spec := "symmetryPlaces", unfollowed := true, recurses := true, apart := false }
def SymmetryPlacesSaid : Prop := symmetryPlacesRow.holds Try.pinned (OpenSpec.ofChange symmetryPlacesSpec)

/-- ITS FALSE NEIGHBOUR: 'it returns false'. Refute it at one input. -/
def symmetryPlacesWrong : ChangeSpec := { name := "symmetryPlaces", fn := fun _ => fun
  | [d1, d2, d3] => { results := [.lit (.bool false)], args := [d1, d2, d3] }
  | _ => none }
def SymmetryPlacesWrongFalsely : Prop := symmetryPlacesRow.holds Try.pinned (OpenSpec.ofChange symmetryPlacesWrong)

/-- 'fretsawlaw08.RingStart': WHATEVER THE INPUT: true; the input reads as it did. -/
def ringStartSpec : ChangeSpec := { name := "ringStart", fn := fun _ => fun
  | [d1, d2, d3] => { results := [.lit (.bool true)], args := [d1, d2, d3] }
  | _ => none }
def ringStartRow : OpenClaim := { program := "ytamlpihmfedkkaa", sum := "0256729ca67197528808d1132a56e3ef705febf749790d9068b2c7b951101794", func := "fretsaw/fretsawlaw08.RingStart", spec := "ringStart", unfollowed := true, recurses := true, apart := false }
def RingStartSaid : Prop := ringStartRow.holds Try.pinned (OpenSpec.ofChange ringStartSpec)

/-- ITS FALSE NEIGHBOUR: 'it returns false'. Refute it at one input. -/
def ringStartWrong : ChangeSpec := { name := "ringStart", fn := fun _ => fun
  | [d1, d2, d3] => { results := [.lit (.bool false)], args := [d1, d2, d3] }
  | _ => none }
def RingStartWrongFalsely : Prop := ringStartRow.holds Try.pinned (OpenSpec.ofChange ringStartWrong)

/-- 'fretsawlaw08.RingPath': WHATEVER THE INPUT: true; the input reads as it did. -/
def ringPathSpec : ChangeSpec := { name := "ringPath", fn := fun _ => fun
  | [d1, d2, d3] => { results := [.lit (.bool true)], args := [d1, d2, d3] }
  | _ => none }
def ringPathRow : OpenClaim := { program := "ytamlpihmfedkkaa", sum := "0256729ca67197528808d1132a56e3ef705febf749790d9068b2c7b951101794", func := "fretsaw/fretsawlaw08.RingPath", spec := "ringPath", unfollowed := true, recurses := true, apart := false }
def RingPathSaid : Prop := ringPathRow.holds Try.pinned (OpenSpec.ofChange ringPathSpec)

/-- ITS FALSE NEIGHBOUR: 'it returns false'. Refute it at one input. -/
def ringPathWrong : ChangeSpec := { name := "ringPath", fn := fun _ => fun
  | [d1, d2, d3] => { results := [.lit (.bool false)], args := [d1, d2, d3] }
  | _ => none }
def RingPathWrongFalsely : Prop := ringPathRow.holds Try.pinned (OpenSpec.ofChange ringPathWrong)

/-- 'fretsawlaw08.RingConvex': WHATEVER THE INPUT: true; the input reads as it did. -/
def ringConvexSpec : ChangeSpec := { name := "ringConvex", fn := fun _ => fun
  | [d] => { results := [.lit (.bool true)], args := [d] }
  | _ => none }
def ringConvexRow : OpenClaim := { program := "ytamlpihmfedkkaa", sum := "0256729ca67197528808d1132a56e3ef705febf749790d9068b2c7b951101794", func := "fretsaw/fretsawlaw08.RingConvex", spec := "ringConvex", unfollowed := true, recurses := true, apart := false }
def RingConvexSaid : Prop := ringConvexRow.holds Try.pinned (OpenSpec.ofChange ringConvexSpec)

/-- ITS FALSE NEIGHBOUR: 'it returns false'. Refute it at one input. -/
def ringConvexWrong : ChangeSpec := { name := "ringConvex", fn := fun _ => fun
  | [d] => { results := [.lit (.bool false)], args := [d] }
  | _ => none }
def RingConvexWrongFalsely : Prop := ringConvexRow.holds Try.pinned (OpenSpec.ofChange ringConvexWrong)

/-- 'fretsawlaw08.RingPick': WHATEVER THE INPUT: true; the input reads as it did. -/
def ringPickSpec : ChangeSpec := { name := "ringPick", fn := fun _ => fun
  | [d] => { results := [.lit (.bool true)], args := [d] }
  | _ => none }
def ringPickRow : OpenClaim := { program := "ytamlpihmfedkkaa", sum := "0256729ca67197528808d1132a56e3ef705febf749790d9068b2c7b951101794", func := "fretsaw/fretsawlaw08.RingPick", spec := "ringPick", unfollowed := true, recurses := true, apart := false }
def RingPickSaid : Prop := ringPickRow.holds Try.pinned (OpenSpec.ofChange ringPickSpec)

/-- ITS FALSE NEIGHBOUR: 'it returns false'. Refute it at one input. -/
def ringPickWrong : ChangeSpec := { name := "ringPick", fn := fun _ => fun
  | [d] => { results := [.lit (.bool false)], args := [d] }
  | _ => none }
def RingPickWrongFalsely : Prop := ringPickRow.holds Try.pinned (OpenSpec.ofChange ringPickWrong)

/- THE SECOND FORM. 'bulk': how many values and letters a reading holds, each counted each time it is reached (what is shared counts as often as it is met; a slice's spare places count too). A statement '..UptoSaid' is the law's where the arguments, and the package variables that the reading takes, are together of bulk at most 1048576: NARROWER than '..Said'. Prove '..Said' where nothing that the law and all that it calls make is longer than what came in: it says more and counts as full. Else prove '..UptoSaid'. A law counts once. -/
mutual
def uptoBulk {H : Type} : DataW H → Nat
  | .lit (.string bytes) => bytes.length + 1
  | .lit _ => 1
  | .nil => 1
  | .ptr d => uptoBulk d + 1
  | .slice elems spare => uptoBulkAll elems + uptoBulkAll spare + 1
  | .agg parts => uptoBulkAll parts + 1
  | .iface _ d => uptoBulk d + 1
  | .map entries => uptoBulkEntries entries + 1
  | .held _ => 1
def uptoBulkAll {H : Type} : List (DataW H) → Nat
  | [] => 0
  | d :: r => uptoBulk d + uptoBulkAll r
def uptoBulkEntries {H : Type} : List (Lit × DataW H) → Nat
  | [] => 0
  | x :: r => uptoBulkEntry x + uptoBulkEntries r
def uptoBulkEntry {H : Type} : Lit × DataW H → Nat
  | (.string bytes, d) => bytes.length + uptoBulk d + 1
  | (_, d) => uptoBulk d + 1
 end
def uptoSmall : (H : Type) → List (DataW H) → Bool := fun _ ds => decide (uptoBulkAll ds ≤ 1048576)
def OpenSpec.upto (s : _root_.Go.ChangeSpec) : _root_.Go.OpenSpec := { _root_.Go.OpenSpec.ofChange s with cond := some uptoSmall }

/-- 'fretsawlaw47.SequenceDepends', WHERE WHAT IT READS IS OF BULK AT MOST 1048576: true; the input reads as it did. -/
def sequenceDependsUptoRow : OpenClaim := { program := "ytamlpihmfedkkaa", sum := "0256729ca67197528808d1132a56e3ef705febf749790d9068b2c7b951101794", func := "fretsaw/fretsawlaw47.SequenceDepends", spec := "sequenceDepends", unfollowed := true, recurses := true, apart := false, narrowed := true }
def SequenceDependsUptoSaid : Prop := sequenceDependsUptoRow.holds Try.pinned (OpenSpec.upto sequenceDependsSpec)

/-- 'fretsawlaw47.SequenceOrder', WHERE WHAT IT READS IS OF BULK AT MOST 1048576: true; the input reads as it did. -/
def sequenceOrderUptoRow : OpenClaim := { program := "ytamlpihmfedkkaa", sum := "0256729ca67197528808d1132a56e3ef705febf749790d9068b2c7b951101794", func := "fretsaw/fretsawlaw47.SequenceOrder", spec := "sequenceOrder", unfollowed := true, recurses := true, apart := false, narrowed := true }
def SequenceOrderUptoSaid : Prop := sequenceOrderUptoRow.holds Try.pinned (OpenSpec.upto sequenceOrderSpec)

/-- 'fretsawlaw47.SequenceAcyclic', WHERE WHAT IT READS IS OF BULK AT MOST 1048576: true; the input reads as it did. -/
def sequenceAcyclicUptoRow : OpenClaim := { program := "ytamlpihmfedkkaa", sum := "0256729ca67197528808d1132a56e3ef705febf749790d9068b2c7b951101794", func := "fretsaw/fretsawlaw47.SequenceAcyclic", spec := "sequenceAcyclic", unfollowed := true, recurses := true, apart := false, narrowed := true }
def SequenceAcyclicUptoSaid : Prop := sequenceAcyclicUptoRow.holds Try.pinned (OpenSpec.upto sequenceAcyclicSpec)

/-- 'fretsawlaw47.SequenceMoved', WHERE WHAT IT READS IS OF BULK AT MOST 1048576: true; the input reads as it did. -/
def sequenceMovedUptoRow : OpenClaim := { program := "ytamlpihmfedkkaa", sum := "0256729ca67197528808d1132a56e3ef705febf749790d9068b2c7b951101794", func := "fretsaw/fretsawlaw47.SequenceMoved", spec := "sequenceMoved", unfollowed := true, recurses := true, apart := false, narrowed := true }
def SequenceMovedUptoSaid : Prop := sequenceMovedUptoRow.holds Try.pinned (OpenSpec.upto sequenceMovedSpec)

/-- 'fretsawlaw47.SequenceCheck', WHERE WHAT IT READS IS OF BULK AT MOST 1048576: true; the input reads as it did. -/
def sequenceCheckUptoRow : OpenClaim := { program := "ytamlpihmfedkkaa", sum := "0256729ca67197528808d1132a56e3ef705febf749790d9068b2c7b951101794", func := "fretsaw/fretsawlaw47.SequenceCheck", spec := "sequenceCheck", unfollowed := true, recurses := true, apart := false, narrowed := true }
def SequenceCheckUptoSaid : Prop := sequenceCheckUptoRow.holds Try.pinned (OpenSpec.upto sequenceCheckSpec)

/-- 'fretsawlaw47.SequenceHeat', WHERE WHAT IT READS IS OF BULK AT MOST 1048576: true; the input reads as it did. -/
def sequenceHeatUptoRow : OpenClaim := { program := "ytamlpihmfedkkaa", sum := "0256729ca67197528808d1132a56e3ef705febf749790d9068b2c7b951101794", func := "fretsaw/fretsawlaw47.SequenceHeat", spec := "sequenceHeat", unfollowed := true, recurses := true, apart := false, narrowed := true }
def SequenceHeatUptoSaid : Prop := sequenceHeatUptoRow.holds Try.pinned (OpenSpec.upto sequenceHeatSpec)

/-- 'fretsawlaw09.SymmetryRing', WHERE WHAT IT READS IS OF BULK AT MOST 1048576: true; the input reads as it did. -/
def symmetryRingUptoRow : OpenClaim := { program := "ytamlpihmfedkkaa", sum := "0256729ca67197528808d1132a56e3ef705febf749790d9068b2c7b951101794", func := "fretsaw/fretsawlaw09.SymmetryRing", spec := "symmetryRing", unfollowed := true, recurses := true, apart := false, narrowed := true }
def SymmetryRingUptoSaid : Prop := symmetryRingUptoRow.holds Try.pinned (OpenSpec.upto symmetryRingSpec)

/-- 'fretsawlaw09.SymmetryPlaces', WHERE WHAT IT READS IS OF BULK AT MOST 1048576: true; the input reads as it did. -/
def symmetryPlacesUptoRow : OpenClaim := { program := "ytamlpihmfedkkaa", sum := "0256729ca67197528808d1132a56e3ef705febf749790d9068b2c7b951101794", func := "fretsaw/fretsawlaw09.SymmetryPlaces", spec := "symmetryPlaces", unfollowed := true, recurses := true, apart := false, narrowed := true }
def SymmetryPlacesUptoSaid : Prop := symmetryPlacesUptoRow.holds Try.pinned (OpenSpec.upto symmetryPlacesSpec)

/-- 'fretsawlaw08.RingStart', WHERE WHAT IT READS IS OF BULK AT MOST 1048576: true; the input reads as it did. -/
def ringStartUptoRow : OpenClaim := { program := "ytamlpihmfedkkaa", sum := "0256729ca67197528808d1132a56e3ef705febf749790d9068b2c7b951101794", func := "fretsaw/fretsawlaw08.RingStart", spec := "ringStart", unfollowed := true, recurses := true, apart := false, narrowed := true }
def RingStartUptoSaid : Prop := ringStartUptoRow.holds Try.pinned (OpenSpec.upto ringStartSpec)

/-- 'fretsawlaw08.RingPath', WHERE WHAT IT READS IS OF BULK AT MOST 1048576: true; the input reads as it did. -/
def ringPathUptoRow : OpenClaim := { program := "ytamlpihmfedkkaa", sum := "0256729ca67197528808d1132a56e3ef705febf749790d9068b2c7b951101794", func := "fretsaw/fretsawlaw08.RingPath", spec := "ringPath", unfollowed := true, recurses := true, apart := false, narrowed := true }
def RingPathUptoSaid : Prop := ringPathUptoRow.holds Try.pinned (OpenSpec.upto ringPathSpec)

/-- 'fretsawlaw08.RingConvex', WHERE WHAT IT READS IS OF BULK AT MOST 1048576: true; the input reads as it did. -/
def ringConvexUptoRow : OpenClaim := { program := "ytamlpihmfedkkaa", sum := "0256729ca67197528808d1132a56e3ef705febf749790d9068b2c7b951101794", func := "fretsaw/fretsawlaw08.RingConvex", spec := "ringConvex", unfollowed := true, recurses := true, apart := false, narrowed := true }
def RingConvexUptoSaid : Prop := ringConvexUptoRow.holds Try.pinned (OpenSpec.upto ringConvexSpec)

/-- 'fretsawlaw08.RingPick', WHERE WHAT IT READS IS OF BULK AT MOST 1048576: true; the input reads as it did. -/
def ringPickUptoRow : OpenClaim := { program := "ytamlpihmfedkkaa", sum := "0256729ca67197528808d1132a56e3ef705febf749790d9068b2c7b951101794", func := "fretsaw/fretsawlaw08.RingPick", spec := "ringPick", unfollowed := true, recurses := true, apart := false, narrowed := true }
def RingPickUptoSaid : Prop := ringPickUptoRow.holds Try.pinned (OpenSpec.upto ringPickSpec)

end Rows
end Go.Proofs.Ytamlpihmfedkkaa
