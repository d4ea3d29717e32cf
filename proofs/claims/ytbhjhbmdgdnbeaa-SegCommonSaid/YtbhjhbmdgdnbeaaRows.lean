/-
  No cell of these rows narrows 'for every input' (looked for: loops, veiled, ifaces, maps, wideKeys, modest, calm, conditions, laid).
  DERIVED. THE GIVEN ROWS OF THIS SEAT. 7 by the template 'for every input the law returns true; each argument reads behind the call as it read before'; 0 by the template 'total and deterministic' (their statements: YtbhjhbmdgdnbeaaTotals.lean).
  GIVEN WITH THE SEED: the statements are not yours to turn. If you find one false, say at which input.
  Laid BY PROGRAM, IN A SANDBOX (cutbox-rows.mjs): the forced cells as the released guide's own fill.sh prints them over the translation 079419292f32e485… (all of the seat's roots in one cut). By AI agents, Wed Nov 11 2026. No macro, syntax, notation, axiom, sorry.
-/
import Derived.Test.YtbhjhbmdgdnbeaaChecked
import GoSem.Claim
import GoSem.ClaimJoined
import GoSem.ClaimMapViews
import Derived.JoinedTies
import Derived.KernelRfl
namespace Go.Proofs.Ytbhjhbmdgdnbeaa
/- THE CELL 'sum', in the pinned program and in every row, IS THE sha256 OF THE DUMP (.gsa) THAT YtbhjhbmdgdnbeaaProg.lean LOADS. Nothing in Lean hashes anything: it is a label: what it is worth is what the hold of that sum in a sandbox is worth. -/
noncomputable def Try.pinned : Pinned := { name := "ytbhjhbmdgdnbeaa", sum := "079419292f32e4859dedb23f50fd045f6f0be4dda1210ebcd836a7fba14318cf", checked := Try.checked }
namespace Rows
def none {H : Type} : Left H := { results := [], args := [] }

/-- 'fretsawlaw07.SegMeet': WHATEVER THE INPUT: true; the input reads as it did. -/
def segMeetSpec : ChangeSpec := { name := "segMeet", fn := fun _ => fun
  | [d1, d2] => { results := [.lit (.bool true)], args := [d1, d2] }
  | _ => none }
def segMeetRow : OpenClaim := { program := "ytbhjhbmdgdnbeaa", sum := "079419292f32e4859dedb23f50fd045f6f0be4dda1210ebcd836a7fba14318cf", func := "fretsaw/fretsawlaw07.SegMeet", spec := "segMeet", apart := false }
def SegMeetSaid : Prop := segMeetRow.holds Try.pinned (OpenSpec.ofChange segMeetSpec)

/-- ITS FALSE NEIGHBOUR: 'it returns false'. Refute it at one input. -/
def segMeetWrong : ChangeSpec := { name := "segMeet", fn := fun _ => fun
  | [d1, d2] => { results := [.lit (.bool false)], args := [d1, d2] }
  | _ => none }
def SegMeetWrongFalsely : Prop := segMeetRow.holds Try.pinned (OpenSpec.ofChange segMeetWrong)

/-- 'fretsawlaw07.SegSymmetric': WHATEVER THE INPUT: true; the input reads as it did. -/
def segSymmetricSpec : ChangeSpec := { name := "segSymmetric", fn := fun _ => fun
  | [d1, d2, d3] => { results := [.lit (.bool true)], args := [d1, d2, d3] }
  | _ => none }
def segSymmetricRow : OpenClaim := { program := "ytbhjhbmdgdnbeaa", sum := "079419292f32e4859dedb23f50fd045f6f0be4dda1210ebcd836a7fba14318cf", func := "fretsaw/fretsawlaw07.SegSymmetric", spec := "segSymmetric", apart := false }
def SegSymmetricSaid : Prop := segSymmetricRow.holds Try.pinned (OpenSpec.ofChange segSymmetricSpec)

/-- ITS FALSE NEIGHBOUR: 'it returns false'. Refute it at one input. -/
def segSymmetricWrong : ChangeSpec := { name := "segSymmetric", fn := fun _ => fun
  | [d1, d2, d3] => { results := [.lit (.bool false)], args := [d1, d2, d3] }
  | _ => none }
def SegSymmetricWrongFalsely : Prop := segSymmetricRow.holds Try.pinned (OpenSpec.ofChange segSymmetricWrong)

/-- 'fretsawlaw07.SegCommon': WHATEVER THE INPUT: true; the input reads as it did. -/
def segCommonSpec : ChangeSpec := { name := "segCommon", fn := fun _ => fun
  | [d1, d2, d3] => { results := [.lit (.bool true)], args := [d1, d2, d3] }
  | _ => none }
def segCommonRow : OpenClaim := { program := "ytbhjhbmdgdnbeaa", sum := "079419292f32e4859dedb23f50fd045f6f0be4dda1210ebcd836a7fba14318cf", func := "fretsaw/fretsawlaw07.SegCommon", spec := "segCommon", apart := false }
def SegCommonSaid : Prop := segCommonRow.holds Try.pinned (OpenSpec.ofChange segCommonSpec)

/-- ITS FALSE NEIGHBOUR: 'it returns false'. Refute it at one input. -/
def segCommonWrong : ChangeSpec := { name := "segCommon", fn := fun _ => fun
  | [d1, d2, d3] => { results := [.lit (.bool false)], args := [d1, d2, d3] }
  | _ => none }
def SegCommonWrongFalsely : Prop := segCommonRow.holds Try.pinned (OpenSpec.ofChange segCommonWrong)

/-- 'fretsawlaw07.SegCross': WHATEVER THE INPUT: true; the input reads as it did. -/
def segCrossSpec : ChangeSpec := { name := "segCross", fn := fun _ => fun
  | [d1, d2] => { results := [.lit (.bool true)], args := [d1, d2] }
  | _ => none }
def segCrossRow : OpenClaim := { program := "ytbhjhbmdgdnbeaa", sum := "079419292f32e4859dedb23f50fd045f6f0be4dda1210ebcd836a7fba14318cf", func := "fretsaw/fretsawlaw07.SegCross", spec := "segCross", apart := false }
def SegCrossSaid : Prop := segCrossRow.holds Try.pinned (OpenSpec.ofChange segCrossSpec)

/-- ITS FALSE NEIGHBOUR: 'it returns false'. Refute it at one input. -/
def segCrossWrong : ChangeSpec := { name := "segCross", fn := fun _ => fun
  | [d1, d2] => { results := [.lit (.bool false)], args := [d1, d2] }
  | _ => none }
def SegCrossWrongFalsely : Prop := segCrossRow.holds Try.pinned (OpenSpec.ofChange segCrossWrong)

/-- 'fretsawlaw07.SegOn': WHATEVER THE INPUT: true; the input reads as it did. -/
def segOnSpec : ChangeSpec := { name := "segOn", fn := fun _ => fun
  | [d1, d2, d3] => { results := [.lit (.bool true)], args := [d1, d2, d3] }
  | _ => none }
def segOnRow : OpenClaim := { program := "ytbhjhbmdgdnbeaa", sum := "079419292f32e4859dedb23f50fd045f6f0be4dda1210ebcd836a7fba14318cf", func := "fretsaw/fretsawlaw07.SegOn", spec := "segOn", apart := false }
def SegOnSaid : Prop := segOnRow.holds Try.pinned (OpenSpec.ofChange segOnSpec)

/-- ITS FALSE NEIGHBOUR: 'it returns false'. Refute it at one input. -/
def segOnWrong : ChangeSpec := { name := "segOn", fn := fun _ => fun
  | [d1, d2, d3] => { results := [.lit (.bool false)], args := [d1, d2, d3] }
  | _ => none }
def SegOnWrongFalsely : Prop := segOnRow.holds Try.pinned (OpenSpec.ofChange segOnWrong)

/-- 'fretsawlaw07.SegPoints': WHATEVER THE INPUT: true; the input reads as it did. -/
def segPointsSpec : ChangeSpec := { name := "segPoints", fn := fun _ => fun
  | [d1, d2] => { results := [.lit (.bool true)], args := [d1, d2] }
  | _ => none }
def segPointsRow : OpenClaim := { program := "ytbhjhbmdgdnbeaa", sum := "079419292f32e4859dedb23f50fd045f6f0be4dda1210ebcd836a7fba14318cf", func := "fretsaw/fretsawlaw07.SegPoints", spec := "segPoints", apart := false }
def SegPointsSaid : Prop := segPointsRow.holds Try.pinned (OpenSpec.ofChange segPointsSpec)

/-- ITS FALSE NEIGHBOUR: 'it returns false'. Refute it at one input. -/
def segPointsWrong : ChangeSpec := { name := "segPoints", fn := fun _ => fun
  | [d1, d2] => { results := [.lit (.bool false)], args := [d1, d2] }
  | _ => none }
def SegPointsWrongFalsely : Prop := segPointsRow.holds Try.pinned (OpenSpec.ofChange segPointsWrong)

/-- 'fretsawlaw07.SegOrder': WHATEVER THE INPUT: true; the input reads as it did. -/
def segOrderSpec : ChangeSpec := { name := "segOrder", fn := fun _ => fun
  | [d1, d2, d3] => { results := [.lit (.bool true)], args := [d1, d2, d3] }
  | _ => none }
def segOrderRow : OpenClaim := { program := "ytbhjhbmdgdnbeaa", sum := "079419292f32e4859dedb23f50fd045f6f0be4dda1210ebcd836a7fba14318cf", func := "fretsaw/fretsawlaw07.SegOrder", spec := "segOrder", apart := false }
def SegOrderSaid : Prop := segOrderRow.holds Try.pinned (OpenSpec.ofChange segOrderSpec)

/-- ITS FALSE NEIGHBOUR: 'it returns false'. Refute it at one input. -/
def segOrderWrong : ChangeSpec := { name := "segOrder", fn := fun _ => fun
  | [d1, d2, d3] => { results := [.lit (.bool false)], args := [d1, d2, d3] }
  | _ => none }
def SegOrderWrongFalsely : Prop := segOrderRow.holds Try.pinned (OpenSpec.ofChange segOrderWrong)

/- THE SECOND FORM. 'bulk': how many values and letters a reading holds, each counted each time it is reached (what is shared counts as often as it is met; a slice's spare places count too). A statement '..UptoSaid' is the law's where the arguments, and the package variables that the reading takes, are together of bulk at most 1048576: NARROWER than '..Said'. Prove '..Said' where nothing that the law and all that it calls make is longer than what came in: it says more and counts as full. Else prove '..UptoSaid'. A law counts once. -/
mutual
def uptoBulk {H : Type} : DataW H → Nat
  | .lit (.string bytes) => bytes.length + 1
  | .lit _ => 1
  | .nil => 1
  | .ptr d => uptoBulk d + 1
  | .slice elems spare => uptoBulkAll elems + uptoBulkAll spare + 1
  | .agg parts => uptoBulkAll parts + 1
  | .iface _ d => uptoBulk d + 1
  | .map entries => uptoBulkEntries entries + 1
  | .held _ => 1
def uptoBulkAll {H : Type} : List (DataW H) → Nat
  | [] => 0
  | d :: r => uptoBulk d + uptoBulkAll r
def uptoBulkEntries {H : Type} : List (Lit × DataW H) → Nat
  | [] => 0
  | x :: r => uptoBulkEntry x + uptoBulkEntries r
def uptoBulkEntry {H : Type} : Lit × DataW H → Nat
  | (.string bytes, d) => bytes.length + uptoBulk d + 1
  | (_, d) => uptoBulk d + 1
 end
def uptoSmall : (H : Type) → List (DataW H) → Bool := fun _ ds => decide (uptoBulkAll ds ≤ 1048576)
def OpenSpec.upto (s : _root_.Go.ChangeSpec) : _root_.Go.OpenSpec := { _root_.Go.OpenSpec.ofChange s with cond := some uptoSmall }

/-- 'fretsawlaw07.SegMeet', WHERE WHAT IT READS IS OF BULK AT MOST 1048576: true; the input reads as it did. -/
def segMeetUptoRow : OpenClaim := { program := "ytbhjhbmdgdnbeaa", sum := "079419292f32e4859dedb23f50fd045f6f0be4dda1210ebcd836a7fba14318cf", func := "fretsaw/fretsawlaw07.SegMeet", spec := "segMeet", apart := false, narrowed := true }
def SegMeetUptoSaid : Prop := segMeetUptoRow.holds Try.pinned (OpenSpec.upto segMeetSpec)

/-- 'fretsawlaw07.SegSymmetric', WHERE WHAT IT READS IS OF BULK AT MOST 1048576: true; the input reads as it did. -/
def segSymmetricUptoRow : OpenClaim := { program := "ytbhjhbmdgdnbeaa", sum := "079419292f32e4859dedb23f50fd045f6f0be4dda1210ebcd836a7fba14318cf", func := "fretsaw/fretsawlaw07.SegSymmetric", spec := "segSymmetric", apart := false, narrowed := true }
def SegSymmetricUptoSaid : Prop := segSymmetricUptoRow.holds Try.pinned (OpenSpec.upto segSymmetricSpec)

/-- 'fretsawlaw07.SegCommon', WHERE WHAT IT READS IS OF BULK AT MOST 1048576: true; the input reads as it did. -/
def segCommonUptoRow : OpenClaim := { program := "ytbhjhbmdgdnbeaa", sum := "079419292f32e4859dedb23f50fd045f6f0be4dda1210ebcd836a7fba14318cf", func := "fretsaw/fretsawlaw07.SegCommon", spec := "segCommon", apart := false, narrowed := true }
def SegCommonUptoSaid : Prop := segCommonUptoRow.holds Try.pinned (OpenSpec.upto segCommonSpec)

/-- 'fretsawlaw07.SegCross', WHERE WHAT IT READS IS OF BULK AT MOST 1048576: true; the input reads as it did. -/
def segCrossUptoRow : OpenClaim := { program := "ytbhjhbmdgdnbeaa", sum := "079419292f32e4859dedb23f50fd045f6f0be4dda1210ebcd836a7fba14318cf", func := "fretsaw/fretsawlaw07.SegCross", spec := "segCross", apart := false, narrowed := true }
def SegCrossUptoSaid : Prop := segCrossUptoRow.holds Try.pinned (OpenSpec.upto segCrossSpec)

/-- 'fretsawlaw07.SegOn', WHERE WHAT IT READS IS OF BULK AT MOST 1048576: true; the input reads as it did. -/
def segOnUptoRow : OpenClaim := { program := "ytbhjhbmdgdnbeaa", sum := "079419292f32e4859dedb23f50fd045f6f0be4dda1210ebcd836a7fba14318cf", func := "fretsaw/fretsawlaw07.SegOn", spec := "segOn", apart := false, narrowed := true }
def SegOnUptoSaid : Prop := segOnUptoRow.holds Try.pinned (OpenSpec.upto segOnSpec)

/-- 'fretsawlaw07.SegPoints', WHERE WHAT IT READS IS OF BULK AT MOST 1048576: true; the input reads as it did. -/
def segPointsUptoRow : OpenClaim := { program := "ytbhjhbmdgdnbeaa", sum := "079419292f32e4859dedb23f50fd045f6f0be4dda1210ebcd836a7fba14318cf", func := "fretsaw/fretsawlaw07.SegPoints", spec := "segPoints", apart := false, narrowed := true }
def SegPointsUptoSaid : Prop := segPointsUptoRow.holds Try.pinned (OpenSpec.upto segPointsSpec)

/-- 'fretsawlaw07.SegOrder', WHERE WHAT IT READS IS OF BULK AT MOST 1048576: true; the input reads as it did. -/
def segOrderUptoRow : OpenClaim := { program := "ytbhjhbmdgdnbeaa", sum := "079419292f32e4859dedb23f50fd045f6f0be4dda1210ebcd836a7fba14318cf", func := "fretsaw/fretsawlaw07.SegOrder", spec := "segOrder", apart := false, narrowed := true }
def SegOrderUptoSaid : Prop := segOrderUptoRow.holds Try.pinned (OpenSpec.upto segOrderSpec)

end Rows
end Go.Proofs.Ytbhjhbmdgdnbeaa
