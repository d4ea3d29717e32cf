/-
  No cell of these rows narrows 'for every input' (looked for: loops, veiled, ifaces, maps, wideKeys, modest, calm, conditions, laid).
  DERIVED. THE GIVEN ROWS OF THIS SEAT. 9 by the template 'for every input the law returns true; each argument reads behind the call as it read before'; 0 by the template 'total and deterministic' (their statements: YtlckiecpelchlaaTotals.lean).
  GIVEN WITH THE SEED: the statements are not yours to turn. If you find one false, say at which input.
  Laid BY PROGRAM, IN A SANDBOX (cutbox-rows.mjs): the forced cells as the released guide's own fill.sh prints them over the translation 5941d33e79f18027… (all of the seat's roots in one cut). By AI agents, Wed Nov 11 2026. No macro, syntax, notation, axiom, sorry.
-/
import Derived.Test.YtlckiecpelchlaaChecked
import GoSem.Claim
import GoSem.ClaimJoined
import GoSem.ClaimMapViews
import Derived.JoinedTies
import Derived.KernelRfl
namespace Go.Proofs.Ytlckiecpelchlaa
/- THE CELL 'sum', in the pinned program and in every row, IS THE sha256 OF THE DUMP (.gsa) THAT YtlckiecpelchlaaProg.lean LOADS. Nothing in Lean hashes anything: it is a label: what it is worth is what the hold of that sum in a sandbox is worth. -/
noncomputable def Try.pinned : Pinned := { name := "ytlckiecpelchlaa", sum := "5941d33e79f180273649a6e0ac642d00aaf68e1070259e493aee02d106d60bbd", checked := Try.checked }
namespace Rows
def none {H : Type} : Left H := { results := [], args := [] }

/-- 'fretsawlaw26.BarBest': WHATEVER THE INPUT: true; the input reads as it did. -/
def barBestSpec : ChangeSpec := { name := "barBest", fn := fun _ => fun
  | [d1, d2, d3] => { results := [.lit (.bool true)], args := [d1, d2, d3] }
  | _ => none }
def barBestRow : OpenClaim := { program := "ytlckiecpelchlaa", sum := "5941d33e79f180273649a6e0ac642d00aaf68e1070259e493aee02d106d60bbd", func := "fretsaw/fretsawlaw26.BarBest", spec := "barBest", unfollowed := true, recurses := true, apart := false }
def BarBestSaid : Prop := barBestRow.holds Try.pinned (OpenSpec.ofChange barBestSpec)

/-- ITS FALSE NEIGHBOUR: 'it returns false'. Refute it at one input. -/
def barBestWrong : ChangeSpec := { name := "barBest", fn := fun _ => fun
  | [d1, d2, d3] => { results := [.lit (.bool false)], args := [d1, d2, d3] }
  | _ => none }
def BarBestWrongFalsely : Prop := barBestRow.holds Try.pinned (OpenSpec.ofChange barBestWrong)

/-- 'fretsawlaw11.ArcFlatten': WHATEVER THE INPUT: true; the input reads as it did. -/
def arcFlattenSpec : ChangeSpec := { name := "arcFlatten", fn := fun _ => fun
  | [d1, d2] => { results := [.lit (.bool true)], args := [d1, d2] }
  | _ => none }
def arcFlattenRow : OpenClaim := { program := "ytlckiecpelchlaa", sum := "5941d33e79f180273649a6e0ac642d00aaf68e1070259e493aee02d106d60bbd", func := "fretsaw/fretsawlaw11.ArcFlatten", spec := "arcFlatten", inPlace := ["math.sqrt"], unfollowed := true, recurses := true, apart := false }
def ArcFlattenSaid : Prop := arcFlattenRow.holds Try.pinned (OpenSpec.ofChange arcFlattenSpec)

/-- ITS FALSE NEIGHBOUR: 'it returns false'. Refute it at one input. -/
def arcFlattenWrong : ChangeSpec := { name := "arcFlatten", fn := fun _ => fun
  | [d1, d2] => { results := [.lit (.bool false)], args := [d1, d2] }
  | _ => none }
def ArcFlattenWrongFalsely : Prop := arcFlattenRow.holds Try.pinned (OpenSpec.ofChange arcFlattenWrong)

/-- 'fretsawlaw11.ArcCircle': WHATEVER THE INPUT: true; the input reads as it did. -/
def arcCircleSpec : ChangeSpec := { name := "arcCircle", fn := fun _ => fun
  | [d1, d2, d3] => { results := [.lit (.bool true)], args := [d1, d2, d3] }
  | _ => none }
def arcCircleRow : OpenClaim := { program := "ytlckiecpelchlaa", sum := "5941d33e79f180273649a6e0ac642d00aaf68e1070259e493aee02d106d60bbd", func := "fretsaw/fretsawlaw11.ArcCircle", spec := "arcCircle", inPlace := ["math.sqrt"], unfollowed := true, recurses := true, apart := false }
def ArcCircleSaid : Prop := arcCircleRow.holds Try.pinned (OpenSpec.ofChange arcCircleSpec)

/-- ITS FALSE NEIGHBOUR: 'it returns false'. Refute it at one input. -/
def arcCircleWrong : ChangeSpec := { name := "arcCircle", fn := fun _ => fun
  | [d1, d2, d3] => { results := [.lit (.bool false)], args := [d1, d2, d3] }
  | _ => none }
def ArcCircleWrongFalsely : Prop := arcCircleRow.holds Try.pinned (OpenSpec.ofChange arcCircleWrong)

/-- 'fretsawlaw11.ArcRoot': WHATEVER THE INPUT: true; the input reads as it did. -/
def arcRootSpec : ChangeSpec := { name := "arcRoot", fn := fun _ => fun
  | [d] => { results := [.lit (.bool true)], args := [d] }
  | _ => none }
def arcRootRow : OpenClaim := { program := "ytlckiecpelchlaa", sum := "5941d33e79f180273649a6e0ac642d00aaf68e1070259e493aee02d106d60bbd", func := "fretsaw/fretsawlaw11.ArcRoot", spec := "arcRoot", inPlace := ["math.sqrt"], unfollowed := true, recurses := true, apart := false }
def ArcRootSaid : Prop := arcRootRow.holds Try.pinned (OpenSpec.ofChange arcRootSpec)

/-- ITS FALSE NEIGHBOUR: 'it returns false'. Refute it at one input. -/
def arcRootWrong : ChangeSpec := { name := "arcRoot", fn := fun _ => fun
  | [d] => { results := [.lit (.bool false)], args := [d] }
  | _ => none }
def ArcRootWrongFalsely : Prop := arcRootRow.holds Try.pinned (OpenSpec.ofChange arcRootWrong)

/-- 'fretsawlaw11.ArcEnds': WHATEVER THE INPUT: true; the input reads as it did. -/
def arcEndsSpec : ChangeSpec := { name := "arcEnds", fn := fun _ => fun
  | [d1, d2] => { results := [.lit (.bool true)], args := [d1, d2] }
  | _ => none }
def arcEndsRow : OpenClaim := { program := "ytlckiecpelchlaa", sum := "5941d33e79f180273649a6e0ac642d00aaf68e1070259e493aee02d106d60bbd", func := "fretsaw/fretsawlaw11.ArcEnds", spec := "arcEnds", inPlace := ["math.sqrt"], unfollowed := true, recurses := true, apart := false }
def ArcEndsSaid : Prop := arcEndsRow.holds Try.pinned (OpenSpec.ofChange arcEndsSpec)

/-- ITS FALSE NEIGHBOUR: 'it returns false'. Refute it at one input. -/
def arcEndsWrong : ChangeSpec := { name := "arcEnds", fn := fun _ => fun
  | [d1, d2] => { results := [.lit (.bool false)], args := [d1, d2] }
  | _ => none }
def ArcEndsWrongFalsely : Prop := arcEndsRow.holds Try.pinned (OpenSpec.ofChange arcEndsWrong)

/-- 'fretsawlaw11.ArcTolerance': WHATEVER THE INPUT: true; the input reads as it did. -/
def arcToleranceSpec : ChangeSpec := { name := "arcTolerance", fn := fun _ => fun
  | [d1, d2] => { results := [.lit (.bool true)], args := [d1, d2] }
  | _ => none }
def arcToleranceRow : OpenClaim := { program := "ytlckiecpelchlaa", sum := "5941d33e79f180273649a6e0ac642d00aaf68e1070259e493aee02d106d60bbd", func := "fretsaw/fretsawlaw11.ArcTolerance", spec := "arcTolerance", inPlace := ["math.sqrt"], unfollowed := true, recurses := true, apart := false }
def ArcToleranceSaid : Prop := arcToleranceRow.holds Try.pinned (OpenSpec.ofChange arcToleranceSpec)

/-- ITS FALSE NEIGHBOUR: 'it returns false'. Refute it at one input. -/
def arcToleranceWrong : ChangeSpec := { name := "arcTolerance", fn := fun _ => fun
  | [d1, d2] => { results := [.lit (.bool false)], args := [d1, d2] }
  | _ => none }
def ArcToleranceWrongFalsely : Prop := arcToleranceRow.holds Try.pinned (OpenSpec.ofChange arcToleranceWrong)

/-- 'fretsawlaw11.ArcOrder': WHATEVER THE INPUT: true; the input reads as it did. -/
def arcOrderSpec : ChangeSpec := { name := "arcOrder", fn := fun _ => fun
  | [d1, d2] => { results := [.lit (.bool true)], args := [d1, d2] }
  | _ => none }
def arcOrderRow : OpenClaim := { program := "ytlckiecpelchlaa", sum := "5941d33e79f180273649a6e0ac642d00aaf68e1070259e493aee02d106d60bbd", func := "fretsaw/fretsawlaw11.ArcOrder", spec := "arcOrder", inPlace := ["math.sqrt"], unfollowed := true, recurses := true, apart := false }
def ArcOrderSaid : Prop := arcOrderRow.holds Try.pinned (OpenSpec.ofChange arcOrderSpec)

/-- ITS FALSE NEIGHBOUR: 'it returns false'. Refute it at one input. -/
def arcOrderWrong : ChangeSpec := { name := "arcOrder", fn := fun _ => fun
  | [d1, d2] => { results := [.lit (.bool false)], args := [d1, d2] }
  | _ => none }
def ArcOrderWrongFalsely : Prop := arcOrderRow.holds Try.pinned (OpenSpec.ofChange arcOrderWrong)

/-- 'fretsawlaw11.ArcOpposite': WHATEVER THE INPUT: true; the input reads as it did. -/
def arcOppositeSpec : ChangeSpec := { name := "arcOpposite", fn := fun _ => fun
  | [d1, d2, d3] => { results := [.lit (.bool true)], args := [d1, d2, d3] }
  | _ => none }
def arcOppositeRow : OpenClaim := { program := "ytlckiecpelchlaa", sum := "5941d33e79f180273649a6e0ac642d00aaf68e1070259e493aee02d106d60bbd", func := "fretsaw/fretsawlaw11.ArcOpposite", spec := "arcOpposite", inPlace := ["math.sqrt"], unfollowed := true, recurses := true, apart := false }
def ArcOppositeSaid : Prop := arcOppositeRow.holds Try.pinned (OpenSpec.ofChange arcOppositeSpec)

/-- ITS FALSE NEIGHBOUR: 'it returns false'. Refute it at one input. -/
def arcOppositeWrong : ChangeSpec := { name := "arcOpposite", fn := fun _ => fun
  | [d1, d2, d3] => { results := [.lit (.bool false)], args := [d1, d2, d3] }
  | _ => none }
def ArcOppositeWrongFalsely : Prop := arcOppositeRow.holds Try.pinned (OpenSpec.ofChange arcOppositeWrong)

/-- 'fretsawlaw11.ArcCoarser': WHATEVER THE INPUT: true; the input reads as it did. -/
def arcCoarserSpec : ChangeSpec := { name := "arcCoarser", fn := fun _ => fun
  | [d1, d2, d3] => { results := [.lit (.bool true)], args := [d1, d2, d3] }
  | _ => none }
def arcCoarserRow : OpenClaim := { program := "ytlckiecpelchlaa", sum := "5941d33e79f180273649a6e0ac642d00aaf68e1070259e493aee02d106d60bbd", func := "fretsaw/fretsawlaw11.ArcCoarser", spec := "arcCoarser", inPlace := ["math.sqrt"], unfollowed := true, recurses := true, apart := false }
def ArcCoarserSaid : Prop := arcCoarserRow.holds Try.pinned (OpenSpec.ofChange arcCoarserSpec)

/-- ITS FALSE NEIGHBOUR: 'it returns false'. Refute it at one input. -/
def arcCoarserWrong : ChangeSpec := { name := "arcCoarser", fn := fun _ => fun
  | [d1, d2, d3] => { results := [.lit (.bool false)], args := [d1, d2, d3] }
  | _ => none }
def ArcCoarserWrongFalsely : Prop := arcCoarserRow.holds Try.pinned (OpenSpec.ofChange arcCoarserWrong)

/- THE SECOND FORM. 'bulk': how many values and letters a reading holds, each counted each time it is reached (what is shared counts as often as it is met; a slice's spare places count too). A statement '..UptoSaid' is the law's where the arguments, and the package variables that the reading takes, are together of bulk at most 1048576: NARROWER than '..Said'. Prove '..Said' where nothing that the law and all that it calls make is longer than what came in: it says more and counts as full. Else prove '..UptoSaid'. A law counts once. -/
mutual
def uptoBulk {H : Type} : DataW H → Nat
  | .lit (.string bytes) => bytes.length + 1
  | .lit _ => 1
  | .nil => 1
  | .ptr d => uptoBulk d + 1
  | .slice elems spare => uptoBulkAll elems + uptoBulkAll spare + 1
  | .agg parts => uptoBulkAll parts + 1
  | .iface _ d => uptoBulk d + 1
  | .map entries => uptoBulkEntries entries + 1
  | .held _ => 1
def uptoBulkAll {H : Type} : List (DataW H) → Nat
  | [] => 0
  | d :: r => uptoBulk d + uptoBulkAll r
def uptoBulkEntries {H : Type} : List (Lit × DataW H) → Nat
  | [] => 0
  | x :: r => uptoBulkEntry x + uptoBulkEntries r
def uptoBulkEntry {H : Type} : Lit × DataW H → Nat
  | (.string bytes, d) => bytes.length + uptoBulk d + 1
  | (_, d) => uptoBulk d + 1
 end
def uptoSmall : (H : Type) → List (DataW H) → Bool := fun _ ds => decide (uptoBulkAll ds ≤ 1048576)
def OpenSpec.upto (s : _root_.Go.ChangeSpec) : _root_.Go.OpenSpec := { _root_.Go.OpenSpec.ofChange s with cond := some uptoSmall }

/-- 'fretsawlaw26.BarBest', WHERE WHAT IT READS IS OF BULK AT MOST 1048576: true; the input reads as it did. -/
def barBestUptoRow : OpenClaim := { program := "ytlckiecpelchlaa", sum := "5941d33e79f180273649a6e0ac642d00aaf68e1070259e493aee02d106d60bbd", func := "fretsaw/fretsawlaw26.BarBest", spec := "barBest", unfollowed := true, recurses := true, apart := false, narrowed := true }
def BarBestUptoSaid : Prop := barBestUptoRow.holds Try.pinned (OpenSpec.upto barBestSpec)

/-- 'fretsawlaw11.ArcFlatten', WHERE WHAT IT READS IS OF BULK AT MOST 1048576: true; the input reads as it did. -/
def arcFlattenUptoRow : OpenClaim := { program := "ytlckiecpelchlaa", sum := "5941d33e79f180273649a6e0ac642d00aaf68e1070259e493aee02d106d60bbd", func := "fretsaw/fretsawlaw11.ArcFlatten", spec := "arcFlatten", inPlace := ["math.sqrt"], unfollowed := true, recurses := true, apart := false, narrowed := true }
def ArcFlattenUptoSaid : Prop := arcFlattenUptoRow.holds Try.pinned (OpenSpec.upto arcFlattenSpec)

/-- 'fretsawlaw11.ArcCircle', WHERE WHAT IT READS IS OF BULK AT MOST 1048576: true; the input reads as it did. -/
def arcCircleUptoRow : OpenClaim := { program := "ytlckiecpelchlaa", sum := "5941d33e79f180273649a6e0ac642d00aaf68e1070259e493aee02d106d60bbd", func := "fretsaw/fretsawlaw11.ArcCircle", spec := "arcCircle", inPlace := ["math.sqrt"], unfollowed := true, recurses := true, apart := false, narrowed := true }
def ArcCircleUptoSaid : Prop := arcCircleUptoRow.holds Try.pinned (OpenSpec.upto arcCircleSpec)

/-- 'fretsawlaw11.ArcRoot', WHERE WHAT IT READS IS OF BULK AT MOST 1048576: true; the input reads as it did. -/
def arcRootUptoRow : OpenClaim := { program := "ytlckiecpelchlaa", sum := "5941d33e79f180273649a6e0ac642d00aaf68e1070259e493aee02d106d60bbd", func := "fretsaw/fretsawlaw11.ArcRoot", spec := "arcRoot", inPlace := ["math.sqrt"], unfollowed := true, recurses := true, apart := false, narrowed := true }
def ArcRootUptoSaid : Prop := arcRootUptoRow.holds Try.pinned (OpenSpec.upto arcRootSpec)

/-- 'fretsawlaw11.ArcEnds', WHERE WHAT IT READS IS OF BULK AT MOST 1048576: true; the input reads as it did. -/
def arcEndsUptoRow : OpenClaim := { program := "ytlckiecpelchlaa", sum := "5941d33e79f180273649a6e0ac642d00aaf68e1070259e493aee02d106d60bbd", func := "fretsaw/fretsawlaw11.ArcEnds", spec := "arcEnds", inPlace := ["math.sqrt"], unfollowed := true, recurses := true, apart := false, narrowed := true }
def ArcEndsUptoSaid : Prop := arcEndsUptoRow.holds Try.pinned (OpenSpec.upto arcEndsSpec)

/-- 'fretsawlaw11.ArcTolerance', WHERE WHAT IT READS IS OF BULK AT MOST 1048576: true; the input reads as it did. -/
def arcToleranceUptoRow : OpenClaim := { program := "ytlckiecpelchlaa", sum := "5941d33e79f180273649a6e0ac642d00aaf68e1070259e493aee02d106d60bbd", func := "fretsaw/fretsawlaw11.ArcTolerance", spec := "arcTolerance", inPlace := ["math.sqrt"], unfollowed := true, recurses := true, apart := false, narrowed := true }
def ArcToleranceUptoSaid : Prop := arcToleranceUptoRow.holds Try.pinned (OpenSpec.upto arcToleranceSpec)

/-- 'fretsawlaw11.ArcOrder', WHERE WHAT IT READS IS OF BULK AT MOST 1048576: true; the input reads as it did. -/
def arcOrderUptoRow : OpenClaim := { program := "ytlckiecpelchlaa", sum := "5941d33e79f180273649a6e0ac642d00aaf68e1070259e493aee02d106d60bbd", func := "fretsaw/fretsawlaw11.ArcOrder", spec := "arcOrder", inPlace := ["math.sqrt"], unfollowed := true, recurses := true, apart := false, narrowed := true }
def ArcOrderUptoSaid : Prop := arcOrderUptoRow.holds Try.pinned (OpenSpec.upto arcOrderSpec)

/-- 'fretsawlaw11.ArcOpposite', WHERE WHAT IT READS IS OF BULK AT MOST 1048576: true; the input reads as it did. -/
def arcOppositeUptoRow : OpenClaim := { program := "ytlckiecpelchlaa", sum := "5941d33e79f180273649a6e0ac642d00aaf68e1070259e493aee02d106d60bbd", func := "fretsaw/fretsawlaw11.ArcOpposite", spec := "arcOpposite", inPlace := ["math.sqrt"], unfollowed := true, recurses := true, apart := false, narrowed := true }
def ArcOppositeUptoSaid : Prop := arcOppositeUptoRow.holds Try.pinned (OpenSpec.upto arcOppositeSpec)

/-- 'fretsawlaw11.ArcCoarser', WHERE WHAT IT READS IS OF BULK AT MOST 1048576: true; the input reads as it did. -/
def arcCoarserUptoRow : OpenClaim := { program := "ytlckiecpelchlaa", sum := "5941d33e79f180273649a6e0ac642d00aaf68e1070259e493aee02d106d60bbd", func := "fretsaw/fretsawlaw11.ArcCoarser", spec := "arcCoarser", inPlace := ["math.sqrt"], unfollowed := true, recurses := true, apart := false, narrowed := true }
def ArcCoarserUptoSaid : Prop := arcCoarserUptoRow.holds Try.pinned (OpenSpec.upto arcCoarserSpec)

end Rows
end Go.Proofs.Ytlckiecpelchlaa
