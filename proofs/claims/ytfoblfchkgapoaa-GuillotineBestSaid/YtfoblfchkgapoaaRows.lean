/-
  No cell of these rows narrows 'for every input' (looked for: loops, veiled, ifaces, maps, wideKeys, modest, calm, conditions, laid).
  DERIVED. THE GIVEN ROWS OF THIS SEAT. 12 by the template 'for every input the law returns true; each argument reads behind the call as it read before'; 0 by the template 'total and deterministic' (their statements: YtfoblfchkgapoaaTotals.lean).
  GIVEN WITH THE SEED: the statements are not yours to turn. If you find one false, say at which input.
  Laid BY PROGRAM, IN A SANDBOX (cutbox-rows.mjs): the forced cells as the released guide's own fill.sh prints them over the translation 2a6a506464ce6969… (all of the seat's roots in one cut). By AI agents, Wed Nov 11 2026. No macro, syntax, notation, axiom, sorry.
-/
import Derived.Test.YtfoblfchkgapoaaChecked
import GoSem.Claim
import GoSem.ClaimJoined
import GoSem.ClaimMapViews
import Derived.JoinedTies
import Derived.KernelRfl
namespace Go.Proofs.Ytfoblfchkgapoaa
/- THE CELL 'sum', in the pinned program and in every row, IS THE sha256 OF THE DUMP (.gsa) THAT YtfoblfchkgapoaaProg.lean LOADS. Nothing in Lean hashes anything: it is a label: what it is worth is what the hold of that sum in a sandbox is worth. -/
noncomputable def Try.pinned : Pinned := { name := "ytfoblfchkgapoaa", sum := "2a6a506464ce696902e0e2fdb64672d56f8bcc601ea3785c751ddb2d48645612", checked := Try.checked }
namespace Rows
def none {H : Type} : Left H := { results := [], args := [] }

/-- 'fretsawlaw37.StripBest': WHATEVER THE INPUT: true; the input reads as it did. -/
def stripBestSpec : ChangeSpec := { name := "stripBest", fn := fun _ => fun
  | [d] => { results := [.lit (.bool true)], args := [d] }
  | _ => none }
def stripBestRow : OpenClaim := { program := "ytfoblfchkgapoaa", sum := "2a6a506464ce696902e0e2fdb64672d56f8bcc601ea3785c751ddb2d48645612", func := "fretsaw/fretsawlaw37.StripBest", spec := "stripBest", unfollowed := true, recurses := true, apart := false }
def StripBestSaid : Prop := stripBestRow.holds Try.pinned (OpenSpec.ofChange stripBestSpec)

/-- ITS FALSE NEIGHBOUR: 'it returns false'. Refute it at one input. -/
def stripBestWrong : ChangeSpec := { name := "stripBest", fn := fun _ => fun
  | [d] => { results := [.lit (.bool false)], args := [d] }
  | _ => none }
def StripBestWrongFalsely : Prop := stripBestRow.holds Try.pinned (OpenSpec.ofChange stripBestWrong)

/-- 'fretsawlaw37.StripGrows': WHATEVER THE INPUT: true; the input reads as it did. -/
def stripGrowsSpec : ChangeSpec := { name := "stripGrows", fn := fun _ => fun
  | [d1, d2, d3] => { results := [.lit (.bool true)], args := [d1, d2, d3] }
  | _ => none }
def stripGrowsRow : OpenClaim := { program := "ytfoblfchkgapoaa", sum := "2a6a506464ce696902e0e2fdb64672d56f8bcc601ea3785c751ddb2d48645612", func := "fretsaw/fretsawlaw37.StripGrows", spec := "stripGrows", unfollowed := true, recurses := true, apart := false }
def StripGrowsSaid : Prop := stripGrowsRow.holds Try.pinned (OpenSpec.ofChange stripGrowsSpec)

/-- ITS FALSE NEIGHBOUR: 'it returns false'. Refute it at one input. -/
def stripGrowsWrong : ChangeSpec := { name := "stripGrows", fn := fun _ => fun
  | [d1, d2, d3] => { results := [.lit (.bool false)], args := [d1, d2, d3] }
  | _ => none }
def StripGrowsWrongFalsely : Prop := stripGrowsRow.holds Try.pinned (OpenSpec.ofChange stripGrowsWrong)

/-- 'fretsawlaw37.StripParts': WHATEVER THE INPUT: true; the input reads as it did. -/
def stripPartsSpec : ChangeSpec := { name := "stripParts", fn := fun _ => fun
  | [d1, d2] => { results := [.lit (.bool true)], args := [d1, d2] }
  | _ => none }
def stripPartsRow : OpenClaim := { program := "ytfoblfchkgapoaa", sum := "2a6a506464ce696902e0e2fdb64672d56f8bcc601ea3785c751ddb2d48645612", func := "fretsaw/fretsawlaw37.StripParts", spec := "stripParts", unfollowed := true, recurses := true, apart := false }
def StripPartsSaid : Prop := stripPartsRow.holds Try.pinned (OpenSpec.ofChange stripPartsSpec)

/-- ITS FALSE NEIGHBOUR: 'it returns false'. Refute it at one input. -/
def stripPartsWrong : ChangeSpec := { name := "stripParts", fn := fun _ => fun
  | [d1, d2] => { results := [.lit (.bool false)], args := [d1, d2] }
  | _ => none }
def StripPartsWrongFalsely : Prop := stripPartsRow.holds Try.pinned (OpenSpec.ofChange stripPartsWrong)

/-- 'fretsawlaw37.StripArea': WHATEVER THE INPUT: true; the input reads as it did. -/
def stripAreaSpec : ChangeSpec := { name := "stripArea", fn := fun _ => fun
  | [d1, d2] => { results := [.lit (.bool true)], args := [d1, d2] }
  | _ => none }
def stripAreaRow : OpenClaim := { program := "ytfoblfchkgapoaa", sum := "2a6a506464ce696902e0e2fdb64672d56f8bcc601ea3785c751ddb2d48645612", func := "fretsaw/fretsawlaw37.StripArea", spec := "stripArea", unfollowed := true, recurses := true, apart := false }
def StripAreaSaid : Prop := stripAreaRow.holds Try.pinned (OpenSpec.ofChange stripAreaSpec)

/-- ITS FALSE NEIGHBOUR: 'it returns false'. Refute it at one input. -/
def stripAreaWrong : ChangeSpec := { name := "stripArea", fn := fun _ => fun
  | [d1, d2] => { results := [.lit (.bool false)], args := [d1, d2] }
  | _ => none }
def StripAreaWrongFalsely : Prop := stripAreaRow.holds Try.pinned (OpenSpec.ofChange stripAreaWrong)

/-- 'fretsawlaw38.GuillotineGrows': WHATEVER THE INPUT: true; the input reads as it did. -/
def guillotineGrowsSpec : ChangeSpec := { name := "guillotineGrows", fn := fun _ => fun
  | [d1, d2, d3] => { results := [.lit (.bool true)], args := [d1, d2, d3] }
  | _ => none }
def guillotineGrowsRow : OpenClaim := { program := "ytfoblfchkgapoaa", sum := "2a6a506464ce696902e0e2fdb64672d56f8bcc601ea3785c751ddb2d48645612", func := "fretsaw/fretsawlaw38.GuillotineGrows", spec := "guillotineGrows", unfollowed := true, recurses := true, apart := false }
def GuillotineGrowsSaid : Prop := guillotineGrowsRow.holds Try.pinned (OpenSpec.ofChange guillotineGrowsSpec)

/-- ITS FALSE NEIGHBOUR: 'it returns false'. Refute it at one input. -/
def guillotineGrowsWrong : ChangeSpec := { name := "guillotineGrows", fn := fun _ => fun
  | [d1, d2, d3] => { results := [.lit (.bool false)], args := [d1, d2, d3] }
  | _ => none }
def GuillotineGrowsWrongFalsely : Prop := guillotineGrowsRow.holds Try.pinned (OpenSpec.ofChange guillotineGrowsWrong)

/-- 'fretsawlaw38.GuillotineParts': WHATEVER THE INPUT: true; the input reads as it did. -/
def guillotinePartsSpec : ChangeSpec := { name := "guillotineParts", fn := fun _ => fun
  | [d1, d2] => { results := [.lit (.bool true)], args := [d1, d2] }
  | _ => none }
def guillotinePartsRow : OpenClaim := { program := "ytfoblfchkgapoaa", sum := "2a6a506464ce696902e0e2fdb64672d56f8bcc601ea3785c751ddb2d48645612", func := "fretsaw/fretsawlaw38.GuillotineParts", spec := "guillotineParts", unfollowed := true, recurses := true, apart := false }
def GuillotinePartsSaid : Prop := guillotinePartsRow.holds Try.pinned (OpenSpec.ofChange guillotinePartsSpec)

/-- ITS FALSE NEIGHBOUR: 'it returns false'. Refute it at one input. -/
def guillotinePartsWrong : ChangeSpec := { name := "guillotineParts", fn := fun _ => fun
  | [d1, d2] => { results := [.lit (.bool false)], args := [d1, d2] }
  | _ => none }
def GuillotinePartsWrongFalsely : Prop := guillotinePartsRow.holds Try.pinned (OpenSpec.ofChange guillotinePartsWrong)

/-- 'fretsawlaw38.GuillotineNormal': WHATEVER THE INPUT: true; the input reads as it did. -/
def guillotineNormalSpec : ChangeSpec := { name := "guillotineNormal", fn := fun _ => fun
  | [d1, d2, d3] => { results := [.lit (.bool true)], args := [d1, d2, d3] }
  | _ => none }
def guillotineNormalRow : OpenClaim := { program := "ytfoblfchkgapoaa", sum := "2a6a506464ce696902e0e2fdb64672d56f8bcc601ea3785c751ddb2d48645612", func := "fretsaw/fretsawlaw38.GuillotineNormal", spec := "guillotineNormal", unfollowed := true, recurses := true, apart := false }
def GuillotineNormalSaid : Prop := guillotineNormalRow.holds Try.pinned (OpenSpec.ofChange guillotineNormalSpec)

/-- ITS FALSE NEIGHBOUR: 'it returns false'. Refute it at one input. -/
def guillotineNormalWrong : ChangeSpec := { name := "guillotineNormal", fn := fun _ => fun
  | [d1, d2, d3] => { results := [.lit (.bool false)], args := [d1, d2, d3] }
  | _ => none }
def GuillotineNormalWrongFalsely : Prop := guillotineNormalRow.holds Try.pinned (OpenSpec.ofChange guillotineNormalWrong)

/-- 'fretsawlaw38.GuillotineShrinks': WHATEVER THE INPUT: true; the input reads as it did. -/
def guillotineShrinksSpec : ChangeSpec := { name := "guillotineShrinks", fn := fun _ => fun
  | [d] => { results := [.lit (.bool true)], args := [d] }
  | _ => none }
def guillotineShrinksRow : OpenClaim := { program := "ytfoblfchkgapoaa", sum := "2a6a506464ce696902e0e2fdb64672d56f8bcc601ea3785c751ddb2d48645612", func := "fretsaw/fretsawlaw38.GuillotineShrinks", spec := "guillotineShrinks", unfollowed := true, recurses := true, apart := false }
def GuillotineShrinksSaid : Prop := guillotineShrinksRow.holds Try.pinned (OpenSpec.ofChange guillotineShrinksSpec)

/-- ITS FALSE NEIGHBOUR: 'it returns false'. Refute it at one input. -/
def guillotineShrinksWrong : ChangeSpec := { name := "guillotineShrinks", fn := fun _ => fun
  | [d] => { results := [.lit (.bool false)], args := [d] }
  | _ => none }
def GuillotineShrinksWrongFalsely : Prop := guillotineShrinksRow.holds Try.pinned (OpenSpec.ofChange guillotineShrinksWrong)

/-- 'fretsawlaw38.GuillotineSaw': WHATEVER THE INPUT: true; the input reads as it did. -/
def guillotineSawSpec : ChangeSpec := { name := "guillotineSaw", fn := fun _ => fun
  | [d1, d2] => { results := [.lit (.bool true)], args := [d1, d2] }
  | _ => none }
def guillotineSawRow : OpenClaim := { program := "ytfoblfchkgapoaa", sum := "2a6a506464ce696902e0e2fdb64672d56f8bcc601ea3785c751ddb2d48645612", func := "fretsaw/fretsawlaw38.GuillotineSaw", spec := "guillotineSaw", unfollowed := true, recurses := true, apart := false }
def GuillotineSawSaid : Prop := guillotineSawRow.holds Try.pinned (OpenSpec.ofChange guillotineSawSpec)

/-- ITS FALSE NEIGHBOUR: 'it returns false'. Refute it at one input. -/
def guillotineSawWrong : ChangeSpec := { name := "guillotineSaw", fn := fun _ => fun
  | [d1, d2] => { results := [.lit (.bool false)], args := [d1, d2] }
  | _ => none }
def GuillotineSawWrongFalsely : Prop := guillotineSawRow.holds Try.pinned (OpenSpec.ofChange guillotineSawWrong)

/-- 'fretsawlaw38.GuillotineBest': WHATEVER THE INPUT: true; the input reads as it did. -/
def guillotineBestSpec : ChangeSpec := { name := "guillotineBest", fn := fun _ => fun
  | [d] => { results := [.lit (.bool true)], args := [d] }
  | _ => none }
def guillotineBestRow : OpenClaim := { program := "ytfoblfchkgapoaa", sum := "2a6a506464ce696902e0e2fdb64672d56f8bcc601ea3785c751ddb2d48645612", func := "fretsaw/fretsawlaw38.GuillotineBest", spec := "guillotineBest", unfollowed := true, recurses := true, apart := false }
def GuillotineBestSaid : Prop := guillotineBestRow.holds Try.pinned (OpenSpec.ofChange guillotineBestSpec)

/-- ITS FALSE NEIGHBOUR: 'it returns false'. Refute it at one input. -/
def guillotineBestWrong : ChangeSpec := { name := "guillotineBest", fn := fun _ => fun
  | [d] => { results := [.lit (.bool false)], args := [d] }
  | _ => none }
def GuillotineBestWrongFalsely : Prop := guillotineBestRow.holds Try.pinned (OpenSpec.ofChange guillotineBestWrong)

/-- 'fretsawlaw38.GuillotineStages': WHATEVER THE INPUT: true; the input reads as it did. -/
def guillotineStagesSpec : ChangeSpec := { name := "guillotineStages", fn := fun _ => fun
  | [d1, d2] => { results := [.lit (.bool true)], args := [d1, d2] }
  | _ => none }
def guillotineStagesRow : OpenClaim := { program := "ytfoblfchkgapoaa", sum := "2a6a506464ce696902e0e2fdb64672d56f8bcc601ea3785c751ddb2d48645612", func := "fretsaw/fretsawlaw38.GuillotineStages", spec := "guillotineStages", unfollowed := true, recurses := true, apart := false }
def GuillotineStagesSaid : Prop := guillotineStagesRow.holds Try.pinned (OpenSpec.ofChange guillotineStagesSpec)

/-- ITS FALSE NEIGHBOUR: 'it returns false'. Refute it at one input. -/
def guillotineStagesWrong : ChangeSpec := { name := "guillotineStages", fn := fun _ => fun
  | [d1, d2] => { results := [.lit (.bool false)], args := [d1, d2] }
  | _ => none }
def GuillotineStagesWrongFalsely : Prop := guillotineStagesRow.holds Try.pinned (OpenSpec.ofChange guillotineStagesWrong)

/-- 'fretsawlaw37.StripTrees': WHATEVER THE INPUT: true; the input reads as it did. -/
def stripTreesSpec : ChangeSpec := { name := "stripTrees", fn := fun _ => fun
  | [d1, d2, d3] => { results := [.lit (.bool true)], args := [d1, d2, d3] }
  | _ => none }
def stripTreesRow : OpenClaim := { program := "ytfoblfchkgapoaa", sum := "2a6a506464ce696902e0e2fdb64672d56f8bcc601ea3785c751ddb2d48645612", func := "fretsaw/fretsawlaw37.StripTrees", spec := "stripTrees", unfollowed := true, recurses := true, apart := false }
def StripTreesSaid : Prop := stripTreesRow.holds Try.pinned (OpenSpec.ofChange stripTreesSpec)

/-- ITS FALSE NEIGHBOUR: 'it returns false'. Refute it at one input. -/
def stripTreesWrong : ChangeSpec := { name := "stripTrees", fn := fun _ => fun
  | [d1, d2, d3] => { results := [.lit (.bool false)], args := [d1, d2, d3] }
  | _ => none }
def StripTreesWrongFalsely : Prop := stripTreesRow.holds Try.pinned (OpenSpec.ofChange stripTreesWrong)

/- THE SECOND FORM. 'bulk': how many values and letters a reading holds, each counted each time it is reached (what is shared counts as often as it is met; a slice's spare places count too). A statement '..UptoSaid' is the law's where the arguments, and the package variables that the reading takes, are together of bulk at most 1048576: NARROWER than '..Said'. Prove '..Said' where nothing that the law and all that it calls make is longer than what came in: it says more and counts as full. Else prove '..UptoSaid'. A law counts once. -/
mutual
def uptoBulk {H : Type} : DataW H → Nat
  | .lit (.string bytes) => bytes.length + 1
  | .lit _ => 1
  | .nil => 1
  | .ptr d => uptoBulk d + 1
  | .slice elems spare => uptoBulkAll elems + uptoBulkAll spare + 1
  | .agg parts => uptoBulkAll parts + 1
  | .iface _ d => uptoBulk d + 1
  | .map entries => uptoBulkEntries entries + 1
  | .held _ => 1
def uptoBulkAll {H : Type} : List (DataW H) → Nat
  | [] => 0
  | d :: r => uptoBulk d + uptoBulkAll r
def uptoBulkEntries {H : Type} : List (Lit × DataW H) → Nat
  | [] => 0
  | x :: r => uptoBulkEntry x + uptoBulkEntries r
def uptoBulkEntry {H : Type} : Lit × DataW H → Nat
  | (.string bytes, d) => bytes.length + uptoBulk d + 1
  | (_, d) => uptoBulk d + 1
 end
def uptoSmall : (H : Type) → List (DataW H) → Bool := fun _ ds => decide (uptoBulkAll ds ≤ 1048576)
def OpenSpec.upto (s : _root_.Go.ChangeSpec) : _root_.Go.OpenSpec := { _root_.Go.OpenSpec.ofChange s with cond := some uptoSmall }

/-- 'fretsawlaw37.StripBest', WHERE WHAT IT READS IS OF BULK AT MOST 1048576: true; the input reads as it did. -/
def stripBestUptoRow : OpenClaim := { program := "ytfoblfchkgapoaa", sum := "2a6a506464ce696902e0e2fdb64672d56f8bcc601ea3785c751ddb2d48645612", func := "fretsaw/fretsawlaw37.StripBest", spec := "stripBest", unfollowed := true, recurses := true, apart := false, narrowed := true }
def StripBestUptoSaid : Prop := stripBestUptoRow.holds Try.pinned (OpenSpec.upto stripBestSpec)

/-- 'fretsawlaw37.StripGrows', WHERE WHAT IT READS IS OF BULK AT MOST 1048576: true; the input reads as it did. -/
def stripGrowsUptoRow : OpenClaim := { program := "ytfoblfchkgapoaa", sum := "2a6a506464ce696902e0e2fdb64672d56f8bcc601ea3785c751ddb2d48645612", func := "fretsaw/fretsawlaw37.StripGrows", spec := "stripGrows", unfollowed := true, recurses := true, apart := false, narrowed := true }
def StripGrowsUptoSaid : Prop := stripGrowsUptoRow.holds Try.pinned (OpenSpec.upto stripGrowsSpec)

/-- 'fretsawlaw37.StripParts', WHERE WHAT IT READS IS OF BULK AT MOST 1048576: true; the input reads as it did. -/
def stripPartsUptoRow : OpenClaim := { program := "ytfoblfchkgapoaa", sum := "2a6a506464ce696902e0e2fdb64672d56f8bcc601ea3785c751ddb2d48645612", func := "fretsaw/fretsawlaw37.StripParts", spec := "stripParts", unfollowed := true, recurses := true, apart := false, narrowed := true }
def StripPartsUptoSaid : Prop := stripPartsUptoRow.holds Try.pinned (OpenSpec.upto stripPartsSpec)

/-- 'fretsawlaw37.StripArea', WHERE WHAT IT READS IS OF BULK AT MOST 1048576: true; the input reads as it did. -/
def stripAreaUptoRow : OpenClaim := { program := "ytfoblfchkgapoaa", sum := "2a6a506464ce696902e0e2fdb64672d56f8bcc601ea3785c751ddb2d48645612", func := "fretsaw/fretsawlaw37.StripArea", spec := "stripArea", unfollowed := true, recurses := true, apart := false, narrowed := true }
def StripAreaUptoSaid : Prop := stripAreaUptoRow.holds Try.pinned (OpenSpec.upto stripAreaSpec)

/-- 'fretsawlaw38.GuillotineGrows', WHERE WHAT IT READS IS OF BULK AT MOST 1048576: true; the input reads as it did. -/
def guillotineGrowsUptoRow : OpenClaim := { program := "ytfoblfchkgapoaa", sum := "2a6a506464ce696902e0e2fdb64672d56f8bcc601ea3785c751ddb2d48645612", func := "fretsaw/fretsawlaw38.GuillotineGrows", spec := "guillotineGrows", unfollowed := true, recurses := true, apart := false, narrowed := true }
def GuillotineGrowsUptoSaid : Prop := guillotineGrowsUptoRow.holds Try.pinned (OpenSpec.upto guillotineGrowsSpec)

/-- 'fretsawlaw38.GuillotineParts', WHERE WHAT IT READS IS OF BULK AT MOST 1048576: true; the input reads as it did. -/
def guillotinePartsUptoRow : OpenClaim := { program := "ytfoblfchkgapoaa", sum := "2a6a506464ce696902e0e2fdb64672d56f8bcc601ea3785c751ddb2d48645612", func := "fretsaw/fretsawlaw38.GuillotineParts", spec := "guillotineParts", unfollowed := true, recurses := true, apart := false, narrowed := true }
def GuillotinePartsUptoSaid : Prop := guillotinePartsUptoRow.holds Try.pinned (OpenSpec.upto guillotinePartsSpec)

/-- 'fretsawlaw38.GuillotineNormal', WHERE WHAT IT READS IS OF BULK AT MOST 1048576: true; the input reads as it did. -/
def guillotineNormalUptoRow : OpenClaim := { program := "ytfoblfchkgapoaa", sum := "2a6a506464ce696902e0e2fdb64672d56f8bcc601ea3785c751ddb2d48645612", func := "fretsaw/fretsawlaw38.GuillotineNormal", spec := "guillotineNormal", unfollowed := true, recurses := true, apart := false, narrowed := true }
def GuillotineNormalUptoSaid : Prop := guillotineNormalUptoRow.holds Try.pinned (OpenSpec.upto guillotineNormalSpec)

/-- 'fretsawlaw38.GuillotineShrinks', WHERE WHAT IT READS IS OF BULK AT MOST 1048576: true; the input reads as it did. -/
def guillotineShrinksUptoRow : OpenClaim := { program := "ytfoblfchkgapoaa", sum := "2a6a506464ce696902e0e2fdb64672d56f8bcc601ea3785c751ddb2d48645612", func := "fretsaw/fretsawlaw38.GuillotineShrinks", spec := "guillotineShrinks", unfollowed := true, recurses := true, apart := false, narrowed := true }
def GuillotineShrinksUptoSaid : Prop := guillotineShrinksUptoRow.holds Try.pinned (OpenSpec.upto guillotineShrinksSpec)

/-- 'fretsawlaw38.GuillotineSaw', WHERE WHAT IT READS IS OF BULK AT MOST 1048576: true; the input reads as it did. -/
def guillotineSawUptoRow : OpenClaim := { program := "ytfoblfchkgapoaa", sum := "2a6a506464ce696902e0e2fdb64672d56f8bcc601ea3785c751ddb2d48645612", func := "fretsaw/fretsawlaw38.GuillotineSaw", spec := "guillotineSaw", unfollowed := true, recurses := true, apart := false, narrowed := true }
def GuillotineSawUptoSaid : Prop := guillotineSawUptoRow.holds Try.pinned (OpenSpec.upto guillotineSawSpec)

/-- 'fretsawlaw38.GuillotineBest', WHERE WHAT IT READS IS OF BULK AT MOST 1048576: true; the input reads as it did. -/
def guillotineBestUptoRow : OpenClaim := { program := "ytfoblfchkgapoaa", sum := "2a6a506464ce696902e0e2fdb64672d56f8bcc601ea3785c751ddb2d48645612", func := "fretsaw/fretsawlaw38.GuillotineBest", spec := "guillotineBest", unfollowed := true, recurses := true, apart := false, narrowed := true }
def GuillotineBestUptoSaid : Prop := guillotineBestUptoRow.holds Try.pinned (OpenSpec.upto guillotineBestSpec)

/-- 'fretsawlaw38.GuillotineStages', WHERE WHAT IT READS IS OF BULK AT MOST 1048576: true; the input reads as it did. -/
def guillotineStagesUptoRow : OpenClaim := { program := "ytfoblfchkgapoaa", sum := "2a6a506464ce696902e0e2fdb64672d56f8bcc601ea3785c751ddb2d48645612", func := "fretsaw/fretsawlaw38.GuillotineStages", spec := "guillotineStages", unfollowed := true, recurses := true, apart := false, narrowed := true }
def GuillotineStagesUptoSaid : Prop := guillotineStagesUptoRow.holds Try.pinned (OpenSpec.upto guillotineStagesSpec)

/-- 'fretsawlaw37.StripTrees', WHERE WHAT IT READS IS OF BULK AT MOST 1048576: true; the input reads as it did. -/
def stripTreesUptoRow : OpenClaim := { program := "ytfoblfchkgapoaa", sum := "2a6a506464ce696902e0e2fdb64672d56f8bcc601ea3785c751ddb2d48645612", func := "fretsaw/fretsawlaw37.StripTrees", spec := "stripTrees", unfollowed := true, recurses := true, apart := false, narrowed := true }
def StripTreesUptoSaid : Prop := stripTreesUptoRow.holds Try.pinned (OpenSpec.upto stripTreesSpec)

end Rows
end Go.Proofs.Ytfoblfchkgapoaa
