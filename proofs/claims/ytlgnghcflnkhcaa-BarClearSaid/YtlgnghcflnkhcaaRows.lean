/-
  No cell of these rows narrows 'for every input' (looked for: loops, veiled, ifaces, maps, wideKeys, modest, calm, conditions, laid).
  DERIVED. THE GIVEN ROWS OF THIS SEAT. 8 by the template 'for every input the law returns true; each argument reads behind the call as it read before'; 0 by the template 'total and deterministic' (their statements: YtlgnghcflnkhcaaTotals.lean).
  GIVEN WITH THE SEED: the statements are not yours to turn. If you find one false, say at which input.
  Laid BY PROGRAM, IN A SANDBOX (cutbox-rows.mjs): the forced cells as the released guide's own fill.sh prints them over the translation 1307796680bf090e… (all of the seat's roots in one cut). By AI agents, Wed Nov 11 2026. No macro, syntax, notation, axiom, sorry.
-/
import Derived.Test.YtlgnghcflnkhcaaChecked
import GoSem.Claim
import GoSem.ClaimJoined
import GoSem.ClaimMapViews
import Derived.JoinedTies
import Derived.KernelRfl
namespace Go.Proofs.Ytlgnghcflnkhcaa
/- THE CELL 'sum', in the pinned program and in every row, IS THE sha256 OF THE DUMP (.gsa) THAT YtlgnghcflnkhcaaProg.lean LOADS. Nothing in Lean hashes anything: it is a label: what it is worth is what the hold of that sum in a sandbox is worth. -/
noncomputable def Try.pinned : Pinned := { name := "ytlgnghcflnkhcaa", sum := "1307796680bf090e4c0c90e61e46c133ffed046c925673dd6b9a5553650e8295", checked := Try.checked }
namespace Rows
def none {H : Type} : Left H := { results := [], args := [] }

/-- 'fretsawlaw26.BarKerf': WHATEVER THE INPUT: true; the input reads as it did. -/
def barKerfSpec : ChangeSpec := { name := "barKerf", fn := fun _ => fun
  | [d1, d2, d3] => { results := [.lit (.bool true)], args := [d1, d2, d3] }
  | _ => none }
def barKerfRow : OpenClaim := { program := "ytlgnghcflnkhcaa", sum := "1307796680bf090e4c0c90e61e46c133ffed046c925673dd6b9a5553650e8295", func := "fretsaw/fretsawlaw26.BarKerf", spec := "barKerf", unfollowed := true, recurses := true, apart := false }
def BarKerfSaid : Prop := barKerfRow.holds Try.pinned (OpenSpec.ofChange barKerfSpec)

/-- ITS FALSE NEIGHBOUR: 'it returns false'. Refute it at one input. -/
def barKerfWrong : ChangeSpec := { name := "barKerf", fn := fun _ => fun
  | [d1, d2, d3] => { results := [.lit (.bool false)], args := [d1, d2, d3] }
  | _ => none }
def BarKerfWrongFalsely : Prop := barKerfRow.holds Try.pinned (OpenSpec.ofChange barKerfWrong)

/-- 'fretsawlaw26.BarParts': WHATEVER THE INPUT: true; the input reads as it did. -/
def barPartsSpec : ChangeSpec := { name := "barParts", fn := fun _ => fun
  | [d1, d2, d3] => { results := [.lit (.bool true)], args := [d1, d2, d3] }
  | _ => none }
def barPartsRow : OpenClaim := { program := "ytlgnghcflnkhcaa", sum := "1307796680bf090e4c0c90e61e46c133ffed046c925673dd6b9a5553650e8295", func := "fretsaw/fretsawlaw26.BarParts", spec := "barParts", unfollowed := true, recurses := true, apart := false }
def BarPartsSaid : Prop := barPartsRow.holds Try.pinned (OpenSpec.ofChange barPartsSpec)

/-- ITS FALSE NEIGHBOUR: 'it returns false'. Refute it at one input. -/
def barPartsWrong : ChangeSpec := { name := "barParts", fn := fun _ => fun
  | [d1, d2, d3] => { results := [.lit (.bool false)], args := [d1, d2, d3] }
  | _ => none }
def BarPartsWrongFalsely : Prop := barPartsRow.holds Try.pinned (OpenSpec.ofChange barPartsWrong)

/-- 'fretsawlaw26.BarApart': WHATEVER THE INPUT: true; the input reads as it did. -/
def barApartSpec : ChangeSpec := { name := "barApart", fn := fun _ => fun
  | [d1, d2] => { results := [.lit (.bool true)], args := [d1, d2] }
  | _ => none }
def barApartRow : OpenClaim := { program := "ytlgnghcflnkhcaa", sum := "1307796680bf090e4c0c90e61e46c133ffed046c925673dd6b9a5553650e8295", func := "fretsaw/fretsawlaw26.BarApart", spec := "barApart", unfollowed := true, recurses := true, apart := false }
def BarApartSaid : Prop := barApartRow.holds Try.pinned (OpenSpec.ofChange barApartSpec)

/-- ITS FALSE NEIGHBOUR: 'it returns false'. Refute it at one input. -/
def barApartWrong : ChangeSpec := { name := "barApart", fn := fun _ => fun
  | [d1, d2] => { results := [.lit (.bool false)], args := [d1, d2] }
  | _ => none }
def BarApartWrongFalsely : Prop := barApartRow.holds Try.pinned (OpenSpec.ofChange barApartWrong)

/-- 'fretsawlaw26.BarTurns': WHATEVER THE INPUT: true; the input reads as it did. -/
def barTurnsSpec : ChangeSpec := { name := "barTurns", fn := fun _ => fun
  | [d1, d2] => { results := [.lit (.bool true)], args := [d1, d2] }
  | _ => none }
def barTurnsRow : OpenClaim := { program := "ytlgnghcflnkhcaa", sum := "1307796680bf090e4c0c90e61e46c133ffed046c925673dd6b9a5553650e8295", func := "fretsaw/fretsawlaw26.BarTurns", spec := "barTurns", unfollowed := true, recurses := true, apart := false }
def BarTurnsSaid : Prop := barTurnsRow.holds Try.pinned (OpenSpec.ofChange barTurnsSpec)

/-- ITS FALSE NEIGHBOUR: 'it returns false'. Refute it at one input. -/
def barTurnsWrong : ChangeSpec := { name := "barTurns", fn := fun _ => fun
  | [d1, d2] => { results := [.lit (.bool false)], args := [d1, d2] }
  | _ => none }
def BarTurnsWrongFalsely : Prop := barTurnsRow.holds Try.pinned (OpenSpec.ofChange barTurnsWrong)

/-- 'fretsawlaw26.BarOffset': WHATEVER THE INPUT: true; the input reads as it did. -/
def barOffsetSpec : ChangeSpec := { name := "barOffset", fn := fun _ => fun
  | [d1, d2, d3] => { results := [.lit (.bool true)], args := [d1, d2, d3] }
  | _ => none }
def barOffsetRow : OpenClaim := { program := "ytlgnghcflnkhcaa", sum := "1307796680bf090e4c0c90e61e46c133ffed046c925673dd6b9a5553650e8295", func := "fretsaw/fretsawlaw26.BarOffset", spec := "barOffset", unfollowed := true, recurses := true, apart := false }
def BarOffsetSaid : Prop := barOffsetRow.holds Try.pinned (OpenSpec.ofChange barOffsetSpec)

/-- ITS FALSE NEIGHBOUR: 'it returns false'. Refute it at one input. -/
def barOffsetWrong : ChangeSpec := { name := "barOffset", fn := fun _ => fun
  | [d1, d2, d3] => { results := [.lit (.bool false)], args := [d1, d2, d3] }
  | _ => none }
def BarOffsetWrongFalsely : Prop := barOffsetRow.holds Try.pinned (OpenSpec.ofChange barOffsetWrong)

/-- 'fretsawlaw26.BarRow': WHATEVER THE INPUT: true; the input reads as it did. -/
def barRowSpec : ChangeSpec := { name := "barRow", fn := fun _ => fun
  | [d1, d2, d3] => { results := [.lit (.bool true)], args := [d1, d2, d3] }
  | _ => none }
def barRowRow : OpenClaim := { program := "ytlgnghcflnkhcaa", sum := "1307796680bf090e4c0c90e61e46c133ffed046c925673dd6b9a5553650e8295", func := "fretsaw/fretsawlaw26.BarRow", spec := "barRow", unfollowed := true, recurses := true, apart := false }
def BarRowSaid : Prop := barRowRow.holds Try.pinned (OpenSpec.ofChange barRowSpec)

/-- ITS FALSE NEIGHBOUR: 'it returns false'. Refute it at one input. -/
def barRowWrong : ChangeSpec := { name := "barRow", fn := fun _ => fun
  | [d1, d2, d3] => { results := [.lit (.bool false)], args := [d1, d2, d3] }
  | _ => none }
def BarRowWrongFalsely : Prop := barRowRow.holds Try.pinned (OpenSpec.ofChange barRowWrong)

/-- 'fretsawlaw26.BarClear': WHATEVER THE INPUT: true; the input reads as it did. -/
def barClearSpec : ChangeSpec := { name := "barClear", fn := fun _ => fun
  | [d1, d2, d3] => { results := [.lit (.bool true)], args := [d1, d2, d3] }
  | _ => none }
def barClearRow : OpenClaim := { program := "ytlgnghcflnkhcaa", sum := "1307796680bf090e4c0c90e61e46c133ffed046c925673dd6b9a5553650e8295", func := "fretsaw/fretsawlaw26.BarClear", spec := "barClear", unfollowed := true, recurses := true, apart := false }
def BarClearSaid : Prop := barClearRow.holds Try.pinned (OpenSpec.ofChange barClearSpec)

/-- ITS FALSE NEIGHBOUR: 'it returns false'. Refute it at one input. -/
def barClearWrong : ChangeSpec := { name := "barClear", fn := fun _ => fun
  | [d1, d2, d3] => { results := [.lit (.bool false)], args := [d1, d2, d3] }
  | _ => none }
def BarClearWrongFalsely : Prop := barClearRow.holds Try.pinned (OpenSpec.ofChange barClearWrong)

/-- 'fretsawlaw26.BarBest': WHATEVER THE INPUT: true; the input reads as it did. -/
def barBestSpec : ChangeSpec := { name := "barBest", fn := fun _ => fun
  | [d1, d2, d3] => { results := [.lit (.bool true)], args := [d1, d2, d3] }
  | _ => none }
def barBestRow : OpenClaim := { program := "ytlgnghcflnkhcaa", sum := "1307796680bf090e4c0c90e61e46c133ffed046c925673dd6b9a5553650e8295", func := "fretsaw/fretsawlaw26.BarBest", spec := "barBest", unfollowed := true, recurses := true, apart := false }
def BarBestSaid : Prop := barBestRow.holds Try.pinned (OpenSpec.ofChange barBestSpec)

/-- ITS FALSE NEIGHBOUR: 'it returns false'. Refute it at one input. -/
def barBestWrong : ChangeSpec := { name := "barBest", fn := fun _ => fun
  | [d1, d2, d3] => { results := [.lit (.bool false)], args := [d1, d2, d3] }
  | _ => none }
def BarBestWrongFalsely : Prop := barBestRow.holds Try.pinned (OpenSpec.ofChange barBestWrong)

/- THE SECOND FORM. 'bulk': how many values and letters a reading holds, each counted each time it is reached (what is shared counts as often as it is met; a slice's spare places count too). A statement '..UptoSaid' is the law's where the arguments, and the package variables that the reading takes, are together of bulk at most 1048576: NARROWER than '..Said'. Prove '..Said' where nothing that the law and all that it calls make is longer than what came in: it says more and counts as full. Else prove '..UptoSaid'. A law counts once. -/
mutual
def uptoBulk {H : Type} : DataW H → Nat
  | .lit (.string bytes) => bytes.length + 1
  | .lit _ => 1
  | .nil => 1
  | .ptr d => uptoBulk d + 1
  | .slice elems spare => uptoBulkAll elems + uptoBulkAll spare + 1
  | .agg parts => uptoBulkAll parts + 1
  | .iface _ d => uptoBulk d + 1
  | .map entries => uptoBulkEntries entries + 1
  | .held _ => 1
def uptoBulkAll {H : Type} : List (DataW H) → Nat
  | [] => 0
  | d :: r => uptoBulk d + uptoBulkAll r
def uptoBulkEntries {H : Type} : List (Lit × DataW H) → Nat
  | [] => 0
  | x :: r => uptoBulkEntry x + uptoBulkEntries r
def uptoBulkEntry {H : Type} : Lit × DataW H → Nat
  | (.string bytes, d) => bytes.length + uptoBulk d + 1
  | (_, d) => uptoBulk d + 1
 end
def uptoSmall : (H : Type) → List (DataW H) → Bool := fun _ ds => decide (uptoBulkAll ds ≤ 1048576)
def OpenSpec.upto (s : _root_.Go.ChangeSpec) : _root_.Go.OpenSpec := { _root_.Go.OpenSpec.ofChange s with cond := some uptoSmall }

/-- 'fretsawlaw26.BarKerf', WHERE WHAT IT READS IS OF BULK AT MOST 1048576: true; the input reads as it did. -/
def barKerfUptoRow : OpenClaim := { program := "ytlgnghcflnkhcaa", sum := "1307796680bf090e4c0c90e61e46c133ffed046c925673dd6b9a5553650e8295", func := "fretsaw/fretsawlaw26.BarKerf", spec := "barKerf", unfollowed := true, recurses := true, apart := false, narrowed := true }
def BarKerfUptoSaid : Prop := barKerfUptoRow.holds Try.pinned (OpenSpec.upto barKerfSpec)

/-- 'fretsawlaw26.BarParts', WHERE WHAT IT READS IS OF BULK AT MOST 1048576: true; the input reads as it did. -/
def barPartsUptoRow : OpenClaim := { program := "ytlgnghcflnkhcaa", sum := "1307796680bf090e4c0c90e61e46c133ffed046c925673dd6b9a5553650e8295", func := "fretsaw/fretsawlaw26.BarParts", spec := "barParts", unfollowed := true, recurses := true, apart := false, narrowed := true }
def BarPartsUptoSaid : Prop := barPartsUptoRow.holds Try.pinned (OpenSpec.upto barPartsSpec)

/-- 'fretsawlaw26.BarApart', WHERE WHAT IT READS IS OF BULK AT MOST 1048576: true; the input reads as it did. -/
def barApartUptoRow : OpenClaim := { program := "ytlgnghcflnkhcaa", sum := "1307796680bf090e4c0c90e61e46c133ffed046c925673dd6b9a5553650e8295", func := "fretsaw/fretsawlaw26.BarApart", spec := "barApart", unfollowed := true, recurses := true, apart := false, narrowed := true }
def BarApartUptoSaid : Prop := barApartUptoRow.holds Try.pinned (OpenSpec.upto barApartSpec)

/-- 'fretsawlaw26.BarTurns', WHERE WHAT IT READS IS OF BULK AT MOST 1048576: true; the input reads as it did. -/
def barTurnsUptoRow : OpenClaim := { program := "ytlgnghcflnkhcaa", sum := "1307796680bf090e4c0c90e61e46c133ffed046c925673dd6b9a5553650e8295", func := "fretsaw/fretsawlaw26.BarTurns", spec := "barTurns", unfollowed := true, recurses := true, apart := false, narrowed := true }
def BarTurnsUptoSaid : Prop := barTurnsUptoRow.holds Try.pinned (OpenSpec.upto barTurnsSpec)

/-- 'fretsawlaw26.BarOffset', WHERE WHAT IT READS IS OF BULK AT MOST 1048576: true; the input reads as it did. -/
def barOffsetUptoRow : OpenClaim := { program := "ytlgnghcflnkhcaa", sum := "1307796680bf090e4c0c90e61e46c133ffed046c925673dd6b9a5553650e8295", func := "fretsaw/fretsawlaw26.BarOffset", spec := "barOffset", unfollowed := true, recurses := true, apart := false, narrowed := true }
def BarOffsetUptoSaid : Prop := barOffsetUptoRow.holds Try.pinned (OpenSpec.upto barOffsetSpec)

/-- 'fretsawlaw26.BarRow', WHERE WHAT IT READS IS OF BULK AT MOST 1048576: true; the input reads as it did. -/
def barRowUptoRow : OpenClaim := { program := "ytlgnghcflnkhcaa", sum := "1307796680bf090e4c0c90e61e46c133ffed046c925673dd6b9a5553650e8295", func := "fretsaw/fretsawlaw26.BarRow", spec := "barRow", unfollowed := true, recurses := true, apart := false, narrowed := true }
def BarRowUptoSaid : Prop := barRowUptoRow.holds Try.pinned (OpenSpec.upto barRowSpec)

/-- 'fretsawlaw26.BarClear', WHERE WHAT IT READS IS OF BULK AT MOST 1048576: true; the input reads as it did. -/
def barClearUptoRow : OpenClaim := { program := "ytlgnghcflnkhcaa", sum := "1307796680bf090e4c0c90e61e46c133ffed046c925673dd6b9a5553650e8295", func := "fretsaw/fretsawlaw26.BarClear", spec := "barClear", unfollowed := true, recurses := true, apart := false, narrowed := true }
def BarClearUptoSaid : Prop := barClearUptoRow.holds Try.pinned (OpenSpec.upto barClearSpec)

/-- 'fretsawlaw26.BarBest', WHERE WHAT IT READS IS OF BULK AT MOST 1048576: true; the input reads as it did. -/
def barBestUptoRow : OpenClaim := { program := "ytlgnghcflnkhcaa", sum := "1307796680bf090e4c0c90e61e46c133ffed046c925673dd6b9a5553650e8295", func := "fretsaw/fretsawlaw26.BarBest", spec := "barBest", unfollowed := true, recurses := true, apart := false, narrowed := true }
def BarBestUptoSaid : Prop := barBestUptoRow.holds Try.pinned (OpenSpec.upto barBestSpec)

end Rows
end Go.Proofs.Ytlgnghcflnkhcaa
