/-
  The table of this program's types.
  Layer 26: contracts of the functions on one part, and of the search in a row.
  Layer 26: contracts of the functions on a row.
  Layer 26: contracts of a row's length, scrap and of the statements' own guard.
  Layer 26: contracts of a row's cuts, of two parts' gap, of the statements' guards.
  Layer 26: the examples that every statement checks first.
  Layer 26: how a row's length and scrap grow with the kerf, in plain numbers.
  The law BarKerf as a contract.
  Layer 26: contracts of the references on one part, and the law BarParts.
  Layer 26: the plain law of a row, and the law BarApart.
  Layer 26: a row that is turned around, or mirrored, and the law BarTurns.
  Layer 26: contracts of the references on rows, and the law BarRow.
-/
import Derived.Test.YtobmlkopbmakcaaGreatVmV
import Derived.Test.YtobmlkopbmakcaaGreatProg
namespace Go.Vm
set_option maxRecDepth 20000
open Go Go.RowKit Go.Proofs
def T1 : Ty := ⟨1, 8, .cell, [.v .nilFunc]⟩
theorem tok1 : TyOk Tryz.prog 1 T1 := ⟨⟨_, _, rfl, rfl, rfl, rfl, rfl, rfl, rfl⟩, _, rfl, rfl⟩
def T2 : Ty := ⟨1, 8, .int .i64, [.v (.int .i64 0)]⟩
theorem tok2 : TyOk Tryz.prog 2 T2 := ⟨⟨_, _, rfl, rfl, rfl, rfl, rfl, rfl, rfl⟩, rfl⟩
def T3 : Ty := ⟨1, 8, .int .i64, [.v (.int .i64 0)]⟩
theorem tok3 : TyOk Tryz.prog 3 T3 := ⟨⟨_, _, rfl, rfl, rfl, rfl, rfl, rfl, rfl⟩, rfl⟩
def T4 : Ty := ⟨1, 1, .cell, [.v (.bool false)]⟩
theorem tok4 : TyOk Tryz.prog 4 T4 := ⟨⟨_, _, rfl, rfl, rfl, rfl, rfl, rfl, rfl⟩, _, rfl, rfl⟩
def T5 : Ty := ⟨1, 1, .int .u8, [.v (.int .u8 0)]⟩
theorem tok5 : TyOk Tryz.prog 5 T5 := ⟨⟨_, _, rfl, rfl, rfl, rfl, rfl, rfl, rfl⟩, rfl⟩
def T9 : Ty := ⟨1, 16, .cell, [.v (.string ⟨#[]⟩)]⟩
theorem tok9 : TyOk Tryz.prog 9 T9 := ⟨⟨_, _, rfl, rfl, rfl, rfl, rfl, rfl, rfl⟩, _, rfl, rfl⟩
def T12 : Ty := ⟨1, 8, .int .u64, [.v (.int .u64 0)]⟩
theorem tok12 : TyOk Tryz.prog 12 T12 := ⟨⟨_, _, rfl, rfl, rfl, rfl, rfl, rfl, rfl⟩, rfl⟩
def T21 : Ty := ⟨1, 4, .int .i32, [.v (.int .i32 0)]⟩
theorem tok21 : TyOk Tryz.prog 21 T21 := ⟨⟨_, _, rfl, rfl, rfl, rfl, rfl, rfl, rfl⟩, rfl⟩
def T22 : Ty := ⟨1, 24, .slc 3, [.v (.slice none 0 0)]⟩
theorem tok22 : TyOk Tryz.prog 22 T22 := ⟨⟨_, _, rfl, rfl, rfl, rfl, rfl, rfl, rfl⟩, rfl⟩
def T23 : Ty := ⟨4, 64, .str [(0, 22, 1), (1, 22, 1), (2, 3, 1), (3, 3, 1)], [.v (.slice none 0 0), .v (.slice none 0 0), .v (.int .i64 0), .v (.int .i64 0)]⟩
theorem tok23 : TyOk Tryz.prog 23 T23 := ⟨⟨_, _, rfl, rfl, rfl, rfl, rfl, rfl, rfl⟩, _, rfl, rfl, rfl⟩
def T24 : Ty := ⟨4, 64, .str [(0, 22, 1), (1, 22, 1), (2, 3, 1), (3, 3, 1)], [.v (.slice none 0 0), .v (.slice none 0 0), .v (.int .i64 0), .v (.int .i64 0)]⟩
theorem tok24 : TyOk Tryz.prog 24 T24 := ⟨⟨_, _, rfl, rfl, rfl, rfl, rfl, rfl, rfl⟩, _, rfl, rfl, rfl⟩
def T25 : Ty := ⟨1, 24, .slc 5, [.v (.slice none 0 0)]⟩
theorem tok25 : TyOk Tryz.prog 25 T25 := ⟨⟨_, _, rfl, rfl, rfl, rfl, rfl, rfl, rfl⟩, rfl⟩
def T26 : Ty := ⟨1, 8, .cell, [.v .nilFunc]⟩
theorem tok26 : TyOk Tryz.prog 26 T26 := ⟨⟨_, _, rfl, rfl, rfl, rfl, rfl, rfl, rfl⟩, _, rfl, rfl⟩
def T27 : Ty := ⟨1, 8, .cell, [.v .nilFunc]⟩
theorem tok27 : TyOk Tryz.prog 27 T27 := ⟨⟨_, _, rfl, rfl, rfl, rfl, rfl, rfl, rfl⟩, _, rfl, rfl⟩
def T28 : Ty := ⟨1, 24, .slc 30, [.v (.slice none 0 0)]⟩
theorem tok28 : TyOk Tryz.prog 28 T28 := ⟨⟨_, _, rfl, rfl, rfl, rfl, rfl, rfl, rfl⟩, rfl⟩
def T29 : Ty := ⟨5, 56, .str [(0, 9, 1), (1, 9, 1), (2, 3, 1), (3, 3, 1), (4, 3, 1)], [.v (.string ⟨#[]⟩), .v (.string ⟨#[]⟩), .v (.int .i64 0), .v (.int .i64 0), .v (.int .i64 0)]⟩
theorem tok29 : TyOk Tryz.prog 29 T29 := ⟨⟨_, _, rfl, rfl, rfl, rfl, rfl, rfl, rfl⟩, _, rfl, rfl, rfl⟩
def T30 : Ty := ⟨5, 56, .str [(0, 9, 1), (1, 9, 1), (2, 3, 1), (3, 3, 1), (4, 3, 1)], [.v (.string ⟨#[]⟩), .v (.string ⟨#[]⟩), .v (.int .i64 0), .v (.int .i64 0), .v (.int .i64 0)]⟩
theorem tok30 : TyOk Tryz.prog 30 T30 := ⟨⟨_, _, rfl, rfl, rfl, rfl, rfl, rfl, rfl⟩, _, rfl, rfl, rfl⟩
def T31 : Ty := ⟨1, 8, .int .i64, [.v (.int .i64 0)]⟩
theorem tok31 : TyOk Tryz.prog 31 T31 := ⟨⟨_, _, rfl, rfl, rfl, rfl, rfl, rfl, rfl⟩, rfl⟩
def T33 : Ty := ⟨1, 8, .cell, [.v .nilFunc]⟩
theorem tok33 : TyOk Tryz.prog 33 T33 := ⟨⟨_, _, rfl, rfl, rfl, rfl, rfl, rfl, rfl⟩, _, rfl, rfl⟩
def T34 : Ty := ⟨1, 8, .cell, [.v .nilFunc]⟩
theorem tok34 : TyOk Tryz.prog 34 T34 := ⟨⟨_, _, rfl, rfl, rfl, rfl, rfl, rfl, rfl⟩, _, rfl, rfl⟩
def T35 : Ty := ⟨1, 24, .slc 83, [.v (.slice none 0 0)]⟩
theorem tok35 : TyOk Tryz.prog 35 T35 := ⟨⟨_, _, rfl, rfl, rfl, rfl, rfl, rfl, rfl⟩, rfl⟩
def T36 : Ty := ⟨5, 72, .str [(0, 3, 1), (1, 9, 1), (2, 9, 1), (3, 3, 1), (4, 35, 1)], [.v (.int .i64 0), .v (.string ⟨#[]⟩), .v (.string ⟨#[]⟩), .v (.int .i64 0), .v (.slice none 0 0)]⟩
theorem tok36 : TyOk Tryz.prog 36 T36 := ⟨⟨_, _, rfl, rfl, rfl, rfl, rfl, rfl, rfl⟩, _, rfl, rfl, rfl⟩
def T37 : Ty := ⟨5, 72, .str [(0, 3, 1), (1, 9, 1), (2, 9, 1), (3, 3, 1), (4, 35, 1)], [.v (.int .i64 0), .v (.string ⟨#[]⟩), .v (.string ⟨#[]⟩), .v (.int .i64 0), .v (.slice none 0 0)]⟩
theorem tok37 : TyOk Tryz.prog 37 T37 := ⟨⟨_, _, rfl, rfl, rfl, rfl, rfl, rfl, rfl⟩, _, rfl, rfl, rfl⟩
def T38 : Ty := ⟨1, 8, .cell, [.v .nilFunc]⟩
theorem tok38 : TyOk Tryz.prog 38 T38 := ⟨⟨_, _, rfl, rfl, rfl, rfl, rfl, rfl, rfl⟩, _, rfl, rfl⟩
def T39 : Ty := ⟨4, 64, .str [(0, 22, 1), (1, 22, 1), (2, 3, 1), (3, 3, 1)], [.v (.slice none 0 0), .v (.slice none 0 0), .v (.int .i64 0), .v (.int .i64 0)]⟩
theorem tok39 : TyOk Tryz.prog 39 T39 := ⟨⟨_, _, rfl, rfl, rfl, rfl, rfl, rfl, rfl⟩, _, rfl, rfl, rfl⟩
def T40 : Ty := ⟨1, 8, .cell, [.v .nilFunc]⟩
theorem tok40 : TyOk Tryz.prog 40 T40 := ⟨⟨_, _, rfl, rfl, rfl, rfl, rfl, rfl, rfl⟩, _, rfl, rfl⟩
def T41 : Ty := ⟨1, 24, .slc 50, [.v (.slice none 0 0)]⟩
theorem tok41 : TyOk Tryz.prog 41 T41 := ⟨⟨_, _, rfl, rfl, rfl, rfl, rfl, rfl, rfl⟩, rfl⟩
def T42 : Ty := ⟨1, 24, .slc 50, [.v (.slice none 0 0)]⟩
theorem tok42 : TyOk Tryz.prog 42 T42 := ⟨⟨_, _, rfl, rfl, rfl, rfl, rfl, rfl, rfl⟩, rfl⟩
def T43 : Ty := ⟨1, 24, .slc 42, [.v (.slice none 0 0)]⟩
theorem tok43 : TyOk Tryz.prog 43 T43 := ⟨⟨_, _, rfl, rfl, rfl, rfl, rfl, rfl, rfl⟩, rfl⟩
def T44 : Ty := ⟨2, 48, .str [(0, 42, 1), (1, 43, 1)], [.v (.slice none 0 0), .v (.slice none 0 0)]⟩
theorem tok44 : TyOk Tryz.prog 44 T44 := ⟨⟨_, _, rfl, rfl, rfl, rfl, rfl, rfl, rfl⟩, _, rfl, rfl, rfl⟩
def T45 : Ty := ⟨2, 48, .str [(0, 42, 1), (1, 43, 1)], [.v (.slice none 0 0), .v (.slice none 0 0)]⟩
theorem tok45 : TyOk Tryz.prog 45 T45 := ⟨⟨_, _, rfl, rfl, rfl, rfl, rfl, rfl, rfl⟩, _, rfl, rfl, rfl⟩
def T46 : Ty := ⟨1, 24, .slc 45, [.v (.slice none 0 0)]⟩
theorem tok46 : TyOk Tryz.prog 46 T46 := ⟨⟨_, _, rfl, rfl, rfl, rfl, rfl, rfl, rfl⟩, rfl⟩
def T47 : Ty := ⟨5, 120, .str [(0, 45, 2), (2, 46, 1), (3, 45, 2)], [.v (.slice none 0 0), .v (.slice none 0 0), .v (.slice none 0 0), .v (.slice none 0 0), .v (.slice none 0 0)]⟩
theorem tok47 : TyOk Tryz.prog 47 T47 := ⟨⟨_, _, rfl, rfl, rfl, rfl, rfl, rfl, rfl⟩, _, rfl, rfl, rfl⟩
def T48 : Ty := ⟨5, 120, .str [(0, 45, 2), (2, 46, 1), (3, 45, 2)], [.v (.slice none 0 0), .v (.slice none 0 0), .v (.slice none 0 0), .v (.slice none 0 0), .v (.slice none 0 0)]⟩
theorem tok48 : TyOk Tryz.prog 48 T48 := ⟨⟨_, _, rfl, rfl, rfl, rfl, rfl, rfl, rfl⟩, _, rfl, rfl, rfl⟩
def T49 : Ty := ⟨2, 16, .str [(0, 3, 1), (1, 3, 1)], [.v (.int .i64 0), .v (.int .i64 0)]⟩
theorem tok49 : TyOk Tryz.prog 49 T49 := ⟨⟨_, _, rfl, rfl, rfl, rfl, rfl, rfl, rfl⟩, _, rfl, rfl, rfl⟩
def T50 : Ty := ⟨2, 16, .str [(0, 3, 1), (1, 3, 1)], [.v (.int .i64 0), .v (.int .i64 0)]⟩
theorem tok50 : TyOk Tryz.prog 50 T50 := ⟨⟨_, _, rfl, rfl, rfl, rfl, rfl, rfl, rfl⟩, _, rfl, rfl, rfl⟩
def T51 : Ty := ⟨1, 8, .cell, [.v .nilFunc]⟩
theorem tok51 : TyOk Tryz.prog 51 T51 := ⟨⟨_, _, rfl, rfl, rfl, rfl, rfl, rfl, rfl⟩, _, rfl, rfl⟩
def T52 : Ty := ⟨1, 8, .cell, [.v .nilFunc]⟩
theorem tok52 : TyOk Tryz.prog 52 T52 := ⟨⟨_, _, rfl, rfl, rfl, rfl, rfl, rfl, rfl⟩, _, rfl, rfl⟩
def T54 : Ty := ⟨1, 8, .cell, [.v .nilFunc]⟩
theorem tok54 : TyOk Tryz.prog 54 T54 := ⟨⟨_, _, rfl, rfl, rfl, rfl, rfl, rfl, rfl⟩, _, rfl, rfl⟩
def T56 : Ty := ⟨1, 8, .cell, [.v .nilFunc]⟩
theorem tok56 : TyOk Tryz.prog 56 T56 := ⟨⟨_, _, rfl, rfl, rfl, rfl, rfl, rfl, rfl⟩, _, rfl, rfl⟩
def T57 : Ty := ⟨4, 32, .str [(0, 50, 2), (2, 50, 2)], [.v (.int .i64 0), .v (.int .i64 0), .v (.int .i64 0), .v (.int .i64 0)]⟩
theorem tok57 : TyOk Tryz.prog 57 T57 := ⟨⟨_, _, rfl, rfl, rfl, rfl, rfl, rfl, rfl⟩, _, rfl, rfl, rfl⟩
def T58 : Ty := ⟨4, 32, .str [(0, 50, 2), (2, 50, 2)], [.v (.int .i64 0), .v (.int .i64 0), .v (.int .i64 0), .v (.int .i64 0)]⟩
theorem tok58 : TyOk Tryz.prog 58 T58 := ⟨⟨_, _, rfl, rfl, rfl, rfl, rfl, rfl, rfl⟩, _, rfl, rfl, rfl⟩
def T59 : Ty := ⟨1, 24, .slc 42, [.v (.slice none 0 0)]⟩
theorem tok59 : TyOk Tryz.prog 59 T59 := ⟨⟨_, _, rfl, rfl, rfl, rfl, rfl, rfl, rfl⟩, rfl⟩
def T60 : Ty := ⟨5, 56, .str [(0, 58, 4), (4, 59, 1)], [.v (.int .i64 0), .v (.int .i64 0), .v (.int .i64 0), .v (.int .i64 0), .v (.slice none 0 0)]⟩
theorem tok60 : TyOk Tryz.prog 60 T60 := ⟨⟨_, _, rfl, rfl, rfl, rfl, rfl, rfl, rfl⟩, _, rfl, rfl, rfl⟩
def T61 : Ty := ⟨5, 56, .str [(0, 58, 4), (4, 59, 1)], [.v (.int .i64 0), .v (.int .i64 0), .v (.int .i64 0), .v (.int .i64 0), .v (.slice none 0 0)]⟩
theorem tok61 : TyOk Tryz.prog 61 T61 := ⟨⟨_, _, rfl, rfl, rfl, rfl, rfl, rfl, rfl⟩, _, rfl, rfl, rfl⟩
def T63 : Ty := ⟨1, 8, .cell, [.v .nilFunc]⟩
theorem tok63 : TyOk Tryz.prog 63 T63 := ⟨⟨_, _, rfl, rfl, rfl, rfl, rfl, rfl, rfl⟩, _, rfl, rfl⟩
def T64 : Ty := ⟨1, 8, .cell, [.v .nilFunc]⟩
theorem tok64 : TyOk Tryz.prog 64 T64 := ⟨⟨_, _, rfl, rfl, rfl, rfl, rfl, rfl, rfl⟩, _, rfl, rfl⟩
def T65 : Ty := ⟨1, 8, .cell, [.v .nilFunc]⟩
theorem tok65 : TyOk Tryz.prog 65 T65 := ⟨⟨_, _, rfl, rfl, rfl, rfl, rfl, rfl, rfl⟩, _, rfl, rfl⟩
def T67 : Ty := ⟨1, 8, .cell, [.v .nilFunc]⟩
theorem tok67 : TyOk Tryz.prog 67 T67 := ⟨⟨_, _, rfl, rfl, rfl, rfl, rfl, rfl, rfl⟩, _, rfl, rfl⟩
def T68 : Ty := ⟨1, 8, .cell, [.v .nilFunc]⟩
theorem tok68 : TyOk Tryz.prog 68 T68 := ⟨⟨_, _, rfl, rfl, rfl, rfl, rfl, rfl, rfl⟩, _, rfl, rfl⟩
def T69 : Ty := ⟨1, 8, .cell, [.v .nilFunc]⟩
theorem tok69 : TyOk Tryz.prog 69 T69 := ⟨⟨_, _, rfl, rfl, rfl, rfl, rfl, rfl, rfl⟩, _, rfl, rfl⟩
def T70 : Ty := ⟨1, 8, .cell, [.v .nilFunc]⟩
theorem tok70 : TyOk Tryz.prog 70 T70 := ⟨⟨_, _, rfl, rfl, rfl, rfl, rfl, rfl, rfl⟩, _, rfl, rfl⟩
def T71 : Ty := ⟨1, 8, .cell, [.v .nilFunc]⟩
theorem tok71 : TyOk Tryz.prog 71 T71 := ⟨⟨_, _, rfl, rfl, rfl, rfl, rfl, rfl, rfl⟩, _, rfl, rfl⟩
def T73 : Ty := ⟨1, 8, .cell, [.v .nilFunc]⟩
theorem tok73 : TyOk Tryz.prog 73 T73 := ⟨⟨_, _, rfl, rfl, rfl, rfl, rfl, rfl, rfl⟩, _, rfl, rfl⟩
def T74 : Ty := ⟨1, 8, .cell, [.v .nilFunc]⟩
theorem tok74 : TyOk Tryz.prog 74 T74 := ⟨⟨_, _, rfl, rfl, rfl, rfl, rfl, rfl, rfl⟩, _, rfl, rfl⟩
def T75 : Ty := ⟨1, 8, .cell, [.v .nilFunc]⟩
theorem tok75 : TyOk Tryz.prog 75 T75 := ⟨⟨_, _, rfl, rfl, rfl, rfl, rfl, rfl, rfl⟩, _, rfl, rfl⟩
def T76 : Ty := ⟨1, 8, .cell, [.v .nilFunc]⟩
theorem tok76 : TyOk Tryz.prog 76 T76 := ⟨⟨_, _, rfl, rfl, rfl, rfl, rfl, rfl, rfl⟩, _, rfl, rfl⟩
def T77 : Ty := ⟨1, 8, .cell, [.v .nilFunc]⟩
theorem tok77 : TyOk Tryz.prog 77 T77 := ⟨⟨_, _, rfl, rfl, rfl, rfl, rfl, rfl, rfl⟩, _, rfl, rfl⟩
def T78 : Ty := ⟨1, 8, .cell, [.v .nilFunc]⟩
theorem tok78 : TyOk Tryz.prog 78 T78 := ⟨⟨_, _, rfl, rfl, rfl, rfl, rfl, rfl, rfl⟩, _, rfl, rfl⟩
def T79 : Ty := ⟨1, 8, .cell, [.v .nilFunc]⟩
theorem tok79 : TyOk Tryz.prog 79 T79 := ⟨⟨_, _, rfl, rfl, rfl, rfl, rfl, rfl, rfl⟩, _, rfl, rfl⟩
def T81 : Ty := ⟨1, 8, .cell, [.v .nilFunc]⟩
theorem tok81 : TyOk Tryz.prog 81 T81 := ⟨⟨_, _, rfl, rfl, rfl, rfl, rfl, rfl, rfl⟩, _, rfl, rfl⟩
def T82 : Ty := ⟨1, 8, .cell, [.v .nilFunc]⟩
theorem tok82 : TyOk Tryz.prog 82 T82 := ⟨⟨_, _, rfl, rfl, rfl, rfl, rfl, rfl, rfl⟩, _, rfl, rfl⟩
def T83 : Ty := ⟨2, 16, .arr 2 3, [.v (.int .i64 0), .v (.int .i64 0)]⟩
theorem tok83 : TyOk Tryz.prog 83 T83 := ⟨⟨_, _, rfl, rfl, rfl, rfl, rfl, rfl, rfl⟩, rfl⟩
def T84 : Ty := ⟨1, 8, .cell, [.v .nilFunc]⟩
theorem tok84 : TyOk Tryz.prog 84 T84 := ⟨⟨_, _, rfl, rfl, rfl, rfl, rfl, rfl, rfl⟩, _, rfl, rfl⟩
def T85 : Ty := ⟨1, 8, .cell, [.v .nilFunc]⟩
theorem tok85 : TyOk Tryz.prog 85 T85 := ⟨⟨_, _, rfl, rfl, rfl, rfl, rfl, rfl, rfl⟩, _, rfl, rfl⟩
def T87 : Ty := ⟨1, 8, .cell, [.v .nilFunc]⟩
theorem tok87 : TyOk Tryz.prog 87 T87 := ⟨⟨_, _, rfl, rfl, rfl, rfl, rfl, rfl, rfl⟩, _, rfl, rfl⟩
def T89 : Ty := ⟨1, 8, .cell, [.v .nilFunc]⟩
theorem tok89 : TyOk Tryz.prog 89 T89 := ⟨⟨_, _, rfl, rfl, rfl, rfl, rfl, rfl, rfl⟩, _, rfl, rfl⟩
def T90 : Ty := ⟨1, 8, .cell, [.v .nilFunc]⟩
theorem tok90 : TyOk Tryz.prog 90 T90 := ⟨⟨_, _, rfl, rfl, rfl, rfl, rfl, rfl, rfl⟩, _, rfl, rfl⟩
def T91 : Ty := ⟨1, 8, .cell, [.v .nilFunc]⟩
theorem tok91 : TyOk Tryz.prog 91 T91 := ⟨⟨_, _, rfl, rfl, rfl, rfl, rfl, rfl, rfl⟩, _, rfl, rfl⟩
def T93 : Ty := ⟨1, 8, .cell, [.v .nilFunc]⟩
theorem tok93 : TyOk Tryz.prog 93 T93 := ⟨⟨_, _, rfl, rfl, rfl, rfl, rfl, rfl, rfl⟩, _, rfl, rfl⟩
def T94 : Ty := ⟨1, 8, .cell, [.v .nilFunc]⟩
theorem tok94 : TyOk Tryz.prog 94 T94 := ⟨⟨_, _, rfl, rfl, rfl, rfl, rfl, rfl, rfl⟩, _, rfl, rfl⟩
def T95 : Ty := ⟨1, 8, .cell, [.v .nilFunc]⟩
theorem tok95 : TyOk Tryz.prog 95 T95 := ⟨⟨_, _, rfl, rfl, rfl, rfl, rfl, rfl, rfl⟩, _, rfl, rfl⟩
def T96 : Ty := ⟨1, 8, .cell, [.v .nilFunc]⟩
theorem tok96 : TyOk Tryz.prog 96 T96 := ⟨⟨_, _, rfl, rfl, rfl, rfl, rfl, rfl, rfl⟩, _, rfl, rfl⟩
def T97 : Ty := ⟨1, 8, .cell, [.v (.pointer none)]⟩
theorem tok97 : TyOk Tryz.prog 97 T97 := ⟨⟨_, _, rfl, rfl, rfl, rfl, rfl, rfl, rfl⟩, _, rfl, rfl⟩
def T99 : Ty := ⟨1, 8, .cell, [.v .nilFunc]⟩
theorem tok99 : TyOk Tryz.prog 99 T99 := ⟨⟨_, _, rfl, rfl, rfl, rfl, rfl, rfl, rfl⟩, _, rfl, rfl⟩
def T100 : Ty := ⟨1, 24, .slc 22, [.v (.slice none 0 0)]⟩
theorem tok100 : TyOk Tryz.prog 100 T100 := ⟨⟨_, _, rfl, rfl, rfl, rfl, rfl, rfl, rfl⟩, rfl⟩
def T101 : Ty := ⟨3, 72, .str [(0, 41, 1), (1, 100, 1), (2, 22, 1)], [.v (.slice none 0 0), .v (.slice none 0 0), .v (.slice none 0 0)]⟩
theorem tok101 : TyOk Tryz.prog 101 T101 := ⟨⟨_, _, rfl, rfl, rfl, rfl, rfl, rfl, rfl⟩, _, rfl, rfl, rfl⟩
def T102 : Ty := ⟨3, 72, .str [(0, 41, 1), (1, 100, 1), (2, 22, 1)], [.v (.slice none 0 0), .v (.slice none 0 0), .v (.slice none 0 0)]⟩
theorem tok102 : TyOk Tryz.prog 102 T102 := ⟨⟨_, _, rfl, rfl, rfl, rfl, rfl, rfl, rfl⟩, _, rfl, rfl, rfl⟩
def T104 : Ty := ⟨1, 8, .cell, [.v .nilFunc]⟩
theorem tok104 : TyOk Tryz.prog 104 T104 := ⟨⟨_, _, rfl, rfl, rfl, rfl, rfl, rfl, rfl⟩, _, rfl, rfl⟩
def T105 : Ty := ⟨1, 8, .cell, [.v .nilFunc]⟩
theorem tok105 : TyOk Tryz.prog 105 T105 := ⟨⟨_, _, rfl, rfl, rfl, rfl, rfl, rfl, rfl⟩, _, rfl, rfl⟩
def T106 : Ty := ⟨1, 8, .cell, [.v .nilFunc]⟩
theorem tok106 : TyOk Tryz.prog 106 T106 := ⟨⟨_, _, rfl, rfl, rfl, rfl, rfl, rfl, rfl⟩, _, rfl, rfl⟩
def T107 : Ty := ⟨1, 8, .cell, [.v .nilFunc]⟩
theorem tok107 : TyOk Tryz.prog 107 T107 := ⟨⟨_, _, rfl, rfl, rfl, rfl, rfl, rfl, rfl⟩, _, rfl, rfl⟩
def T108 : Ty := ⟨1, 8, .cell, [.v .nilFunc]⟩
theorem tok108 : TyOk Tryz.prog 108 T108 := ⟨⟨_, _, rfl, rfl, rfl, rfl, rfl, rfl, rfl⟩, _, rfl, rfl⟩
def T109 : Ty := ⟨1, 8, .cell, [.v .nilFunc]⟩
theorem tok109 : TyOk Tryz.prog 109 T109 := ⟨⟨_, _, rfl, rfl, rfl, rfl, rfl, rfl, rfl⟩, _, rfl, rfl⟩
def T110 : Ty := ⟨1, 8, .cell, [.v .nilFunc]⟩
theorem tok110 : TyOk Tryz.prog 110 T110 := ⟨⟨_, _, rfl, rfl, rfl, rfl, rfl, rfl, rfl⟩, _, rfl, rfl⟩
def T111 : Ty := ⟨1, 8, .cell, [.v .nilFunc]⟩
theorem tok111 : TyOk Tryz.prog 111 T111 := ⟨⟨_, _, rfl, rfl, rfl, rfl, rfl, rfl, rfl⟩, _, rfl, rfl⟩
def T112 : Ty := ⟨1, 8, .cell, [.v .nilFunc]⟩
theorem tok112 : TyOk Tryz.prog 112 T112 := ⟨⟨_, _, rfl, rfl, rfl, rfl, rfl, rfl, rfl⟩, _, rfl, rfl⟩
def T113 : Ty := ⟨1, 8, .cell, [.v .nilFunc]⟩
theorem tok113 : TyOk Tryz.prog 113 T113 := ⟨⟨_, _, rfl, rfl, rfl, rfl, rfl, rfl, rfl⟩, _, rfl, rfl⟩
def T114 : Ty := ⟨1, 8, .cell, [.v .nilFunc]⟩
theorem tok114 : TyOk Tryz.prog 114 T114 := ⟨⟨_, _, rfl, rfl, rfl, rfl, rfl, rfl, rfl⟩, _, rfl, rfl⟩
def T115 : Ty := ⟨1, 8, .cell, [.v .nilFunc]⟩
theorem tok115 : TyOk Tryz.prog 115 T115 := ⟨⟨_, _, rfl, rfl, rfl, rfl, rfl, rfl, rfl⟩, _, rfl, rfl⟩
def T116 : Ty := ⟨1, 8, .cell, [.v .nilFunc]⟩
theorem tok116 : TyOk Tryz.prog 116 T116 := ⟨⟨_, _, rfl, rfl, rfl, rfl, rfl, rfl, rfl⟩, _, rfl, rfl⟩
def T117 : Ty := ⟨1, 8, .cell, [.v .nilFunc]⟩
theorem tok117 : TyOk Tryz.prog 117 T117 := ⟨⟨_, _, rfl, rfl, rfl, rfl, rfl, rfl, rfl⟩, _, rfl, rfl⟩
def T118 : Ty := ⟨1, 8, .cell, [.v .nilFunc]⟩
theorem tok118 : TyOk Tryz.prog 118 T118 := ⟨⟨_, _, rfl, rfl, rfl, rfl, rfl, rfl, rfl⟩, _, rfl, rfl⟩
def T119 : Ty := ⟨1, 8, .cell, [.v .nilFunc]⟩
theorem tok119 : TyOk Tryz.prog 119 T119 := ⟨⟨_, _, rfl, rfl, rfl, rfl, rfl, rfl, rfl⟩, _, rfl, rfl⟩
def T120 : Ty := ⟨1, 8, .cell, [.v .nilFunc]⟩
theorem tok120 : TyOk Tryz.prog 120 T120 := ⟨⟨_, _, rfl, rfl, rfl, rfl, rfl, rfl, rfl⟩, _, rfl, rfl⟩
def T121 : Ty := ⟨1, 8, .cell, [.v .nilFunc]⟩
theorem tok121 : TyOk Tryz.prog 121 T121 := ⟨⟨_, _, rfl, rfl, rfl, rfl, rfl, rfl, rfl⟩, _, rfl, rfl⟩
def T122 : Ty := ⟨1, 8, .cell, [.v .nilFunc]⟩
theorem tok122 : TyOk Tryz.prog 122 T122 := ⟨⟨_, _, rfl, rfl, rfl, rfl, rfl, rfl, rfl⟩, _, rfl, rfl⟩
def T123 : Ty := ⟨1, 8, .cell, [.v .nilFunc]⟩
theorem tok123 : TyOk Tryz.prog 123 T123 := ⟨⟨_, _, rfl, rfl, rfl, rfl, rfl, rfl, rfl⟩, _, rfl, rfl⟩
def T124 : Ty := ⟨1, 8, .cell, [.v .nilFunc]⟩
theorem tok124 : TyOk Tryz.prog 124 T124 := ⟨⟨_, _, rfl, rfl, rfl, rfl, rfl, rfl, rfl⟩, _, rfl, rfl⟩
def T125 : Ty := ⟨1, 8, .cell, [.v .nilFunc]⟩
theorem tok125 : TyOk Tryz.prog 125 T125 := ⟨⟨_, _, rfl, rfl, rfl, rfl, rfl, rfl, rfl⟩, _, rfl, rfl⟩
def T126 : Ty := ⟨1, 8, .cell, [.v .nilFunc]⟩
theorem tok126 : TyOk Tryz.prog 126 T126 := ⟨⟨_, _, rfl, rfl, rfl, rfl, rfl, rfl, rfl⟩, _, rfl, rfl⟩
def T127 : Ty := ⟨1, 8, .cell, [.v .nilFunc]⟩
theorem tok127 : TyOk Tryz.prog 127 T127 := ⟨⟨_, _, rfl, rfl, rfl, rfl, rfl, rfl, rfl⟩, _, rfl, rfl⟩
def T128 : Ty := ⟨1, 8, .cell, [.v .nilFunc]⟩
theorem tok128 : TyOk Tryz.prog 128 T128 := ⟨⟨_, _, rfl, rfl, rfl, rfl, rfl, rfl, rfl⟩, _, rfl, rfl⟩
def T129 : Ty := ⟨1, 8, .cell, [.v .nilFunc]⟩
theorem tok129 : TyOk Tryz.prog 129 T129 := ⟨⟨_, _, rfl, rfl, rfl, rfl, rfl, rfl, rfl⟩, _, rfl, rfl⟩
def T130 : Ty := ⟨4, 32, .str [(0, 50, 2), (2, 50, 2)], [.v (.int .i64 0), .v (.int .i64 0), .v (.int .i64 0), .v (.int .i64 0)]⟩
theorem tok130 : TyOk Tryz.prog 130 T130 := ⟨⟨_, _, rfl, rfl, rfl, rfl, rfl, rfl, rfl⟩, _, rfl, rfl, rfl⟩
def T131 : Ty := ⟨4, 32, .str [(0, 50, 2), (2, 50, 2)], [.v (.int .i64 0), .v (.int .i64 0), .v (.int .i64 0), .v (.int .i64 0)]⟩
theorem tok131 : TyOk Tryz.prog 131 T131 := ⟨⟨_, _, rfl, rfl, rfl, rfl, rfl, rfl, rfl⟩, _, rfl, rfl, rfl⟩
def T132 : Ty := ⟨1, 8, .cell, [.v .nilFunc]⟩
theorem tok132 : TyOk Tryz.prog 132 T132 := ⟨⟨_, _, rfl, rfl, rfl, rfl, rfl, rfl, rfl⟩, _, rfl, rfl⟩
def T133 : Ty := ⟨1, 8, .cell, [.v .nilFunc]⟩
theorem tok133 : TyOk Tryz.prog 133 T133 := ⟨⟨_, _, rfl, rfl, rfl, rfl, rfl, rfl, rfl⟩, _, rfl, rfl⟩
def T134 : Ty := ⟨1, 8, .cell, [.v .nilFunc]⟩
theorem tok134 : TyOk Tryz.prog 134 T134 := ⟨⟨_, _, rfl, rfl, rfl, rfl, rfl, rfl, rfl⟩, _, rfl, rfl⟩
def T135 : Ty := ⟨1, 8, .cell, [.v .nilFunc]⟩
theorem tok135 : TyOk Tryz.prog 135 T135 := ⟨⟨_, _, rfl, rfl, rfl, rfl, rfl, rfl, rfl⟩, _, rfl, rfl⟩
def T136 : Ty := ⟨1, 8, .cell, [.v .nilFunc]⟩
theorem tok136 : TyOk Tryz.prog 136 T136 := ⟨⟨_, _, rfl, rfl, rfl, rfl, rfl, rfl, rfl⟩, _, rfl, rfl⟩
def T137 : Ty := ⟨1, 8, .cell, [.v .nilFunc]⟩
theorem tok137 : TyOk Tryz.prog 137 T137 := ⟨⟨_, _, rfl, rfl, rfl, rfl, rfl, rfl, rfl⟩, _, rfl, rfl⟩
def T138 : Ty := ⟨1, 8, .cell, [.v .nilFunc]⟩
theorem tok138 : TyOk Tryz.prog 138 T138 := ⟨⟨_, _, rfl, rfl, rfl, rfl, rfl, rfl, rfl⟩, _, rfl, rfl⟩
def T139 : Ty := ⟨1, 8, .cell, [.v .nilFunc]⟩
theorem tok139 : TyOk Tryz.prog 139 T139 := ⟨⟨_, _, rfl, rfl, rfl, rfl, rfl, rfl, rfl⟩, _, rfl, rfl⟩
def T140 : Ty := ⟨1, 8, .cell, [.v .nilFunc]⟩
theorem tok140 : TyOk Tryz.prog 140 T140 := ⟨⟨_, _, rfl, rfl, rfl, rfl, rfl, rfl, rfl⟩, _, rfl, rfl⟩
def T141 : Ty := ⟨1, 8, .cell, [.v .nilFunc]⟩
theorem tok141 : TyOk Tryz.prog 141 T141 := ⟨⟨_, _, rfl, rfl, rfl, rfl, rfl, rfl, rfl⟩, _, rfl, rfl⟩
def T142 : Ty := ⟨1, 8, .cell, [.v .nilFunc]⟩
theorem tok142 : TyOk Tryz.prog 142 T142 := ⟨⟨_, _, rfl, rfl, rfl, rfl, rfl, rfl, rfl⟩, _, rfl, rfl⟩
def T143 : Ty := ⟨1, 8, .cell, [.v .nilFunc]⟩
theorem tok143 : TyOk Tryz.prog 143 T143 := ⟨⟨_, _, rfl, rfl, rfl, rfl, rfl, rfl, rfl⟩, _, rfl, rfl⟩
def T144 : Ty := ⟨1, 8, .cell, [.v .nilFunc]⟩
theorem tok144 : TyOk Tryz.prog 144 T144 := ⟨⟨_, _, rfl, rfl, rfl, rfl, rfl, rfl, rfl⟩, _, rfl, rfl⟩
def T145 : Ty := ⟨1, 8, .int .u64, [.v (.int .u64 0)]⟩
theorem tok145 : TyOk Tryz.prog 145 T145 := ⟨⟨_, _, rfl, rfl, rfl, rfl, rfl, rfl, rfl⟩, rfl⟩
def T146 : Ty := ⟨1, 8, .cell, [.v .nilFunc]⟩
theorem tok146 : TyOk Tryz.prog 146 T146 := ⟨⟨_, _, rfl, rfl, rfl, rfl, rfl, rfl, rfl⟩, _, rfl, rfl⟩
def T147 : Ty := ⟨1, 8, .cell, [.v .nilFunc]⟩
theorem tok147 : TyOk Tryz.prog 147 T147 := ⟨⟨_, _, rfl, rfl, rfl, rfl, rfl, rfl, rfl⟩, _, rfl, rfl⟩
def T148 : Ty := ⟨1, 8, .cell, [.v .nilFunc]⟩
theorem tok148 : TyOk Tryz.prog 148 T148 := ⟨⟨_, _, rfl, rfl, rfl, rfl, rfl, rfl, rfl⟩, _, rfl, rfl⟩
def T149 : Ty := ⟨1, 8, .cell, [.v .nilFunc]⟩
theorem tok149 : TyOk Tryz.prog 149 T149 := ⟨⟨_, _, rfl, rfl, rfl, rfl, rfl, rfl, rfl⟩, _, rfl, rfl⟩
def T150 : Ty := ⟨1, 8, .cell, [.v .nilFunc]⟩
theorem tok150 : TyOk Tryz.prog 150 T150 := ⟨⟨_, _, rfl, rfl, rfl, rfl, rfl, rfl, rfl⟩, _, rfl, rfl⟩
def T151 : Ty := ⟨1, 8, .cell, [.v .nilFunc]⟩
theorem tok151 : TyOk Tryz.prog 151 T151 := ⟨⟨_, _, rfl, rfl, rfl, rfl, rfl, rfl, rfl⟩, _, rfl, rfl⟩
def T152 : Ty := ⟨1, 8, .cell, [.v .nilFunc]⟩
theorem tok152 : TyOk Tryz.prog 152 T152 := ⟨⟨_, _, rfl, rfl, rfl, rfl, rfl, rfl, rfl⟩, _, rfl, rfl⟩
def T153 : Ty := ⟨1, 8, .cell, [.v .nilFunc]⟩
theorem tok153 : TyOk Tryz.prog 153 T153 := ⟨⟨_, _, rfl, rfl, rfl, rfl, rfl, rfl, rfl⟩, _, rfl, rfl⟩
def T154 : Ty := ⟨1, 8, .cell, [.v .nilFunc]⟩
theorem tok154 : TyOk Tryz.prog 154 T154 := ⟨⟨_, _, rfl, rfl, rfl, rfl, rfl, rfl, rfl⟩, _, rfl, rfl⟩
def T155 : Ty := ⟨1, 8, .cell, [.v .nilFunc]⟩
theorem tok155 : TyOk Tryz.prog 155 T155 := ⟨⟨_, _, rfl, rfl, rfl, rfl, rfl, rfl, rfl⟩, _, rfl, rfl⟩
def T156 : Ty := ⟨1, 8, .cell, [.v .nilFunc]⟩
theorem tok156 : TyOk Tryz.prog 156 T156 := ⟨⟨_, _, rfl, rfl, rfl, rfl, rfl, rfl, rfl⟩, _, rfl, rfl⟩
def T157 : Ty := ⟨1, 8, .cell, [.v .nilFunc]⟩
theorem tok157 : TyOk Tryz.prog 157 T157 := ⟨⟨_, _, rfl, rfl, rfl, rfl, rfl, rfl, rfl⟩, _, rfl, rfl⟩
def T158 : Ty := ⟨1, 8, .cell, [.v .nilFunc]⟩
theorem tok158 : TyOk Tryz.prog 158 T158 := ⟨⟨_, _, rfl, rfl, rfl, rfl, rfl, rfl, rfl⟩, _, rfl, rfl⟩
def T159 : Ty := ⟨1, 24, .slc 163, [.v (.slice none 0 0)]⟩
theorem tok159 : TyOk Tryz.prog 159 T159 := ⟨⟨_, _, rfl, rfl, rfl, rfl, rfl, rfl, rfl⟩, rfl⟩
def T160 : Ty := ⟨1, 8, .cell, [.v .nilFunc]⟩
theorem tok160 : TyOk Tryz.prog 160 T160 := ⟨⟨_, _, rfl, rfl, rfl, rfl, rfl, rfl, rfl⟩, _, rfl, rfl⟩
def T161 : Ty := ⟨1, 8, .cell, [.v .nilFunc]⟩
theorem tok161 : TyOk Tryz.prog 161 T161 := ⟨⟨_, _, rfl, rfl, rfl, rfl, rfl, rfl, rfl⟩, _, rfl, rfl⟩
def T162 : Ty := ⟨4, 32, .str [(0, 50, 2), (2, 50, 2)], [.v (.int .i64 0), .v (.int .i64 0), .v (.int .i64 0), .v (.int .i64 0)]⟩
theorem tok162 : TyOk Tryz.prog 162 T162 := ⟨⟨_, _, rfl, rfl, rfl, rfl, rfl, rfl, rfl⟩, _, rfl, rfl, rfl⟩
def T163 : Ty := ⟨4, 32, .str [(0, 50, 2), (2, 50, 2)], [.v (.int .i64 0), .v (.int .i64 0), .v (.int .i64 0), .v (.int .i64 0)]⟩
theorem tok163 : TyOk Tryz.prog 163 T163 := ⟨⟨_, _, rfl, rfl, rfl, rfl, rfl, rfl, rfl⟩, _, rfl, rfl, rfl⟩
def T164 : Ty := ⟨1, 8, .cell, [.v .nilFunc]⟩
theorem tok164 : TyOk Tryz.prog 164 T164 := ⟨⟨_, _, rfl, rfl, rfl, rfl, rfl, rfl, rfl⟩, _, rfl, rfl⟩
def T165 : Ty := ⟨1, 8, .cell, [.v .nilFunc]⟩
theorem tok165 : TyOk Tryz.prog 165 T165 := ⟨⟨_, _, rfl, rfl, rfl, rfl, rfl, rfl, rfl⟩, _, rfl, rfl⟩
def T166 : Ty := ⟨1, 8, .cell, [.v .nilFunc]⟩
theorem tok166 : TyOk Tryz.prog 166 T166 := ⟨⟨_, _, rfl, rfl, rfl, rfl, rfl, rfl, rfl⟩, _, rfl, rfl⟩
def T167 : Ty := ⟨1, 8, .cell, [.v .nilFunc]⟩
theorem tok167 : TyOk Tryz.prog 167 T167 := ⟨⟨_, _, rfl, rfl, rfl, rfl, rfl, rfl, rfl⟩, _, rfl, rfl⟩
def T168 : Ty := ⟨1, 8, .cell, [.v .nilFunc]⟩
theorem tok168 : TyOk Tryz.prog 168 T168 := ⟨⟨_, _, rfl, rfl, rfl, rfl, rfl, rfl, rfl⟩, _, rfl, rfl⟩
def T169 : Ty := ⟨1, 8, .cell, [.v .nilFunc]⟩
theorem tok169 : TyOk Tryz.prog 169 T169 := ⟨⟨_, _, rfl, rfl, rfl, rfl, rfl, rfl, rfl⟩, _, rfl, rfl⟩
def T170 : Ty := ⟨1, 8, .cell, [.v .nilFunc]⟩
theorem tok170 : TyOk Tryz.prog 170 T170 := ⟨⟨_, _, rfl, rfl, rfl, rfl, rfl, rfl, rfl⟩, _, rfl, rfl⟩
def T171 : Ty := ⟨1, 8, .cell, [.v .nilFunc]⟩
theorem tok171 : TyOk Tryz.prog 171 T171 := ⟨⟨_, _, rfl, rfl, rfl, rfl, rfl, rfl, rfl⟩, _, rfl, rfl⟩
def T172 : Ty := ⟨1, 8, .cell, [.v .nilFunc]⟩
theorem tok172 : TyOk Tryz.prog 172 T172 := ⟨⟨_, _, rfl, rfl, rfl, rfl, rfl, rfl, rfl⟩, _, rfl, rfl⟩
def T173 : Ty := ⟨1, 8, .cell, [.v .nilFunc]⟩
theorem tok173 : TyOk Tryz.prog 173 T173 := ⟨⟨_, _, rfl, rfl, rfl, rfl, rfl, rfl, rfl⟩, _, rfl, rfl⟩
def T174 : Ty := ⟨1, 8, .cell, [.v .nilFunc]⟩
theorem tok174 : TyOk Tryz.prog 174 T174 := ⟨⟨_, _, rfl, rfl, rfl, rfl, rfl, rfl, rfl⟩, _, rfl, rfl⟩
def T176 : Ty := ⟨1, 8, .cell, [.v .nilFunc]⟩
theorem tok176 : TyOk Tryz.prog 176 T176 := ⟨⟨_, _, rfl, rfl, rfl, rfl, rfl, rfl, rfl⟩, _, rfl, rfl⟩
def T177 : Ty := ⟨1, 8, .cell, [.v .nilFunc]⟩
theorem tok177 : TyOk Tryz.prog 177 T177 := ⟨⟨_, _, rfl, rfl, rfl, rfl, rfl, rfl, rfl⟩, _, rfl, rfl⟩
def T178 : Ty := ⟨1, 8, .cell, [.v .nilFunc]⟩
theorem tok178 : TyOk Tryz.prog 178 T178 := ⟨⟨_, _, rfl, rfl, rfl, rfl, rfl, rfl, rfl⟩, _, rfl, rfl⟩
def T180 : Ty := ⟨1, 8, .cell, [.v .nilFunc]⟩
theorem tok180 : TyOk Tryz.prog 180 T180 := ⟨⟨_, _, rfl, rfl, rfl, rfl, rfl, rfl, rfl⟩, _, rfl, rfl⟩
def T181 : Ty := ⟨1, 8, .cell, [.v .nilFunc]⟩
theorem tok181 : TyOk Tryz.prog 181 T181 := ⟨⟨_, _, rfl, rfl, rfl, rfl, rfl, rfl, rfl⟩, _, rfl, rfl⟩
def T182 : Ty := ⟨1, 8, .cell, [.v .nilFunc]⟩
theorem tok182 : TyOk Tryz.prog 182 T182 := ⟨⟨_, _, rfl, rfl, rfl, rfl, rfl, rfl, rfl⟩, _, rfl, rfl⟩
def T183 : Ty := ⟨1, 8, .cell, [.v .nilFunc]⟩
theorem tok183 : TyOk Tryz.prog 183 T183 := ⟨⟨_, _, rfl, rfl, rfl, rfl, rfl, rfl, rfl⟩, _, rfl, rfl⟩
def T184 : Ty := ⟨1, 8, .cell, [.v .nilFunc]⟩
theorem tok184 : TyOk Tryz.prog 184 T184 := ⟨⟨_, _, rfl, rfl, rfl, rfl, rfl, rfl, rfl⟩, _, rfl, rfl⟩
def T185 : Ty := ⟨1, 8, .cell, [.v .nilFunc]⟩
theorem tok185 : TyOk Tryz.prog 185 T185 := ⟨⟨_, _, rfl, rfl, rfl, rfl, rfl, rfl, rfl⟩, _, rfl, rfl⟩
def T186 : Ty := ⟨1, 8, .cell, [.v .nilFunc]⟩
theorem tok186 : TyOk Tryz.prog 186 T186 := ⟨⟨_, _, rfl, rfl, rfl, rfl, rfl, rfl, rfl⟩, _, rfl, rfl⟩
def T187 : Ty := ⟨1, 8, .int .i64, [.v (.int .i64 0)]⟩
theorem tok187 : TyOk Tryz.prog 187 T187 := ⟨⟨_, _, rfl, rfl, rfl, rfl, rfl, rfl, rfl⟩, rfl⟩
def T189 : Ty := ⟨1, 8, .cell, [.v .nilFunc]⟩
theorem tok189 : TyOk Tryz.prog 189 T189 := ⟨⟨_, _, rfl, rfl, rfl, rfl, rfl, rfl, rfl⟩, _, rfl, rfl⟩
def T190 : Ty := ⟨1, 8, .cell, [.v .nilFunc]⟩
theorem tok190 : TyOk Tryz.prog 190 T190 := ⟨⟨_, _, rfl, rfl, rfl, rfl, rfl, rfl, rfl⟩, _, rfl, rfl⟩
def T191 : Ty := ⟨1, 8, .cell, [.v .nilFunc]⟩
theorem tok191 : TyOk Tryz.prog 191 T191 := ⟨⟨_, _, rfl, rfl, rfl, rfl, rfl, rfl, rfl⟩, _, rfl, rfl⟩
def T192 : Ty := ⟨1, 8, .cell, [.v .nilFunc]⟩
theorem tok192 : TyOk Tryz.prog 192 T192 := ⟨⟨_, _, rfl, rfl, rfl, rfl, rfl, rfl, rfl⟩, _, rfl, rfl⟩
def T193 : Ty := ⟨1, 8, .cell, [.v .nilFunc]⟩
theorem tok193 : TyOk Tryz.prog 193 T193 := ⟨⟨_, _, rfl, rfl, rfl, rfl, rfl, rfl, rfl⟩, _, rfl, rfl⟩
def T194 : Ty := ⟨1, 4, .int .u32, [.v (.int .u32 0)]⟩
theorem tok194 : TyOk Tryz.prog 194 T194 := ⟨⟨_, _, rfl, rfl, rfl, rfl, rfl, rfl, rfl⟩, rfl⟩
def T195 : Ty := ⟨1, 8, .cell, [.v .nilFunc]⟩
theorem tok195 : TyOk Tryz.prog 195 T195 := ⟨⟨_, _, rfl, rfl, rfl, rfl, rfl, rfl, rfl⟩, _, rfl, rfl⟩
def T196 : Ty := ⟨1, 8, .int .u64, [.v (.int .u64 0)]⟩
theorem tok196 : TyOk Tryz.prog 196 T196 := ⟨⟨_, _, rfl, rfl, rfl, rfl, rfl, rfl, rfl⟩, rfl⟩
def T197 : Ty := ⟨8, 64, .arr 4 50, [.v (.int .i64 0), .v (.int .i64 0), .v (.int .i64 0), .v (.int .i64 0), .v (.int .i64 0), .v (.int .i64 0), .v (.int .i64 0), .v (.int .i64 0)]⟩
theorem tok197 : TyOk Tryz.prog 197 T197 := ⟨⟨_, _, rfl, rfl, rfl, rfl, rfl, rfl, rfl⟩, rfl⟩
def T198 : Ty := ⟨1, 8, .cell, [.v .nilFunc]⟩
theorem tok198 : TyOk Tryz.prog 198 T198 := ⟨⟨_, _, rfl, rfl, rfl, rfl, rfl, rfl, rfl⟩, _, rfl, rfl⟩
def T199 : Ty := ⟨1, 8, .cell, [.v .nilFunc]⟩
theorem tok199 : TyOk Tryz.prog 199 T199 := ⟨⟨_, _, rfl, rfl, rfl, rfl, rfl, rfl, rfl⟩, _, rfl, rfl⟩
def T200 : Ty := ⟨1, 8, .cell, [.v .nilFunc]⟩
theorem tok200 : TyOk Tryz.prog 200 T200 := ⟨⟨_, _, rfl, rfl, rfl, rfl, rfl, rfl, rfl⟩, _, rfl, rfl⟩
def T201 : Ty := ⟨1, 8, .cell, [.v .nilFunc]⟩
theorem tok201 : TyOk Tryz.prog 201 T201 := ⟨⟨_, _, rfl, rfl, rfl, rfl, rfl, rfl, rfl⟩, _, rfl, rfl⟩
def T202 : Ty := ⟨1, 8, .cell, [.v .nilFunc]⟩
theorem tok202 : TyOk Tryz.prog 202 T202 := ⟨⟨_, _, rfl, rfl, rfl, rfl, rfl, rfl, rfl⟩, _, rfl, rfl⟩
def T203 : Ty := ⟨1, 8, .cell, [.v .nilFunc]⟩
theorem tok203 : TyOk Tryz.prog 203 T203 := ⟨⟨_, _, rfl, rfl, rfl, rfl, rfl, rfl, rfl⟩, _, rfl, rfl⟩
def T204 : Ty := ⟨1, 8, .cell, [.v .nilFunc]⟩
theorem tok204 : TyOk Tryz.prog 204 T204 := ⟨⟨_, _, rfl, rfl, rfl, rfl, rfl, rfl, rfl⟩, _, rfl, rfl⟩
def T205 : Ty := ⟨1, 8, .cell, [.v .nilFunc]⟩
theorem tok205 : TyOk Tryz.prog 205 T205 := ⟨⟨_, _, rfl, rfl, rfl, rfl, rfl, rfl, rfl⟩, _, rfl, rfl⟩
def T206 : Ty := ⟨1, 8, .cell, [.v .nilFunc]⟩
theorem tok206 : TyOk Tryz.prog 206 T206 := ⟨⟨_, _, rfl, rfl, rfl, rfl, rfl, rfl, rfl⟩, _, rfl, rfl⟩
def T207 : Ty := ⟨1, 8, .cell, [.v .nilFunc]⟩
theorem tok207 : TyOk Tryz.prog 207 T207 := ⟨⟨_, _, rfl, rfl, rfl, rfl, rfl, rfl, rfl⟩, _, rfl, rfl⟩
def T208 : Ty := ⟨1, 8, .cell, [.v .nilFunc]⟩
theorem tok208 : TyOk Tryz.prog 208 T208 := ⟨⟨_, _, rfl, rfl, rfl, rfl, rfl, rfl, rfl⟩, _, rfl, rfl⟩
def T209 : Ty := ⟨1, 8, .cell, [.v .nilFunc]⟩
theorem tok209 : TyOk Tryz.prog 209 T209 := ⟨⟨_, _, rfl, rfl, rfl, rfl, rfl, rfl, rfl⟩, _, rfl, rfl⟩
def T210 : Ty := ⟨1, 8, .cell, [.v .nilFunc]⟩
theorem tok210 : TyOk Tryz.prog 210 T210 := ⟨⟨_, _, rfl, rfl, rfl, rfl, rfl, rfl, rfl⟩, _, rfl, rfl⟩
def T211 : Ty := ⟨3, 24, .str [(0, 3, 1), (1, 3, 1), (2, 3, 1)], [.v (.int .i64 0), .v (.int .i64 0), .v (.int .i64 0)]⟩
theorem tok211 : TyOk Tryz.prog 211 T211 := ⟨⟨_, _, rfl, rfl, rfl, rfl, rfl, rfl, rfl⟩, _, rfl, rfl, rfl⟩
def T212 : Ty := ⟨3, 24, .str [(0, 3, 1), (1, 3, 1), (2, 3, 1)], [.v (.int .i64 0), .v (.int .i64 0), .v (.int .i64 0)]⟩
theorem tok212 : TyOk Tryz.prog 212 T212 := ⟨⟨_, _, rfl, rfl, rfl, rfl, rfl, rfl, rfl⟩, _, rfl, rfl, rfl⟩
def T213 : Ty := ⟨8, 64, .str [(0, 3, 1), (1, 212, 3), (4, 163, 4)], [.v (.int .i64 0), .v (.int .i64 0), .v (.int .i64 0), .v (.int .i64 0), .v (.int .i64 0), .v (.int .i64 0), .v (.int .i64 0), .v (.int .i64 0)]⟩
theorem tok213 : TyOk Tryz.prog 213 T213 := ⟨⟨_, _, rfl, rfl, rfl, rfl, rfl, rfl, rfl⟩, _, rfl, rfl, rfl⟩
def T214 : Ty := ⟨8, 64, .str [(0, 3, 1), (1, 212, 3), (4, 163, 4)], [.v (.int .i64 0), .v (.int .i64 0), .v (.int .i64 0), .v (.int .i64 0), .v (.int .i64 0), .v (.int .i64 0), .v (.int .i64 0), .v (.int .i64 0)]⟩
theorem tok214 : TyOk Tryz.prog 214 T214 := ⟨⟨_, _, rfl, rfl, rfl, rfl, rfl, rfl, rfl⟩, _, rfl, rfl, rfl⟩
def T215 : Ty := ⟨1, 8, .cell, [.v .nilFunc]⟩
theorem tok215 : TyOk Tryz.prog 215 T215 := ⟨⟨_, _, rfl, rfl, rfl, rfl, rfl, rfl, rfl⟩, _, rfl, rfl⟩
def T216 : Ty := ⟨1, 8, .cell, [.v .nilFunc]⟩
theorem tok216 : TyOk Tryz.prog 216 T216 := ⟨⟨_, _, rfl, rfl, rfl, rfl, rfl, rfl, rfl⟩, _, rfl, rfl⟩
def T217 : Ty := ⟨1, 8, .cell, [.v .nilFunc]⟩
theorem tok217 : TyOk Tryz.prog 217 T217 := ⟨⟨_, _, rfl, rfl, rfl, rfl, rfl, rfl, rfl⟩, _, rfl, rfl⟩
def T218 : Ty := ⟨1, 8, .cell, [.v .nilFunc]⟩
theorem tok218 : TyOk Tryz.prog 218 T218 := ⟨⟨_, _, rfl, rfl, rfl, rfl, rfl, rfl, rfl⟩, _, rfl, rfl⟩
def T219 : Ty := ⟨1, 8, .cell, [.v .nilFunc]⟩
theorem tok219 : TyOk Tryz.prog 219 T219 := ⟨⟨_, _, rfl, rfl, rfl, rfl, rfl, rfl, rfl⟩, _, rfl, rfl⟩
def T220 : Ty := ⟨1, 8, .cell, [.v .nilFunc]⟩
theorem tok220 : TyOk Tryz.prog 220 T220 := ⟨⟨_, _, rfl, rfl, rfl, rfl, rfl, rfl, rfl⟩, _, rfl, rfl⟩
def T221 : Ty := ⟨1, 8, .cell, [.v .nilFunc]⟩
theorem tok221 : TyOk Tryz.prog 221 T221 := ⟨⟨_, _, rfl, rfl, rfl, rfl, rfl, rfl, rfl⟩, _, rfl, rfl⟩
def T222 : Ty := ⟨1, 8, .cell, [.v .nilFunc]⟩
theorem tok222 : TyOk Tryz.prog 222 T222 := ⟨⟨_, _, rfl, rfl, rfl, rfl, rfl, rfl, rfl⟩, _, rfl, rfl⟩
def T223 : Ty := ⟨1, 8, .cell, [.v .nilFunc]⟩
theorem tok223 : TyOk Tryz.prog 223 T223 := ⟨⟨_, _, rfl, rfl, rfl, rfl, rfl, rfl, rfl⟩, _, rfl, rfl⟩
def T224 : Ty := ⟨1, 8, .cell, [.v .nilFunc]⟩
theorem tok224 : TyOk Tryz.prog 224 T224 := ⟨⟨_, _, rfl, rfl, rfl, rfl, rfl, rfl, rfl⟩, _, rfl, rfl⟩
def T225 : Ty := ⟨1, 8, .cell, [.v .nilFunc]⟩
theorem tok225 : TyOk Tryz.prog 225 T225 := ⟨⟨_, _, rfl, rfl, rfl, rfl, rfl, rfl, rfl⟩, _, rfl, rfl⟩
def T226 : Ty := ⟨1, 8, .cell, [.v .nilFunc]⟩
theorem tok226 : TyOk Tryz.prog 226 T226 := ⟨⟨_, _, rfl, rfl, rfl, rfl, rfl, rfl, rfl⟩, _, rfl, rfl⟩
def T227 : Ty := ⟨1, 8, .int .u64, [.v (.int .u64 0)]⟩
theorem tok227 : TyOk Tryz.prog 227 T227 := ⟨⟨_, _, rfl, rfl, rfl, rfl, rfl, rfl, rfl⟩, rfl⟩
def T228 : Ty := ⟨1, 8, .cell, [.v .nilFunc]⟩
theorem tok228 : TyOk Tryz.prog 228 T228 := ⟨⟨_, _, rfl, rfl, rfl, rfl, rfl, rfl, rfl⟩, _, rfl, rfl⟩
def T229 : Ty := ⟨1, 8, .cell, [.v .nilFunc]⟩
theorem tok229 : TyOk Tryz.prog 229 T229 := ⟨⟨_, _, rfl, rfl, rfl, rfl, rfl, rfl, rfl⟩, _, rfl, rfl⟩
def T230 : Ty := ⟨1, 8, .cell, [.v .nilFunc]⟩
theorem tok230 : TyOk Tryz.prog 230 T230 := ⟨⟨_, _, rfl, rfl, rfl, rfl, rfl, rfl, rfl⟩, _, rfl, rfl⟩
def T231 : Ty := ⟨1, 8, .cell, [.v (.pointer none)]⟩
theorem tok231 : TyOk Tryz.prog 231 T231 := ⟨⟨_, _, rfl, rfl, rfl, rfl, rfl, rfl, rfl⟩, _, rfl, rfl⟩
def T232 : Ty := ⟨1, 8, .cell, [.v .nilFunc]⟩
theorem tok232 : TyOk Tryz.prog 232 T232 := ⟨⟨_, _, rfl, rfl, rfl, rfl, rfl, rfl, rfl⟩, _, rfl, rfl⟩
def T233 : Ty := ⟨1, 8, .cell, [.v .nilFunc]⟩
theorem tok233 : TyOk Tryz.prog 233 T233 := ⟨⟨_, _, rfl, rfl, rfl, rfl, rfl, rfl, rfl⟩, _, rfl, rfl⟩
def T234 : Ty := ⟨1, 8, .cell, [.v .nilFunc]⟩
theorem tok234 : TyOk Tryz.prog 234 T234 := ⟨⟨_, _, rfl, rfl, rfl, rfl, rfl, rfl, rfl⟩, _, rfl, rfl⟩
def T235 : Ty := ⟨1, 8, .cell, [.v .nilFunc]⟩
theorem tok235 : TyOk Tryz.prog 235 T235 := ⟨⟨_, _, rfl, rfl, rfl, rfl, rfl, rfl, rfl⟩, _, rfl, rfl⟩
def T236 : Ty := ⟨1, 8, .cell, [.v .nilFunc]⟩
theorem tok236 : TyOk Tryz.prog 236 T236 := ⟨⟨_, _, rfl, rfl, rfl, rfl, rfl, rfl, rfl⟩, _, rfl, rfl⟩
def T237 : Ty := ⟨1, 8, .cell, [.v .nilFunc]⟩
theorem tok237 : TyOk Tryz.prog 237 T237 := ⟨⟨_, _, rfl, rfl, rfl, rfl, rfl, rfl, rfl⟩, _, rfl, rfl⟩
def T238 : Ty := ⟨1, 8, .cell, [.v .nilFunc]⟩
theorem tok238 : TyOk Tryz.prog 238 T238 := ⟨⟨_, _, rfl, rfl, rfl, rfl, rfl, rfl, rfl⟩, _, rfl, rfl⟩
def T239 : Ty := ⟨1, 8, .cell, [.v .nilFunc]⟩
theorem tok239 : TyOk Tryz.prog 239 T239 := ⟨⟨_, _, rfl, rfl, rfl, rfl, rfl, rfl, rfl⟩, _, rfl, rfl⟩
def T240 : Ty := ⟨1, 8, .cell, [.v .nilFunc]⟩
theorem tok240 : TyOk Tryz.prog 240 T240 := ⟨⟨_, _, rfl, rfl, rfl, rfl, rfl, rfl, rfl⟩, _, rfl, rfl⟩
def T241 : Ty := ⟨1, 8, .cell, [.v .nilFunc]⟩
theorem tok241 : TyOk Tryz.prog 241 T241 := ⟨⟨_, _, rfl, rfl, rfl, rfl, rfl, rfl, rfl⟩, _, rfl, rfl⟩
def T242 : Ty := ⟨1, 8, .cell, [.v .nilFunc]⟩
theorem tok242 : TyOk Tryz.prog 242 T242 := ⟨⟨_, _, rfl, rfl, rfl, rfl, rfl, rfl, rfl⟩, _, rfl, rfl⟩
def T243 : Ty := ⟨1, 8, .cell, [.v .nilFunc]⟩
theorem tok243 : TyOk Tryz.prog 243 T243 := ⟨⟨_, _, rfl, rfl, rfl, rfl, rfl, rfl, rfl⟩, _, rfl, rfl⟩
def T244 : Ty := ⟨1, 8, .cell, [.v .nilFunc]⟩
theorem tok244 : TyOk Tryz.prog 244 T244 := ⟨⟨_, _, rfl, rfl, rfl, rfl, rfl, rfl, rfl⟩, _, rfl, rfl⟩
def T245 : Ty := ⟨1, 8, .cell, [.v (.pointer none)]⟩
theorem tok245 : TyOk Tryz.prog 245 T245 := ⟨⟨_, _, rfl, rfl, rfl, rfl, rfl, rfl, rfl⟩, _, rfl, rfl⟩
def T246 : Ty := ⟨1, 8, .cell, [.v .nilFunc]⟩
theorem tok246 : TyOk Tryz.prog 246 T246 := ⟨⟨_, _, rfl, rfl, rfl, rfl, rfl, rfl, rfl⟩, _, rfl, rfl⟩
def T247 : Ty := ⟨1, 8, .cell, [.v .nilFunc]⟩
theorem tok247 : TyOk Tryz.prog 247 T247 := ⟨⟨_, _, rfl, rfl, rfl, rfl, rfl, rfl, rfl⟩, _, rfl, rfl⟩
def T248 : Ty := ⟨1, 8, .cell, [.v .nilFunc]⟩
theorem tok248 : TyOk Tryz.prog 248 T248 := ⟨⟨_, _, rfl, rfl, rfl, rfl, rfl, rfl, rfl⟩, _, rfl, rfl⟩
def T249 : Ty := ⟨1, 8, .cell, [.v .nilFunc]⟩
theorem tok249 : TyOk Tryz.prog 249 T249 := ⟨⟨_, _, rfl, rfl, rfl, rfl, rfl, rfl, rfl⟩, _, rfl, rfl⟩
def T250 : Ty := ⟨1, 8, .cell, [.v .nilFunc]⟩
theorem tok250 : TyOk Tryz.prog 250 T250 := ⟨⟨_, _, rfl, rfl, rfl, rfl, rfl, rfl, rfl⟩, _, rfl, rfl⟩
def T251 : Ty := ⟨1, 8, .cell, [.v .nilFunc]⟩
theorem tok251 : TyOk Tryz.prog 251 T251 := ⟨⟨_, _, rfl, rfl, rfl, rfl, rfl, rfl, rfl⟩, _, rfl, rfl⟩
def T252 : Ty := ⟨1, 8, .cell, [.v .nilFunc]⟩
theorem tok252 : TyOk Tryz.prog 252 T252 := ⟨⟨_, _, rfl, rfl, rfl, rfl, rfl, rfl, rfl⟩, _, rfl, rfl⟩
def T253 : Ty := ⟨1, 8, .cell, [.v .nilFunc]⟩
theorem tok253 : TyOk Tryz.prog 253 T253 := ⟨⟨_, _, rfl, rfl, rfl, rfl, rfl, rfl, rfl⟩, _, rfl, rfl⟩
def T254 : Ty := ⟨1, 8, .cell, [.v .nilFunc]⟩
theorem tok254 : TyOk Tryz.prog 254 T254 := ⟨⟨_, _, rfl, rfl, rfl, rfl, rfl, rfl, rfl⟩, _, rfl, rfl⟩
def T255 : Ty := ⟨1, 8, .cell, [.v .nilFunc]⟩
theorem tok255 : TyOk Tryz.prog 255 T255 := ⟨⟨_, _, rfl, rfl, rfl, rfl, rfl, rfl, rfl⟩, _, rfl, rfl⟩
def T256 : Ty := ⟨1, 8, .cell, [.v .nilFunc]⟩
theorem tok256 : TyOk Tryz.prog 256 T256 := ⟨⟨_, _, rfl, rfl, rfl, rfl, rfl, rfl, rfl⟩, _, rfl, rfl⟩
def T257 : Ty := ⟨1, 8, .cell, [.v .nilFunc]⟩
theorem tok257 : TyOk Tryz.prog 257 T257 := ⟨⟨_, _, rfl, rfl, rfl, rfl, rfl, rfl, rfl⟩, _, rfl, rfl⟩
def T258 : Ty := ⟨1, 8, .cell, [.v .nilFunc]⟩
theorem tok258 : TyOk Tryz.prog 258 T258 := ⟨⟨_, _, rfl, rfl, rfl, rfl, rfl, rfl, rfl⟩, _, rfl, rfl⟩
def T259 : Ty := ⟨1, 8, .cell, [.v .nilFunc]⟩
theorem tok259 : TyOk Tryz.prog 259 T259 := ⟨⟨_, _, rfl, rfl, rfl, rfl, rfl, rfl, rfl⟩, _, rfl, rfl⟩
def T260 : Ty := ⟨1, 8, .cell, [.v .nilFunc]⟩
theorem tok260 : TyOk Tryz.prog 260 T260 := ⟨⟨_, _, rfl, rfl, rfl, rfl, rfl, rfl, rfl⟩, _, rfl, rfl⟩
def T261 : Ty := ⟨1, 8, .cell, [.v .nilFunc]⟩
theorem tok261 : TyOk Tryz.prog 261 T261 := ⟨⟨_, _, rfl, rfl, rfl, rfl, rfl, rfl, rfl⟩, _, rfl, rfl⟩
def T262 : Ty := ⟨1, 8, .cell, [.v .nilFunc]⟩
theorem tok262 : TyOk Tryz.prog 262 T262 := ⟨⟨_, _, rfl, rfl, rfl, rfl, rfl, rfl, rfl⟩, _, rfl, rfl⟩
def T263 : Ty := ⟨1, 8, .cell, [.v .nilFunc]⟩
theorem tok263 : TyOk Tryz.prog 263 T263 := ⟨⟨_, _, rfl, rfl, rfl, rfl, rfl, rfl, rfl⟩, _, rfl, rfl⟩
def T264 : Ty := ⟨1, 8, .cell, [.v .nilFunc]⟩
theorem tok264 : TyOk Tryz.prog 264 T264 := ⟨⟨_, _, rfl, rfl, rfl, rfl, rfl, rfl, rfl⟩, _, rfl, rfl⟩
def T265 : Ty := ⟨1, 8, .cell, [.v .nilFunc]⟩
theorem tok265 : TyOk Tryz.prog 265 T265 := ⟨⟨_, _, rfl, rfl, rfl, rfl, rfl, rfl, rfl⟩, _, rfl, rfl⟩
def T266 : Ty := ⟨1, 8, .cell, [.v .nilFunc]⟩
theorem tok266 : TyOk Tryz.prog 266 T266 := ⟨⟨_, _, rfl, rfl, rfl, rfl, rfl, rfl, rfl⟩, _, rfl, rfl⟩
def T272 : Ty := ⟨1, 8, .cell, [.v .nilFunc]⟩
theorem tok272 : TyOk Tryz.prog 272 T272 := ⟨⟨_, _, rfl, rfl, rfl, rfl, rfl, rfl, rfl⟩, _, rfl, rfl⟩
def T275 : Ty := ⟨1, 8, .cell, [.v .nilFunc]⟩
theorem tok275 : TyOk Tryz.prog 275 T275 := ⟨⟨_, _, rfl, rfl, rfl, rfl, rfl, rfl, rfl⟩, _, rfl, rfl⟩
def T276 : Ty := ⟨1, 8, .cell, [.v (.pointer none)]⟩
theorem tok276 : TyOk Tryz.prog 276 T276 := ⟨⟨_, _, rfl, rfl, rfl, rfl, rfl, rfl, rfl⟩, _, rfl, rfl⟩
abbrev TT : Tab := tabL [(1, T1), (2, T2), (3, T3), (4, T4), (5, T5), (9, T9), (12, T12), (21, T21), (22, T22), (23, T23), (24, T24), (25, T25), (26, T26), (27, T27), (28, T28), (29, T29), (30, T30), (31, T31), (33, T33), (34, T34), (35, T35), (36, T36), (37, T37), (38, T38), (39, T39), (40, T40), (41, T41), (42, T42), (43, T43), (44, T44), (45, T45), (46, T46), (47, T47), (48, T48), (49, T49), (50, T50), (51, T51), (52, T52), (54, T54), (56, T56), (57, T57), (58, T58), (59, T59), (60, T60), (61, T61), (63, T63), (64, T64), (65, T65), (67, T67), (68, T68), (69, T69), (70, T70), (71, T71), (73, T73), (74, T74), (75, T75), (76, T76), (77, T77), (78, T78), (79, T79), (81, T81), (82, T82), (83, T83), (84, T84), (85, T85), (87, T87), (89, T89), (90, T90), (91, T91), (93, T93), (94, T94), (95, T95), (96, T96), (97, T97), (99, T99), (100, T100), (101, T101), (102, T102), (104, T104), (105, T105), (106, T106), (107, T107), (108, T108), (109, T109), (110, T110), (111, T111), (112, T112), (113, T113), (114, T114), (115, T115), (116, T116), (117, T117), (118, T118), (119, T119), (120, T120), (121, T121), (122, T122), (123, T123), (124, T124), (125, T125), (126, T126), (127, T127), (128, T128), (129, T129), (130, T130), (131, T131), (132, T132), (133, T133), (134, T134), (135, T135), (136, T136), (137, T137), (138, T138), (139, T139), (140, T140), (141, T141), (142, T142), (143, T143), (144, T144), (145, T145), (146, T146), (147, T147), (148, T148), (149, T149), (150, T150), (151, T151), (152, T152), (153, T153), (154, T154), (155, T155), (156, T156), (157, T157), (158, T158), (159, T159), (160, T160), (161, T161), (162, T162), (163, T163), (164, T164), (165, T165), (166, T166), (167, T167), (168, T168), (169, T169), (170, T170), (171, T171), (172, T172), (173, T173), (174, T174), (176, T176), (177, T177), (178, T178), (180, T180), (181, T181), (182, T182), (183, T183), (184, T184), (185, T185), (186, T186), (187, T187), (189, T189), (190, T190), (191, T191), (192, T192), (193, T193), (194, T194), (195, T195), (196, T196), (197, T197), (198, T198), (199, T199), (200, T200), (201, T201), (202, T202), (203, T203), (204, T204), (205, T205), (206, T206), (207, T207), (208, T208), (209, T209), (210, T210), (211, T211), (212, T212), (213, T213), (214, T214), (215, T215), (216, T216), (217, T217), (218, T218), (219, T219), (220, T220), (221, T221), (222, T222), (223, T223), (224, T224), (225, T225), (226, T226), (227, T227), (228, T228), (229, T229), (230, T230), (231, T231), (232, T232), (233, T233), (234, T234), (235, T235), (236, T236), (237, T237), (238, T238), (239, T239), (240, T240), (241, T241), (242, T242), (243, T243), (244, T244), (245, T245), (246, T246), (247, T247), (248, T248), (249, T249), (250, T250), (251, T251), (252, T252), (253, T253), (254, T254), (255, T255), (256, T256), (257, T257), (258, T258), (259, T259), (260, T260), (261, T261), (262, T262), (263, T263), (264, T264), (265, T265), (266, T266), (272, T272), (275, T275), (276, T276)]
theorem TTok : TabOk Tryz.prog TT := tabL_ok (.cons tok1 ( .cons tok2 ( .cons tok3 ( .cons tok4 ( .cons tok5 ( .cons tok9 ( .cons tok12 ( .cons tok21 ( .cons tok22 ( .cons tok23 ( .cons tok24 ( .cons tok25 ( .cons tok26 ( .cons tok27 ( .cons tok28 ( .cons tok29 ( .cons tok30 ( .cons tok31 ( .cons tok33 ( .cons tok34 ( .cons tok35 ( .cons tok36 ( .cons tok37 ( .cons tok38 ( .cons tok39 ( .cons tok40 ( .cons tok41 ( .cons tok42 ( .cons tok43 ( .cons tok44 ( .cons tok45 ( .cons tok46 ( .cons tok47 ( .cons tok48 ( .cons tok49 ( .cons tok50 ( .cons tok51 ( .cons tok52 ( .cons tok54 ( .cons tok56 ( .cons tok57 ( .cons tok58 ( .cons tok59 ( .cons tok60 ( .cons tok61 ( .cons tok63 ( .cons tok64 ( .cons tok65 ( .cons tok67 ( .cons tok68 ( .cons tok69 ( .cons tok70 ( .cons tok71 ( .cons tok73 ( .cons tok74 ( .cons tok75 ( .cons tok76 ( .cons tok77 ( .cons tok78 ( .cons tok79 ( .cons tok81 ( .cons tok82 ( .cons tok83 ( .cons tok84 ( .cons tok85 ( .cons tok87 ( .cons tok89 ( .cons tok90 ( .cons tok91 ( .cons tok93 ( .cons tok94 ( .cons tok95 ( .cons tok96 ( .cons tok97 ( .cons tok99 ( .cons tok100 ( .cons tok101 ( .cons tok102 ( .cons tok104 ( .cons tok105 ( .cons tok106 ( .cons tok107 ( .cons tok108 ( .cons tok109 ( .cons tok110 ( .cons tok111 ( .cons tok112 ( .cons tok113 ( .cons tok114 ( .cons tok115 ( .cons tok116 ( .cons tok117 ( .cons tok118 ( .cons tok119 ( .cons tok120 ( .cons tok121 ( .cons tok122 ( .cons tok123 ( .cons tok124 ( .cons tok125 ( .cons tok126 ( .cons tok127 ( .cons tok128 ( .cons tok129 ( .cons tok130 ( .cons tok131 ( .cons tok132 ( .cons tok133 ( .cons tok134 ( .cons tok135 ( .cons tok136 ( .cons tok137 ( .cons tok138 ( .cons tok139 ( .cons tok140 ( .cons tok141 ( .cons tok142 ( .cons tok143 ( .cons tok144 ( .cons tok145 ( .cons tok146 ( .cons tok147 ( .cons tok148 ( .cons tok149 ( .cons tok150 ( .cons tok151 ( .cons tok152 ( .cons tok153 ( .cons tok154 ( .cons tok155 ( .cons tok156 ( .cons tok157 ( .cons tok158 ( .cons tok159 ( .cons tok160 ( .cons tok161 ( .cons tok162 ( .cons tok163 ( .cons tok164 ( .cons tok165 ( .cons tok166 ( .cons tok167 ( .cons tok168 ( .cons tok169 ( .cons tok170 ( .cons tok171 ( .cons tok172 ( .cons tok173 ( .cons tok174 ( .cons tok176 ( .cons tok177 ( .cons tok178 ( .cons tok180 ( .cons tok181 ( .cons tok182 ( .cons tok183 ( .cons tok184 ( .cons tok185 ( .cons tok186 ( .cons tok187 ( .cons tok189 ( .cons tok190 ( .cons tok191 ( .cons tok192 ( .cons tok193 ( .cons tok194 ( .cons tok195 ( .cons tok196 ( .cons tok197 ( .cons tok198 ( .cons tok199 ( .cons tok200 ( .cons tok201 ( .cons tok202 ( .cons tok203 ( .cons tok204 ( .cons tok205 ( .cons tok206 ( .cons tok207 ( .cons tok208 ( .cons tok209 ( .cons tok210 ( .cons tok211 ( .cons tok212 ( .cons tok213 ( .cons tok214 ( .cons tok215 ( .cons tok216 ( .cons tok217 ( .cons tok218 ( .cons tok219 ( .cons tok220 ( .cons tok221 ( .cons tok222 ( .cons tok223 ( .cons tok224 ( .cons tok225 ( .cons tok226 ( .cons tok227 ( .cons tok228 ( .cons tok229 ( .cons tok230 ( .cons tok231 ( .cons tok232 ( .cons tok233 ( .cons tok234 ( .cons tok235 ( .cons tok236 ( .cons tok237 ( .cons tok238 ( .cons tok239 ( .cons tok240 ( .cons tok241 ( .cons tok242 ( .cons tok243 ( .cons tok244 ( .cons tok245 ( .cons tok246 ( .cons tok247 ( .cons tok248 ( .cons tok249 ( .cons tok250 ( .cons tok251 ( .cons tok252 ( .cons tok253 ( .cons tok254 ( .cons tok255 ( .cons tok256 ( .cons tok257 ( .cons tok258 ( .cons tok259 ( .cons tok260 ( .cons tok261 ( .cons tok262 ( .cons tok263 ( .cons tok264 ( .cons tok265 ( .cons tok266 ( .cons tok272 ( .cons tok275 ( .cons tok276 (.nil))))))))))))))))))))))))))))))))))))))))))))))))))))))))))))))))))))))))))))))))))))))))))))))))))))))))))))))))))))))))))))))))))))))))))))))))))))))))))))))))))))))))))))))))))))))))))))))))))))))))))))))))))))))))))))))))))))))))))))))))))
abbrev C29 : List Value → Prop := fun xs => ∃ a b, xs = a ++ b ∧ CStr a ∧ (fun xs => ∃ a b, xs = a ++ b ∧ CStr a ∧ (fun xs => ∃ a b, xs = a ++ b ∧ CInt a ∧ (fun xs => ∃ a b, xs = a ++ b ∧ CInt a ∧ (fun xs => ∃ a b, xs = a ++ b ∧ CInt a ∧ (fun xs => xs = []) b) b) b) b) b
theorem eqin29 : EqIn Tryz.prog 2 29 T29 C29 := EqIn.str rfl rfl (by kernel_rfl) (.cons (TF := T9) (by decide) rfl tok9 (by decide) (EqIn.mono (EqIn.string rfl rfl rfl) (Nat.le_of_ble_eq_true rfl)) (.cons (TF := T9) (by decide) rfl tok9 (by decide) (EqIn.mono (EqIn.string rfl rfl rfl) (Nat.le_of_ble_eq_true rfl)) (.cons (TF := T3) (by decide) rfl tok3 (by decide) (EqIn.mono (EqIn.int rfl rfl rfl) (Nat.le_of_ble_eq_true rfl)) (.cons (TF := T3) (by decide) rfl tok3 (by decide) (EqIn.mono (EqIn.int rfl rfl rfl) (Nat.le_of_ble_eq_true rfl)) (.cons (TF := T3) (by decide) rfl tok3 (by decide) (EqIn.mono (EqIn.int rfl rfl rfl) (Nat.le_of_ble_eq_true rfl)) (.nil _))))))
theorem eq29 (a0 : ByteArray) (a1 : ByteArray) (a2 : Int) (a3 : Int) (a4 : Int) (b0 : ByteArray) (b1 : ByteArray) (b2 : Int) (b3 : Int) (b4 : Int) : EqFact Tryz.prog 29 [.v (.string a0), .v (.string a1), i64 a2, i64 a3, i64 a4] [.v (.string b0), .v (.string b1), i64 b2, i64 b3, i64 b4] (decide (a0 = b0 ∧ a1 = b1 ∧ a2 = b2 ∧ a3 = b3 ∧ a4 = b4)) := eqin29.fact (Nat.le_of_ble_eq_true rfl) rfl (by kernel_rfl) [.string a0, .string a1, iv a2, iv a3, iv a4] [.string b0, .string b1, iv b2, iv b3, iv b4] ⟨[.string a0], _, rfl, ⟨a0, rfl⟩, ⟨[.string a1], _, rfl, ⟨a1, rfl⟩, ⟨[iv a2], _, rfl, ⟨a2, rfl⟩, ⟨[iv a3], _, rfl, ⟨a3, rfl⟩, ⟨[iv a4], _, rfl, ⟨a4, rfl⟩, rfl⟩⟩⟩⟩⟩ ⟨[.string b0], _, rfl, ⟨b0, rfl⟩, ⟨[.string b1], _, rfl, ⟨b1, rfl⟩, ⟨[iv b2], _, rfl, ⟨b2, rfl⟩, ⟨[iv b3], _, rfl, ⟨b3, rfl⟩, ⟨[iv b4], _, rfl, ⟨b4, rfl⟩, rfl⟩⟩⟩⟩⟩ _ (by simp)
theorem typ29 {cs : List SV} (h : Typ Tryz.prog 29 cs) : ∃ a0 a1 a2 a3 a4, cs = [.v (.string a0), .v (.string a1), i64 a2, i64 a3, i64 a4] ∧ a0.size ≤ maxLen ∧ a1.size ≤ maxLen ∧ R64 a2 ∧ R64 a3 ∧ R64 a4 := by
  have hl : cs.length = 5 := (Typ.inv_str rfl h).1
  match cs, hl, h with
  | [c0, c1, c2, c3, c4], _, h =>
    obtain ⟨a0, e0, ha0⟩ := Typ.inv_string rfl (h.field rfl 0 0 1 9 rfl)
    cases (show [c0] = [.v (.string a0)] from e0)
    obtain ⟨a1, e1, ha1⟩ := Typ.inv_string rfl (h.field rfl 1 1 1 9 rfl)
    cases (show [c1] = [.v (.string a1)] from e1)
    obtain ⟨a2, e2, ha2⟩ := Typ.inv_i64 rfl (h.field rfl 2 2 1 3 rfl)
    cases (show [c2] = [i64 a2] from e2)
    obtain ⟨a3, e3, ha3⟩ := Typ.inv_i64 rfl (h.field rfl 3 3 1 3 rfl)
    cases (show [c3] = [i64 a3] from e3)
    obtain ⟨a4, e4, ha4⟩ := Typ.inv_i64 rfl (h.field rfl 4 4 1 3 rfl)
    cases (show [c4] = [i64 a4] from e4)
    exact ⟨a0, a1, a2, a3, a4, rfl, ha0, ha1, ha2, ha3, ha4⟩
abbrev C30 : List Value → Prop := fun xs => ∃ a b, xs = a ++ b ∧ CStr a ∧ (fun xs => ∃ a b, xs = a ++ b ∧ CStr a ∧ (fun xs => ∃ a b, xs = a ++ b ∧ CInt a ∧ (fun xs => ∃ a b, xs = a ++ b ∧ CInt a ∧ (fun xs => ∃ a b, xs = a ++ b ∧ CInt a ∧ (fun xs => xs = []) b) b) b) b) b
theorem eqin30 : EqIn Tryz.prog 2 30 T30 C30 := EqIn.str rfl rfl (by kernel_rfl) (.cons (TF := T9) (by decide) rfl tok9 (by decide) (EqIn.mono (EqIn.string rfl rfl rfl) (Nat.le_of_ble_eq_true rfl)) (.cons (TF := T9) (by decide) rfl tok9 (by decide) (EqIn.mono (EqIn.string rfl rfl rfl) (Nat.le_of_ble_eq_true rfl)) (.cons (TF := T3) (by decide) rfl tok3 (by decide) (EqIn.mono (EqIn.int rfl rfl rfl) (Nat.le_of_ble_eq_true rfl)) (.cons (TF := T3) (by decide) rfl tok3 (by decide) (EqIn.mono (EqIn.int rfl rfl rfl) (Nat.le_of_ble_eq_true rfl)) (.cons (TF := T3) (by decide) rfl tok3 (by decide) (EqIn.mono (EqIn.int rfl rfl rfl) (Nat.le_of_ble_eq_true rfl)) (.nil _))))))
theorem eq30 (a0 : ByteArray) (a1 : ByteArray) (a2 : Int) (a3 : Int) (a4 : Int) (b0 : ByteArray) (b1 : ByteArray) (b2 : Int) (b3 : Int) (b4 : Int) : EqFact Tryz.prog 30 [.v (.string a0), .v (.string a1), i64 a2, i64 a3, i64 a4] [.v (.string b0), .v (.string b1), i64 b2, i64 b3, i64 b4] (decide (a0 = b0 ∧ a1 = b1 ∧ a2 = b2 ∧ a3 = b3 ∧ a4 = b4)) := eqin30.fact (Nat.le_of_ble_eq_true rfl) rfl (by kernel_rfl) [.string a0, .string a1, iv a2, iv a3, iv a4] [.string b0, .string b1, iv b2, iv b3, iv b4] ⟨[.string a0], _, rfl, ⟨a0, rfl⟩, ⟨[.string a1], _, rfl, ⟨a1, rfl⟩, ⟨[iv a2], _, rfl, ⟨a2, rfl⟩, ⟨[iv a3], _, rfl, ⟨a3, rfl⟩, ⟨[iv a4], _, rfl, ⟨a4, rfl⟩, rfl⟩⟩⟩⟩⟩ ⟨[.string b0], _, rfl, ⟨b0, rfl⟩, ⟨[.string b1], _, rfl, ⟨b1, rfl⟩, ⟨[iv b2], _, rfl, ⟨b2, rfl⟩, ⟨[iv b3], _, rfl, ⟨b3, rfl⟩, ⟨[iv b4], _, rfl, ⟨b4, rfl⟩, rfl⟩⟩⟩⟩⟩ _ (by simp)
theorem typ30 {cs : List SV} (h : Typ Tryz.prog 30 cs) : ∃ a0 a1 a2 a3 a4, cs = [.v (.string a0), .v (.string a1), i64 a2, i64 a3, i64 a4] ∧ a0.size ≤ maxLen ∧ a1.size ≤ maxLen ∧ R64 a2 ∧ R64 a3 ∧ R64 a4 := by
  have hl : cs.length = 5 := (Typ.inv_str rfl h).1
  match cs, hl, h with
  | [c0, c1, c2, c3, c4], _, h =>
    obtain ⟨a0, e0, ha0⟩ := Typ.inv_string rfl (h.field rfl 0 0 1 9 rfl)
    cases (show [c0] = [.v (.string a0)] from e0)
    obtain ⟨a1, e1, ha1⟩ := Typ.inv_string rfl (h.field rfl 1 1 1 9 rfl)
    cases (show [c1] = [.v (.string a1)] from e1)
    obtain ⟨a2, e2, ha2⟩ := Typ.inv_i64 rfl (h.field rfl 2 2 1 3 rfl)
    cases (show [c2] = [i64 a2] from e2)
    obtain ⟨a3, e3, ha3⟩ := Typ.inv_i64 rfl (h.field rfl 3 3 1 3 rfl)
    cases (show [c3] = [i64 a3] from e3)
    obtain ⟨a4, e4, ha4⟩ := Typ.inv_i64 rfl (h.field rfl 4 4 1 3 rfl)
    cases (show [c4] = [i64 a4] from e4)
    exact ⟨a0, a1, a2, a3, a4, rfl, ha0, ha1, ha2, ha3, ha4⟩
abbrev C49 : List Value → Prop := fun xs => ∃ a b, xs = a ++ b ∧ CInt a ∧ (fun xs => ∃ a b, xs = a ++ b ∧ CInt a ∧ (fun xs => xs = []) b) b
theorem eqin49 : EqIn Tryz.prog 2 49 T49 C49 := EqIn.str rfl rfl (by kernel_rfl) (.cons (TF := T3) (by decide) rfl tok3 (by decide) (EqIn.mono (EqIn.int rfl rfl rfl) (Nat.le_of_ble_eq_true rfl)) (.cons (TF := T3) (by decide) rfl tok3 (by decide) (EqIn.mono (EqIn.int rfl rfl rfl) (Nat.le_of_ble_eq_true rfl)) (.nil _)))
theorem eq49 (a0 : Int) (a1 : Int) (b0 : Int) (b1 : Int) : EqFact Tryz.prog 49 [i64 a0, i64 a1] [i64 b0, i64 b1] (decide ([a0, a1] = [b0, b1])) := eqin49.fact (Nat.le_of_ble_eq_true rfl) rfl (by kernel_rfl) [iv a0, iv a1] [iv b0, iv b1] ⟨[iv a0], _, rfl, ⟨a0, rfl⟩, ⟨[iv a1], _, rfl, ⟨a1, rfl⟩, rfl⟩⟩ ⟨[iv b0], _, rfl, ⟨b0, rfl⟩, ⟨[iv b1], _, rfl, ⟨b1, rfl⟩, rfl⟩⟩ _ (by simp)
theorem typ49 {cs : List SV} (h : Typ Tryz.prog 49 cs) : ∃ a0 a1, cs = [i64 a0, i64 a1] ∧ R64 a0 ∧ R64 a1 := by
  have hl : cs.length = 2 := (Typ.inv_str rfl h).1
  match cs, hl, h with
  | [c0, c1], _, h =>
    obtain ⟨a0, e0, ha0⟩ := Typ.inv_i64 rfl (h.field rfl 0 0 1 3 rfl)
    cases (show [c0] = [i64 a0] from e0)
    obtain ⟨a1, e1, ha1⟩ := Typ.inv_i64 rfl (h.field rfl 1 1 1 3 rfl)
    cases (show [c1] = [i64 a1] from e1)
    exact ⟨a0, a1, rfl, ha0, ha1⟩
abbrev C50 : List Value → Prop := fun xs => ∃ a b, xs = a ++ b ∧ CInt a ∧ (fun xs => ∃ a b, xs = a ++ b ∧ CInt a ∧ (fun xs => xs = []) b) b
theorem eqin50 : EqIn Tryz.prog 2 50 T50 C50 := EqIn.str rfl rfl (by kernel_rfl) (.cons (TF := T3) (by decide) rfl tok3 (by decide) (EqIn.mono (EqIn.int rfl rfl rfl) (Nat.le_of_ble_eq_true rfl)) (.cons (TF := T3) (by decide) rfl tok3 (by decide) (EqIn.mono (EqIn.int rfl rfl rfl) (Nat.le_of_ble_eq_true rfl)) (.nil _)))
theorem eq50 (a0 : Int) (a1 : Int) (b0 : Int) (b1 : Int) : EqFact Tryz.prog 50 [i64 a0, i64 a1] [i64 b0, i64 b1] (decide ([a0, a1] = [b0, b1])) := eqin50.fact (Nat.le_of_ble_eq_true rfl) rfl (by kernel_rfl) [iv a0, iv a1] [iv b0, iv b1] ⟨[iv a0], _, rfl, ⟨a0, rfl⟩, ⟨[iv a1], _, rfl, ⟨a1, rfl⟩, rfl⟩⟩ ⟨[iv b0], _, rfl, ⟨b0, rfl⟩, ⟨[iv b1], _, rfl, ⟨b1, rfl⟩, rfl⟩⟩ _ (by simp)
theorem typ50 {cs : List SV} (h : Typ Tryz.prog 50 cs) : ∃ a0 a1, cs = [i64 a0, i64 a1] ∧ R64 a0 ∧ R64 a1 := by
  have hl : cs.length = 2 := (Typ.inv_str rfl h).1
  match cs, hl, h with
  | [c0, c1], _, h =>
    obtain ⟨a0, e0, ha0⟩ := Typ.inv_i64 rfl (h.field rfl 0 0 1 3 rfl)
    cases (show [c0] = [i64 a0] from e0)
    obtain ⟨a1, e1, ha1⟩ := Typ.inv_i64 rfl (h.field rfl 1 1 1 3 rfl)
    cases (show [c1] = [i64 a1] from e1)
    exact ⟨a0, a1, rfl, ha0, ha1⟩
abbrev C57 : List Value → Prop := fun xs => ∃ a b, xs = a ++ b ∧ C50 a ∧ (fun xs => ∃ a b, xs = a ++ b ∧ C50 a ∧ (fun xs => xs = []) b) b
theorem eqin57 : EqIn Tryz.prog 3 57 T57 C57 := EqIn.str rfl rfl (by kernel_rfl) (.cons (TF := T50) (by decide) rfl tok50 (by decide) (EqIn.mono eqin50 (Nat.le_of_ble_eq_true rfl)) (.cons (TF := T50) (by decide) rfl tok50 (by decide) (EqIn.mono eqin50 (Nat.le_of_ble_eq_true rfl)) (.nil _)))
theorem eq57 (a0 : Int) (a1 : Int) (a2 : Int) (a3 : Int) (b0 : Int) (b1 : Int) (b2 : Int) (b3 : Int) : EqFact Tryz.prog 57 [i64 a0, i64 a1, i64 a2, i64 a3] [i64 b0, i64 b1, i64 b2, i64 b3] (decide ([a0, a1, a2, a3] = [b0, b1, b2, b3])) := eqin57.fact (Nat.le_of_ble_eq_true rfl) rfl (by kernel_rfl) [iv a0, iv a1, iv a2, iv a3] [iv b0, iv b1, iv b2, iv b3] ⟨[iv a0, iv a1], _, rfl, ⟨[iv a0], _, rfl, ⟨a0, rfl⟩, ⟨[iv a1], _, rfl, ⟨a1, rfl⟩, rfl⟩⟩, ⟨[iv a2, iv a3], _, rfl, ⟨[iv a2], _, rfl, ⟨a2, rfl⟩, ⟨[iv a3], _, rfl, ⟨a3, rfl⟩, rfl⟩⟩, rfl⟩⟩ ⟨[iv b0, iv b1], _, rfl, ⟨[iv b0], _, rfl, ⟨b0, rfl⟩, ⟨[iv b1], _, rfl, ⟨b1, rfl⟩, rfl⟩⟩, ⟨[iv b2, iv b3], _, rfl, ⟨[iv b2], _, rfl, ⟨b2, rfl⟩, ⟨[iv b3], _, rfl, ⟨b3, rfl⟩, rfl⟩⟩, rfl⟩⟩ _ (by simp)
theorem typ57 {cs : List SV} (h : Typ Tryz.prog 57 cs) : ∃ a0 a1 a2 a3, cs = [i64 a0, i64 a1, i64 a2, i64 a3] ∧ R64 a0 ∧ R64 a1 ∧ R64 a2 ∧ R64 a3 := by
  have hl : cs.length = 4 := (Typ.inv_str rfl h).1
  match cs, hl, h with
  | [c0, c1, c2, c3], _, h =>
    obtain ⟨a0, a1, e0, ha0, ha1⟩ := typ50 (h.field rfl 0 0 2 50 rfl)
    cases (show [c0, c1] = [i64 a0, i64 a1] from e0)
    obtain ⟨a2, a3, e1, ha2, ha3⟩ := typ50 (h.field rfl 1 2 2 50 rfl)
    cases (show [c2, c3] = [i64 a2, i64 a3] from e1)
    exact ⟨a0, a1, a2, a3, rfl, ha0, ha1, ha2, ha3⟩
abbrev C58 : List Value → Prop := fun xs => ∃ a b, xs = a ++ b ∧ C50 a ∧ (fun xs => ∃ a b, xs = a ++ b ∧ C50 a ∧ (fun xs => xs = []) b) b
theorem eqin58 : EqIn Tryz.prog 3 58 T58 C58 := EqIn.str rfl rfl (by kernel_rfl) (.cons (TF := T50) (by decide) rfl tok50 (by decide) (EqIn.mono eqin50 (Nat.le_of_ble_eq_true rfl)) (.cons (TF := T50) (by decide) rfl tok50 (by decide) (EqIn.mono eqin50 (Nat.le_of_ble_eq_true rfl)) (.nil _)))
theorem eq58 (a0 : Int) (a1 : Int) (a2 : Int) (a3 : Int) (b0 : Int) (b1 : Int) (b2 : Int) (b3 : Int) : EqFact Tryz.prog 58 [i64 a0, i64 a1, i64 a2, i64 a3] [i64 b0, i64 b1, i64 b2, i64 b3] (decide ([a0, a1, a2, a3] = [b0, b1, b2, b3])) := eqin58.fact (Nat.le_of_ble_eq_true rfl) rfl (by kernel_rfl) [iv a0, iv a1, iv a2, iv a3] [iv b0, iv b1, iv b2, iv b3] ⟨[iv a0, iv a1], _, rfl, ⟨[iv a0], _, rfl, ⟨a0, rfl⟩, ⟨[iv a1], _, rfl, ⟨a1, rfl⟩, rfl⟩⟩, ⟨[iv a2, iv a3], _, rfl, ⟨[iv a2], _, rfl, ⟨a2, rfl⟩, ⟨[iv a3], _, rfl, ⟨a3, rfl⟩, rfl⟩⟩, rfl⟩⟩ ⟨[iv b0, iv b1], _, rfl, ⟨[iv b0], _, rfl, ⟨b0, rfl⟩, ⟨[iv b1], _, rfl, ⟨b1, rfl⟩, rfl⟩⟩, ⟨[iv b2, iv b3], _, rfl, ⟨[iv b2], _, rfl, ⟨b2, rfl⟩, ⟨[iv b3], _, rfl, ⟨b3, rfl⟩, rfl⟩⟩, rfl⟩⟩ _ (by simp)
theorem typ58 {cs : List SV} (h : Typ Tryz.prog 58 cs) : ∃ a0 a1 a2 a3, cs = [i64 a0, i64 a1, i64 a2, i64 a3] ∧ R64 a0 ∧ R64 a1 ∧ R64 a2 ∧ R64 a3 := by
  have hl : cs.length = 4 := (Typ.inv_str rfl h).1
  match cs, hl, h with
  | [c0, c1, c2, c3], _, h =>
    obtain ⟨a0, a1, e0, ha0, ha1⟩ := typ50 (h.field rfl 0 0 2 50 rfl)
    cases (show [c0, c1] = [i64 a0, i64 a1] from e0)
    obtain ⟨a2, a3, e1, ha2, ha3⟩ := typ50 (h.field rfl 1 2 2 50 rfl)
    cases (show [c2, c3] = [i64 a2, i64 a3] from e1)
    exact ⟨a0, a1, a2, a3, rfl, ha0, ha1, ha2, ha3⟩
abbrev C130 : List Value → Prop := fun xs => ∃ a b, xs = a ++ b ∧ C50 a ∧ (fun xs => ∃ a b, xs = a ++ b ∧ C50 a ∧ (fun xs => xs = []) b) b
theorem eqin130 : EqIn Tryz.prog 3 130 T130 C130 := EqIn.str rfl rfl (by kernel_rfl) (.cons (TF := T50) (by decide) rfl tok50 (by decide) (EqIn.mono eqin50 (Nat.le_of_ble_eq_true rfl)) (.cons (TF := T50) (by decide) rfl tok50 (by decide) (EqIn.mono eqin50 (Nat.le_of_ble_eq_true rfl)) (.nil _)))
theorem eq130 (a0 : Int) (a1 : Int) (a2 : Int) (a3 : Int) (b0 : Int) (b1 : Int) (b2 : Int) (b3 : Int) : EqFact Tryz.prog 130 [i64 a0, i64 a1, i64 a2, i64 a3] [i64 b0, i64 b1, i64 b2, i64 b3] (decide ([a0, a1, a2, a3] = [b0, b1, b2, b3])) := eqin130.fact (Nat.le_of_ble_eq_true rfl) rfl (by kernel_rfl) [iv a0, iv a1, iv a2, iv a3] [iv b0, iv b1, iv b2, iv b3] ⟨[iv a0, iv a1], _, rfl, ⟨[iv a0], _, rfl, ⟨a0, rfl⟩, ⟨[iv a1], _, rfl, ⟨a1, rfl⟩, rfl⟩⟩, ⟨[iv a2, iv a3], _, rfl, ⟨[iv a2], _, rfl, ⟨a2, rfl⟩, ⟨[iv a3], _, rfl, ⟨a3, rfl⟩, rfl⟩⟩, rfl⟩⟩ ⟨[iv b0, iv b1], _, rfl, ⟨[iv b0], _, rfl, ⟨b0, rfl⟩, ⟨[iv b1], _, rfl, ⟨b1, rfl⟩, rfl⟩⟩, ⟨[iv b2, iv b3], _, rfl, ⟨[iv b2], _, rfl, ⟨b2, rfl⟩, ⟨[iv b3], _, rfl, ⟨b3, rfl⟩, rfl⟩⟩, rfl⟩⟩ _ (by simp)
theorem typ130 {cs : List SV} (h : Typ Tryz.prog 130 cs) : ∃ a0 a1 a2 a3, cs = [i64 a0, i64 a1, i64 a2, i64 a3] ∧ R64 a0 ∧ R64 a1 ∧ R64 a2 ∧ R64 a3 := by
  have hl : cs.length = 4 := (Typ.inv_str rfl h).1
  match cs, hl, h with
  | [c0, c1, c2, c3], _, h =>
    obtain ⟨a0, a1, e0, ha0, ha1⟩ := typ50 (h.field rfl 0 0 2 50 rfl)
    cases (show [c0, c1] = [i64 a0, i64 a1] from e0)
    obtain ⟨a2, a3, e1, ha2, ha3⟩ := typ50 (h.field rfl 1 2 2 50 rfl)
    cases (show [c2, c3] = [i64 a2, i64 a3] from e1)
    exact ⟨a0, a1, a2, a3, rfl, ha0, ha1, ha2, ha3⟩
abbrev C131 : List Value → Prop := fun xs => ∃ a b, xs = a ++ b ∧ C50 a ∧ (fun xs => ∃ a b, xs = a ++ b ∧ C50 a ∧ (fun xs => xs = []) b) b
theorem eqin131 : EqIn Tryz.prog 3 131 T131 C131 := EqIn.str rfl rfl (by kernel_rfl) (.cons (TF := T50) (by decide) rfl tok50 (by decide) (EqIn.mono eqin50 (Nat.le_of_ble_eq_true rfl)) (.cons (TF := T50) (by decide) rfl tok50 (by decide) (EqIn.mono eqin50 (Nat.le_of_ble_eq_true rfl)) (.nil _)))
theorem eq131 (a0 : Int) (a1 : Int) (a2 : Int) (a3 : Int) (b0 : Int) (b1 : Int) (b2 : Int) (b3 : Int) : EqFact Tryz.prog 131 [i64 a0, i64 a1, i64 a2, i64 a3] [i64 b0, i64 b1, i64 b2, i64 b3] (decide ([a0, a1, a2, a3] = [b0, b1, b2, b3])) := eqin131.fact (Nat.le_of_ble_eq_true rfl) rfl (by kernel_rfl) [iv a0, iv a1, iv a2, iv a3] [iv b0, iv b1, iv b2, iv b3] ⟨[iv a0, iv a1], _, rfl, ⟨[iv a0], _, rfl, ⟨a0, rfl⟩, ⟨[iv a1], _, rfl, ⟨a1, rfl⟩, rfl⟩⟩, ⟨[iv a2, iv a3], _, rfl, ⟨[iv a2], _, rfl, ⟨a2, rfl⟩, ⟨[iv a3], _, rfl, ⟨a3, rfl⟩, rfl⟩⟩, rfl⟩⟩ ⟨[iv b0, iv b1], _, rfl, ⟨[iv b0], _, rfl, ⟨b0, rfl⟩, ⟨[iv b1], _, rfl, ⟨b1, rfl⟩, rfl⟩⟩, ⟨[iv b2, iv b3], _, rfl, ⟨[iv b2], _, rfl, ⟨b2, rfl⟩, ⟨[iv b3], _, rfl, ⟨b3, rfl⟩, rfl⟩⟩, rfl⟩⟩ _ (by simp)
theorem typ131 {cs : List SV} (h : Typ Tryz.prog 131 cs) : ∃ a0 a1 a2 a3, cs = [i64 a0, i64 a1, i64 a2, i64 a3] ∧ R64 a0 ∧ R64 a1 ∧ R64 a2 ∧ R64 a3 := by
  have hl : cs.length = 4 := (Typ.inv_str rfl h).1
  match cs, hl, h with
  | [c0, c1, c2, c3], _, h =>
    obtain ⟨a0, a1, e0, ha0, ha1⟩ := typ50 (h.field rfl 0 0 2 50 rfl)
    cases (show [c0, c1] = [i64 a0, i64 a1] from e0)
    obtain ⟨a2, a3, e1, ha2, ha3⟩ := typ50 (h.field rfl 1 2 2 50 rfl)
    cases (show [c2, c3] = [i64 a2, i64 a3] from e1)
    exact ⟨a0, a1, a2, a3, rfl, ha0, ha1, ha2, ha3⟩
abbrev C162 : List Value → Prop := fun xs => ∃ a b, xs = a ++ b ∧ C50 a ∧ (fun xs => ∃ a b, xs = a ++ b ∧ C50 a ∧ (fun xs => xs = []) b) b
theorem eqin162 : EqIn Tryz.prog 3 162 T162 C162 := EqIn.str rfl rfl (by kernel_rfl) (.cons (TF := T50) (by decide) rfl tok50 (by decide) (EqIn.mono eqin50 (Nat.le_of_ble_eq_true rfl)) (.cons (TF := T50) (by decide) rfl tok50 (by decide) (EqIn.mono eqin50 (Nat.le_of_ble_eq_true rfl)) (.nil _)))
theorem eq162 (a0 : Int) (a1 : Int) (a2 : Int) (a3 : Int) (b0 : Int) (b1 : Int) (b2 : Int) (b3 : Int) : EqFact Tryz.prog 162 [i64 a0, i64 a1, i64 a2, i64 a3] [i64 b0, i64 b1, i64 b2, i64 b3] (decide ([a0, a1, a2, a3] = [b0, b1, b2, b3])) := eqin162.fact (Nat.le_of_ble_eq_true rfl) rfl (by kernel_rfl) [iv a0, iv a1, iv a2, iv a3] [iv b0, iv b1, iv b2, iv b3] ⟨[iv a0, iv a1], _, rfl, ⟨[iv a0], _, rfl, ⟨a0, rfl⟩, ⟨[iv a1], _, rfl, ⟨a1, rfl⟩, rfl⟩⟩, ⟨[iv a2, iv a3], _, rfl, ⟨[iv a2], _, rfl, ⟨a2, rfl⟩, ⟨[iv a3], _, rfl, ⟨a3, rfl⟩, rfl⟩⟩, rfl⟩⟩ ⟨[iv b0, iv b1], _, rfl, ⟨[iv b0], _, rfl, ⟨b0, rfl⟩, ⟨[iv b1], _, rfl, ⟨b1, rfl⟩, rfl⟩⟩, ⟨[iv b2, iv b3], _, rfl, ⟨[iv b2], _, rfl, ⟨b2, rfl⟩, ⟨[iv b3], _, rfl, ⟨b3, rfl⟩, rfl⟩⟩, rfl⟩⟩ _ (by simp)
theorem typ162 {cs : List SV} (h : Typ Tryz.prog 162 cs) : ∃ a0 a1 a2 a3, cs = [i64 a0, i64 a1, i64 a2, i64 a3] ∧ R64 a0 ∧ R64 a1 ∧ R64 a2 ∧ R64 a3 := by
  have hl : cs.length = 4 := (Typ.inv_str rfl h).1
  match cs, hl, h with
  | [c0, c1, c2, c3], _, h =>
    obtain ⟨a0, a1, e0, ha0, ha1⟩ := typ50 (h.field rfl 0 0 2 50 rfl)
    cases (show [c0, c1] = [i64 a0, i64 a1] from e0)
    obtain ⟨a2, a3, e1, ha2, ha3⟩ := typ50 (h.field rfl 1 2 2 50 rfl)
    cases (show [c2, c3] = [i64 a2, i64 a3] from e1)
    exact ⟨a0, a1, a2, a3, rfl, ha0, ha1, ha2, ha3⟩
abbrev C163 : List Value → Prop := fun xs => ∃ a b, xs = a ++ b ∧ C50 a ∧ (fun xs => ∃ a b, xs = a ++ b ∧ C50 a ∧ (fun xs => xs = []) b) b
theorem eqin163 : EqIn Tryz.prog 3 163 T163 C163 := EqIn.str rfl rfl (by kernel_rfl) (.cons (TF := T50) (by decide) rfl tok50 (by decide) (EqIn.mono eqin50 (Nat.le_of_ble_eq_true rfl)) (.cons (TF := T50) (by decide) rfl tok50 (by decide) (EqIn.mono eqin50 (Nat.le_of_ble_eq_true rfl)) (.nil _)))
theorem eq163 (a0 : Int) (a1 : Int) (a2 : Int) (a3 : Int) (b0 : Int) (b1 : Int) (b2 : Int) (b3 : Int) : EqFact Tryz.prog 163 [i64 a0, i64 a1, i64 a2, i64 a3] [i64 b0, i64 b1, i64 b2, i64 b3] (decide ([a0, a1, a2, a3] = [b0, b1, b2, b3])) := eqin163.fact (Nat.le_of_ble_eq_true rfl) rfl (by kernel_rfl) [iv a0, iv a1, iv a2, iv a3] [iv b0, iv b1, iv b2, iv b3] ⟨[iv a0, iv a1], _, rfl, ⟨[iv a0], _, rfl, ⟨a0, rfl⟩, ⟨[iv a1], _, rfl, ⟨a1, rfl⟩, rfl⟩⟩, ⟨[iv a2, iv a3], _, rfl, ⟨[iv a2], _, rfl, ⟨a2, rfl⟩, ⟨[iv a3], _, rfl, ⟨a3, rfl⟩, rfl⟩⟩, rfl⟩⟩ ⟨[iv b0, iv b1], _, rfl, ⟨[iv b0], _, rfl, ⟨b0, rfl⟩, ⟨[iv b1], _, rfl, ⟨b1, rfl⟩, rfl⟩⟩, ⟨[iv b2, iv b3], _, rfl, ⟨[iv b2], _, rfl, ⟨b2, rfl⟩, ⟨[iv b3], _, rfl, ⟨b3, rfl⟩, rfl⟩⟩, rfl⟩⟩ _ (by simp)
theorem typ163 {cs : List SV} (h : Typ Tryz.prog 163 cs) : ∃ a0 a1 a2 a3, cs = [i64 a0, i64 a1, i64 a2, i64 a3] ∧ R64 a0 ∧ R64 a1 ∧ R64 a2 ∧ R64 a3 := by
  have hl : cs.length = 4 := (Typ.inv_str rfl h).1
  match cs, hl, h with
  | [c0, c1, c2, c3], _, h =>
    obtain ⟨a0, a1, e0, ha0, ha1⟩ := typ50 (h.field rfl 0 0 2 50 rfl)
    cases (show [c0, c1] = [i64 a0, i64 a1] from e0)
    obtain ⟨a2, a3, e1, ha2, ha3⟩ := typ50 (h.field rfl 1 2 2 50 rfl)
    cases (show [c2, c3] = [i64 a2, i64 a3] from e1)
    exact ⟨a0, a1, a2, a3, rfl, ha0, ha1, ha2, ha3⟩
abbrev C211 : List Value → Prop := fun xs => ∃ a b, xs = a ++ b ∧ CInt a ∧ (fun xs => ∃ a b, xs = a ++ b ∧ CInt a ∧ (fun xs => ∃ a b, xs = a ++ b ∧ CInt a ∧ (fun xs => xs = []) b) b) b
theorem eqin211 : EqIn Tryz.prog 2 211 T211 C211 := EqIn.str rfl rfl (by kernel_rfl) (.cons (TF := T3) (by decide) rfl tok3 (by decide) (EqIn.mono (EqIn.int rfl rfl rfl) (Nat.le_of_ble_eq_true rfl)) (.cons (TF := T3) (by decide) rfl tok3 (by decide) (EqIn.mono (EqIn.int rfl rfl rfl) (Nat.le_of_ble_eq_true rfl)) (.cons (TF := T3) (by decide) rfl tok3 (by decide) (EqIn.mono (EqIn.int rfl rfl rfl) (Nat.le_of_ble_eq_true rfl)) (.nil _))))
theorem eq211 (a0 : Int) (a1 : Int) (a2 : Int) (b0 : Int) (b1 : Int) (b2 : Int) : EqFact Tryz.prog 211 [i64 a0, i64 a1, i64 a2] [i64 b0, i64 b1, i64 b2] (decide ([a0, a1, a2] = [b0, b1, b2])) := eqin211.fact (Nat.le_of_ble_eq_true rfl) rfl (by kernel_rfl) [iv a0, iv a1, iv a2] [iv b0, iv b1, iv b2] ⟨[iv a0], _, rfl, ⟨a0, rfl⟩, ⟨[iv a1], _, rfl, ⟨a1, rfl⟩, ⟨[iv a2], _, rfl, ⟨a2, rfl⟩, rfl⟩⟩⟩ ⟨[iv b0], _, rfl, ⟨b0, rfl⟩, ⟨[iv b1], _, rfl, ⟨b1, rfl⟩, ⟨[iv b2], _, rfl, ⟨b2, rfl⟩, rfl⟩⟩⟩ _ (by simp)
theorem typ211 {cs : List SV} (h : Typ Tryz.prog 211 cs) : ∃ a0 a1 a2, cs = [i64 a0, i64 a1, i64 a2] ∧ R64 a0 ∧ R64 a1 ∧ R64 a2 := by
  have hl : cs.length = 3 := (Typ.inv_str rfl h).1
  match cs, hl, h with
  | [c0, c1, c2], _, h =>
    obtain ⟨a0, e0, ha0⟩ := Typ.inv_i64 rfl (h.field rfl 0 0 1 3 rfl)
    cases (show [c0] = [i64 a0] from e0)
    obtain ⟨a1, e1, ha1⟩ := Typ.inv_i64 rfl (h.field rfl 1 1 1 3 rfl)
    cases (show [c1] = [i64 a1] from e1)
    obtain ⟨a2, e2, ha2⟩ := Typ.inv_i64 rfl (h.field rfl 2 2 1 3 rfl)
    cases (show [c2] = [i64 a2] from e2)
    exact ⟨a0, a1, a2, rfl, ha0, ha1, ha2⟩
abbrev C212 : List Value → Prop := fun xs => ∃ a b, xs = a ++ b ∧ CInt a ∧ (fun xs => ∃ a b, xs = a ++ b ∧ CInt a ∧ (fun xs => ∃ a b, xs = a ++ b ∧ CInt a ∧ (fun xs => xs = []) b) b) b
theorem eqin212 : EqIn Tryz.prog 2 212 T212 C212 := EqIn.str rfl rfl (by kernel_rfl) (.cons (TF := T3) (by decide) rfl tok3 (by decide) (EqIn.mono (EqIn.int rfl rfl rfl) (Nat.le_of_ble_eq_true rfl)) (.cons (TF := T3) (by decide) rfl tok3 (by decide) (EqIn.mono (EqIn.int rfl rfl rfl) (Nat.le_of_ble_eq_true rfl)) (.cons (TF := T3) (by decide) rfl tok3 (by decide) (EqIn.mono (EqIn.int rfl rfl rfl) (Nat.le_of_ble_eq_true rfl)) (.nil _))))
theorem eq212 (a0 : Int) (a1 : Int) (a2 : Int) (b0 : Int) (b1 : Int) (b2 : Int) : EqFact Tryz.prog 212 [i64 a0, i64 a1, i64 a2] [i64 b0, i64 b1, i64 b2] (decide ([a0, a1, a2] = [b0, b1, b2])) := eqin212.fact (Nat.le_of_ble_eq_true rfl) rfl (by kernel_rfl) [iv a0, iv a1, iv a2] [iv b0, iv b1, iv b2] ⟨[iv a0], _, rfl, ⟨a0, rfl⟩, ⟨[iv a1], _, rfl, ⟨a1, rfl⟩, ⟨[iv a2], _, rfl, ⟨a2, rfl⟩, rfl⟩⟩⟩ ⟨[iv b0], _, rfl, ⟨b0, rfl⟩, ⟨[iv b1], _, rfl, ⟨b1, rfl⟩, ⟨[iv b2], _, rfl, ⟨b2, rfl⟩, rfl⟩⟩⟩ _ (by simp)
theorem typ212 {cs : List SV} (h : Typ Tryz.prog 212 cs) : ∃ a0 a1 a2, cs = [i64 a0, i64 a1, i64 a2] ∧ R64 a0 ∧ R64 a1 ∧ R64 a2 := by
  have hl : cs.length = 3 := (Typ.inv_str rfl h).1
  match cs, hl, h with
  | [c0, c1, c2], _, h =>
    obtain ⟨a0, e0, ha0⟩ := Typ.inv_i64 rfl (h.field rfl 0 0 1 3 rfl)
    cases (show [c0] = [i64 a0] from e0)
    obtain ⟨a1, e1, ha1⟩ := Typ.inv_i64 rfl (h.field rfl 1 1 1 3 rfl)
    cases (show [c1] = [i64 a1] from e1)
    obtain ⟨a2, e2, ha2⟩ := Typ.inv_i64 rfl (h.field rfl 2 2 1 3 rfl)
    cases (show [c2] = [i64 a2] from e2)
    exact ⟨a0, a1, a2, rfl, ha0, ha1, ha2⟩
abbrev C213 : List Value → Prop := fun xs => ∃ a b, xs = a ++ b ∧ CInt a ∧ (fun xs => ∃ a b, xs = a ++ b ∧ C212 a ∧ (fun xs => ∃ a b, xs = a ++ b ∧ C163 a ∧ (fun xs => xs = []) b) b) b
theorem eqin213 : EqIn Tryz.prog 4 213 T213 C213 := EqIn.str rfl rfl (by kernel_rfl) (.cons (TF := T3) (by decide) rfl tok3 (by decide) (EqIn.mono (EqIn.int rfl rfl rfl) (Nat.le_of_ble_eq_true rfl)) (.cons (TF := T212) (by decide) rfl tok212 (by decide) (EqIn.mono eqin212 (Nat.le_of_ble_eq_true rfl)) (.cons (TF := T163) (by decide) rfl tok163 (by decide) (EqIn.mono eqin163 (Nat.le_of_ble_eq_true rfl)) (.nil _))))
theorem eq213 (a0 : Int) (a1 : Int) (a2 : Int) (a3 : Int) (a4 : Int) (a5 : Int) (a6 : Int) (a7 : Int) (b0 : Int) (b1 : Int) (b2 : Int) (b3 : Int) (b4 : Int) (b5 : Int) (b6 : Int) (b7 : Int) : EqFact Tryz.prog 213 [i64 a0, i64 a1, i64 a2, i64 a3, i64 a4, i64 a5, i64 a6, i64 a7] [i64 b0, i64 b1, i64 b2, i64 b3, i64 b4, i64 b5, i64 b6, i64 b7] (decide ([a0, a1, a2, a3, a4, a5, a6, a7] = [b0, b1, b2, b3, b4, b5, b6, b7])) := eqin213.fact (Nat.le_of_ble_eq_true rfl) rfl (by kernel_rfl) [iv a0, iv a1, iv a2, iv a3, iv a4, iv a5, iv a6, iv a7] [iv b0, iv b1, iv b2, iv b3, iv b4, iv b5, iv b6, iv b7] ⟨[iv a0], _, rfl, ⟨a0, rfl⟩, ⟨[iv a1, iv a2, iv a3], _, rfl, ⟨[iv a1], _, rfl, ⟨a1, rfl⟩, ⟨[iv a2], _, rfl, ⟨a2, rfl⟩, ⟨[iv a3], _, rfl, ⟨a3, rfl⟩, rfl⟩⟩⟩, ⟨[iv a4, iv a5, iv a6, iv a7], _, rfl, ⟨[iv a4, iv a5], _, rfl, ⟨[iv a4], _, rfl, ⟨a4, rfl⟩, ⟨[iv a5], _, rfl, ⟨a5, rfl⟩, rfl⟩⟩, ⟨[iv a6, iv a7], _, rfl, ⟨[iv a6], _, rfl, ⟨a6, rfl⟩, ⟨[iv a7], _, rfl, ⟨a7, rfl⟩, rfl⟩⟩, rfl⟩⟩, rfl⟩⟩⟩ ⟨[iv b0], _, rfl, ⟨b0, rfl⟩, ⟨[iv b1, iv b2, iv b3], _, rfl, ⟨[iv b1], _, rfl, ⟨b1, rfl⟩, ⟨[iv b2], _, rfl, ⟨b2, rfl⟩, ⟨[iv b3], _, rfl, ⟨b3, rfl⟩, rfl⟩⟩⟩, ⟨[iv b4, iv b5, iv b6, iv b7], _, rfl, ⟨[iv b4, iv b5], _, rfl, ⟨[iv b4], _, rfl, ⟨b4, rfl⟩, ⟨[iv b5], _, rfl, ⟨b5, rfl⟩, rfl⟩⟩, ⟨[iv b6, iv b7], _, rfl, ⟨[iv b6], _, rfl, ⟨b6, rfl⟩, ⟨[iv b7], _, rfl, ⟨b7, rfl⟩, rfl⟩⟩, rfl⟩⟩, rfl⟩⟩⟩ _ (by simp)
theorem typ213 {cs : List SV} (h : Typ Tryz.prog 213 cs) : ∃ a0 a1 a2 a3 a4 a5 a6 a7, cs = [i64 a0, i64 a1, i64 a2, i64 a3, i64 a4, i64 a5, i64 a6, i64 a7] ∧ R64 a0 ∧ R64 a1 ∧ R64 a2 ∧ R64 a3 ∧ R64 a4 ∧ R64 a5 ∧ R64 a6 ∧ R64 a7 := by
  have hl : cs.length = 8 := (Typ.inv_str rfl h).1
  match cs, hl, h with
  | [c0, c1, c2, c3, c4, c5, c6, c7], _, h =>
    obtain ⟨a0, e0, ha0⟩ := Typ.inv_i64 rfl (h.field rfl 0 0 1 3 rfl)
    cases (show [c0] = [i64 a0] from e0)
    obtain ⟨a1, a2, a3, e1, ha1, ha2, ha3⟩ := typ212 (h.field rfl 1 1 3 212 rfl)
    cases (show [c1, c2, c3] = [i64 a1, i64 a2, i64 a3] from e1)
    obtain ⟨a4, a5, a6, a7, e2, ha4, ha5, ha6, ha7⟩ := typ163 (h.field rfl 2 4 4 163 rfl)
    cases (show [c4, c5, c6, c7] = [i64 a4, i64 a5, i64 a6, i64 a7] from e2)
    exact ⟨a0, a1, a2, a3, a4, a5, a6, a7, rfl, ha0, ha1, ha2, ha3, ha4, ha5, ha6, ha7⟩
abbrev C214 : List Value → Prop := fun xs => ∃ a b, xs = a ++ b ∧ CInt a ∧ (fun xs => ∃ a b, xs = a ++ b ∧ C212 a ∧ (fun xs => ∃ a b, xs = a ++ b ∧ C163 a ∧ (fun xs => xs = []) b) b) b
theorem eqin214 : EqIn Tryz.prog 4 214 T214 C214 := EqIn.str rfl rfl (by kernel_rfl) (.cons (TF := T3) (by decide) rfl tok3 (by decide) (EqIn.mono (EqIn.int rfl rfl rfl) (Nat.le_of_ble_eq_true rfl)) (.cons (TF := T212) (by decide) rfl tok212 (by decide) (EqIn.mono eqin212 (Nat.le_of_ble_eq_true rfl)) (.cons (TF := T163) (by decide) rfl tok163 (by decide) (EqIn.mono eqin163 (Nat.le_of_ble_eq_true rfl)) (.nil _))))
theorem eq214 (a0 : Int) (a1 : Int) (a2 : Int) (a3 : Int) (a4 : Int) (a5 : Int) (a6 : Int) (a7 : Int) (b0 : Int) (b1 : Int) (b2 : Int) (b3 : Int) (b4 : Int) (b5 : Int) (b6 : Int) (b7 : Int) : EqFact Tryz.prog 214 [i64 a0, i64 a1, i64 a2, i64 a3, i64 a4, i64 a5, i64 a6, i64 a7] [i64 b0, i64 b1, i64 b2, i64 b3, i64 b4, i64 b5, i64 b6, i64 b7] (decide ([a0, a1, a2, a3, a4, a5, a6, a7] = [b0, b1, b2, b3, b4, b5, b6, b7])) := eqin214.fact (Nat.le_of_ble_eq_true rfl) rfl (by kernel_rfl) [iv a0, iv a1, iv a2, iv a3, iv a4, iv a5, iv a6, iv a7] [iv b0, iv b1, iv b2, iv b3, iv b4, iv b5, iv b6, iv b7] ⟨[iv a0], _, rfl, ⟨a0, rfl⟩, ⟨[iv a1, iv a2, iv a3], _, rfl, ⟨[iv a1], _, rfl, ⟨a1, rfl⟩, ⟨[iv a2], _, rfl, ⟨a2, rfl⟩, ⟨[iv a3], _, rfl, ⟨a3, rfl⟩, rfl⟩⟩⟩, ⟨[iv a4, iv a5, iv a6, iv a7], _, rfl, ⟨[iv a4, iv a5], _, rfl, ⟨[iv a4], _, rfl, ⟨a4, rfl⟩, ⟨[iv a5], _, rfl, ⟨a5, rfl⟩, rfl⟩⟩, ⟨[iv a6, iv a7], _, rfl, ⟨[iv a6], _, rfl, ⟨a6, rfl⟩, ⟨[iv a7], _, rfl, ⟨a7, rfl⟩, rfl⟩⟩, rfl⟩⟩, rfl⟩⟩⟩ ⟨[iv b0], _, rfl, ⟨b0, rfl⟩, ⟨[iv b1, iv b2, iv b3], _, rfl, ⟨[iv b1], _, rfl, ⟨b1, rfl⟩, ⟨[iv b2], _, rfl, ⟨b2, rfl⟩, ⟨[iv b3], _, rfl, ⟨b3, rfl⟩, rfl⟩⟩⟩, ⟨[iv b4, iv b5, iv b6, iv b7], _, rfl, ⟨[iv b4, iv b5], _, rfl, ⟨[iv b4], _, rfl, ⟨b4, rfl⟩, ⟨[iv b5], _, rfl, ⟨b5, rfl⟩, rfl⟩⟩, ⟨[iv b6, iv b7], _, rfl, ⟨[iv b6], _, rfl, ⟨b6, rfl⟩, ⟨[iv b7], _, rfl, ⟨b7, rfl⟩, rfl⟩⟩, rfl⟩⟩, rfl⟩⟩⟩ _ (by simp)
theorem typ214 {cs : List SV} (h : Typ Tryz.prog 214 cs) : ∃ a0 a1 a2 a3 a4 a5 a6 a7, cs = [i64 a0, i64 a1, i64 a2, i64 a3, i64 a4, i64 a5, i64 a6, i64 a7] ∧ R64 a0 ∧ R64 a1 ∧ R64 a2 ∧ R64 a3 ∧ R64 a4 ∧ R64 a5 ∧ R64 a6 ∧ R64 a7 := by
  have hl : cs.length = 8 := (Typ.inv_str rfl h).1
  match cs, hl, h with
  | [c0, c1, c2, c3, c4, c5, c6, c7], _, h =>
    obtain ⟨a0, e0, ha0⟩ := Typ.inv_i64 rfl (h.field rfl 0 0 1 3 rfl)
    cases (show [c0] = [i64 a0] from e0)
    obtain ⟨a1, a2, a3, e1, ha1, ha2, ha3⟩ := typ212 (h.field rfl 1 1 3 212 rfl)
    cases (show [c1, c2, c3] = [i64 a1, i64 a2, i64 a3] from e1)
    obtain ⟨a4, a5, a6, a7, e2, ha4, ha5, ha6, ha7⟩ := typ163 (h.field rfl 2 4 4 163 rfl)
    cases (show [c4, c5, c6, c7] = [i64 a4, i64 a5, i64 a6, i64 a7] from e2)
    exact ⟨a0, a1, a2, a3, a4, a5, a6, a7, rfl, ha0, ha1, ha2, ha3, ha4, ha5, ha6, ha7⟩
theorem mixed : Tryz.prog.follows .mixedOrders = true := by kernel_rfl
end Go.Vm
namespace Go.Vm
set_option maxRecDepth 20000
set_option linter.unusedVariables false
set_option linter.unusedSimpArgs false
open Go Go.RowKit Go.Proofs

structure BP where
  nm : ByteArray
  gr : ByteArray
  len : Int
  left : Int
  right : Int
abbrev bpL (p : BP) : List SV := [.v (.string p.nm), .v (.string p.gr), i64 p.len, i64 p.left, i64 p.right]
abbrev bpD (p : BP) : DV := .agg (bpL p)
abbrev rowS (n : Nat) (R : Nat → BP) : SV := .sl n 5 fun i j => match j with
  | 0 => .v (.string (R i).nm)
  | 1 => .v (.string (R i).gr)
  | 2 => i64 (R i).len
  | 3 => i64 (R i).left
  | _ => i64 (R i).right

abbrev ng (x : Int) : Int := w64 (0 - x)
def withinI (n lo hi : Int) : Bool := decide (n ≥ lo) && decide (n ≤ hi)
def topI (p : BP) : Int := w64 (w64 (p.len + p.left) + p.right)
def validP (p : BP) : Bool := withinI p.len 1 2000 && withinI p.left (-200) 200 && withinI p.right (-200) 200 && withinI (topI p) 1 2000
def turnedP (p : BP) : BP := ⟨p.nm, p.gr, topI p, ng p.right, ng p.left⟩
def flippedP (p : BP) : BP := ⟨p.nm, p.gr, p.len, p.right, p.left⟩

theorem lean_det (n : Int) : Det Tryz.prog 120 [.one (i64 n)] (tbool (withinI n (-200) 200)) := by
  refine det_of_awp TTok mixed Tryz.func120 rfl rfl [] (Nat.le_of_ble_eq_true rfl) ?_
  repeat' first | refine Split.t ?_ | refine Split.f ?_ | refine Split.mk (fun _ => ?_) (fun _ => ?_) | refine Fin.bool ?_
  all_goals simp_all [withinI]
  all_goals try (intros; omega)
theorem long_det (n : Int) : Det Tryz.prog 67 [.one (i64 n)] (tbool (withinI n 1 2000)) := by
  refine det_of_awp TTok mixed Tryz.func67 rfl rfl [] (Nat.le_of_ble_eq_true rfl) ?_
  repeat' first | refine Split.t ?_ | refine Split.f ?_ | refine Split.mk (fun _ => ?_) (fun _ => ?_) | refine Fin.bool ?_
  all_goals simp_all [withinI]
  all_goals try (intros; omega)
theorem top_det (p : BP) : Det Tryz.prog 121 [bpD p] (tint (topI p)) := by
  refine det_of_awp TTok mixed Tryz.func121 rfl rfl [] (Nat.le_of_ble_eq_true rfl) ?_
  repeat' first | refine Need.mk (by kernel_rfl) ?_ | refine Fin.int ?_
  all_goals rfl
theorem validp_det (p : BP) : Det Tryz.prog 65 [bpD p] (tbool (validP p)) := by
  refine det_of_awp TTok mixed Tryz.func65 rfl rfl [] (Nat.le_of_ble_eq_true rfl) ?_
  repeat' first | refine CallW.bool (long_det _) (fun _ _ => ?_) | refine CallW.bool (lean_det _) (fun _ _ => ?_) | refine CallW.int (top_det p) (fun _ _ => ?_) | refine Split.t ?_ | refine Split.f ?_ | refine Split.mk (fun _ => ?_) (fun _ => ?_) | refine Need.mk (by kernel_rfl) ?_ | refine Fin.bool ?_
  all_goals simp_all [validP]
theorem bad_det (p : BP) : Det Tryz.prog 64 [bpD p] (tbool (!validP p)) := by
  refine det_of_awp TTok mixed Tryz.func64 rfl rfl [] (Nat.le_of_ble_eq_true rfl) ?_
  refine CallW.mk' (validp_det p) ?_
  exact Fin.rfl'

/-! ### the search in a row -/
def firstAt (b : Nat → Bool) : Nat → Nat → Int
  | 0, _ => -1
  | n + 1, i => bif b i then (i : Int) else firstAt b n (i + 1)
theorem firstAt_nonneg (b : Nat → Bool) : ∀ (n i : Nat), firstAt b n i ≥ 0 ↔ ∃ k, k < n ∧ b (i + k) = true
  | 0, i => by simp [firstAt]
  | n + 1, i => by
    simp only [firstAt]
    cases h : b i with
    | true =>
      simp only [cond_true]
      exact ⟨fun _ => ⟨0, by omega, h⟩, fun _ => by omega⟩
    | false =>
      simp only [cond_false]
      rw [firstAt_nonneg b n (i + 1)]
      constructor
      · rintro ⟨k, h1, h2⟩
        exact ⟨k + 1, by omega, by rw [← h2]; congr 1; omega⟩
      · rintro ⟨k, h1, h2⟩
        cases k with
        | zero => rw [Nat.add_zero, h] at h2; cases h2
        | succ k => exact ⟨k, by omega, by rw [← h2]; congr 1; omega⟩
theorem index_det (n : Nat) (R : Nat → BP) (hn : n ≤ maxLen) (f q : Nat) (cap : Nat → SV) (b : Nat → Bool) (hf : ∀ i, i < n → Det Tryz.prog f ([bpD (R i)] ++ capsL q cap) (tbool (b i))) :
    Det Tryz.prog 119 [.one (rowS n R), .one (.fn f q cap)] (tint (firstAt b n 0)) := by
  have hm : (n : Int) < 9223372036854775808 := by simp only [maxLen] at hn; omega
  refine det_of_awp TTok mixed Tryz.func119 rfl rfl [] (Nat.le_of_ble_eq_true rfl) ?_
  refine Loop.by (α := Nat) (fun k => [(0, .d (.one (rowS n R))), (1, .d (.one (.fn f q cap))), (7, tint n), (8, tint k)]) (fun _ => []) (fun k => k ≤ n ∧ firstAt b (n - k) k = firstAt b n 0) (fun k => n - k)
    (Adj.at 0 ⟨Nat.zero_le _, rfl⟩ .nil (.cons .same (.cons .same (.cons .same (.cons .same .nil))))) (fun k hi => ?_)
  obtain ⟨hk, hi⟩ := hi
  refine Split.mk (fun h3 => ?_) (fun h3 => ?_)
  · have hlt : k < n := by have := of_decide_eq_true h3; omega
    have hw64 : IntKind.i64.wrap ((k : Int) + 1) = ((k + 1 : Nat) : Int) := (w64_id ⟨by omega, by omega⟩).trans (by omega)
    obtain ⟨m, hm'⟩ : ∃ m, n - k = m + 1 := ⟨n - k - 1, by omega⟩
    rw [hm'] at hi
    simp only [firstAt] at hi
    refine Need.mk (by omega) ?_
    refine CallW.bool (hf k hlt) (fun c hc => ?_)
    refine Split.mk (fun h4 => ?_) (fun h4 => ?_)
    · refine Fin.int ?_
      rw [← hi, ← hc, h4]
      rfl
    · refine Adj.back (x := k) (k + 1) ⟨hlt, ?_⟩ (by omega) .nil (.cons .same (.cons .same (.cons .same (.cons (SlotLe.int hw64) .nil))))
      rw [← hc, h4] at hi
      rw [show n - (k + 1) = m by omega]
      exact hi
  · have e : k = n := by have := of_decide_eq_false h3; omega
    subst e
    refine Fin.int ?_
    rw [← hi, Nat.sub_self]
    rfl
def anyB (b : Nat → Bool) (n : Nat) : Bool := decide (firstAt b n 0 ≥ 0)
theorem contains_det (n : Nat) (R : Nat → BP) (hn : n ≤ maxLen) (f q : Nat) (cap : Nat → SV) (b : Nat → Bool) (hf : ∀ i, i < n → Det Tryz.prog f ([bpD (R i)] ++ capsL q cap) (tbool (b i))) :
    Det Tryz.prog 63 [.one (rowS n R), .one (.fn f q cap)] (tbool (anyB b n)) := by
  refine det_of_awp TTok mixed Tryz.func63 rfl rfl [] (Nat.le_of_ble_eq_true rfl) ?_
  refine CallW.mk' (index_det n R hn f q cap b hf) ?_
  exact Fin.rfl'
end Go.Vm
namespace Go.Vm
set_option maxRecDepth 20000
set_option linter.unusedVariables false
set_option linter.unusedSimpArgs false
open Go Go.RowKit Go.Proofs

def maxI (x y : Int) : Int := if y > x then y else x
def gapI (p q : BP) (kerf : Int) : Int := w64 (kerf + maxI 0 (w64 (p.right + q.left)))
def extLo (p : BP) (a : Int) : Int := w64 (a - maxI 0 p.left)
def extHi (p : BP) (a : Int) : Int := w64 (w64 (a + p.len) + maxI 0 p.right)
def placeI (R : Nat → BP) (kerf : Int) : Nat → Int
  | 0 => maxI 0 (R 0).left
  | i + 1 => w64 (w64 (placeI R kerf i + (R i).len) + gapI (R i) (R (i + 1)) kerf)
def badB (R : Nat → BP) (n : Nat) : Bool := anyB (fun i => !validP (R i)) n
def errI (n : Nat) (R : Nat → BP) (kerf : Int) : Int := if kerf < 0 ∨ kerf > 100 ∨ badB R n = true then 1 else if (n : Int) > 40 then 9 else 0
abbrev intS (n : Nat) (X : Nat → Int) : SV := .sl n 1 fun i _ => i64 (X i)

theorem SLe.app {k i : Nat} {x y z : SV} (hi : i < k + 1) (h1 : i < k → SLe x z) (h2 : i = k → SLe y z) : SLe (bif Nat.blt i k then x else y) z := by
  cases h : Nat.blt i k with
  | true => exact h1 (lt_of_blt h)
  | false =>
    refine h2 ?_
    have : ¬ i < k := fun hl => by
      have : Nat.blt i k = true := by rw [Nat.blt_eq]; exact hl
      rw [h] at this; cases this
    omega

theorem check_det (n : Nat) (R : Nat → BP) (kerf : Int) (hn : n ≤ maxLen) : Det Tryz.prog 26 [.one (rowS n R), .one (i64 kerf)] (tint (errI n R kerf)) := by
  refine det_of_awp TTok mixed Tryz.func26 rfl rfl [] (Nat.le_of_ble_eq_true rfl) ?_
  repeat' first | refine CallW.bool (contains_det n R hn 64 0 _ (fun i => !validP (R i)) (fun i _ => bad_det (R i))) (fun _ _ => ?_) | refine Split.t ?_ | refine Split.f ?_ | refine Split.mk (fun _ => ?_) (fun _ => ?_) | refine Need.mk (by kernel_rfl) ?_ | refine Fin.int ?_
  all_goals
    simp_all [errI, badB]
    try (intros; omega)
theorem gap_det (p q : BP) (kerf : Int) : Det Tryz.prog 68 [bpD p, bpD q, .one (i64 kerf)] (tint (gapI p q kerf)) := by
  refine det_of_awp TTok mixed Tryz.func68 rfl rfl [] (Nat.le_of_ble_eq_true rfl) ?_
  exact Fin.int rfl
theorem extent_det (p : BP) (a : Int) : Det Tryz.prog 31 [bpD p, .one (i64 a)] (.tup [.one (i64 (extLo p a)), .one (i64 (extHi p a))]) := by
  refine det_of_awp TTok mixed Tryz.func31 rfl rfl [] (Nat.le_of_ble_eq_true rfl) ?_
  refine Need.mk (by kernel_rfl) ?_
  exact Fin.rfl'
theorem places_det (n : Nat) (R : Nat → BP) (kerf : Int) (hn : n ≤ 1000) : Det Tryz.prog 29 [.one (rowS n R), .one (i64 kerf)] (.d (.one (intS n (placeI R kerf)))) := by
  refine det_of_awp TTok mixed Tryz.func29 rfl rfl [] (Nat.le_of_ble_eq_true rfl) ?_
  refine Loop.by (α := Nat) (fun k => [(0, .d (.one (rowS n R))), (1, tint kerf), (8, .d (.one (rowS n R))), (9, tint n), (10, tint k), (5, .hdl 22 0)]) (fun k => [(22, .bld 0 k 1 3 fun i _ => i64 (placeI R kerf i))]) (fun k => k ≤ n) (fun k => n - k)
    (Adj.nil 5 22 1 3 (fun i _ => i64 (placeI R kerf i)) rfl rfl (Adj.at 0 (Nat.zero_le _) (.cons (.bld (fun _ h => absurd h (Nat.not_lt_zero _))) .nil) (.cons .same (.cons .same (.cons .same (.cons .same (.cons .same (.cons (.hdl rfl rfl) .nil)))))))) (fun k hk => ?_)
  refine Split.mk (fun h3 => ?_) (fun h3 => ?_)
  · have hlt : k < n := by have := of_decide_eq_true h3; omega
    have hw64 : IntKind.i64.wrap ((k : Int) + 1) = ((k + 1 : Nat) : Int) := (w64_id ⟨by omega, by omega⟩).trans (by omega)
    refine Need.mk (by omega) ?_
    cases k with
    | zero =>
      refine Split.t ?_
      refine Need.mk ⟨by decide, by decide⟩ ?_
      refine Adj.back (x := 0) 1 hlt (by omega) (.cons (.bld (fun i hi j hj => SLe.app hi (fun h => absurd h (Nat.not_lt_zero _)) (fun h => ?_))) .nil) (.cons .same (.cons .same (.cons .same (.cons .same (.cons (SlotLe.int hw64) (.cons (.hdl rfl rfl) .nil))))))
      obtain rfl : j = 0 := by omega
      subst h
      exact SLe.refl _
    | succ m =>
      have hw : IntKind.i64.wrap (((m + 1 : Nat) : Int) - 1) = (m : Int) := (w64_id ⟨by omega, by omega⟩).trans (by omega)
      refine Split.isF (by simp; omega) ?_
      refine Need.mk (by rw [hw]; omega) ?_
      refine Need.mk (by rw [hw]; omega) ?_
      refine Need.mk (by rw [hw]; omega) ?_
      refine CallW.mk' (gap_det _ _ _) ?_
      refine Need.mk ⟨(show (m + 1 + 1) * 8 ≤ 140737488355328 by omega), by simp only [maxLen]; omega⟩ ?_
      refine Need.mk (by kernel_rfl) ?_
      refine Adj.back (x := m + 1) (m + 2) hlt (by omega) (.cons (.bld (fun i hi j hj => SLe.app hi (fun _ => SLe.refl _) (fun h => ?_))) .nil) (.cons .same (.cons .same (.cons .same (.cons .same (.cons (SlotLe.int hw64) (.cons (.hdl rfl rfl) .nil))))))
      obtain rfl : j = 0 := by omega
      subst h
      rw [Nat.sub_self]
      refine SLe.of_eq ?_
      show i64 (w64 (w64 (placeI R kerf (IntKind.i64.wrap (((m + 1 : Nat) : Int) - 1)).toNat + (R (IntKind.i64.wrap (((m + 1 : Nat) : Int) - 1)).toNat).len) + gapI (R (IntKind.i64.wrap (((m + 1 : Nat) : Int) - 1)).toNat) (R (m + 1)) kerf)) = _
      rw [hw, Int.toNat_natCast]
      rfl
  · have e : k = n := by have := of_decide_eq_false h3; omega
    subst e
    exact Fin.rfl'
end Go.Vm
namespace Go.Vm
set_option maxRecDepth 20000
set_option linter.unusedVariables false
set_option linter.unusedSimpArgs false
open Go Go.RowKit Go.Proofs

def lengthI (n : Nat) (R : Nat → BP) (kerf : Int) : Int := if n = 0 then 0 else extHi (R (n - 1)) (placeI R kerf (n - 1))
theorem errI_le {n : Nat} {R : Nat → BP} {kerf : Int} (h : errI n R kerf = 0) : n ≤ 40 := by
  unfold errI at h
  split at h
  · omega
  · split at h
    · omega
    · omega

theorem len_det (n : Nat) (R : Nat → BP) (kerf : Int) (hn : n ≤ 1000) : Det Tryz.prog 27 [.one (rowS n R), .one (i64 kerf)] (tint (lengthI n R kerf)) := by
  refine det_of_awp TTok mixed Tryz.func27 rfl rfl [] (Nat.le_of_ble_eq_true rfl) ?_
  refine CallW.mk' (places_det n R kerf hn) ?_
  cases n with
  | zero =>
    refine Split.t ?_
    exact Fin.int rfl
  | succ m =>
    have hw : IntKind.i64.wrap (((m + 1 : Nat) : Int) - 1) = (m : Int) := (w64_id ⟨by omega, by omega⟩).trans (by omega)
    refine Split.isF (by simp; omega) ?_
    refine Need.mk (by rw [hw]; omega) ?_
    refine Need.mk (by rw [hw]; omega) ?_
    refine CallW.mk' (extent_det _ _) ?_
    refine Need.mk (by kernel_rfl) ?_
    refine Fin.int ?_
    show extHi (R (IntKind.i64.wrap (((m + 1 : Nat) : Int) - 1)).toNat) (placeI R kerf (IntKind.i64.wrap (((m + 1 : Nat) : Int) - 1)).toNat) = _
    rw [hw, Int.toNat_natCast]
    rfl
abbrev intErr (v e : Int) : TV := .tup [.one (i64 (if e = 0 then v else 0)), .one (i64 e)]
theorem length_det (n : Nat) (R : Nat → BP) (kerf : Int) (hn : n ≤ maxLen) : Det Tryz.prog 9 [.one (rowS n R), .one (i64 kerf)] (intErr (lengthI n R kerf) (errI n R kerf)) := by
  refine det_of_awp TTok mixed Tryz.func9 rfl rfl [] (Nat.le_of_ble_eq_true rfl) ?_
  refine CallW.int (check_det n R kerf hn) (fun e he => ?_)
  rw [← he]
  refine Split.mk (fun h => ?_) (fun h => ?_)
  · refine Fin.eq ?_
    have : e ≠ 0 := by simpa using h
    simp only [intErr, if_neg this]
  · have h0 : e = 0 := by simpa using h
    refine CallW.int (len_det n R kerf (Nat.le_trans (errI_le (he ▸ h0)) (by decide))) (fun v hv => ?_)
    refine Fin.eq ?_
    subst h0
    rw [← hv]
    rfl
def scrapI (n : Nat) (R : Nat → BP) (kerf : Int) : Nat → Int
  | 0 => w64 (2 * lengthI n R kerf)
  | k + 1 => w64 (scrapI n R kerf k - w64 ((R k).len + topI (R k)))
end Go.Vm
namespace Go.Vm
set_option maxRecDepth 20000
set_option linter.unusedVariables false
set_option linter.unusedSimpArgs false
open Go Go.RowKit Go.Proofs

def cutI (R : Nat → BP) : Nat → Int
  | 0 => 2
  | k + 1 => if k = 0 then 2 else if (R (k - 1)).right = ng (R k).left then w64 (cutI R k + 1) else w64 (w64 (cutI R k + 1) + 1)
abbrev cutsT (n : Nat) (R : Nat → BP) : TV := intErr (if n = 0 then 0 else cutI R n) (errI n R 0)
def okFrom (R : Nat → BP) : Nat → Nat → Bool
  | 0, _ => true
  | m + 1, i => validP (R i) && okFrom R m (i + 1)
def smallB (n : Nat) (R : Nat → BP) (kerf : Int) : Bool := okFrom R n 0 && decide ((n : Int) ≤ 40) && decide (kerf ≥ 0) && decide (kerf ≤ 100)
end Go.Vm
namespace Go.Vm
set_option maxRecDepth 20000
set_option linter.unusedVariables false
set_option linter.unusedSimpArgs false
open Go Go.RowKit Go.Proofs

abbrev exP : BP := ⟨⟨#[]⟩, ⟨#[]⟩, 10, 0, 4⟩
abbrev exQ : BP := ⟨⟨#[]⟩, ⟨#[]⟩, 8, -4, 0⟩
abbrev exR : Nat → BP := fun i => match i with
  | 0 => exP
  | _ => exQ
end Go.Vm
namespace Go.Vm
set_option maxRecDepth 20000
set_option linter.unusedVariables false
set_option linter.unusedSimpArgs false
open Go Go.RowKit Go.Proofs

end Go.Vm
namespace Go.Vm
set_option maxRecDepth 20000
set_option linter.unusedVariables false
set_option linter.unusedSimpArgs false
open Go Go.RowKit Go.Proofs
abbrev u8 (n : Int) : SV := .v (.int .u8 n)

end Go.Vm
namespace Go.Vm
set_option maxRecDepth 20000
set_option linter.unusedVariables false
set_option linter.unusedSimpArgs false
open Go Go.RowKit Go.Proofs

def gapE (p q : BP) (kerf : Int) : Int := if validP p && validP q && withinI kerf 0 100 then 0 else 1
abbrev twoT (a b : Int) : TV := .tup [.one (i64 a), .one (i64 b)]
abbrev threeT (a b c : Int) : TV := .tup [.one (i64 a), .one (i64 b), .one (i64 c)]
theorem CallW.tup2 {P : Program} {f : FuncId} {args : List DV} {K : TV → Prop} {a b : Int} (h : Det P f args (twoT a b)) (kk : ∀ x y, x = a → y = b → K (twoT x y)) : CallW P f args K := ⟨_, h, kk _ _ rfl rfl⟩
def extE (p : BP) (a : Int) : Int := if validP p && withinI a (-1073741824) 1073741824 then 0 else 1
abbrev extT (p : BP) (a : Int) : TV := threeT (if extE p a = 0 then extLo p a else 0) (if extE p a = 0 then extHi p a else 0) (extE p a)
end Go.Vm
namespace Go.Vm
set_option maxRecDepth 20000
set_option linter.unusedVariables false
set_option linter.unusedSimpArgs false
open Go Go.RowKit Go.Proofs

theorem wid {n : Int} (h1 : -9223372036854775808 ≤ n) (h2 : n < 9223372036854775808) : IntKind.i64.wrap n = n := w64_id ⟨h1, h2⟩
theorem wid' {n : Int} (h1 : -9223372036854775808 ≤ n) (h2 : n < 9223372036854775808) : w64 n = n := w64_id ⟨h1, h2⟩

structure VP (p : BP) : Prop where
  l1 : 1 ≤ p.len
  l2 : p.len ≤ 2000
  a1 : -200 ≤ p.left
  a2 : p.left ≤ 200
  b1 : -200 ≤ p.right
  b2 : p.right ≤ 200
  t1 : 1 ≤ p.len + p.left + p.right
  t2 : p.len + p.left + p.right ≤ 2000
  tt : topI p = p.len + p.left + p.right
theorem VP.of {p : BP} (h : validP p = true) : VP p := by
  simp only [validP, withinI, Bool.and_eq_true, decide_eq_true_eq] at h
  obtain ⟨⟨⟨⟨h1, h2⟩, h3, h4⟩, h5, h6⟩, h7, h8⟩ := h
  have e : topI p = p.len + p.left + p.right := by
    unfold topI
    simp (disch := omega) only [wid']
  rw [e] at h7 h8
  exact ⟨by omega, by omega, by omega, by omega, by omega, by omega, by omega, by omega, e⟩
theorem VP.valid {p : BP} (h : VP p) : validP p = true := by
  obtain ⟨h1, h2, h3, h4, h5, h6, h7, h8, h9⟩ := h
  simp only [validP, withinI, Bool.and_eq_true, decide_eq_true_eq, h9]
  omega
structure VR (n : Nat) (R : Nat → BP) (kerf : Int) : Prop where
  n40 : n ≤ 40
  k0 : 0 ≤ kerf
  k1 : kerf ≤ 100
  vp : ∀ i, i < n → VP (R i)
theorem maxI_0 (y : Int) : 0 ≤ maxI 0 y ∧ y ≤ maxI 0 y ∧ (maxI 0 y = 0 ∨ maxI 0 y = y) := by
  unfold maxI
  split <;> omega
theorem place_b {n : Nat} {R : Nat → BP} {kerf : Int} (h : VR n R kerf) : ∀ i, i < n → 0 ≤ placeI R kerf i ∧ placeI R kerf i ≤ 200 + 2500 * i
  | 0, hi => by
    obtain ⟨h1, h2, h3, h4, h5, h6, h7, h8, h9⟩ := h.vp 0 hi
    simp only [placeI]
    have := maxI_0 (R 0).left
    omega
  | i + 1, hi => by
    have ih := place_b h i (by omega)
    obtain ⟨h1, h2, h3, h4, h5, h6, h7, h8, h9⟩ := h.vp i (by omega)
    obtain ⟨g1, g2, g3, g4, g5, g6, g7, g8, g9⟩ := h.vp (i + 1) hi
    obtain ⟨k1, k2, k3, _⟩ := h
    simp only [placeI, gapI]
    have hm := maxI_0 ((R i).right + (R (i + 1)).left)
    simp (disch := omega) only [wid']
    omega
theorem place_s {n : Nat} {R : Nat → BP} {kerf : Int} (h : VR n R kerf) (i : Nat) (hi : i + 1 < n) : placeI R kerf (i + 1) = placeI R kerf i + (R i).len + kerf + maxI 0 ((R i).right + (R (i + 1)).left) := by
  have ih := place_b h i (by omega)
  obtain ⟨h1, h2, h3, h4, h5, h6, h7, h8, h9⟩ := h.vp i (by omega)
  obtain ⟨g1, g2, g3, g4, g5, g6, g7, g8, g9⟩ := h.vp (i + 1) hi
  obtain ⟨k1, k2, k3, _⟩ := h
  simp only [placeI, gapI]
  have hm := maxI_0 ((R i).right + (R (i + 1)).left)
  simp (disch := omega) only [wid']
  omega
theorem length_e {m : Nat} {R : Nat → BP} {kerf : Int} (h : VR (m + 1) R kerf) : lengthI (m + 1) R kerf = placeI R kerf m + (R m).len + maxI 0 (R m).right := by
  have ih := place_b h m (by omega)
  obtain ⟨h1, h2, h3, h4, h5, h6, h7, h8, h9⟩ := h.vp m (by omega)
  obtain ⟨k1, k2, k3, _⟩ := h
  have hm := maxI_0 (R m).right
  simp only [lengthI, extHi, if_neg (Nat.succ_ne_zero m), Nat.add_sub_cancel]
  simp (disch := omega) only [wid']
theorem ends_up {n : Nat} {R : Nat → BP} {kerf : Int} (h : VR n R kerf) (i : Nat) : ∀ d, i + d < n → placeI R kerf i + (R i).len ≤ placeI R kerf (i + d) + (R (i + d)).len ∧
    placeI R kerf i + (R i).len + (R i).right ≤ placeI R kerf (i + d) + (R (i + d)).len + (R (i + d)).right
  | 0, _ => ⟨Int.le_refl _, Int.le_refl _⟩
  | d + 1, hd => by
    have ih := ends_up h i d (by omega)
    have e := place_s h (i + d) (by omega)
    rw [show i + (d + 1) = i + d + 1 by omega]
    obtain ⟨h1, h2, h3, h4, h5, h6, h7, h8, h9⟩ := h.vp (i + d) (by omega)
    obtain ⟨g1, g2, g3, g4, g5, g6, g7, g8, g9⟩ := h.vp (i + d + 1) (by omega)
    obtain ⟨k1, k2, k3, _⟩ := h
    have hm := maxI_0 ((R (i + d)).right + (R (i + d + 1)).left)
    omega
theorem in_length {n : Nat} {R : Nat → BP} {kerf : Int} (h : VR n R kerf) (i : Nat) (hi : i < n) : placeI R kerf i + (R i).len ≤ lengthI n R kerf ∧ placeI R kerf i + (R i).len + (R i).right ≤ lengthI n R kerf ∧ 0 ≤ lengthI n R kerf ∧ lengthI n R kerf ≤ 110000 := by
  obtain ⟨m, rfl⟩ : ∃ m, n = m + 1 := ⟨n - 1, by omega⟩
  have e := length_e h
  have hb := place_b h m (by omega)
  have hm := maxI_0 (R m).right
  have hu := ends_up h i (m - i) (by omega)
  rw [show i + (m - i) = m by omega] at hu
  obtain ⟨h1, h2, h3, h4, h5, h6, h7, h8, h9⟩ := h.vp m (by omega)
  obtain ⟨k1, k2, k3, _⟩ := h
  omega
theorem length_b {n : Nat} {R : Nat → BP} {kerf : Int} (h : VR n R kerf) : 0 ≤ lengthI n R kerf ∧ lengthI n R kerf ≤ 110000 := by
  cases n with
  | zero => simp [lengthI]
  | succ m => exact (in_length h m (by omega)).2.2
def coverP (R : Nat → BP) : Nat → Int
  | 0 => 0
  | k + 1 => coverP R k + ((R k).len + ((R k).len + (R k).left + (R k).right))
abbrev intsErr (n : Nat) (X : Nat → Int) (e : Int) : TV := .tup [.one (intS (if e = 0 then n else 0) X), .one (i64 e)]
end Go.Vm
namespace Go.Vm
set_option maxRecDepth 20000
set_option linter.unusedVariables false
set_option linter.unusedSimpArgs false
open Go Go.RowKit Go.Proofs

def sumI (f : Nat → Int) : Nat → Int
  | 0 => 0
  | n + 1 => sumI f n + f n
def turnR (n : Nat) (R : Nat → BP) (i : Nat) : BP := turnedP (R (n - 1 - i))
def flipR (n : Nat) (R : Nat → BP) (i : Nat) : BP := flippedP (R (n - 1 - i))
theorem VR.err {n : Nat} {R : Nat → BP} {kerf : Int} (h : VR n R kerf) : errI n R kerf = 0 := by
  have hb : badB R n = false := by
    simp only [badB, anyB, decide_eq_false_iff_not]
    intro hh
    obtain ⟨k, hk, hv⟩ := (firstAt_nonneg _ n 0).1 hh
    have := (h.vp k hk).valid
    rw [Nat.zero_add] at hv
    rw [this] at hv
    cases hv
  have h1 := h.k0
  have h2 := h.k1
  have h3 := h.n40
  unfold errI
  rw [if_neg (by rw [hb]; simp; omega), if_neg (by omega)]
structure Alike (n : Nat) (R T : Nat → BP) (kerf : Int) : Prop where
  len : lengthI n R kerf = lengthI n T kerf
  cut : cutI R n = cutI T n
  scrap : scrapI n R kerf n = scrapI n T kerf n

end Go.Vm
namespace Go.Vm
set_option maxRecDepth 20000
set_option linter.unusedVariables false
set_option linter.unusedSimpArgs false
open Go Go.RowKit Go.Proofs

theorem anyB_t {b : Nat → Bool} {n k : Nat} (hk : k < n) (h : b k = true) : anyB b n = true := by
  simp only [anyB, decide_eq_true_eq]
  exact (firstAt_nonneg b n 0).2 ⟨k, hk, by rwa [Nat.zero_add]⟩
theorem anyB_f {b : Nat → Bool} {n : Nat} (h : ∀ k, k < n → b k = false) : anyB b n = false := by
  simp only [anyB, decide_eq_false_iff_not]
  intro hh
  obtain ⟨k, hk, hv⟩ := (firstAt_nonneg b n 0).1 hh
  rw [Nat.zero_add, h k hk] at hv
  cases hv
theorem badB_t {R : Nat → BP} {n k : Nat} (hk : k < n) (h : validP (R k) = false) : badB R n = true := anyB_t (b := fun i => !validP (R i)) hk (by simp [h])
theorem VR.of_err {n : Nat} {R : Nat → BP} {kerf : Int} (h : errI n R kerf = 0) : VR n R kerf := by
  unfold errI at h
  split at h
  · omega
  · rename_i hb
    split at h
    · omega
    · refine ⟨by omega, by omega, by omega, fun i hi => VP.of ?_⟩
      cases hv : validP (R i) with
      | true => rfl
      | false => exact absurd (.inr (.inr (badB_t hi hv))) hb

end Go.Vm
