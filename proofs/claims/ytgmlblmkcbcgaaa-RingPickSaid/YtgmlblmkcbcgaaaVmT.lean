/-
  The table of this program's types.
-/
import Derived.Test.YtgmlblmkcbcgaaaVmQ
import Derived.Test.YtgmlblmkcbcgaaaVmV
import Derived.Test.YtgmlblmkcbcgaaaProg
namespace Go.Vm
set_option maxRecDepth 20000
open Go Go.RowKit Go.Proofs
def T1 : Ty := ⟨1, 8, .cell, [.v .nilFunc]⟩
theorem tok1 : TyOk Try.prog 1 T1 := ⟨⟨_, _, rfl, rfl, rfl, rfl, rfl, rfl, rfl⟩, _, rfl, rfl⟩
def T2 : Ty := ⟨1, 8, .int .i64, [.v (.int .i64 0)]⟩
theorem tok2 : TyOk Try.prog 2 T2 := ⟨⟨_, _, rfl, rfl, rfl, rfl, rfl, rfl, rfl⟩, rfl⟩
def T3 : Ty := ⟨1, 8, .int .i64, [.v (.int .i64 0)]⟩
theorem tok3 : TyOk Try.prog 3 T3 := ⟨⟨_, _, rfl, rfl, rfl, rfl, rfl, rfl, rfl⟩, rfl⟩
def T4 : Ty := ⟨1, 1, .cell, [.v (.bool false)]⟩
theorem tok4 : TyOk Try.prog 4 T4 := ⟨⟨_, _, rfl, rfl, rfl, rfl, rfl, rfl, rfl⟩, _, rfl, rfl⟩
def T5 : Ty := ⟨1, 1, .int .u8, [.v (.int .u8 0)]⟩
theorem tok5 : TyOk Try.prog 5 T5 := ⟨⟨_, _, rfl, rfl, rfl, rfl, rfl, rfl, rfl⟩, rfl⟩
def T9 : Ty := ⟨1, 16, .cell, [.v (.string ⟨#[]⟩)]⟩
theorem tok9 : TyOk Try.prog 9 T9 := ⟨⟨_, _, rfl, rfl, rfl, rfl, rfl, rfl, rfl⟩, _, rfl, rfl⟩
def T12 : Ty := ⟨1, 8, .int .u64, [.v (.int .u64 0)]⟩
theorem tok12 : TyOk Try.prog 12 T12 := ⟨⟨_, _, rfl, rfl, rfl, rfl, rfl, rfl, rfl⟩, rfl⟩
def T21 : Ty := ⟨1, 4, .int .i32, [.v (.int .i32 0)]⟩
theorem tok21 : TyOk Try.prog 21 T21 := ⟨⟨_, _, rfl, rfl, rfl, rfl, rfl, rfl, rfl⟩, rfl⟩
def T22 : Ty := ⟨1, 24, .slc 32, [.v (.slice none 0 0)]⟩
theorem tok22 : TyOk Try.prog 22 T22 := ⟨⟨_, _, rfl, rfl, rfl, rfl, rfl, rfl, rfl⟩, rfl⟩
def T23 : Ty := ⟨1, 24, .slc 32, [.v (.slice none 0 0)]⟩
theorem tok23 : TyOk Try.prog 23 T23 := ⟨⟨_, _, rfl, rfl, rfl, rfl, rfl, rfl, rfl⟩, rfl⟩
def T24 : Ty := ⟨1, 8, .cell, [.v .nilFunc]⟩
theorem tok24 : TyOk Try.prog 24 T24 := ⟨⟨_, _, rfl, rfl, rfl, rfl, rfl, rfl, rfl⟩, _, rfl, rfl⟩
def T25 : Ty := ⟨1, 8, .cell, [.v .nilFunc]⟩
theorem tok25 : TyOk Try.prog 25 T25 := ⟨⟨_, _, rfl, rfl, rfl, rfl, rfl, rfl, rfl⟩, _, rfl, rfl⟩
def T26 : Ty := ⟨1, 8, .int .i64, [.v (.int .i64 0)]⟩
theorem tok26 : TyOk Try.prog 26 T26 := ⟨⟨_, _, rfl, rfl, rfl, rfl, rfl, rfl, rfl⟩, rfl⟩
def T28 : Ty := ⟨1, 8, .cell, [.v .nilFunc]⟩
theorem tok28 : TyOk Try.prog 28 T28 := ⟨⟨_, _, rfl, rfl, rfl, rfl, rfl, rfl, rfl⟩, _, rfl, rfl⟩
def T29 : Ty := ⟨1, 8, .cell, [.v .nilFunc]⟩
theorem tok29 : TyOk Try.prog 29 T29 := ⟨⟨_, _, rfl, rfl, rfl, rfl, rfl, rfl, rfl⟩, _, rfl, rfl⟩
def T30 : Ty := ⟨1, 8, .cell, [.v .nilFunc]⟩
theorem tok30 : TyOk Try.prog 30 T30 := ⟨⟨_, _, rfl, rfl, rfl, rfl, rfl, rfl, rfl⟩, _, rfl, rfl⟩
def T31 : Ty := ⟨2, 16, .str [(0, 3, 1), (1, 3, 1)], [.v (.int .i64 0), .v (.int .i64 0)]⟩
theorem tok31 : TyOk Try.prog 31 T31 := ⟨⟨_, _, rfl, rfl, rfl, rfl, rfl, rfl, rfl⟩, _, rfl, rfl, rfl⟩
def T32 : Ty := ⟨2, 16, .str [(0, 3, 1), (1, 3, 1)], [.v (.int .i64 0), .v (.int .i64 0)]⟩
theorem tok32 : TyOk Try.prog 32 T32 := ⟨⟨_, _, rfl, rfl, rfl, rfl, rfl, rfl, rfl⟩, _, rfl, rfl, rfl⟩
def T33 : Ty := ⟨1, 8, .cell, [.v .nilFunc]⟩
theorem tok33 : TyOk Try.prog 33 T33 := ⟨⟨_, _, rfl, rfl, rfl, rfl, rfl, rfl, rfl⟩, _, rfl, rfl⟩
def T34 : Ty := ⟨1, 8, .cell, [.v .nilFunc]⟩
theorem tok34 : TyOk Try.prog 34 T34 := ⟨⟨_, _, rfl, rfl, rfl, rfl, rfl, rfl, rfl⟩, _, rfl, rfl⟩
def T35 : Ty := ⟨1, 8, .cell, [.v .nilFunc]⟩
theorem tok35 : TyOk Try.prog 35 T35 := ⟨⟨_, _, rfl, rfl, rfl, rfl, rfl, rfl, rfl⟩, _, rfl, rfl⟩
def T36 : Ty := ⟨1, 8, .cell, [.v .nilFunc]⟩
theorem tok36 : TyOk Try.prog 36 T36 := ⟨⟨_, _, rfl, rfl, rfl, rfl, rfl, rfl, rfl⟩, _, rfl, rfl⟩
def T37 : Ty := ⟨1, 8, .cell, [.v .nilFunc]⟩
theorem tok37 : TyOk Try.prog 37 T37 := ⟨⟨_, _, rfl, rfl, rfl, rfl, rfl, rfl, rfl⟩, _, rfl, rfl⟩
def T38 : Ty := ⟨1, 8, .cell, [.v .nilFunc]⟩
theorem tok38 : TyOk Try.prog 38 T38 := ⟨⟨_, _, rfl, rfl, rfl, rfl, rfl, rfl, rfl⟩, _, rfl, rfl⟩
def T39 : Ty := ⟨1, 8, .cell, [.v .nilFunc]⟩
theorem tok39 : TyOk Try.prog 39 T39 := ⟨⟨_, _, rfl, rfl, rfl, rfl, rfl, rfl, rfl⟩, _, rfl, rfl⟩
def T40 : Ty := ⟨3, 24, .str [(0, 3, 1), (1, 3, 1), (2, 3, 1)], [.v (.int .i64 0), .v (.int .i64 0), .v (.int .i64 0)]⟩
theorem tok40 : TyOk Try.prog 40 T40 := ⟨⟨_, _, rfl, rfl, rfl, rfl, rfl, rfl, rfl⟩, _, rfl, rfl, rfl⟩
def T41 : Ty := ⟨3, 24, .str [(0, 3, 1), (1, 3, 1), (2, 3, 1)], [.v (.int .i64 0), .v (.int .i64 0), .v (.int .i64 0)]⟩
theorem tok41 : TyOk Try.prog 41 T41 := ⟨⟨_, _, rfl, rfl, rfl, rfl, rfl, rfl, rfl⟩, _, rfl, rfl, rfl⟩
def T42 : Ty := ⟨1, 8, .cell, [.v .nilFunc]⟩
theorem tok42 : TyOk Try.prog 42 T42 := ⟨⟨_, _, rfl, rfl, rfl, rfl, rfl, rfl, rfl⟩, _, rfl, rfl⟩
def T43 : Ty := ⟨1, 24, .slc 47, [.v (.slice none 0 0)]⟩
theorem tok43 : TyOk Try.prog 43 T43 := ⟨⟨_, _, rfl, rfl, rfl, rfl, rfl, rfl, rfl⟩, rfl⟩
def T44 : Ty := ⟨1, 8, .cell, [.v .nilFunc]⟩
theorem tok44 : TyOk Try.prog 44 T44 := ⟨⟨_, _, rfl, rfl, rfl, rfl, rfl, rfl, rfl⟩, _, rfl, rfl⟩
def T45 : Ty := ⟨1, 8, .cell, [.v .nilFunc]⟩
theorem tok45 : TyOk Try.prog 45 T45 := ⟨⟨_, _, rfl, rfl, rfl, rfl, rfl, rfl, rfl⟩, _, rfl, rfl⟩
def T46 : Ty := ⟨4, 32, .str [(0, 32, 2), (2, 32, 2)], [.v (.int .i64 0), .v (.int .i64 0), .v (.int .i64 0), .v (.int .i64 0)]⟩
theorem tok46 : TyOk Try.prog 46 T46 := ⟨⟨_, _, rfl, rfl, rfl, rfl, rfl, rfl, rfl⟩, _, rfl, rfl, rfl⟩
def T47 : Ty := ⟨4, 32, .str [(0, 32, 2), (2, 32, 2)], [.v (.int .i64 0), .v (.int .i64 0), .v (.int .i64 0), .v (.int .i64 0)]⟩
theorem tok47 : TyOk Try.prog 47 T47 := ⟨⟨_, _, rfl, rfl, rfl, rfl, rfl, rfl, rfl⟩, _, rfl, rfl, rfl⟩
def T48 : Ty := ⟨1, 8, .cell, [.v .nilFunc]⟩
theorem tok48 : TyOk Try.prog 48 T48 := ⟨⟨_, _, rfl, rfl, rfl, rfl, rfl, rfl, rfl⟩, _, rfl, rfl⟩
def T49 : Ty := ⟨1, 8, .cell, [.v .nilFunc]⟩
theorem tok49 : TyOk Try.prog 49 T49 := ⟨⟨_, _, rfl, rfl, rfl, rfl, rfl, rfl, rfl⟩, _, rfl, rfl⟩
def T50 : Ty := ⟨1, 8, .cell, [.v .nilFunc]⟩
theorem tok50 : TyOk Try.prog 50 T50 := ⟨⟨_, _, rfl, rfl, rfl, rfl, rfl, rfl, rfl⟩, _, rfl, rfl⟩
def T51 : Ty := ⟨1, 8, .cell, [.v .nilFunc]⟩
theorem tok51 : TyOk Try.prog 51 T51 := ⟨⟨_, _, rfl, rfl, rfl, rfl, rfl, rfl, rfl⟩, _, rfl, rfl⟩
def T52 : Ty := ⟨1, 8, .cell, [.v .nilFunc]⟩
theorem tok52 : TyOk Try.prog 52 T52 := ⟨⟨_, _, rfl, rfl, rfl, rfl, rfl, rfl, rfl⟩, _, rfl, rfl⟩
def T53 : Ty := ⟨1, 8, .cell, [.v .nilFunc]⟩
theorem tok53 : TyOk Try.prog 53 T53 := ⟨⟨_, _, rfl, rfl, rfl, rfl, rfl, rfl, rfl⟩, _, rfl, rfl⟩
def T54 : Ty := ⟨1, 8, .cell, [.v .nilFunc]⟩
theorem tok54 : TyOk Try.prog 54 T54 := ⟨⟨_, _, rfl, rfl, rfl, rfl, rfl, rfl, rfl⟩, _, rfl, rfl⟩
def T55 : Ty := ⟨1, 8, .cell, [.v .nilFunc]⟩
theorem tok55 : TyOk Try.prog 55 T55 := ⟨⟨_, _, rfl, rfl, rfl, rfl, rfl, rfl, rfl⟩, _, rfl, rfl⟩
def T56 : Ty := ⟨1, 8, .cell, [.v .nilFunc]⟩
theorem tok56 : TyOk Try.prog 56 T56 := ⟨⟨_, _, rfl, rfl, rfl, rfl, rfl, rfl, rfl⟩, _, rfl, rfl⟩
def T57 : Ty := ⟨1, 8, .cell, [.v .nilFunc]⟩
theorem tok57 : TyOk Try.prog 57 T57 := ⟨⟨_, _, rfl, rfl, rfl, rfl, rfl, rfl, rfl⟩, _, rfl, rfl⟩
def T58 : Ty := ⟨1, 8, .cell, [.v .nilFunc]⟩
theorem tok58 : TyOk Try.prog 58 T58 := ⟨⟨_, _, rfl, rfl, rfl, rfl, rfl, rfl, rfl⟩, _, rfl, rfl⟩
def T59 : Ty := ⟨1, 8, .cell, [.v .nilFunc]⟩
theorem tok59 : TyOk Try.prog 59 T59 := ⟨⟨_, _, rfl, rfl, rfl, rfl, rfl, rfl, rfl⟩, _, rfl, rfl⟩
def T60 : Ty := ⟨1, 8, .cell, [.v .nilFunc]⟩
theorem tok60 : TyOk Try.prog 60 T60 := ⟨⟨_, _, rfl, rfl, rfl, rfl, rfl, rfl, rfl⟩, _, rfl, rfl⟩
def T61 : Ty := ⟨1, 8, .cell, [.v .nilFunc]⟩
theorem tok61 : TyOk Try.prog 61 T61 := ⟨⟨_, _, rfl, rfl, rfl, rfl, rfl, rfl, rfl⟩, _, rfl, rfl⟩
def T62 : Ty := ⟨1, 8, .cell, [.v .nilFunc]⟩
theorem tok62 : TyOk Try.prog 62 T62 := ⟨⟨_, _, rfl, rfl, rfl, rfl, rfl, rfl, rfl⟩, _, rfl, rfl⟩
def T63 : Ty := ⟨1, 8, .cell, [.v .nilFunc]⟩
theorem tok63 : TyOk Try.prog 63 T63 := ⟨⟨_, _, rfl, rfl, rfl, rfl, rfl, rfl, rfl⟩, _, rfl, rfl⟩
def T64 : Ty := ⟨1, 8, .cell, [.v .nilFunc]⟩
theorem tok64 : TyOk Try.prog 64 T64 := ⟨⟨_, _, rfl, rfl, rfl, rfl, rfl, rfl, rfl⟩, _, rfl, rfl⟩
def T65 : Ty := ⟨1, 8, .cell, [.v .nilFunc]⟩
theorem tok65 : TyOk Try.prog 65 T65 := ⟨⟨_, _, rfl, rfl, rfl, rfl, rfl, rfl, rfl⟩, _, rfl, rfl⟩
def T66 : Ty := ⟨4, 32, .arr 4 3, [.v (.int .i64 0), .v (.int .i64 0), .v (.int .i64 0), .v (.int .i64 0)]⟩
theorem tok66 : TyOk Try.prog 66 T66 := ⟨⟨_, _, rfl, rfl, rfl, rfl, rfl, rfl, rfl⟩, rfl⟩
def T67 : Ty := ⟨1, 8, .cell, [.v .nilFunc]⟩
theorem tok67 : TyOk Try.prog 67 T67 := ⟨⟨_, _, rfl, rfl, rfl, rfl, rfl, rfl, rfl⟩, _, rfl, rfl⟩
def T68 : Ty := ⟨1, 8, .cell, [.v .nilFunc]⟩
theorem tok68 : TyOk Try.prog 68 T68 := ⟨⟨_, _, rfl, rfl, rfl, rfl, rfl, rfl, rfl⟩, _, rfl, rfl⟩
def T69 : Ty := ⟨1, 8, .cell, [.v .nilFunc]⟩
theorem tok69 : TyOk Try.prog 69 T69 := ⟨⟨_, _, rfl, rfl, rfl, rfl, rfl, rfl, rfl⟩, _, rfl, rfl⟩
def T70 : Ty := ⟨1, 8, .cell, [.v .nilFunc]⟩
theorem tok70 : TyOk Try.prog 70 T70 := ⟨⟨_, _, rfl, rfl, rfl, rfl, rfl, rfl, rfl⟩, _, rfl, rfl⟩
def T71 : Ty := ⟨1, 8, .cell, [.v .nilFunc]⟩
theorem tok71 : TyOk Try.prog 71 T71 := ⟨⟨_, _, rfl, rfl, rfl, rfl, rfl, rfl, rfl⟩, _, rfl, rfl⟩
def T72 : Ty := ⟨1, 8, .cell, [.v .nilFunc]⟩
theorem tok72 : TyOk Try.prog 72 T72 := ⟨⟨_, _, rfl, rfl, rfl, rfl, rfl, rfl, rfl⟩, _, rfl, rfl⟩
def T73 : Ty := ⟨1, 8, .cell, [.v .nilFunc]⟩
theorem tok73 : TyOk Try.prog 73 T73 := ⟨⟨_, _, rfl, rfl, rfl, rfl, rfl, rfl, rfl⟩, _, rfl, rfl⟩
def T74 : Ty := ⟨1, 8, .cell, [.v .nilFunc]⟩
theorem tok74 : TyOk Try.prog 74 T74 := ⟨⟨_, _, rfl, rfl, rfl, rfl, rfl, rfl, rfl⟩, _, rfl, rfl⟩
def T75 : Ty := ⟨1, 8, .cell, [.v .nilFunc]⟩
theorem tok75 : TyOk Try.prog 75 T75 := ⟨⟨_, _, rfl, rfl, rfl, rfl, rfl, rfl, rfl⟩, _, rfl, rfl⟩
def T76 : Ty := ⟨1, 8, .cell, [.v .nilFunc]⟩
theorem tok76 : TyOk Try.prog 76 T76 := ⟨⟨_, _, rfl, rfl, rfl, rfl, rfl, rfl, rfl⟩, _, rfl, rfl⟩
def T77 : Ty := ⟨1, 8, .cell, [.v .nilFunc]⟩
theorem tok77 : TyOk Try.prog 77 T77 := ⟨⟨_, _, rfl, rfl, rfl, rfl, rfl, rfl, rfl⟩, _, rfl, rfl⟩
def T78 : Ty := ⟨1, 8, .cell, [.v .nilFunc]⟩
theorem tok78 : TyOk Try.prog 78 T78 := ⟨⟨_, _, rfl, rfl, rfl, rfl, rfl, rfl, rfl⟩, _, rfl, rfl⟩
def T79 : Ty := ⟨1, 8, .cell, [.v .nilFunc]⟩
theorem tok79 : TyOk Try.prog 79 T79 := ⟨⟨_, _, rfl, rfl, rfl, rfl, rfl, rfl, rfl⟩, _, rfl, rfl⟩
def T80 : Ty := ⟨1, 8, .cell, [.v .nilFunc]⟩
theorem tok80 : TyOk Try.prog 80 T80 := ⟨⟨_, _, rfl, rfl, rfl, rfl, rfl, rfl, rfl⟩, _, rfl, rfl⟩
def T81 : Ty := ⟨32, 256, .arr 8 66, [.v (.int .i64 0), .v (.int .i64 0), .v (.int .i64 0), .v (.int .i64 0), .v (.int .i64 0), .v (.int .i64 0), .v (.int .i64 0), .v (.int .i64 0), .v (.int .i64 0), .v (.int .i64 0), .v (.int .i64 0), .v (.int .i64 0), .v (.int .i64 0), .v (.int .i64 0), .v (.int .i64 0), .v (.int .i64 0), .v (.int .i64 0), .v (.int .i64 0), .v (.int .i64 0), .v (.int .i64 0), .v (.int .i64 0), .v (.int .i64 0), .v (.int .i64 0), .v (.int .i64 0), .v (.int .i64 0), .v (.int .i64 0), .v (.int .i64 0), .v (.int .i64 0), .v (.int .i64 0), .v (.int .i64 0), .v (.int .i64 0), .v (.int .i64 0)]⟩
theorem tok81 : TyOk Try.prog 81 T81 := ⟨⟨_, _, rfl, rfl, rfl, rfl, rfl, rfl, rfl⟩, rfl⟩
def T82 : Ty := ⟨1, 8, .cell, [.v .nilFunc]⟩
theorem tok82 : TyOk Try.prog 82 T82 := ⟨⟨_, _, rfl, rfl, rfl, rfl, rfl, rfl, rfl⟩, _, rfl, rfl⟩
def T83 : Ty := ⟨1, 8, .cell, [.v .nilFunc]⟩
theorem tok83 : TyOk Try.prog 83 T83 := ⟨⟨_, _, rfl, rfl, rfl, rfl, rfl, rfl, rfl⟩, _, rfl, rfl⟩
def T84 : Ty := ⟨1, 8, .cell, [.v .nilFunc]⟩
theorem tok84 : TyOk Try.prog 84 T84 := ⟨⟨_, _, rfl, rfl, rfl, rfl, rfl, rfl, rfl⟩, _, rfl, rfl⟩
def T85 : Ty := ⟨8, 64, .str [(0, 3, 1), (1, 41, 3), (4, 47, 4)], [.v (.int .i64 0), .v (.int .i64 0), .v (.int .i64 0), .v (.int .i64 0), .v (.int .i64 0), .v (.int .i64 0), .v (.int .i64 0), .v (.int .i64 0)]⟩
theorem tok85 : TyOk Try.prog 85 T85 := ⟨⟨_, _, rfl, rfl, rfl, rfl, rfl, rfl, rfl⟩, _, rfl, rfl, rfl⟩
def T86 : Ty := ⟨8, 64, .str [(0, 3, 1), (1, 41, 3), (4, 47, 4)], [.v (.int .i64 0), .v (.int .i64 0), .v (.int .i64 0), .v (.int .i64 0), .v (.int .i64 0), .v (.int .i64 0), .v (.int .i64 0), .v (.int .i64 0)]⟩
theorem tok86 : TyOk Try.prog 86 T86 := ⟨⟨_, _, rfl, rfl, rfl, rfl, rfl, rfl, rfl⟩, _, rfl, rfl, rfl⟩
def T87 : Ty := ⟨1, 8, .cell, [.v .nilFunc]⟩
theorem tok87 : TyOk Try.prog 87 T87 := ⟨⟨_, _, rfl, rfl, rfl, rfl, rfl, rfl, rfl⟩, _, rfl, rfl⟩
def T88 : Ty := ⟨1, 8, .cell, [.v .nilFunc]⟩
theorem tok88 : TyOk Try.prog 88 T88 := ⟨⟨_, _, rfl, rfl, rfl, rfl, rfl, rfl, rfl⟩, _, rfl, rfl⟩
def T89 : Ty := ⟨1, 24, .slc 23, [.v (.slice none 0 0)]⟩
theorem tok89 : TyOk Try.prog 89 T89 := ⟨⟨_, _, rfl, rfl, rfl, rfl, rfl, rfl, rfl⟩, rfl⟩
def T90 : Ty := ⟨1, 8, .cell, [.v .nilFunc]⟩
theorem tok90 : TyOk Try.prog 90 T90 := ⟨⟨_, _, rfl, rfl, rfl, rfl, rfl, rfl, rfl⟩, _, rfl, rfl⟩
def T91 : Ty := ⟨1, 8, .cell, [.v .nilFunc]⟩
theorem tok91 : TyOk Try.prog 91 T91 := ⟨⟨_, _, rfl, rfl, rfl, rfl, rfl, rfl, rfl⟩, _, rfl, rfl⟩
def T92 : Ty := ⟨1, 8, .cell, [.v .nilFunc]⟩
theorem tok92 : TyOk Try.prog 92 T92 := ⟨⟨_, _, rfl, rfl, rfl, rfl, rfl, rfl, rfl⟩, _, rfl, rfl⟩
def T93 : Ty := ⟨1, 8, .cell, [.v .nilFunc]⟩
theorem tok93 : TyOk Try.prog 93 T93 := ⟨⟨_, _, rfl, rfl, rfl, rfl, rfl, rfl, rfl⟩, _, rfl, rfl⟩
def T94 : Ty := ⟨8, 64, .arr 4 32, [.v (.int .i64 0), .v (.int .i64 0), .v (.int .i64 0), .v (.int .i64 0), .v (.int .i64 0), .v (.int .i64 0), .v (.int .i64 0), .v (.int .i64 0)]⟩
theorem tok94 : TyOk Try.prog 94 T94 := ⟨⟨_, _, rfl, rfl, rfl, rfl, rfl, rfl, rfl⟩, rfl⟩
def T95 : Ty := ⟨1, 24, .slc 3, [.v (.slice none 0 0)]⟩
theorem tok95 : TyOk Try.prog 95 T95 := ⟨⟨_, _, rfl, rfl, rfl, rfl, rfl, rfl, rfl⟩, rfl⟩
def T96 : Ty := ⟨4, 32, .str [(0, 32, 2), (2, 32, 2)], [.v (.int .i64 0), .v (.int .i64 0), .v (.int .i64 0), .v (.int .i64 0)]⟩
theorem tok96 : TyOk Try.prog 96 T96 := ⟨⟨_, _, rfl, rfl, rfl, rfl, rfl, rfl, rfl⟩, _, rfl, rfl, rfl⟩
def T97 : Ty := ⟨4, 32, .str [(0, 32, 2), (2, 32, 2)], [.v (.int .i64 0), .v (.int .i64 0), .v (.int .i64 0), .v (.int .i64 0)]⟩
theorem tok97 : TyOk Try.prog 97 T97 := ⟨⟨_, _, rfl, rfl, rfl, rfl, rfl, rfl, rfl⟩, _, rfl, rfl, rfl⟩
def T99 : Ty := ⟨1, 8, .cell, [.v .nilFunc]⟩
theorem tok99 : TyOk Try.prog 99 T99 := ⟨⟨_, _, rfl, rfl, rfl, rfl, rfl, rfl, rfl⟩, _, rfl, rfl⟩
def T100 : Ty := ⟨1, 8, .cell, [.v .nilFunc]⟩
theorem tok100 : TyOk Try.prog 100 T100 := ⟨⟨_, _, rfl, rfl, rfl, rfl, rfl, rfl, rfl⟩, _, rfl, rfl⟩
def T101 : Ty := ⟨1, 8, .cell, [.v .nilFunc]⟩
theorem tok101 : TyOk Try.prog 101 T101 := ⟨⟨_, _, rfl, rfl, rfl, rfl, rfl, rfl, rfl⟩, _, rfl, rfl⟩
def T107 : Ty := ⟨1, 8, .cell, [.v .nilFunc]⟩
theorem tok107 : TyOk Try.prog 107 T107 := ⟨⟨_, _, rfl, rfl, rfl, rfl, rfl, rfl, rfl⟩, _, rfl, rfl⟩
def T108 : Ty := ⟨1, 4, .int .u32, [.v (.int .u32 0)]⟩
theorem tok108 : TyOk Try.prog 108 T108 := ⟨⟨_, _, rfl, rfl, rfl, rfl, rfl, rfl, rfl⟩, rfl⟩
def T111 : Ty := ⟨1, 8, .cell, [.v .nilFunc]⟩
theorem tok111 : TyOk Try.prog 111 T111 := ⟨⟨_, _, rfl, rfl, rfl, rfl, rfl, rfl, rfl⟩, _, rfl, rfl⟩
def T112 : Ty := ⟨1, 8, .cell, [.v (.pointer none)]⟩
theorem tok112 : TyOk Try.prog 112 T112 := ⟨⟨_, _, rfl, rfl, rfl, rfl, rfl, rfl, rfl⟩, _, rfl, rfl⟩
abbrev TT : Tab := tabL [(1, T1), (2, T2), (3, T3), (4, T4), (5, T5), (9, T9), (12, T12), (21, T21), (22, T22), (23, T23), (24, T24), (25, T25), (26, T26), (28, T28), (29, T29), (30, T30), (31, T31), (32, T32), (33, T33), (34, T34), (35, T35), (36, T36), (37, T37), (38, T38), (39, T39), (40, T40), (41, T41), (42, T42), (43, T43), (44, T44), (45, T45), (46, T46), (47, T47), (48, T48), (49, T49), (50, T50), (51, T51), (52, T52), (53, T53), (54, T54), (55, T55), (56, T56), (57, T57), (58, T58), (59, T59), (60, T60), (61, T61), (62, T62), (63, T63), (64, T64), (65, T65), (66, T66), (67, T67), (68, T68), (69, T69), (70, T70), (71, T71), (72, T72), (73, T73), (74, T74), (75, T75), (76, T76), (77, T77), (78, T78), (79, T79), (80, T80), (81, T81), (82, T82), (83, T83), (84, T84), (85, T85), (86, T86), (87, T87), (88, T88), (89, T89), (90, T90), (91, T91), (92, T92), (93, T93), (94, T94), (95, T95), (96, T96), (97, T97), (99, T99), (100, T100), (101, T101), (107, T107), (108, T108), (111, T111), (112, T112)]
theorem TTok : TabOk Try.prog TT := tabL_ok (.cons tok1 ( .cons tok2 ( .cons tok3 ( .cons tok4 ( .cons tok5 ( .cons tok9 ( .cons tok12 ( .cons tok21 ( .cons tok22 ( .cons tok23 ( .cons tok24 ( .cons tok25 ( .cons tok26 ( .cons tok28 ( .cons tok29 ( .cons tok30 ( .cons tok31 ( .cons tok32 ( .cons tok33 ( .cons tok34 ( .cons tok35 ( .cons tok36 ( .cons tok37 ( .cons tok38 ( .cons tok39 ( .cons tok40 ( .cons tok41 ( .cons tok42 ( .cons tok43 ( .cons tok44 ( .cons tok45 ( .cons tok46 ( .cons tok47 ( .cons tok48 ( .cons tok49 ( .cons tok50 ( .cons tok51 ( .cons tok52 ( .cons tok53 ( .cons tok54 ( .cons tok55 ( .cons tok56 ( .cons tok57 ( .cons tok58 ( .cons tok59 ( .cons tok60 ( .cons tok61 ( .cons tok62 ( .cons tok63 ( .cons tok64 ( .cons tok65 ( .cons tok66 ( .cons tok67 ( .cons tok68 ( .cons tok69 ( .cons tok70 ( .cons tok71 ( .cons tok72 ( .cons tok73 ( .cons tok74 ( .cons tok75 ( .cons tok76 ( .cons tok77 ( .cons tok78 ( .cons tok79 ( .cons tok80 ( .cons tok81 ( .cons tok82 ( .cons tok83 ( .cons tok84 ( .cons tok85 ( .cons tok86 ( .cons tok87 ( .cons tok88 ( .cons tok89 ( .cons tok90 ( .cons tok91 ( .cons tok92 ( .cons tok93 ( .cons tok94 ( .cons tok95 ( .cons tok96 ( .cons tok97 ( .cons tok99 ( .cons tok100 ( .cons tok101 ( .cons tok107 ( .cons tok108 ( .cons tok111 ( .cons tok112 (.nil)))))))))))))))))))))))))))))))))))))))))))))))))))))))))))))))))))))))))))))))))))))))))))
abbrev C31 : List Value → Prop := fun xs => ∃ a b, xs = a ++ b ∧ CInt a ∧ (fun xs => ∃ a b, xs = a ++ b ∧ CInt a ∧ (fun xs => xs = []) b) b
theorem eqin31 : EqIn Try.prog 2 31 T31 C31 := EqIn.str rfl rfl (by kernel_rfl) (.cons (TF := T3) (by decide) rfl tok3 (by decide) (EqIn.mono (EqIn.int rfl rfl rfl) (Nat.le_of_ble_eq_true rfl)) (.cons (TF := T3) (by decide) rfl tok3 (by decide) (EqIn.mono (EqIn.int rfl rfl rfl) (Nat.le_of_ble_eq_true rfl)) (.nil _)))
theorem eq31 (a0 : Int) (a1 : Int) (b0 : Int) (b1 : Int) : EqFact Try.prog 31 [i64 a0, i64 a1] [i64 b0, i64 b1] (decide ([a0, a1] = [b0, b1])) := eqin31.fact (Nat.le_of_ble_eq_true rfl) rfl (by kernel_rfl) [iv a0, iv a1] [iv b0, iv b1] ⟨[iv a0], _, rfl, ⟨a0, rfl⟩, ⟨[iv a1], _, rfl, ⟨a1, rfl⟩, rfl⟩⟩ ⟨[iv b0], _, rfl, ⟨b0, rfl⟩, ⟨[iv b1], _, rfl, ⟨b1, rfl⟩, rfl⟩⟩ _ (by simp)
theorem typ31 {cs : List SV} (h : Typ Try.prog 31 cs) : ∃ a0 a1, cs = [i64 a0, i64 a1] ∧ R64 a0 ∧ R64 a1 := by
  have hl : cs.length = 2 := (Typ.inv_str rfl h).1
  match cs, hl, h with
  | [c0, c1], _, h =>
    obtain ⟨a0, e0, ha0⟩ := Typ.inv_i64 rfl (h.field rfl 0 0 1 3 rfl)
    cases (show [c0] = [i64 a0] from e0)
    obtain ⟨a1, e1, ha1⟩ := Typ.inv_i64 rfl (h.field rfl 1 1 1 3 rfl)
    cases (show [c1] = [i64 a1] from e1)
    exact ⟨a0, a1, rfl, ha0, ha1⟩
abbrev C32 : List Value → Prop := fun xs => ∃ a b, xs = a ++ b ∧ CInt a ∧ (fun xs => ∃ a b, xs = a ++ b ∧ CInt a ∧ (fun xs => xs = []) b) b
theorem eqin32 : EqIn Try.prog 2 32 T32 C32 := EqIn.str rfl rfl (by kernel_rfl) (.cons (TF := T3) (by decide) rfl tok3 (by decide) (EqIn.mono (EqIn.int rfl rfl rfl) (Nat.le_of_ble_eq_true rfl)) (.cons (TF := T3) (by decide) rfl tok3 (by decide) (EqIn.mono (EqIn.int rfl rfl rfl) (Nat.le_of_ble_eq_true rfl)) (.nil _)))
theorem eq32 (a0 : Int) (a1 : Int) (b0 : Int) (b1 : Int) : EqFact Try.prog 32 [i64 a0, i64 a1] [i64 b0, i64 b1] (decide ([a0, a1] = [b0, b1])) := eqin32.fact (Nat.le_of_ble_eq_true rfl) rfl (by kernel_rfl) [iv a0, iv a1] [iv b0, iv b1] ⟨[iv a0], _, rfl, ⟨a0, rfl⟩, ⟨[iv a1], _, rfl, ⟨a1, rfl⟩, rfl⟩⟩ ⟨[iv b0], _, rfl, ⟨b0, rfl⟩, ⟨[iv b1], _, rfl, ⟨b1, rfl⟩, rfl⟩⟩ _ (by simp)
theorem typ32 {cs : List SV} (h : Typ Try.prog 32 cs) : ∃ a0 a1, cs = [i64 a0, i64 a1] ∧ R64 a0 ∧ R64 a1 := by
  have hl : cs.length = 2 := (Typ.inv_str rfl h).1
  match cs, hl, h with
  | [c0, c1], _, h =>
    obtain ⟨a0, e0, ha0⟩ := Typ.inv_i64 rfl (h.field rfl 0 0 1 3 rfl)
    cases (show [c0] = [i64 a0] from e0)
    obtain ⟨a1, e1, ha1⟩ := Typ.inv_i64 rfl (h.field rfl 1 1 1 3 rfl)
    cases (show [c1] = [i64 a1] from e1)
    exact ⟨a0, a1, rfl, ha0, ha1⟩
abbrev C40 : List Value → Prop := fun xs => ∃ a b, xs = a ++ b ∧ CInt a ∧ (fun xs => ∃ a b, xs = a ++ b ∧ CInt a ∧ (fun xs => ∃ a b, xs = a ++ b ∧ CInt a ∧ (fun xs => xs = []) b) b) b
theorem eqin40 : EqIn Try.prog 2 40 T40 C40 := EqIn.str rfl rfl (by kernel_rfl) (.cons (TF := T3) (by decide) rfl tok3 (by decide) (EqIn.mono (EqIn.int rfl rfl rfl) (Nat.le_of_ble_eq_true rfl)) (.cons (TF := T3) (by decide) rfl tok3 (by decide) (EqIn.mono (EqIn.int rfl rfl rfl) (Nat.le_of_ble_eq_true rfl)) (.cons (TF := T3) (by decide) rfl tok3 (by decide) (EqIn.mono (EqIn.int rfl rfl rfl) (Nat.le_of_ble_eq_true rfl)) (.nil _))))
theorem eq40 (a0 : Int) (a1 : Int) (a2 : Int) (b0 : Int) (b1 : Int) (b2 : Int) : EqFact Try.prog 40 [i64 a0, i64 a1, i64 a2] [i64 b0, i64 b1, i64 b2] (decide ([a0, a1, a2] = [b0, b1, b2])) := eqin40.fact (Nat.le_of_ble_eq_true rfl) rfl (by kernel_rfl) [iv a0, iv a1, iv a2] [iv b0, iv b1, iv b2] ⟨[iv a0], _, rfl, ⟨a0, rfl⟩, ⟨[iv a1], _, rfl, ⟨a1, rfl⟩, ⟨[iv a2], _, rfl, ⟨a2, rfl⟩, rfl⟩⟩⟩ ⟨[iv b0], _, rfl, ⟨b0, rfl⟩, ⟨[iv b1], _, rfl, ⟨b1, rfl⟩, ⟨[iv b2], _, rfl, ⟨b2, rfl⟩, rfl⟩⟩⟩ _ (by simp)
theorem typ40 {cs : List SV} (h : Typ Try.prog 40 cs) : ∃ a0 a1 a2, cs = [i64 a0, i64 a1, i64 a2] ∧ R64 a0 ∧ R64 a1 ∧ R64 a2 := by
  have hl : cs.length = 3 := (Typ.inv_str rfl h).1
  match cs, hl, h with
  | [c0, c1, c2], _, h =>
    obtain ⟨a0, e0, ha0⟩ := Typ.inv_i64 rfl (h.field rfl 0 0 1 3 rfl)
    cases (show [c0] = [i64 a0] from e0)
    obtain ⟨a1, e1, ha1⟩ := Typ.inv_i64 rfl (h.field rfl 1 1 1 3 rfl)
    cases (show [c1] = [i64 a1] from e1)
    obtain ⟨a2, e2, ha2⟩ := Typ.inv_i64 rfl (h.field rfl 2 2 1 3 rfl)
    cases (show [c2] = [i64 a2] from e2)
    exact ⟨a0, a1, a2, rfl, ha0, ha1, ha2⟩
abbrev C41 : List Value → Prop := fun xs => ∃ a b, xs = a ++ b ∧ CInt a ∧ (fun xs => ∃ a b, xs = a ++ b ∧ CInt a ∧ (fun xs => ∃ a b, xs = a ++ b ∧ CInt a ∧ (fun xs => xs = []) b) b) b
theorem eqin41 : EqIn Try.prog 2 41 T41 C41 := EqIn.str rfl rfl (by kernel_rfl) (.cons (TF := T3) (by decide) rfl tok3 (by decide) (EqIn.mono (EqIn.int rfl rfl rfl) (Nat.le_of_ble_eq_true rfl)) (.cons (TF := T3) (by decide) rfl tok3 (by decide) (EqIn.mono (EqIn.int rfl rfl rfl) (Nat.le_of_ble_eq_true rfl)) (.cons (TF := T3) (by decide) rfl tok3 (by decide) (EqIn.mono (EqIn.int rfl rfl rfl) (Nat.le_of_ble_eq_true rfl)) (.nil _))))
theorem eq41 (a0 : Int) (a1 : Int) (a2 : Int) (b0 : Int) (b1 : Int) (b2 : Int) : EqFact Try.prog 41 [i64 a0, i64 a1, i64 a2] [i64 b0, i64 b1, i64 b2] (decide ([a0, a1, a2] = [b0, b1, b2])) := eqin41.fact (Nat.le_of_ble_eq_true rfl) rfl (by kernel_rfl) [iv a0, iv a1, iv a2] [iv b0, iv b1, iv b2] ⟨[iv a0], _, rfl, ⟨a0, rfl⟩, ⟨[iv a1], _, rfl, ⟨a1, rfl⟩, ⟨[iv a2], _, rfl, ⟨a2, rfl⟩, rfl⟩⟩⟩ ⟨[iv b0], _, rfl, ⟨b0, rfl⟩, ⟨[iv b1], _, rfl, ⟨b1, rfl⟩, ⟨[iv b2], _, rfl, ⟨b2, rfl⟩, rfl⟩⟩⟩ _ (by simp)
theorem typ41 {cs : List SV} (h : Typ Try.prog 41 cs) : ∃ a0 a1 a2, cs = [i64 a0, i64 a1, i64 a2] ∧ R64 a0 ∧ R64 a1 ∧ R64 a2 := by
  have hl : cs.length = 3 := (Typ.inv_str rfl h).1
  match cs, hl, h with
  | [c0, c1, c2], _, h =>
    obtain ⟨a0, e0, ha0⟩ := Typ.inv_i64 rfl (h.field rfl 0 0 1 3 rfl)
    cases (show [c0] = [i64 a0] from e0)
    obtain ⟨a1, e1, ha1⟩ := Typ.inv_i64 rfl (h.field rfl 1 1 1 3 rfl)
    cases (show [c1] = [i64 a1] from e1)
    obtain ⟨a2, e2, ha2⟩ := Typ.inv_i64 rfl (h.field rfl 2 2 1 3 rfl)
    cases (show [c2] = [i64 a2] from e2)
    exact ⟨a0, a1, a2, rfl, ha0, ha1, ha2⟩
abbrev C46 : List Value → Prop := fun xs => ∃ a b, xs = a ++ b ∧ C32 a ∧ (fun xs => ∃ a b, xs = a ++ b ∧ C32 a ∧ (fun xs => xs = []) b) b
theorem eqin46 : EqIn Try.prog 3 46 T46 C46 := EqIn.str rfl rfl (by kernel_rfl) (.cons (TF := T32) (by decide) rfl tok32 (by decide) (EqIn.mono eqin32 (Nat.le_of_ble_eq_true rfl)) (.cons (TF := T32) (by decide) rfl tok32 (by decide) (EqIn.mono eqin32 (Nat.le_of_ble_eq_true rfl)) (.nil _)))
theorem eq46 (a0 : Int) (a1 : Int) (a2 : Int) (a3 : Int) (b0 : Int) (b1 : Int) (b2 : Int) (b3 : Int) : EqFact Try.prog 46 [i64 a0, i64 a1, i64 a2, i64 a3] [i64 b0, i64 b1, i64 b2, i64 b3] (decide ([a0, a1, a2, a3] = [b0, b1, b2, b3])) := eqin46.fact (Nat.le_of_ble_eq_true rfl) rfl (by kernel_rfl) [iv a0, iv a1, iv a2, iv a3] [iv b0, iv b1, iv b2, iv b3] ⟨[iv a0, iv a1], _, rfl, ⟨[iv a0], _, rfl, ⟨a0, rfl⟩, ⟨[iv a1], _, rfl, ⟨a1, rfl⟩, rfl⟩⟩, ⟨[iv a2, iv a3], _, rfl, ⟨[iv a2], _, rfl, ⟨a2, rfl⟩, ⟨[iv a3], _, rfl, ⟨a3, rfl⟩, rfl⟩⟩, rfl⟩⟩ ⟨[iv b0, iv b1], _, rfl, ⟨[iv b0], _, rfl, ⟨b0, rfl⟩, ⟨[iv b1], _, rfl, ⟨b1, rfl⟩, rfl⟩⟩, ⟨[iv b2, iv b3], _, rfl, ⟨[iv b2], _, rfl, ⟨b2, rfl⟩, ⟨[iv b3], _, rfl, ⟨b3, rfl⟩, rfl⟩⟩, rfl⟩⟩ _ (by simp)
theorem typ46 {cs : List SV} (h : Typ Try.prog 46 cs) : ∃ a0 a1 a2 a3, cs = [i64 a0, i64 a1, i64 a2, i64 a3] ∧ R64 a0 ∧ R64 a1 ∧ R64 a2 ∧ R64 a3 := by
  have hl : cs.length = 4 := (Typ.inv_str rfl h).1
  match cs, hl, h with
  | [c0, c1, c2, c3], _, h =>
    obtain ⟨a0, a1, e0, ha0, ha1⟩ := typ32 (h.field rfl 0 0 2 32 rfl)
    cases (show [c0, c1] = [i64 a0, i64 a1] from e0)
    obtain ⟨a2, a3, e1, ha2, ha3⟩ := typ32 (h.field rfl 1 2 2 32 rfl)
    cases (show [c2, c3] = [i64 a2, i64 a3] from e1)
    exact ⟨a0, a1, a2, a3, rfl, ha0, ha1, ha2, ha3⟩
abbrev C47 : List Value → Prop := fun xs => ∃ a b, xs = a ++ b ∧ C32 a ∧ (fun xs => ∃ a b, xs = a ++ b ∧ C32 a ∧ (fun xs => xs = []) b) b
theorem eqin47 : EqIn Try.prog 3 47 T47 C47 := EqIn.str rfl rfl (by kernel_rfl) (.cons (TF := T32) (by decide) rfl tok32 (by decide) (EqIn.mono eqin32 (Nat.le_of_ble_eq_true rfl)) (.cons (TF := T32) (by decide) rfl tok32 (by decide) (EqIn.mono eqin32 (Nat.le_of_ble_eq_true rfl)) (.nil _)))
theorem eq47 (a0 : Int) (a1 : Int) (a2 : Int) (a3 : Int) (b0 : Int) (b1 : Int) (b2 : Int) (b3 : Int) : EqFact Try.prog 47 [i64 a0, i64 a1, i64 a2, i64 a3] [i64 b0, i64 b1, i64 b2, i64 b3] (decide ([a0, a1, a2, a3] = [b0, b1, b2, b3])) := eqin47.fact (Nat.le_of_ble_eq_true rfl) rfl (by kernel_rfl) [iv a0, iv a1, iv a2, iv a3] [iv b0, iv b1, iv b2, iv b3] ⟨[iv a0, iv a1], _, rfl, ⟨[iv a0], _, rfl, ⟨a0, rfl⟩, ⟨[iv a1], _, rfl, ⟨a1, rfl⟩, rfl⟩⟩, ⟨[iv a2, iv a3], _, rfl, ⟨[iv a2], _, rfl, ⟨a2, rfl⟩, ⟨[iv a3], _, rfl, ⟨a3, rfl⟩, rfl⟩⟩, rfl⟩⟩ ⟨[iv b0, iv b1], _, rfl, ⟨[iv b0], _, rfl, ⟨b0, rfl⟩, ⟨[iv b1], _, rfl, ⟨b1, rfl⟩, rfl⟩⟩, ⟨[iv b2, iv b3], _, rfl, ⟨[iv b2], _, rfl, ⟨b2, rfl⟩, ⟨[iv b3], _, rfl, ⟨b3, rfl⟩, rfl⟩⟩, rfl⟩⟩ _ (by simp)
theorem typ47 {cs : List SV} (h : Typ Try.prog 47 cs) : ∃ a0 a1 a2 a3, cs = [i64 a0, i64 a1, i64 a2, i64 a3] ∧ R64 a0 ∧ R64 a1 ∧ R64 a2 ∧ R64 a3 := by
  have hl : cs.length = 4 := (Typ.inv_str rfl h).1
  match cs, hl, h with
  | [c0, c1, c2, c3], _, h =>
    obtain ⟨a0, a1, e0, ha0, ha1⟩ := typ32 (h.field rfl 0 0 2 32 rfl)
    cases (show [c0, c1] = [i64 a0, i64 a1] from e0)
    obtain ⟨a2, a3, e1, ha2, ha3⟩ := typ32 (h.field rfl 1 2 2 32 rfl)
    cases (show [c2, c3] = [i64 a2, i64 a3] from e1)
    exact ⟨a0, a1, a2, a3, rfl, ha0, ha1, ha2, ha3⟩
abbrev C85 : List Value → Prop := fun xs => ∃ a b, xs = a ++ b ∧ CInt a ∧ (fun xs => ∃ a b, xs = a ++ b ∧ C41 a ∧ (fun xs => ∃ a b, xs = a ++ b ∧ C47 a ∧ (fun xs => xs = []) b) b) b
theorem eqin85 : EqIn Try.prog 4 85 T85 C85 := EqIn.str rfl rfl (by kernel_rfl) (.cons (TF := T3) (by decide) rfl tok3 (by decide) (EqIn.mono (EqIn.int rfl rfl rfl) (Nat.le_of_ble_eq_true rfl)) (.cons (TF := T41) (by decide) rfl tok41 (by decide) (EqIn.mono eqin41 (Nat.le_of_ble_eq_true rfl)) (.cons (TF := T47) (by decide) rfl tok47 (by decide) (EqIn.mono eqin47 (Nat.le_of_ble_eq_true rfl)) (.nil _))))
theorem eq85 (a0 : Int) (a1 : Int) (a2 : Int) (a3 : Int) (a4 : Int) (a5 : Int) (a6 : Int) (a7 : Int) (b0 : Int) (b1 : Int) (b2 : Int) (b3 : Int) (b4 : Int) (b5 : Int) (b6 : Int) (b7 : Int) : EqFact Try.prog 85 [i64 a0, i64 a1, i64 a2, i64 a3, i64 a4, i64 a5, i64 a6, i64 a7] [i64 b0, i64 b1, i64 b2, i64 b3, i64 b4, i64 b5, i64 b6, i64 b7] (decide ([a0, a1, a2, a3, a4, a5, a6, a7] = [b0, b1, b2, b3, b4, b5, b6, b7])) := eqin85.fact (Nat.le_of_ble_eq_true rfl) rfl (by kernel_rfl) [iv a0, iv a1, iv a2, iv a3, iv a4, iv a5, iv a6, iv a7] [iv b0, iv b1, iv b2, iv b3, iv b4, iv b5, iv b6, iv b7] ⟨[iv a0], _, rfl, ⟨a0, rfl⟩, ⟨[iv a1, iv a2, iv a3], _, rfl, ⟨[iv a1], _, rfl, ⟨a1, rfl⟩, ⟨[iv a2], _, rfl, ⟨a2, rfl⟩, ⟨[iv a3], _, rfl, ⟨a3, rfl⟩, rfl⟩⟩⟩, ⟨[iv a4, iv a5, iv a6, iv a7], _, rfl, ⟨[iv a4, iv a5], _, rfl, ⟨[iv a4], _, rfl, ⟨a4, rfl⟩, ⟨[iv a5], _, rfl, ⟨a5, rfl⟩, rfl⟩⟩, ⟨[iv a6, iv a7], _, rfl, ⟨[iv a6], _, rfl, ⟨a6, rfl⟩, ⟨[iv a7], _, rfl, ⟨a7, rfl⟩, rfl⟩⟩, rfl⟩⟩, rfl⟩⟩⟩ ⟨[iv b0], _, rfl, ⟨b0, rfl⟩, ⟨[iv b1, iv b2, iv b3], _, rfl, ⟨[iv b1], _, rfl, ⟨b1, rfl⟩, ⟨[iv b2], _, rfl, ⟨b2, rfl⟩, ⟨[iv b3], _, rfl, ⟨b3, rfl⟩, rfl⟩⟩⟩, ⟨[iv b4, iv b5, iv b6, iv b7], _, rfl, ⟨[iv b4, iv b5], _, rfl, ⟨[iv b4], _, rfl, ⟨b4, rfl⟩, ⟨[iv b5], _, rfl, ⟨b5, rfl⟩, rfl⟩⟩, ⟨[iv b6, iv b7], _, rfl, ⟨[iv b6], _, rfl, ⟨b6, rfl⟩, ⟨[iv b7], _, rfl, ⟨b7, rfl⟩, rfl⟩⟩, rfl⟩⟩, rfl⟩⟩⟩ _ (by simp)
theorem typ85 {cs : List SV} (h : Typ Try.prog 85 cs) : ∃ a0 a1 a2 a3 a4 a5 a6 a7, cs = [i64 a0, i64 a1, i64 a2, i64 a3, i64 a4, i64 a5, i64 a6, i64 a7] ∧ R64 a0 ∧ R64 a1 ∧ R64 a2 ∧ R64 a3 ∧ R64 a4 ∧ R64 a5 ∧ R64 a6 ∧ R64 a7 := by
  have hl : cs.length = 8 := (Typ.inv_str rfl h).1
  match cs, hl, h with
  | [c0, c1, c2, c3, c4, c5, c6, c7], _, h =>
    obtain ⟨a0, e0, ha0⟩ := Typ.inv_i64 rfl (h.field rfl 0 0 1 3 rfl)
    cases (show [c0] = [i64 a0] from e0)
    obtain ⟨a1, a2, a3, e1, ha1, ha2, ha3⟩ := typ41 (h.field rfl 1 1 3 41 rfl)
    cases (show [c1, c2, c3] = [i64 a1, i64 a2, i64 a3] from e1)
    obtain ⟨a4, a5, a6, a7, e2, ha4, ha5, ha6, ha7⟩ := typ47 (h.field rfl 2 4 4 47 rfl)
    cases (show [c4, c5, c6, c7] = [i64 a4, i64 a5, i64 a6, i64 a7] from e2)
    exact ⟨a0, a1, a2, a3, a4, a5, a6, a7, rfl, ha0, ha1, ha2, ha3, ha4, ha5, ha6, ha7⟩
abbrev C86 : List Value → Prop := fun xs => ∃ a b, xs = a ++ b ∧ CInt a ∧ (fun xs => ∃ a b, xs = a ++ b ∧ C41 a ∧ (fun xs => ∃ a b, xs = a ++ b ∧ C47 a ∧ (fun xs => xs = []) b) b) b
theorem eqin86 : EqIn Try.prog 4 86 T86 C86 := EqIn.str rfl rfl (by kernel_rfl) (.cons (TF := T3) (by decide) rfl tok3 (by decide) (EqIn.mono (EqIn.int rfl rfl rfl) (Nat.le_of_ble_eq_true rfl)) (.cons (TF := T41) (by decide) rfl tok41 (by decide) (EqIn.mono eqin41 (Nat.le_of_ble_eq_true rfl)) (.cons (TF := T47) (by decide) rfl tok47 (by decide) (EqIn.mono eqin47 (Nat.le_of_ble_eq_true rfl)) (.nil _))))
theorem eq86 (a0 : Int) (a1 : Int) (a2 : Int) (a3 : Int) (a4 : Int) (a5 : Int) (a6 : Int) (a7 : Int) (b0 : Int) (b1 : Int) (b2 : Int) (b3 : Int) (b4 : Int) (b5 : Int) (b6 : Int) (b7 : Int) : EqFact Try.prog 86 [i64 a0, i64 a1, i64 a2, i64 a3, i64 a4, i64 a5, i64 a6, i64 a7] [i64 b0, i64 b1, i64 b2, i64 b3, i64 b4, i64 b5, i64 b6, i64 b7] (decide ([a0, a1, a2, a3, a4, a5, a6, a7] = [b0, b1, b2, b3, b4, b5, b6, b7])) := eqin86.fact (Nat.le_of_ble_eq_true rfl) rfl (by kernel_rfl) [iv a0, iv a1, iv a2, iv a3, iv a4, iv a5, iv a6, iv a7] [iv b0, iv b1, iv b2, iv b3, iv b4, iv b5, iv b6, iv b7] ⟨[iv a0], _, rfl, ⟨a0, rfl⟩, ⟨[iv a1, iv a2, iv a3], _, rfl, ⟨[iv a1], _, rfl, ⟨a1, rfl⟩, ⟨[iv a2], _, rfl, ⟨a2, rfl⟩, ⟨[iv a3], _, rfl, ⟨a3, rfl⟩, rfl⟩⟩⟩, ⟨[iv a4, iv a5, iv a6, iv a7], _, rfl, ⟨[iv a4, iv a5], _, rfl, ⟨[iv a4], _, rfl, ⟨a4, rfl⟩, ⟨[iv a5], _, rfl, ⟨a5, rfl⟩, rfl⟩⟩, ⟨[iv a6, iv a7], _, rfl, ⟨[iv a6], _, rfl, ⟨a6, rfl⟩, ⟨[iv a7], _, rfl, ⟨a7, rfl⟩, rfl⟩⟩, rfl⟩⟩, rfl⟩⟩⟩ ⟨[iv b0], _, rfl, ⟨b0, rfl⟩, ⟨[iv b1, iv b2, iv b3], _, rfl, ⟨[iv b1], _, rfl, ⟨b1, rfl⟩, ⟨[iv b2], _, rfl, ⟨b2, rfl⟩, ⟨[iv b3], _, rfl, ⟨b3, rfl⟩, rfl⟩⟩⟩, ⟨[iv b4, iv b5, iv b6, iv b7], _, rfl, ⟨[iv b4, iv b5], _, rfl, ⟨[iv b4], _, rfl, ⟨b4, rfl⟩, ⟨[iv b5], _, rfl, ⟨b5, rfl⟩, rfl⟩⟩, ⟨[iv b6, iv b7], _, rfl, ⟨[iv b6], _, rfl, ⟨b6, rfl⟩, ⟨[iv b7], _, rfl, ⟨b7, rfl⟩, rfl⟩⟩, rfl⟩⟩, rfl⟩⟩⟩ _ (by simp)
theorem typ86 {cs : List SV} (h : Typ Try.prog 86 cs) : ∃ a0 a1 a2 a3 a4 a5 a6 a7, cs = [i64 a0, i64 a1, i64 a2, i64 a3, i64 a4, i64 a5, i64 a6, i64 a7] ∧ R64 a0 ∧ R64 a1 ∧ R64 a2 ∧ R64 a3 ∧ R64 a4 ∧ R64 a5 ∧ R64 a6 ∧ R64 a7 := by
  have hl : cs.length = 8 := (Typ.inv_str rfl h).1
  match cs, hl, h with
  | [c0, c1, c2, c3, c4, c5, c6, c7], _, h =>
    obtain ⟨a0, e0, ha0⟩ := Typ.inv_i64 rfl (h.field rfl 0 0 1 3 rfl)
    cases (show [c0] = [i64 a0] from e0)
    obtain ⟨a1, a2, a3, e1, ha1, ha2, ha3⟩ := typ41 (h.field rfl 1 1 3 41 rfl)
    cases (show [c1, c2, c3] = [i64 a1, i64 a2, i64 a3] from e1)
    obtain ⟨a4, a5, a6, a7, e2, ha4, ha5, ha6, ha7⟩ := typ47 (h.field rfl 2 4 4 47 rfl)
    cases (show [c4, c5, c6, c7] = [i64 a4, i64 a5, i64 a6, i64 a7] from e2)
    exact ⟨a0, a1, a2, a3, a4, a5, a6, a7, rfl, ha0, ha1, ha2, ha3, ha4, ha5, ha6, ha7⟩
abbrev C96 : List Value → Prop := fun xs => ∃ a b, xs = a ++ b ∧ C32 a ∧ (fun xs => ∃ a b, xs = a ++ b ∧ C32 a ∧ (fun xs => xs = []) b) b
theorem eqin96 : EqIn Try.prog 3 96 T96 C96 := EqIn.str rfl rfl (by kernel_rfl) (.cons (TF := T32) (by decide) rfl tok32 (by decide) (EqIn.mono eqin32 (Nat.le_of_ble_eq_true rfl)) (.cons (TF := T32) (by decide) rfl tok32 (by decide) (EqIn.mono eqin32 (Nat.le_of_ble_eq_true rfl)) (.nil _)))
theorem eq96 (a0 : Int) (a1 : Int) (a2 : Int) (a3 : Int) (b0 : Int) (b1 : Int) (b2 : Int) (b3 : Int) : EqFact Try.prog 96 [i64 a0, i64 a1, i64 a2, i64 a3] [i64 b0, i64 b1, i64 b2, i64 b3] (decide ([a0, a1, a2, a3] = [b0, b1, b2, b3])) := eqin96.fact (Nat.le_of_ble_eq_true rfl) rfl (by kernel_rfl) [iv a0, iv a1, iv a2, iv a3] [iv b0, iv b1, iv b2, iv b3] ⟨[iv a0, iv a1], _, rfl, ⟨[iv a0], _, rfl, ⟨a0, rfl⟩, ⟨[iv a1], _, rfl, ⟨a1, rfl⟩, rfl⟩⟩, ⟨[iv a2, iv a3], _, rfl, ⟨[iv a2], _, rfl, ⟨a2, rfl⟩, ⟨[iv a3], _, rfl, ⟨a3, rfl⟩, rfl⟩⟩, rfl⟩⟩ ⟨[iv b0, iv b1], _, rfl, ⟨[iv b0], _, rfl, ⟨b0, rfl⟩, ⟨[iv b1], _, rfl, ⟨b1, rfl⟩, rfl⟩⟩, ⟨[iv b2, iv b3], _, rfl, ⟨[iv b2], _, rfl, ⟨b2, rfl⟩, ⟨[iv b3], _, rfl, ⟨b3, rfl⟩, rfl⟩⟩, rfl⟩⟩ _ (by simp)
theorem typ96 {cs : List SV} (h : Typ Try.prog 96 cs) : ∃ a0 a1 a2 a3, cs = [i64 a0, i64 a1, i64 a2, i64 a3] ∧ R64 a0 ∧ R64 a1 ∧ R64 a2 ∧ R64 a3 := by
  have hl : cs.length = 4 := (Typ.inv_str rfl h).1
  match cs, hl, h with
  | [c0, c1, c2, c3], _, h =>
    obtain ⟨a0, a1, e0, ha0, ha1⟩ := typ32 (h.field rfl 0 0 2 32 rfl)
    cases (show [c0, c1] = [i64 a0, i64 a1] from e0)
    obtain ⟨a2, a3, e1, ha2, ha3⟩ := typ32 (h.field rfl 1 2 2 32 rfl)
    cases (show [c2, c3] = [i64 a2, i64 a3] from e1)
    exact ⟨a0, a1, a2, a3, rfl, ha0, ha1, ha2, ha3⟩
abbrev C97 : List Value → Prop := fun xs => ∃ a b, xs = a ++ b ∧ C32 a ∧ (fun xs => ∃ a b, xs = a ++ b ∧ C32 a ∧ (fun xs => xs = []) b) b
theorem eqin97 : EqIn Try.prog 3 97 T97 C97 := EqIn.str rfl rfl (by kernel_rfl) (.cons (TF := T32) (by decide) rfl tok32 (by decide) (EqIn.mono eqin32 (Nat.le_of_ble_eq_true rfl)) (.cons (TF := T32) (by decide) rfl tok32 (by decide) (EqIn.mono eqin32 (Nat.le_of_ble_eq_true rfl)) (.nil _)))
theorem eq97 (a0 : Int) (a1 : Int) (a2 : Int) (a3 : Int) (b0 : Int) (b1 : Int) (b2 : Int) (b3 : Int) : EqFact Try.prog 97 [i64 a0, i64 a1, i64 a2, i64 a3] [i64 b0, i64 b1, i64 b2, i64 b3] (decide ([a0, a1, a2, a3] = [b0, b1, b2, b3])) := eqin97.fact (Nat.le_of_ble_eq_true rfl) rfl (by kernel_rfl) [iv a0, iv a1, iv a2, iv a3] [iv b0, iv b1, iv b2, iv b3] ⟨[iv a0, iv a1], _, rfl, ⟨[iv a0], _, rfl, ⟨a0, rfl⟩, ⟨[iv a1], _, rfl, ⟨a1, rfl⟩, rfl⟩⟩, ⟨[iv a2, iv a3], _, rfl, ⟨[iv a2], _, rfl, ⟨a2, rfl⟩, ⟨[iv a3], _, rfl, ⟨a3, rfl⟩, rfl⟩⟩, rfl⟩⟩ ⟨[iv b0, iv b1], _, rfl, ⟨[iv b0], _, rfl, ⟨b0, rfl⟩, ⟨[iv b1], _, rfl, ⟨b1, rfl⟩, rfl⟩⟩, ⟨[iv b2, iv b3], _, rfl, ⟨[iv b2], _, rfl, ⟨b2, rfl⟩, ⟨[iv b3], _, rfl, ⟨b3, rfl⟩, rfl⟩⟩, rfl⟩⟩ _ (by simp)
theorem typ97 {cs : List SV} (h : Typ Try.prog 97 cs) : ∃ a0 a1 a2 a3, cs = [i64 a0, i64 a1, i64 a2, i64 a3] ∧ R64 a0 ∧ R64 a1 ∧ R64 a2 ∧ R64 a3 := by
  have hl : cs.length = 4 := (Typ.inv_str rfl h).1
  match cs, hl, h with
  | [c0, c1, c2, c3], _, h =>
    obtain ⟨a0, a1, e0, ha0, ha1⟩ := typ32 (h.field rfl 0 0 2 32 rfl)
    cases (show [c0, c1] = [i64 a0, i64 a1] from e0)
    obtain ⟨a2, a3, e1, ha2, ha3⟩ := typ32 (h.field rfl 1 2 2 32 rfl)
    cases (show [c2, c3] = [i64 a2, i64 a3] from e1)
    exact ⟨a0, a1, a2, a3, rfl, ha0, ha1, ha2, ha3⟩
theorem mixed : Try.prog.follows .mixedOrders = true := by kernel_rfl
end Go.Vm
