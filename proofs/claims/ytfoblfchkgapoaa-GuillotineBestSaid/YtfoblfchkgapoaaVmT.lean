/-
  The table of this program's types.
-/
import Derived.Test.YtfoblfchkgapoaaVmQ
import Derived.Test.YtfoblfchkgapoaaVmV
import Derived.Test.YtfoblfchkgapoaaProg
namespace Go.Vm
set_option maxRecDepth 20000
open Go Go.RowKit Go.Proofs
def T1 : Ty := ⟨1, 8, .cell, [.v .nilFunc]⟩
theorem tok1 : TyOk Try.prog 1 T1 := ⟨⟨_, _, rfl, rfl, rfl, rfl, rfl, rfl, rfl⟩, _, rfl, rfl⟩
def T2 : Ty := ⟨1, 8, .int .i64, [.v (.int .i64 0)]⟩
theorem tok2 : TyOk Try.prog 2 T2 := ⟨⟨_, _, rfl, rfl, rfl, rfl, rfl, rfl, rfl⟩, rfl⟩
def T3 : Ty := ⟨1, 8, .int .i64, [.v (.int .i64 0)]⟩
theorem tok3 : TyOk Try.prog 3 T3 := ⟨⟨_, _, rfl, rfl, rfl, rfl, rfl, rfl, rfl⟩, rfl⟩
def T4 : Ty := ⟨1, 1, .cell, [.v (.bool false)]⟩
theorem tok4 : TyOk Try.prog 4 T4 := ⟨⟨_, _, rfl, rfl, rfl, rfl, rfl, rfl, rfl⟩, _, rfl, rfl⟩
def T5 : Ty := ⟨1, 1, .int .u8, [.v (.int .u8 0)]⟩
theorem tok5 : TyOk Try.prog 5 T5 := ⟨⟨_, _, rfl, rfl, rfl, rfl, rfl, rfl, rfl⟩, rfl⟩
def T9 : Ty := ⟨1, 16, .cell, [.v (.string ⟨#[]⟩)]⟩
theorem tok9 : TyOk Try.prog 9 T9 := ⟨⟨_, _, rfl, rfl, rfl, rfl, rfl, rfl, rfl⟩, _, rfl, rfl⟩
def T12 : Ty := ⟨1, 8, .int .u64, [.v (.int .u64 0)]⟩
theorem tok12 : TyOk Try.prog 12 T12 := ⟨⟨_, _, rfl, rfl, rfl, rfl, rfl, rfl, rfl⟩, rfl⟩
def T21 : Ty := ⟨1, 4, .int .i32, [.v (.int .i32 0)]⟩
theorem tok21 : TyOk Try.prog 21 T21 := ⟨⟨_, _, rfl, rfl, rfl, rfl, rfl, rfl, rfl⟩, rfl⟩
def T22 : Ty := ⟨1, 24, .slc 43, [.v (.slice none 0 0)]⟩
theorem tok22 : TyOk Try.prog 22 T22 := ⟨⟨_, _, rfl, rfl, rfl, rfl, rfl, rfl, rfl⟩, rfl⟩
def T23 : Ty := ⟨4, 48, .str [(0, 22, 1), (1, 3, 1), (2, 3, 1), (3, 3, 1)], [.v (.slice none 0 0), .v (.int .i64 0), .v (.int .i64 0), .v (.int .i64 0)]⟩
theorem tok23 : TyOk Try.prog 23 T23 := ⟨⟨_, _, rfl, rfl, rfl, rfl, rfl, rfl, rfl⟩, _, rfl, rfl, rfl⟩
def T24 : Ty := ⟨4, 48, .str [(0, 22, 1), (1, 3, 1), (2, 3, 1), (3, 3, 1)], [.v (.slice none 0 0), .v (.int .i64 0), .v (.int .i64 0), .v (.int .i64 0)]⟩
theorem tok24 : TyOk Try.prog 24 T24 := ⟨⟨_, _, rfl, rfl, rfl, rfl, rfl, rfl, rfl⟩, _, rfl, rfl, rfl⟩
def T25 : Ty := ⟨1, 8, .cell, [.v .nilFunc]⟩
theorem tok25 : TyOk Try.prog 25 T25 := ⟨⟨_, _, rfl, rfl, rfl, rfl, rfl, rfl, rfl⟩, _, rfl, rfl⟩
def T26 : Ty := ⟨1, 8, .cell, [.v .nilFunc]⟩
theorem tok26 : TyOk Try.prog 26 T26 := ⟨⟨_, _, rfl, rfl, rfl, rfl, rfl, rfl, rfl⟩, _, rfl, rfl⟩
def T27 : Ty := ⟨1, 24, .slc 46, [.v (.slice none 0 0)]⟩
theorem tok27 : TyOk Try.prog 27 T27 := ⟨⟨_, _, rfl, rfl, rfl, rfl, rfl, rfl, rfl⟩, rfl⟩
def T28 : Ty := ⟨1, 8, .cell, [.v .nilFunc]⟩
theorem tok28 : TyOk Try.prog 28 T28 := ⟨⟨_, _, rfl, rfl, rfl, rfl, rfl, rfl, rfl⟩, _, rfl, rfl⟩
def T29 : Ty := ⟨1, 24, .slc 96, [.v (.slice none 0 0)]⟩
theorem tok29 : TyOk Try.prog 29 T29 := ⟨⟨_, _, rfl, rfl, rfl, rfl, rfl, rfl, rfl⟩, rfl⟩
def T30 : Ty := ⟨1, 24, .slc 96, [.v (.slice none 0 0)]⟩
theorem tok30 : TyOk Try.prog 30 T30 := ⟨⟨_, _, rfl, rfl, rfl, rfl, rfl, rfl, rfl⟩, rfl⟩
def T31 : Ty := ⟨1, 8, .int .i64, [.v (.int .i64 0)]⟩
theorem tok31 : TyOk Try.prog 31 T31 := ⟨⟨_, _, rfl, rfl, rfl, rfl, rfl, rfl, rfl⟩, rfl⟩
def T33 : Ty := ⟨1, 8, .cell, [.v .nilFunc]⟩
theorem tok33 : TyOk Try.prog 33 T33 := ⟨⟨_, _, rfl, rfl, rfl, rfl, rfl, rfl, rfl⟩, _, rfl, rfl⟩
def T35 : Ty := ⟨1, 8, .cell, [.v .nilFunc]⟩
theorem tok35 : TyOk Try.prog 35 T35 := ⟨⟨_, _, rfl, rfl, rfl, rfl, rfl, rfl, rfl⟩, _, rfl, rfl⟩
def T36 : Ty := ⟨1, 24, .slc 97, [.v (.slice none 0 0)]⟩
theorem tok36 : TyOk Try.prog 36 T36 := ⟨⟨_, _, rfl, rfl, rfl, rfl, rfl, rfl, rfl⟩, rfl⟩
def T37 : Ty := ⟨1, 24, .slc 97, [.v (.slice none 0 0)]⟩
theorem tok37 : TyOk Try.prog 37 T37 := ⟨⟨_, _, rfl, rfl, rfl, rfl, rfl, rfl, rfl⟩, rfl⟩
def T38 : Ty := ⟨1, 8, .cell, [.v .nilFunc]⟩
theorem tok38 : TyOk Try.prog 38 T38 := ⟨⟨_, _, rfl, rfl, rfl, rfl, rfl, rfl, rfl⟩, _, rfl, rfl⟩
def T39 : Ty := ⟨1, 8, .cell, [.v .nilFunc]⟩
theorem tok39 : TyOk Try.prog 39 T39 := ⟨⟨_, _, rfl, rfl, rfl, rfl, rfl, rfl, rfl⟩, _, rfl, rfl⟩
def T40 : Ty := ⟨1, 8, .cell, [.v .nilFunc]⟩
theorem tok40 : TyOk Try.prog 40 T40 := ⟨⟨_, _, rfl, rfl, rfl, rfl, rfl, rfl, rfl⟩, _, rfl, rfl⟩
def T41 : Ty := ⟨1, 8, .cell, [.v .nilFunc]⟩
theorem tok41 : TyOk Try.prog 41 T41 := ⟨⟨_, _, rfl, rfl, rfl, rfl, rfl, rfl, rfl⟩, _, rfl, rfl⟩
def T42 : Ty := ⟨3, 24, .str [(0, 3, 1), (1, 3, 1), (2, 3, 1)], [.v (.int .i64 0), .v (.int .i64 0), .v (.int .i64 0)]⟩
theorem tok42 : TyOk Try.prog 42 T42 := ⟨⟨_, _, rfl, rfl, rfl, rfl, rfl, rfl, rfl⟩, _, rfl, rfl, rfl⟩
def T43 : Ty := ⟨3, 24, .str [(0, 3, 1), (1, 3, 1), (2, 3, 1)], [.v (.int .i64 0), .v (.int .i64 0), .v (.int .i64 0)]⟩
theorem tok43 : TyOk Try.prog 43 T43 := ⟨⟨_, _, rfl, rfl, rfl, rfl, rfl, rfl, rfl⟩, _, rfl, rfl, rfl⟩
def T44 : Ty := ⟨2, 2, .arr 2 5, [.v (.int .u8 0), .v (.int .u8 0)]⟩
theorem tok44 : TyOk Try.prog 44 T44 := ⟨⟨_, _, rfl, rfl, rfl, rfl, rfl, rfl, rfl⟩, rfl⟩
def T45 : Ty := ⟨1, 8, .cell, [.v .nilFunc]⟩
theorem tok45 : TyOk Try.prog 45 T45 := ⟨⟨_, _, rfl, rfl, rfl, rfl, rfl, rfl, rfl⟩, _, rfl, rfl⟩
def T46 : Ty := ⟨3, 24, .str [(0, 3, 1), (1, 3, 1), (2, 3, 1)], [.v (.int .i64 0), .v (.int .i64 0), .v (.int .i64 0)]⟩
theorem tok46 : TyOk Try.prog 46 T46 := ⟨⟨_, _, rfl, rfl, rfl, rfl, rfl, rfl, rfl⟩, _, rfl, rfl, rfl⟩
def T47 : Ty := ⟨1, 8, .cell, [.v .nilFunc]⟩
theorem tok47 : TyOk Try.prog 47 T47 := ⟨⟨_, _, rfl, rfl, rfl, rfl, rfl, rfl, rfl⟩, _, rfl, rfl⟩
def T48 : Ty := ⟨1, 8, .cell, [.v .nilFunc]⟩
theorem tok48 : TyOk Try.prog 48 T48 := ⟨⟨_, _, rfl, rfl, rfl, rfl, rfl, rfl, rfl⟩, _, rfl, rfl⟩
def T49 : Ty := ⟨1, 8, .cell, [.v .nilFunc]⟩
theorem tok49 : TyOk Try.prog 49 T49 := ⟨⟨_, _, rfl, rfl, rfl, rfl, rfl, rfl, rfl⟩, _, rfl, rfl⟩
def T50 : Ty := ⟨1, 8, .cell, [.v .nilFunc]⟩
theorem tok50 : TyOk Try.prog 50 T50 := ⟨⟨_, _, rfl, rfl, rfl, rfl, rfl, rfl, rfl⟩, _, rfl, rfl⟩
def T51 : Ty := ⟨1, 8, .cell, [.v .nilFunc]⟩
theorem tok51 : TyOk Try.prog 51 T51 := ⟨⟨_, _, rfl, rfl, rfl, rfl, rfl, rfl, rfl⟩, _, rfl, rfl⟩
def T52 : Ty := ⟨1, 8, .cell, [.v .nilFunc]⟩
theorem tok52 : TyOk Try.prog 52 T52 := ⟨⟨_, _, rfl, rfl, rfl, rfl, rfl, rfl, rfl⟩, _, rfl, rfl⟩
def T53 : Ty := ⟨1, 24, .slc 3, [.v (.slice none 0 0)]⟩
theorem tok53 : TyOk Try.prog 53 T53 := ⟨⟨_, _, rfl, rfl, rfl, rfl, rfl, rfl, rfl⟩, rfl⟩
def T55 : Ty := ⟨1, 8, .cell, [.v .nilFunc]⟩
theorem tok55 : TyOk Try.prog 55 T55 := ⟨⟨_, _, rfl, rfl, rfl, rfl, rfl, rfl, rfl⟩, _, rfl, rfl⟩
def T56 : Ty := ⟨1, 8, .cell, [.v .nilFunc]⟩
theorem tok56 : TyOk Try.prog 56 T56 := ⟨⟨_, _, rfl, rfl, rfl, rfl, rfl, rfl, rfl⟩, _, rfl, rfl⟩
def T57 : Ty := ⟨1, 24, .slc 64, [.v (.slice none 0 0)]⟩
theorem tok57 : TyOk Try.prog 57 T57 := ⟨⟨_, _, rfl, rfl, rfl, rfl, rfl, rfl, rfl⟩, rfl⟩
def T59 : Ty := ⟨1, 8, .cell, [.v .nilFunc]⟩
theorem tok59 : TyOk Try.prog 59 T59 := ⟨⟨_, _, rfl, rfl, rfl, rfl, rfl, rfl, rfl⟩, _, rfl, rfl⟩
def T60 : Ty := ⟨1, 8, .cell, [.v .nilFunc]⟩
theorem tok60 : TyOk Try.prog 60 T60 := ⟨⟨_, _, rfl, rfl, rfl, rfl, rfl, rfl, rfl⟩, _, rfl, rfl⟩
def T61 : Ty := ⟨2, 16, .str [(0, 3, 1), (1, 3, 1)], [.v (.int .i64 0), .v (.int .i64 0)]⟩
theorem tok61 : TyOk Try.prog 61 T61 := ⟨⟨_, _, rfl, rfl, rfl, rfl, rfl, rfl, rfl⟩, _, rfl, rfl, rfl⟩
def T62 : Ty := ⟨2, 16, .str [(0, 3, 1), (1, 3, 1)], [.v (.int .i64 0), .v (.int .i64 0)]⟩
theorem tok62 : TyOk Try.prog 62 T62 := ⟨⟨_, _, rfl, rfl, rfl, rfl, rfl, rfl, rfl⟩, _, rfl, rfl, rfl⟩
def T63 : Ty := ⟨4, 32, .str [(0, 62, 2), (2, 62, 2)], [.v (.int .i64 0), .v (.int .i64 0), .v (.int .i64 0), .v (.int .i64 0)]⟩
theorem tok63 : TyOk Try.prog 63 T63 := ⟨⟨_, _, rfl, rfl, rfl, rfl, rfl, rfl, rfl⟩, _, rfl, rfl, rfl⟩
def T64 : Ty := ⟨4, 32, .str [(0, 62, 2), (2, 62, 2)], [.v (.int .i64 0), .v (.int .i64 0), .v (.int .i64 0), .v (.int .i64 0)]⟩
theorem tok64 : TyOk Try.prog 64 T64 := ⟨⟨_, _, rfl, rfl, rfl, rfl, rfl, rfl, rfl⟩, _, rfl, rfl, rfl⟩
def T65 : Ty := ⟨1, 8, .cell, [.v .nilFunc]⟩
theorem tok65 : TyOk Try.prog 65 T65 := ⟨⟨_, _, rfl, rfl, rfl, rfl, rfl, rfl, rfl⟩, _, rfl, rfl⟩
def T66 : Ty := ⟨1, 8, .cell, [.v .nilFunc]⟩
theorem tok66 : TyOk Try.prog 66 T66 := ⟨⟨_, _, rfl, rfl, rfl, rfl, rfl, rfl, rfl⟩, _, rfl, rfl⟩
def T67 : Ty := ⟨1, 8, .cell, [.v .nilFunc]⟩
theorem tok67 : TyOk Try.prog 67 T67 := ⟨⟨_, _, rfl, rfl, rfl, rfl, rfl, rfl, rfl⟩, _, rfl, rfl⟩
def T68 : Ty := ⟨1, 24, .slc 77, [.v (.slice none 0 0)]⟩
theorem tok68 : TyOk Try.prog 68 T68 := ⟨⟨_, _, rfl, rfl, rfl, rfl, rfl, rfl, rfl⟩, rfl⟩
def T70 : Ty := ⟨1, 8, .cell, [.v .nilFunc]⟩
theorem tok70 : TyOk Try.prog 70 T70 := ⟨⟨_, _, rfl, rfl, rfl, rfl, rfl, rfl, rfl⟩, _, rfl, rfl⟩
def T71 : Ty := ⟨1, 24, .slc 76, [.v (.slice none 0 0)]⟩
theorem tok71 : TyOk Try.prog 71 T71 := ⟨⟨_, _, rfl, rfl, rfl, rfl, rfl, rfl, rfl⟩, rfl⟩
def T73 : Ty := ⟨1, 8, .cell, [.v .nilFunc]⟩
theorem tok73 : TyOk Try.prog 73 T73 := ⟨⟨_, _, rfl, rfl, rfl, rfl, rfl, rfl, rfl⟩, _, rfl, rfl⟩
def T74 : Ty := ⟨1, 8, .cell, [.v .nilFunc]⟩
theorem tok74 : TyOk Try.prog 74 T74 := ⟨⟨_, _, rfl, rfl, rfl, rfl, rfl, rfl, rfl⟩, _, rfl, rfl⟩
def T75 : Ty := ⟨3, 24, .str [(0, 3, 1), (1, 3, 1), (2, 3, 1)], [.v (.int .i64 0), .v (.int .i64 0), .v (.int .i64 0)]⟩
theorem tok75 : TyOk Try.prog 75 T75 := ⟨⟨_, _, rfl, rfl, rfl, rfl, rfl, rfl, rfl⟩, _, rfl, rfl, rfl⟩
def T76 : Ty := ⟨3, 24, .str [(0, 3, 1), (1, 3, 1), (2, 3, 1)], [.v (.int .i64 0), .v (.int .i64 0), .v (.int .i64 0)]⟩
theorem tok76 : TyOk Try.prog 76 T76 := ⟨⟨_, _, rfl, rfl, rfl, rfl, rfl, rfl, rfl⟩, _, rfl, rfl, rfl⟩
def T77 : Ty := ⟨3, 24, .str [(0, 3, 1), (1, 3, 1), (2, 3, 1)], [.v (.int .i64 0), .v (.int .i64 0), .v (.int .i64 0)]⟩
theorem tok77 : TyOk Try.prog 77 T77 := ⟨⟨_, _, rfl, rfl, rfl, rfl, rfl, rfl, rfl⟩, _, rfl, rfl, rfl⟩
def T78 : Ty := ⟨1, 8, .cell, [.v .nilFunc]⟩
theorem tok78 : TyOk Try.prog 78 T78 := ⟨⟨_, _, rfl, rfl, rfl, rfl, rfl, rfl, rfl⟩, _, rfl, rfl⟩
def T79 : Ty := ⟨1, 8, .cell, [.v .nilFunc]⟩
theorem tok79 : TyOk Try.prog 79 T79 := ⟨⟨_, _, rfl, rfl, rfl, rfl, rfl, rfl, rfl⟩, _, rfl, rfl⟩
def T80 : Ty := ⟨1, 8, .cell, [.v .nilFunc]⟩
theorem tok80 : TyOk Try.prog 80 T80 := ⟨⟨_, _, rfl, rfl, rfl, rfl, rfl, rfl, rfl⟩, _, rfl, rfl⟩
def T81 : Ty := ⟨1, 8, .cell, [.v .nilFunc]⟩
theorem tok81 : TyOk Try.prog 81 T81 := ⟨⟨_, _, rfl, rfl, rfl, rfl, rfl, rfl, rfl⟩, _, rfl, rfl⟩
def T82 : Ty := ⟨1, 24, .slc 86, [.v (.slice none 0 0)]⟩
theorem tok82 : TyOk Try.prog 82 T82 := ⟨⟨_, _, rfl, rfl, rfl, rfl, rfl, rfl, rfl⟩, rfl⟩
def T83 : Ty := ⟨1, 24, .slc 53, [.v (.slice none 0 0)]⟩
theorem tok83 : TyOk Try.prog 83 T83 := ⟨⟨_, _, rfl, rfl, rfl, rfl, rfl, rfl, rfl⟩, rfl⟩
def T84 : Ty := ⟨1, 8, .cell, [.v .nilFunc]⟩
theorem tok84 : TyOk Try.prog 84 T84 := ⟨⟨_, _, rfl, rfl, rfl, rfl, rfl, rfl, rfl⟩, _, rfl, rfl⟩
def T85 : Ty := ⟨2, 16, .str [(0, 3, 1), (1, 3, 1)], [.v (.int .i64 0), .v (.int .i64 0)]⟩
theorem tok85 : TyOk Try.prog 85 T85 := ⟨⟨_, _, rfl, rfl, rfl, rfl, rfl, rfl, rfl⟩, _, rfl, rfl, rfl⟩
def T86 : Ty := ⟨2, 16, .str [(0, 3, 1), (1, 3, 1)], [.v (.int .i64 0), .v (.int .i64 0)]⟩
theorem tok86 : TyOk Try.prog 86 T86 := ⟨⟨_, _, rfl, rfl, rfl, rfl, rfl, rfl, rfl⟩, _, rfl, rfl, rfl⟩
def T88 : Ty := ⟨1, 8, .cell, [.v .nilFunc]⟩
theorem tok88 : TyOk Try.prog 88 T88 := ⟨⟨_, _, rfl, rfl, rfl, rfl, rfl, rfl, rfl⟩, _, rfl, rfl⟩
def T89 : Ty := ⟨1, 8, .cell, [.v .nilFunc]⟩
theorem tok89 : TyOk Try.prog 89 T89 := ⟨⟨_, _, rfl, rfl, rfl, rfl, rfl, rfl, rfl⟩, _, rfl, rfl⟩
def T90 : Ty := ⟨1, 8, .cell, [.v (.pointer none)]⟩
theorem tok90 : TyOk Try.prog 90 T90 := ⟨⟨_, _, rfl, rfl, rfl, rfl, rfl, rfl, rfl⟩, _, rfl, rfl⟩
def T91 : Ty := ⟨3, 56, .str [(0, 30, 1), (1, 27, 1), (2, 3, 1)], [.v (.slice none 0 0), .v (.slice none 0 0), .v (.int .i64 0)]⟩
theorem tok91 : TyOk Try.prog 91 T91 := ⟨⟨_, _, rfl, rfl, rfl, rfl, rfl, rfl, rfl⟩, _, rfl, rfl, rfl⟩
def T92 : Ty := ⟨3, 56, .str [(0, 30, 1), (1, 27, 1), (2, 3, 1)], [.v (.slice none 0 0), .v (.slice none 0 0), .v (.int .i64 0)]⟩
theorem tok92 : TyOk Try.prog 92 T92 := ⟨⟨_, _, rfl, rfl, rfl, rfl, rfl, rfl, rfl⟩, _, rfl, rfl, rfl⟩
def T93 : Ty := ⟨1, 8, .cell, [.v .nilFunc]⟩
theorem tok93 : TyOk Try.prog 93 T93 := ⟨⟨_, _, rfl, rfl, rfl, rfl, rfl, rfl, rfl⟩, _, rfl, rfl⟩
def T94 : Ty := ⟨1, 8, .cell, [.v .nilFunc]⟩
theorem tok94 : TyOk Try.prog 94 T94 := ⟨⟨_, _, rfl, rfl, rfl, rfl, rfl, rfl, rfl⟩, _, rfl, rfl⟩
def T95 : Ty := ⟨5, 40, .str [(0, 4, 1), (1, 3, 1), (2, 3, 1), (3, 3, 1), (4, 3, 1)], [.v (.bool false), .v (.int .i64 0), .v (.int .i64 0), .v (.int .i64 0), .v (.int .i64 0)]⟩
theorem tok95 : TyOk Try.prog 95 T95 := ⟨⟨_, _, rfl, rfl, rfl, rfl, rfl, rfl, rfl⟩, _, rfl, rfl, rfl⟩
def T96 : Ty := ⟨5, 40, .str [(0, 4, 1), (1, 3, 1), (2, 3, 1), (3, 3, 1), (4, 3, 1)], [.v (.bool false), .v (.int .i64 0), .v (.int .i64 0), .v (.int .i64 0), .v (.int .i64 0)]⟩
theorem tok96 : TyOk Try.prog 96 T96 := ⟨⟨_, _, rfl, rfl, rfl, rfl, rfl, rfl, rfl⟩, _, rfl, rfl, rfl⟩
def T97 : Ty := ⟨5, 40, .str [(0, 4, 1), (1, 3, 1), (2, 3, 1), (3, 3, 1), (4, 3, 1)], [.v (.bool false), .v (.int .i64 0), .v (.int .i64 0), .v (.int .i64 0), .v (.int .i64 0)]⟩
theorem tok97 : TyOk Try.prog 97 T97 := ⟨⟨_, _, rfl, rfl, rfl, rfl, rfl, rfl, rfl⟩, _, rfl, rfl, rfl⟩
def T98 : Ty := ⟨1, 8, .cell, [.v .nilFunc]⟩
theorem tok98 : TyOk Try.prog 98 T98 := ⟨⟨_, _, rfl, rfl, rfl, rfl, rfl, rfl, rfl⟩, _, rfl, rfl⟩
def T99 : Ty := ⟨1, 8, .cell, [.v .nilFunc]⟩
theorem tok99 : TyOk Try.prog 99 T99 := ⟨⟨_, _, rfl, rfl, rfl, rfl, rfl, rfl, rfl⟩, _, rfl, rfl⟩
def T100 : Ty := ⟨1, 24, .slc 105, [.v (.slice none 0 0)]⟩
theorem tok100 : TyOk Try.prog 100 T100 := ⟨⟨_, _, rfl, rfl, rfl, rfl, rfl, rfl, rfl⟩, rfl⟩
def T102 : Ty := ⟨1, 8, .cell, [.v .nilFunc]⟩
theorem tok102 : TyOk Try.prog 102 T102 := ⟨⟨_, _, rfl, rfl, rfl, rfl, rfl, rfl, rfl⟩, _, rfl, rfl⟩
def T103 : Ty := ⟨1, 8, .cell, [.v .nilFunc]⟩
theorem tok103 : TyOk Try.prog 103 T103 := ⟨⟨_, _, rfl, rfl, rfl, rfl, rfl, rfl, rfl⟩, _, rfl, rfl⟩
def T104 : Ty := ⟨4, 32, .str [(0, 3, 1), (1, 3, 1), (2, 3, 1), (3, 3, 1)], [.v (.int .i64 0), .v (.int .i64 0), .v (.int .i64 0), .v (.int .i64 0)]⟩
theorem tok104 : TyOk Try.prog 104 T104 := ⟨⟨_, _, rfl, rfl, rfl, rfl, rfl, rfl, rfl⟩, _, rfl, rfl, rfl⟩
def T105 : Ty := ⟨4, 32, .str [(0, 3, 1), (1, 3, 1), (2, 3, 1), (3, 3, 1)], [.v (.int .i64 0), .v (.int .i64 0), .v (.int .i64 0), .v (.int .i64 0)]⟩
theorem tok105 : TyOk Try.prog 105 T105 := ⟨⟨_, _, rfl, rfl, rfl, rfl, rfl, rfl, rfl⟩, _, rfl, rfl, rfl⟩
def T106 : Ty := ⟨1, 8, .cell, [.v (.pointer none)]⟩
theorem tok106 : TyOk Try.prog 106 T106 := ⟨⟨_, _, rfl, rfl, rfl, rfl, rfl, rfl, rfl⟩, _, rfl, rfl⟩
def T107 : Ty := ⟨1, 24, .slc 112, [.v (.slice none 0 0)]⟩
theorem tok107 : TyOk Try.prog 107 T107 := ⟨⟨_, _, rfl, rfl, rfl, rfl, rfl, rfl, rfl⟩, rfl⟩
def T108 : Ty := ⟨201, 4824, .arr 201 107, [.v (.slice none 0 0), .v (.slice none 0 0), .v (.slice none 0 0), .v (.slice none 0 0), .v (.slice none 0 0), .v (.slice none 0 0), .v (.slice none 0 0), .v (.slice none 0 0), .v (.slice none 0 0), .v (.slice none 0 0), .v (.slice none 0 0), .v (.slice none 0 0), .v (.slice none 0 0), .v (.slice none 0 0), .v (.slice none 0 0), .v (.slice none 0 0), .v (.slice none 0 0), .v (.slice none 0 0), .v (.slice none 0 0), .v (.slice none 0 0), .v (.slice none 0 0), .v (.slice none 0 0), .v (.slice none 0 0), .v (.slice none 0 0), .v (.slice none 0 0), .v (.slice none 0 0), .v (.slice none 0 0), .v (.slice none 0 0), .v (.slice none 0 0), .v (.slice none 0 0), .v (.slice none 0 0), .v (.slice none 0 0), .v (.slice none 0 0), .v (.slice none 0 0), .v (.slice none 0 0), .v (.slice none 0 0), .v (.slice none 0 0), .v (.slice none 0 0), .v (.slice none 0 0), .v (.slice none 0 0), .v (.slice none 0 0), .v (.slice none 0 0), .v (.slice none 0 0), .v (.slice none 0 0), .v (.slice none 0 0), .v (.slice none 0 0), .v (.slice none 0 0), .v (.slice none 0 0), .v (.slice none 0 0), .v (.slice none 0 0), .v (.slice none 0 0), .v (.slice none 0 0), .v (.slice none 0 0), .v (.slice none 0 0), .v (.slice none 0 0), .v (.slice none 0 0), .v (.slice none 0 0), .v (.slice none 0 0), .v (.slice none 0 0), .v (.slice none 0 0), .v (.slice none 0 0), .v (.slice none 0 0), .v (.slice none 0 0), .v (.slice none 0 0), .v (.slice none 0 0), .v (.slice none 0 0), .v (.slice none 0 0), .v (.slice none 0 0), .v (.slice none 0 0), .v (.slice none 0 0), .v (.slice none 0 0), .v (.slice none 0 0), .v (.slice none 0 0), .v (.slice none 0 0), .v (.slice none 0 0), .v (.slice none 0 0), .v (.slice none 0 0), .v (.slice none 0 0), .v (.slice none 0 0), .v (.slice none 0 0), .v (.slice none 0 0), .v (.slice none 0 0), .v (.slice none 0 0), .v (.slice none 0 0), .v (.slice none 0 0), .v (.slice none 0 0), .v (.slice none 0 0), .v (.slice none 0 0), .v (.slice none 0 0), .v (.slice none 0 0), .v (.slice none 0 0), .v (.slice none 0 0), .v (.slice none 0 0), .v (.slice none 0 0), .v (.slice none 0 0), .v (.slice none 0 0), .v (.slice none 0 0), .v (.slice none 0 0), .v (.slice none 0 0), .v (.slice none 0 0), .v (.slice none 0 0), .v (.slice none 0 0), .v (.slice none 0 0), .v (.slice none 0 0), .v (.slice none 0 0), .v (.slice none 0 0), .v (.slice none 0 0), .v (.slice none 0 0), .v (.slice none 0 0), .v (.slice none 0 0), .v (.slice none 0 0), .v (.slice none 0 0), .v (.slice none 0 0), .v (.slice none 0 0), .v (.slice none 0 0), .v (.slice none 0 0), .v (.slice none 0 0), .v (.slice none 0 0), .v (.slice none 0 0), .v (.slice none 0 0), .v (.slice none 0 0), .v (.slice none 0 0), .v (.slice none 0 0), .v (.slice none 0 0), .v (.slice none 0 0), .v (.slice none 0 0), .v (.slice none 0 0), .v (.slice none 0 0), .v (.slice none 0 0), .v (.slice none 0 0), .v (.slice none 0 0), .v (.slice none 0 0), .v (.slice none 0 0), .v (.slice none 0 0), .v (.slice none 0 0), .v (.slice none 0 0), .v (.slice none 0 0), .v (.slice none 0 0), .v (.slice none 0 0), .v (.slice none 0 0), .v (.slice none 0 0), .v (.slice none 0 0), .v (.slice none 0 0), .v (.slice none 0 0), .v (.slice none 0 0), .v (.slice none 0 0), .v (.slice none 0 0), .v (.slice none 0 0), .v (.slice none 0 0), .v (.slice none 0 0), .v (.slice none 0 0), .v (.slice none 0 0), .v (.slice none 0 0), .v (.slice none 0 0), .v (.slice none 0 0), .v (.slice none 0 0), .v (.slice none 0 0), .v (.slice none 0 0), .v (.slice none 0 0), .v (.slice none 0 0), .v (.slice none 0 0), .v (.slice none 0 0), .v (.slice none 0 0), .v (.slice none 0 0), .v (.slice none 0 0), .v (.slice none 0 0), .v (.slice none 0 0), .v (.slice none 0 0), .v (.slice none 0 0), .v (.slice none 0 0), .v (.slice none 0 0), .v (.slice none 0 0), .v (.slice none 0 0), .v (.slice none 0 0), .v (.slice none 0 0), .v (.slice none 0 0), .v (.slice none 0 0), .v (.slice none 0 0), .v (.slice none 0 0), .v (.slice none 0 0), .v (.slice none 0 0), .v (.slice none 0 0), .v (.slice none 0 0), .v (.slice none 0 0), .v (.slice none 0 0), .v (.slice none 0 0), .v (.slice none 0 0), .v (.slice none 0 0), .v (.slice none 0 0), .v (.slice none 0 0), .v (.slice none 0 0), .v (.slice none 0 0), .v (.slice none 0 0), .v (.slice none 0 0), .v (.slice none 0 0), .v (.slice none 0 0), .v (.slice none 0 0), .v (.slice none 0 0), .v (.slice none 0 0), .v (.slice none 0 0), .v (.slice none 0 0)]⟩
theorem tok108 : TyOk Try.prog 108 T108 := ⟨⟨_, _, rfl, rfl, rfl, rfl, rfl, rfl, rfl⟩, rfl⟩
def T109 : Ty := ⟨204, 4880, .str [(0, 27, 1), (1, 3, 1), (2, 108, 201), (203, 30, 1)], [.v (.slice none 0 0), .v (.int .i64 0), .v (.slice none 0 0), .v (.slice none 0 0), .v (.slice none 0 0), .v (.slice none 0 0), .v (.slice none 0 0), .v (.slice none 0 0), .v (.slice none 0 0), .v (.slice none 0 0), .v (.slice none 0 0), .v (.slice none 0 0), .v (.slice none 0 0), .v (.slice none 0 0), .v (.slice none 0 0), .v (.slice none 0 0), .v (.slice none 0 0), .v (.slice none 0 0), .v (.slice none 0 0), .v (.slice none 0 0), .v (.slice none 0 0), .v (.slice none 0 0), .v (.slice none 0 0), .v (.slice none 0 0), .v (.slice none 0 0), .v (.slice none 0 0), .v (.slice none 0 0), .v (.slice none 0 0), .v (.slice none 0 0), .v (.slice none 0 0), .v (.slice none 0 0), .v (.slice none 0 0), .v (.slice none 0 0), .v (.slice none 0 0), .v (.slice none 0 0), .v (.slice none 0 0), .v (.slice none 0 0), .v (.slice none 0 0), .v (.slice none 0 0), .v (.slice none 0 0), .v (.slice none 0 0), .v (.slice none 0 0), .v (.slice none 0 0), .v (.slice none 0 0), .v (.slice none 0 0), .v (.slice none 0 0), .v (.slice none 0 0), .v (.slice none 0 0), .v (.slice none 0 0), .v (.slice none 0 0), .v (.slice none 0 0), .v (.slice none 0 0), .v (.slice none 0 0), .v (.slice none 0 0), .v (.slice none 0 0), .v (.slice none 0 0), .v (.slice none 0 0), .v (.slice none 0 0), .v (.slice none 0 0), .v (.slice none 0 0), .v (.slice none 0 0), .v (.slice none 0 0), .v (.slice none 0 0), .v (.slice none 0 0), .v (.slice none 0 0), .v (.slice none 0 0), .v (.slice none 0 0), .v (.slice none 0 0), .v (.slice none 0 0), .v (.slice none 0 0), .v (.slice none 0 0), .v (.slice none 0 0), .v (.slice none 0 0), .v (.slice none 0 0), .v (.slice none 0 0), .v (.slice none 0 0), .v (.slice none 0 0), .v (.slice none 0 0), .v (.slice none 0 0), .v (.slice none 0 0), .v (.slice none 0 0), .v (.slice none 0 0), .v (.slice none 0 0), .v (.slice none 0 0), .v (.slice none 0 0), .v (.slice none 0 0), .v (.slice none 0 0), .v (.slice none 0 0), .v (.slice none 0 0), .v (.slice none 0 0), .v (.slice none 0 0), .v (.slice none 0 0), .v (.slice none 0 0), .v (.slice none 0 0), .v (.slice none 0 0), .v (.slice none 0 0), .v (.slice none 0 0), .v (.slice none 0 0), .v (.slice none 0 0), .v (.slice none 0 0), .v (.slice none 0 0), .v (.slice none 0 0), .v (.slice none 0 0), .v (.slice none 0 0), .v (.slice none 0 0), .v (.slice none 0 0), .v (.slice none 0 0), .v (.slice none 0 0), .v (.slice none 0 0), .v (.slice none 0 0), .v (.slice none 0 0), .v (.slice none 0 0), .v (.slice none 0 0), .v (.slice none 0 0), .v (.slice none 0 0), .v (.slice none 0 0), .v (.slice none 0 0), .v (.slice none 0 0), .v (.slice none 0 0), .v (.slice none 0 0), .v (.slice none 0 0), .v (.slice none 0 0), .v (.slice none 0 0), .v (.slice none 0 0), .v (.slice none 0 0), .v (.slice none 0 0), .v (.slice none 0 0), .v (.slice none 0 0), .v (.slice none 0 0), .v (.slice none 0 0), .v (.slice none 0 0), .v (.slice none 0 0), .v (.slice none 0 0), .v (.slice none 0 0), .v (.slice none 0 0), .v (.slice none 0 0), .v (.slice none 0 0), .v (.slice none 0 0), .v (.slice none 0 0), .v (.slice none 0 0), .v (.slice none 0 0), .v (.slice none 0 0), .v (.slice none 0 0), .v (.slice none 0 0), .v (.slice none 0 0), .v (.slice none 0 0), .v (.slice none 0 0), .v (.slice none 0 0), .v (.slice none 0 0), .v (.slice none 0 0), .v (.slice none 0 0), .v (.slice none 0 0), .v (.slice none 0 0), .v (.slice none 0 0), .v (.slice none 0 0), .v (.slice none 0 0), .v (.slice none 0 0), .v (.slice none 0 0), .v (.slice none 0 0), .v (.slice none 0 0), .v (.slice none 0 0), .v (.slice none 0 0), .v (.slice none 0 0), .v (.slice none 0 0), .v (.slice none 0 0), .v (.slice none 0 0), .v (.slice none 0 0), .v (.slice none 0 0), .v (.slice none 0 0), .v (.slice none 0 0), .v (.slice none 0 0), .v (.slice none 0 0), .v (.slice none 0 0), .v (.slice none 0 0), .v (.slice none 0 0), .v (.slice none 0 0), .v (.slice none 0 0), .v (.slice none 0 0), .v (.slice none 0 0), .v (.slice none 0 0), .v (.slice none 0 0), .v (.slice none 0 0), .v (.slice none 0 0), .v (.slice none 0 0), .v (.slice none 0 0), .v (.slice none 0 0), .v (.slice none 0 0), .v (.slice none 0 0), .v (.slice none 0 0), .v (.slice none 0 0), .v (.slice none 0 0), .v (.slice none 0 0), .v (.slice none 0 0), .v (.slice none 0 0), .v (.slice none 0 0), .v (.slice none 0 0), .v (.slice none 0 0), .v (.slice none 0 0), .v (.slice none 0 0), .v (.slice none 0 0), .v (.slice none 0 0), .v (.slice none 0 0), .v (.slice none 0 0), .v (.slice none 0 0)]⟩
theorem tok109 : TyOk Try.prog 109 T109 := ⟨⟨_, _, rfl, rfl, rfl, rfl, rfl, rfl, rfl⟩, _, rfl, rfl, rfl⟩
def T110 : Ty := ⟨204, 4880, .str [(0, 27, 1), (1, 3, 1), (2, 108, 201), (203, 30, 1)], [.v (.slice none 0 0), .v (.int .i64 0), .v (.slice none 0 0), .v (.slice none 0 0), .v (.slice none 0 0), .v (.slice none 0 0), .v (.slice none 0 0), .v (.slice none 0 0), .v (.slice none 0 0), .v (.slice none 0 0), .v (.slice none 0 0), .v (.slice none 0 0), .v (.slice none 0 0), .v (.slice none 0 0), .v (.slice none 0 0), .v (.slice none 0 0), .v (.slice none 0 0), .v (.slice none 0 0), .v (.slice none 0 0), .v (.slice none 0 0), .v (.slice none 0 0), .v (.slice none 0 0), .v (.slice none 0 0), .v (.slice none 0 0), .v (.slice none 0 0), .v (.slice none 0 0), .v (.slice none 0 0), .v (.slice none 0 0), .v (.slice none 0 0), .v (.slice none 0 0), .v (.slice none 0 0), .v (.slice none 0 0), .v (.slice none 0 0), .v (.slice none 0 0), .v (.slice none 0 0), .v (.slice none 0 0), .v (.slice none 0 0), .v (.slice none 0 0), .v (.slice none 0 0), .v (.slice none 0 0), .v (.slice none 0 0), .v (.slice none 0 0), .v (.slice none 0 0), .v (.slice none 0 0), .v (.slice none 0 0), .v (.slice none 0 0), .v (.slice none 0 0), .v (.slice none 0 0), .v (.slice none 0 0), .v (.slice none 0 0), .v (.slice none 0 0), .v (.slice none 0 0), .v (.slice none 0 0), .v (.slice none 0 0), .v (.slice none 0 0), .v (.slice none 0 0), .v (.slice none 0 0), .v (.slice none 0 0), .v (.slice none 0 0), .v (.slice none 0 0), .v (.slice none 0 0), .v (.slice none 0 0), .v (.slice none 0 0), .v (.slice none 0 0), .v (.slice none 0 0), .v (.slice none 0 0), .v (.slice none 0 0), .v (.slice none 0 0), .v (.slice none 0 0), .v (.slice none 0 0), .v (.slice none 0 0), .v (.slice none 0 0), .v (.slice none 0 0), .v (.slice none 0 0), .v (.slice none 0 0), .v (.slice none 0 0), .v (.slice none 0 0), .v (.slice none 0 0), .v (.slice none 0 0), .v (.slice none 0 0), .v (.slice none 0 0), .v (.slice none 0 0), .v (.slice none 0 0), .v (.slice none 0 0), .v (.slice none 0 0), .v (.slice none 0 0), .v (.slice none 0 0), .v (.slice none 0 0), .v (.slice none 0 0), .v (.slice none 0 0), .v (.slice none 0 0), .v (.slice none 0 0), .v (.slice none 0 0), .v (.slice none 0 0), .v (.slice none 0 0), .v (.slice none 0 0), .v (.slice none 0 0), .v (.slice none 0 0), .v (.slice none 0 0), .v (.slice none 0 0), .v (.slice none 0 0), .v (.slice none 0 0), .v (.slice none 0 0), .v (.slice none 0 0), .v (.slice none 0 0), .v (.slice none 0 0), .v (.slice none 0 0), .v (.slice none 0 0), .v (.slice none 0 0), .v (.slice none 0 0), .v (.slice none 0 0), .v (.slice none 0 0), .v (.slice none 0 0), .v (.slice none 0 0), .v (.slice none 0 0), .v (.slice none 0 0), .v (.slice none 0 0), .v (.slice none 0 0), .v (.slice none 0 0), .v (.slice none 0 0), .v (.slice none 0 0), .v (.slice none 0 0), .v (.slice none 0 0), .v (.slice none 0 0), .v (.slice none 0 0), .v (.slice none 0 0), .v (.slice none 0 0), .v (.slice none 0 0), .v (.slice none 0 0), .v (.slice none 0 0), .v (.slice none 0 0), .v (.slice none 0 0), .v (.slice none 0 0), .v (.slice none 0 0), .v (.slice none 0 0), .v (.slice none 0 0), .v (.slice none 0 0), .v (.slice none 0 0), .v (.slice none 0 0), .v (.slice none 0 0), .v (.slice none 0 0), .v (.slice none 0 0), .v (.slice none 0 0), .v (.slice none 0 0), .v (.slice none 0 0), .v (.slice none 0 0), .v (.slice none 0 0), .v (.slice none 0 0), .v (.slice none 0 0), .v (.slice none 0 0), .v (.slice none 0 0), .v (.slice none 0 0), .v (.slice none 0 0), .v (.slice none 0 0), .v (.slice none 0 0), .v (.slice none 0 0), .v (.slice none 0 0), .v (.slice none 0 0), .v (.slice none 0 0), .v (.slice none 0 0), .v (.slice none 0 0), .v (.slice none 0 0), .v (.slice none 0 0), .v (.slice none 0 0), .v (.slice none 0 0), .v (.slice none 0 0), .v (.slice none 0 0), .v (.slice none 0 0), .v (.slice none 0 0), .v (.slice none 0 0), .v (.slice none 0 0), .v (.slice none 0 0), .v (.slice none 0 0), .v (.slice none 0 0), .v (.slice none 0 0), .v (.slice none 0 0), .v (.slice none 0 0), .v (.slice none 0 0), .v (.slice none 0 0), .v (.slice none 0 0), .v (.slice none 0 0), .v (.slice none 0 0), .v (.slice none 0 0), .v (.slice none 0 0), .v (.slice none 0 0), .v (.slice none 0 0), .v (.slice none 0 0), .v (.slice none 0 0), .v (.slice none 0 0), .v (.slice none 0 0), .v (.slice none 0 0), .v (.slice none 0 0), .v (.slice none 0 0), .v (.slice none 0 0), .v (.slice none 0 0), .v (.slice none 0 0), .v (.slice none 0 0), .v (.slice none 0 0), .v (.slice none 0 0), .v (.slice none 0 0), .v (.slice none 0 0), .v (.slice none 0 0), .v (.slice none 0 0), .v (.slice none 0 0)]⟩
theorem tok110 : TyOk Try.prog 110 T110 := ⟨⟨_, _, rfl, rfl, rfl, rfl, rfl, rfl, rfl⟩, _, rfl, rfl, rfl⟩
def T111 : Ty := ⟨4, 32, .str [(0, 3, 1), (1, 3, 1), (2, 3, 1), (3, 4, 1)], [.v (.int .i64 0), .v (.int .i64 0), .v (.int .i64 0), .v (.bool false)]⟩
theorem tok111 : TyOk Try.prog 111 T111 := ⟨⟨_, _, rfl, rfl, rfl, rfl, rfl, rfl, rfl⟩, _, rfl, rfl, rfl⟩
def T112 : Ty := ⟨4, 32, .str [(0, 3, 1), (1, 3, 1), (2, 3, 1), (3, 4, 1)], [.v (.int .i64 0), .v (.int .i64 0), .v (.int .i64 0), .v (.bool false)]⟩
theorem tok112 : TyOk Try.prog 112 T112 := ⟨⟨_, _, rfl, rfl, rfl, rfl, rfl, rfl, rfl⟩, _, rfl, rfl, rfl⟩
def T113 : Ty := ⟨1, 8, .cell, [.v .nilFunc]⟩
theorem tok113 : TyOk Try.prog 113 T113 := ⟨⟨_, _, rfl, rfl, rfl, rfl, rfl, rfl, rfl⟩, _, rfl, rfl⟩
def T114 : Ty := ⟨1, 8, .cell, [.v .nilFunc]⟩
theorem tok114 : TyOk Try.prog 114 T114 := ⟨⟨_, _, rfl, rfl, rfl, rfl, rfl, rfl, rfl⟩, _, rfl, rfl⟩
def T115 : Ty := ⟨1, 8, .cell, [.v .nilFunc]⟩
theorem tok115 : TyOk Try.prog 115 T115 := ⟨⟨_, _, rfl, rfl, rfl, rfl, rfl, rfl, rfl⟩, _, rfl, rfl⟩
def T116 : Ty := ⟨1, 8, .cell, [.v .nilFunc]⟩
theorem tok116 : TyOk Try.prog 116 T116 := ⟨⟨_, _, rfl, rfl, rfl, rfl, rfl, rfl, rfl⟩, _, rfl, rfl⟩
def T117 : Ty := ⟨1, 8, .cell, [.v .nilFunc]⟩
theorem tok117 : TyOk Try.prog 117 T117 := ⟨⟨_, _, rfl, rfl, rfl, rfl, rfl, rfl, rfl⟩, _, rfl, rfl⟩
def T118 : Ty := ⟨1, 24, .slc 4, [.v (.slice none 0 0)]⟩
theorem tok118 : TyOk Try.prog 118 T118 := ⟨⟨_, _, rfl, rfl, rfl, rfl, rfl, rfl, rfl⟩, rfl⟩
def T119 : Ty := ⟨1, 8, .cell, [.v .nilFunc]⟩
theorem tok119 : TyOk Try.prog 119 T119 := ⟨⟨_, _, rfl, rfl, rfl, rfl, rfl, rfl, rfl⟩, _, rfl, rfl⟩
def T120 : Ty := ⟨1, 24, .slc 62, [.v (.slice none 0 0)]⟩
theorem tok120 : TyOk Try.prog 120 T120 := ⟨⟨_, _, rfl, rfl, rfl, rfl, rfl, rfl, rfl⟩, rfl⟩
def T121 : Ty := ⟨1, 24, .slc 125, [.v (.slice none 0 0)]⟩
theorem tok121 : TyOk Try.prog 121 T121 := ⟨⟨_, _, rfl, rfl, rfl, rfl, rfl, rfl, rfl⟩, rfl⟩
def T123 : Ty := ⟨1, 8, .cell, [.v .nilFunc]⟩
theorem tok123 : TyOk Try.prog 123 T123 := ⟨⟨_, _, rfl, rfl, rfl, rfl, rfl, rfl, rfl⟩, _, rfl, rfl⟩
def T124 : Ty := ⟨4, 32, .str [(0, 62, 2), (2, 62, 2)], [.v (.int .i64 0), .v (.int .i64 0), .v (.int .i64 0), .v (.int .i64 0)]⟩
theorem tok124 : TyOk Try.prog 124 T124 := ⟨⟨_, _, rfl, rfl, rfl, rfl, rfl, rfl, rfl⟩, _, rfl, rfl, rfl⟩
def T125 : Ty := ⟨4, 32, .str [(0, 62, 2), (2, 62, 2)], [.v (.int .i64 0), .v (.int .i64 0), .v (.int .i64 0), .v (.int .i64 0)]⟩
theorem tok125 : TyOk Try.prog 125 T125 := ⟨⟨_, _, rfl, rfl, rfl, rfl, rfl, rfl, rfl⟩, _, rfl, rfl, rfl⟩
def T126 : Ty := ⟨1, 8, .cell, [.v .nilFunc]⟩
theorem tok126 : TyOk Try.prog 126 T126 := ⟨⟨_, _, rfl, rfl, rfl, rfl, rfl, rfl, rfl⟩, _, rfl, rfl⟩
def T127 : Ty := ⟨1, 8, .cell, [.v .nilFunc]⟩
theorem tok127 : TyOk Try.prog 127 T127 := ⟨⟨_, _, rfl, rfl, rfl, rfl, rfl, rfl, rfl⟩, _, rfl, rfl⟩
def T128 : Ty := ⟨1, 8, .cell, [.v .nilFunc]⟩
theorem tok128 : TyOk Try.prog 128 T128 := ⟨⟨_, _, rfl, rfl, rfl, rfl, rfl, rfl, rfl⟩, _, rfl, rfl⟩
def T129 : Ty := ⟨1, 8, .cell, [.v .nilFunc]⟩
theorem tok129 : TyOk Try.prog 129 T129 := ⟨⟨_, _, rfl, rfl, rfl, rfl, rfl, rfl, rfl⟩, _, rfl, rfl⟩
def T130 : Ty := ⟨1, 24, .slc 134, [.v (.slice none 0 0)]⟩
theorem tok130 : TyOk Try.prog 130 T130 := ⟨⟨_, _, rfl, rfl, rfl, rfl, rfl, rfl, rfl⟩, rfl⟩
def T132 : Ty := ⟨1, 8, .cell, [.v .nilFunc]⟩
theorem tok132 : TyOk Try.prog 132 T132 := ⟨⟨_, _, rfl, rfl, rfl, rfl, rfl, rfl, rfl⟩, _, rfl, rfl⟩
def T133 : Ty := ⟨4, 32, .str [(0, 3, 1), (1, 3, 1), (2, 3, 1), (3, 3, 1)], [.v (.int .i64 0), .v (.int .i64 0), .v (.int .i64 0), .v (.int .i64 0)]⟩
theorem tok133 : TyOk Try.prog 133 T133 := ⟨⟨_, _, rfl, rfl, rfl, rfl, rfl, rfl, rfl⟩, _, rfl, rfl, rfl⟩
def T134 : Ty := ⟨4, 32, .str [(0, 3, 1), (1, 3, 1), (2, 3, 1), (3, 3, 1)], [.v (.int .i64 0), .v (.int .i64 0), .v (.int .i64 0), .v (.int .i64 0)]⟩
theorem tok134 : TyOk Try.prog 134 T134 := ⟨⟨_, _, rfl, rfl, rfl, rfl, rfl, rfl, rfl⟩, _, rfl, rfl, rfl⟩
def T135 : Ty := ⟨1, 8, .cell, [.v .nilFunc]⟩
theorem tok135 : TyOk Try.prog 135 T135 := ⟨⟨_, _, rfl, rfl, rfl, rfl, rfl, rfl, rfl⟩, _, rfl, rfl⟩
def T136 : Ty := ⟨1, 8, .cell, [.v .nilFunc]⟩
theorem tok136 : TyOk Try.prog 136 T136 := ⟨⟨_, _, rfl, rfl, rfl, rfl, rfl, rfl, rfl⟩, _, rfl, rfl⟩
def T137 : Ty := ⟨1, 8, .cell, [.v .nilFunc]⟩
theorem tok137 : TyOk Try.prog 137 T137 := ⟨⟨_, _, rfl, rfl, rfl, rfl, rfl, rfl, rfl⟩, _, rfl, rfl⟩
def T138 : Ty := ⟨1, 8, .cell, [.v .nilFunc]⟩
theorem tok138 : TyOk Try.prog 138 T138 := ⟨⟨_, _, rfl, rfl, rfl, rfl, rfl, rfl, rfl⟩, _, rfl, rfl⟩
def T139 : Ty := ⟨1, 8, .cell, [.v .nilFunc]⟩
theorem tok139 : TyOk Try.prog 139 T139 := ⟨⟨_, _, rfl, rfl, rfl, rfl, rfl, rfl, rfl⟩, _, rfl, rfl⟩
def T140 : Ty := ⟨1, 8, .cell, [.v .nilFunc]⟩
theorem tok140 : TyOk Try.prog 140 T140 := ⟨⟨_, _, rfl, rfl, rfl, rfl, rfl, rfl, rfl⟩, _, rfl, rfl⟩
def T141 : Ty := ⟨1, 8, .cell, [.v .nilFunc]⟩
theorem tok141 : TyOk Try.prog 141 T141 := ⟨⟨_, _, rfl, rfl, rfl, rfl, rfl, rfl, rfl⟩, _, rfl, rfl⟩
def T142 : Ty := ⟨1, 8, .cell, [.v .nilFunc]⟩
theorem tok142 : TyOk Try.prog 142 T142 := ⟨⟨_, _, rfl, rfl, rfl, rfl, rfl, rfl, rfl⟩, _, rfl, rfl⟩
def T143 : Ty := ⟨1, 8, .cell, [.v .nilFunc]⟩
theorem tok143 : TyOk Try.prog 143 T143 := ⟨⟨_, _, rfl, rfl, rfl, rfl, rfl, rfl, rfl⟩, _, rfl, rfl⟩
def T144 : Ty := ⟨1, 8, .cell, [.v .nilFunc]⟩
theorem tok144 : TyOk Try.prog 144 T144 := ⟨⟨_, _, rfl, rfl, rfl, rfl, rfl, rfl, rfl⟩, _, rfl, rfl⟩
def T145 : Ty := ⟨1, 8, .cell, [.v .nilFunc]⟩
theorem tok145 : TyOk Try.prog 145 T145 := ⟨⟨_, _, rfl, rfl, rfl, rfl, rfl, rfl, rfl⟩, _, rfl, rfl⟩
def T146 : Ty := ⟨1, 8, .cell, [.v .nilFunc]⟩
theorem tok146 : TyOk Try.prog 146 T146 := ⟨⟨_, _, rfl, rfl, rfl, rfl, rfl, rfl, rfl⟩, _, rfl, rfl⟩
def T147 : Ty := ⟨1, 8, .cell, [.v .nilFunc]⟩
theorem tok147 : TyOk Try.prog 147 T147 := ⟨⟨_, _, rfl, rfl, rfl, rfl, rfl, rfl, rfl⟩, _, rfl, rfl⟩
def T148 : Ty := ⟨1, 8, .cell, [.v .nilFunc]⟩
theorem tok148 : TyOk Try.prog 148 T148 := ⟨⟨_, _, rfl, rfl, rfl, rfl, rfl, rfl, rfl⟩, _, rfl, rfl⟩
def T149 : Ty := ⟨1, 8, .cell, [.v .nilFunc]⟩
theorem tok149 : TyOk Try.prog 149 T149 := ⟨⟨_, _, rfl, rfl, rfl, rfl, rfl, rfl, rfl⟩, _, rfl, rfl⟩
def T150 : Ty := ⟨1, 8, .cell, [.v .nilFunc]⟩
theorem tok150 : TyOk Try.prog 150 T150 := ⟨⟨_, _, rfl, rfl, rfl, rfl, rfl, rfl, rfl⟩, _, rfl, rfl⟩
def T151 : Ty := ⟨1, 8, .cell, [.v .nilFunc]⟩
theorem tok151 : TyOk Try.prog 151 T151 := ⟨⟨_, _, rfl, rfl, rfl, rfl, rfl, rfl, rfl⟩, _, rfl, rfl⟩
def T152 : Ty := ⟨1, 8, .cell, [.v .nilFunc]⟩
theorem tok152 : TyOk Try.prog 152 T152 := ⟨⟨_, _, rfl, rfl, rfl, rfl, rfl, rfl, rfl⟩, _, rfl, rfl⟩
def T153 : Ty := ⟨1, 8, .cell, [.v .nilFunc]⟩
theorem tok153 : TyOk Try.prog 153 T153 := ⟨⟨_, _, rfl, rfl, rfl, rfl, rfl, rfl, rfl⟩, _, rfl, rfl⟩
def T154 : Ty := ⟨1, 8, .cell, [.v .nilFunc]⟩
theorem tok154 : TyOk Try.prog 154 T154 := ⟨⟨_, _, rfl, rfl, rfl, rfl, rfl, rfl, rfl⟩, _, rfl, rfl⟩
def T155 : Ty := ⟨1, 8, .cell, [.v .nilFunc]⟩
theorem tok155 : TyOk Try.prog 155 T155 := ⟨⟨_, _, rfl, rfl, rfl, rfl, rfl, rfl, rfl⟩, _, rfl, rfl⟩
def T161 : Ty := ⟨1, 8, .cell, [.v .nilFunc]⟩
theorem tok161 : TyOk Try.prog 161 T161 := ⟨⟨_, _, rfl, rfl, rfl, rfl, rfl, rfl, rfl⟩, _, rfl, rfl⟩
def T162 : Ty := ⟨1, 4, .int .u32, [.v (.int .u32 0)]⟩
theorem tok162 : TyOk Try.prog 162 T162 := ⟨⟨_, _, rfl, rfl, rfl, rfl, rfl, rfl, rfl⟩, rfl⟩
def T165 : Ty := ⟨1, 8, .cell, [.v .nilFunc]⟩
theorem tok165 : TyOk Try.prog 165 T165 := ⟨⟨_, _, rfl, rfl, rfl, rfl, rfl, rfl, rfl⟩, _, rfl, rfl⟩
def T166 : Ty := ⟨1, 8, .cell, [.v (.pointer none)]⟩
theorem tok166 : TyOk Try.prog 166 T166 := ⟨⟨_, _, rfl, rfl, rfl, rfl, rfl, rfl, rfl⟩, _, rfl, rfl⟩
abbrev TT : Tab := tabL [(1, T1), (2, T2), (3, T3), (4, T4), (5, T5), (9, T9), (12, T12), (21, T21), (22, T22), (23, T23), (24, T24), (25, T25), (26, T26), (27, T27), (28, T28), (29, T29), (30, T30), (31, T31), (33, T33), (35, T35), (36, T36), (37, T37), (38, T38), (39, T39), (40, T40), (41, T41), (42, T42), (43, T43), (44, T44), (45, T45), (46, T46), (47, T47), (48, T48), (49, T49), (50, T50), (51, T51), (52, T52), (53, T53), (55, T55), (56, T56), (57, T57), (59, T59), (60, T60), (61, T61), (62, T62), (63, T63), (64, T64), (65, T65), (66, T66), (67, T67), (68, T68), (70, T70), (71, T71), (73, T73), (74, T74), (75, T75), (76, T76), (77, T77), (78, T78), (79, T79), (80, T80), (81, T81), (82, T82), (83, T83), (84, T84), (85, T85), (86, T86), (88, T88), (89, T89), (90, T90), (91, T91), (92, T92), (93, T93), (94, T94), (95, T95), (96, T96), (97, T97), (98, T98), (99, T99), (100, T100), (102, T102), (103, T103), (104, T104), (105, T105), (106, T106), (107, T107), (108, T108), (109, T109), (110, T110), (111, T111), (112, T112), (113, T113), (114, T114), (115, T115), (116, T116), (117, T117), (118, T118), (119, T119), (120, T120), (121, T121), (123, T123), (124, T124), (125, T125), (126, T126), (127, T127), (128, T128), (129, T129), (130, T130), (132, T132), (133, T133), (134, T134), (135, T135), (136, T136), (137, T137), (138, T138), (139, T139), (140, T140), (141, T141), (142, T142), (143, T143), (144, T144), (145, T145), (146, T146), (147, T147), (148, T148), (149, T149), (150, T150), (151, T151), (152, T152), (153, T153), (154, T154), (155, T155), (161, T161), (162, T162), (165, T165), (166, T166)]
theorem TTok : TabOk Try.prog TT := tabL_ok (.cons tok1 ( .cons tok2 ( .cons tok3 ( .cons tok4 ( .cons tok5 ( .cons tok9 ( .cons tok12 ( .cons tok21 ( .cons tok22 ( .cons tok23 ( .cons tok24 ( .cons tok25 ( .cons tok26 ( .cons tok27 ( .cons tok28 ( .cons tok29 ( .cons tok30 ( .cons tok31 ( .cons tok33 ( .cons tok35 ( .cons tok36 ( .cons tok37 ( .cons tok38 ( .cons tok39 ( .cons tok40 ( .cons tok41 ( .cons tok42 ( .cons tok43 ( .cons tok44 ( .cons tok45 ( .cons tok46 ( .cons tok47 ( .cons tok48 ( .cons tok49 ( .cons tok50 ( .cons tok51 ( .cons tok52 ( .cons tok53 ( .cons tok55 ( .cons tok56 ( .cons tok57 ( .cons tok59 ( .cons tok60 ( .cons tok61 ( .cons tok62 ( .cons tok63 ( .cons tok64 ( .cons tok65 ( .cons tok66 ( .cons tok67 ( .cons tok68 ( .cons tok70 ( .cons tok71 ( .cons tok73 ( .cons tok74 ( .cons tok75 ( .cons tok76 ( .cons tok77 ( .cons tok78 ( .cons tok79 ( .cons tok80 ( .cons tok81 ( .cons tok82 ( .cons tok83 ( .cons tok84 ( .cons tok85 ( .cons tok86 ( .cons tok88 ( .cons tok89 ( .cons tok90 ( .cons tok91 ( .cons tok92 ( .cons tok93 ( .cons tok94 ( .cons tok95 ( .cons tok96 ( .cons tok97 ( .cons tok98 ( .cons tok99 ( .cons tok100 ( .cons tok102 ( .cons tok103 ( .cons tok104 ( .cons tok105 ( .cons tok106 ( .cons tok107 ( .cons tok108 ( .cons tok109 ( .cons tok110 ( .cons tok111 ( .cons tok112 ( .cons tok113 ( .cons tok114 ( .cons tok115 ( .cons tok116 ( .cons tok117 ( .cons tok118 ( .cons tok119 ( .cons tok120 ( .cons tok121 ( .cons tok123 ( .cons tok124 ( .cons tok125 ( .cons tok126 ( .cons tok127 ( .cons tok128 ( .cons tok129 ( .cons tok130 ( .cons tok132 ( .cons tok133 ( .cons tok134 ( .cons tok135 ( .cons tok136 ( .cons tok137 ( .cons tok138 ( .cons tok139 ( .cons tok140 ( .cons tok141 ( .cons tok142 ( .cons tok143 ( .cons tok144 ( .cons tok145 ( .cons tok146 ( .cons tok147 ( .cons tok148 ( .cons tok149 ( .cons tok150 ( .cons tok151 ( .cons tok152 ( .cons tok153 ( .cons tok154 ( .cons tok155 ( .cons tok161 ( .cons tok162 ( .cons tok165 ( .cons tok166 (.nil)))))))))))))))))))))))))))))))))))))))))))))))))))))))))))))))))))))))))))))))))))))))))))))))))))))))))))))))))))))))))))))))))))))))))
abbrev C42 : List Value → Prop := fun xs => ∃ a b, xs = a ++ b ∧ CInt a ∧ (fun xs => ∃ a b, xs = a ++ b ∧ CInt a ∧ (fun xs => ∃ a b, xs = a ++ b ∧ CInt a ∧ (fun xs => xs = []) b) b) b
theorem eqin42 : EqIn Try.prog 2 42 T42 C42 := EqIn.str rfl rfl (by kernel_rfl) (.cons (TF := T3) (by decide) rfl tok3 (by decide) (EqIn.mono (EqIn.int rfl rfl rfl) (Nat.le_of_ble_eq_true rfl)) (.cons (TF := T3) (by decide) rfl tok3 (by decide) (EqIn.mono (EqIn.int rfl rfl rfl) (Nat.le_of_ble_eq_true rfl)) (.cons (TF := T3) (by decide) rfl tok3 (by decide) (EqIn.mono (EqIn.int rfl rfl rfl) (Nat.le_of_ble_eq_true rfl)) (.nil _))))
theorem eq42 (a0 : Int) (a1 : Int) (a2 : Int) (b0 : Int) (b1 : Int) (b2 : Int) : EqFact Try.prog 42 [i64 a0, i64 a1, i64 a2] [i64 b0, i64 b1, i64 b2] (decide ([a0, a1, a2] = [b0, b1, b2])) := eqin42.fact (Nat.le_of_ble_eq_true rfl) rfl (by kernel_rfl) [iv a0, iv a1, iv a2] [iv b0, iv b1, iv b2] ⟨[iv a0], _, rfl, ⟨a0, rfl⟩, ⟨[iv a1], _, rfl, ⟨a1, rfl⟩, ⟨[iv a2], _, rfl, ⟨a2, rfl⟩, rfl⟩⟩⟩ ⟨[iv b0], _, rfl, ⟨b0, rfl⟩, ⟨[iv b1], _, rfl, ⟨b1, rfl⟩, ⟨[iv b2], _, rfl, ⟨b2, rfl⟩, rfl⟩⟩⟩ _ (by simp)
theorem typ42 {cs : List SV} (h : Typ Try.prog 42 cs) : ∃ a0 a1 a2, cs = [i64 a0, i64 a1, i64 a2] ∧ R64 a0 ∧ R64 a1 ∧ R64 a2 := by
  have hl : cs.length = 3 := (Typ.inv_str rfl h).1
  match cs, hl, h with
  | [c0, c1, c2], _, h =>
    obtain ⟨a0, e0, ha0⟩ := Typ.inv_i64 rfl (h.field rfl 0 0 1 3 rfl)
    cases (show [c0] = [i64 a0] from e0)
    obtain ⟨a1, e1, ha1⟩ := Typ.inv_i64 rfl (h.field rfl 1 1 1 3 rfl)
    cases (show [c1] = [i64 a1] from e1)
    obtain ⟨a2, e2, ha2⟩ := Typ.inv_i64 rfl (h.field rfl 2 2 1 3 rfl)
    cases (show [c2] = [i64 a2] from e2)
    exact ⟨a0, a1, a2, rfl, ha0, ha1, ha2⟩
abbrev C43 : List Value → Prop := fun xs => ∃ a b, xs = a ++ b ∧ CInt a ∧ (fun xs => ∃ a b, xs = a ++ b ∧ CInt a ∧ (fun xs => ∃ a b, xs = a ++ b ∧ CInt a ∧ (fun xs => xs = []) b) b) b
theorem eqin43 : EqIn Try.prog 2 43 T43 C43 := EqIn.str rfl rfl (by kernel_rfl) (.cons (TF := T3) (by decide) rfl tok3 (by decide) (EqIn.mono (EqIn.int rfl rfl rfl) (Nat.le_of_ble_eq_true rfl)) (.cons (TF := T3) (by decide) rfl tok3 (by decide) (EqIn.mono (EqIn.int rfl rfl rfl) (Nat.le_of_ble_eq_true rfl)) (.cons (TF := T3) (by decide) rfl tok3 (by decide) (EqIn.mono (EqIn.int rfl rfl rfl) (Nat.le_of_ble_eq_true rfl)) (.nil _))))
theorem eq43 (a0 : Int) (a1 : Int) (a2 : Int) (b0 : Int) (b1 : Int) (b2 : Int) : EqFact Try.prog 43 [i64 a0, i64 a1, i64 a2] [i64 b0, i64 b1, i64 b2] (decide ([a0, a1, a2] = [b0, b1, b2])) := eqin43.fact (Nat.le_of_ble_eq_true rfl) rfl (by kernel_rfl) [iv a0, iv a1, iv a2] [iv b0, iv b1, iv b2] ⟨[iv a0], _, rfl, ⟨a0, rfl⟩, ⟨[iv a1], _, rfl, ⟨a1, rfl⟩, ⟨[iv a2], _, rfl, ⟨a2, rfl⟩, rfl⟩⟩⟩ ⟨[iv b0], _, rfl, ⟨b0, rfl⟩, ⟨[iv b1], _, rfl, ⟨b1, rfl⟩, ⟨[iv b2], _, rfl, ⟨b2, rfl⟩, rfl⟩⟩⟩ _ (by simp)
theorem typ43 {cs : List SV} (h : Typ Try.prog 43 cs) : ∃ a0 a1 a2, cs = [i64 a0, i64 a1, i64 a2] ∧ R64 a0 ∧ R64 a1 ∧ R64 a2 := by
  have hl : cs.length = 3 := (Typ.inv_str rfl h).1
  match cs, hl, h with
  | [c0, c1, c2], _, h =>
    obtain ⟨a0, e0, ha0⟩ := Typ.inv_i64 rfl (h.field rfl 0 0 1 3 rfl)
    cases (show [c0] = [i64 a0] from e0)
    obtain ⟨a1, e1, ha1⟩ := Typ.inv_i64 rfl (h.field rfl 1 1 1 3 rfl)
    cases (show [c1] = [i64 a1] from e1)
    obtain ⟨a2, e2, ha2⟩ := Typ.inv_i64 rfl (h.field rfl 2 2 1 3 rfl)
    cases (show [c2] = [i64 a2] from e2)
    exact ⟨a0, a1, a2, rfl, ha0, ha1, ha2⟩
abbrev C46 : List Value → Prop := fun xs => ∃ a b, xs = a ++ b ∧ CInt a ∧ (fun xs => ∃ a b, xs = a ++ b ∧ CInt a ∧ (fun xs => ∃ a b, xs = a ++ b ∧ CInt a ∧ (fun xs => xs = []) b) b) b
theorem eqin46 : EqIn Try.prog 2 46 T46 C46 := EqIn.str rfl rfl (by kernel_rfl) (.cons (TF := T3) (by decide) rfl tok3 (by decide) (EqIn.mono (EqIn.int rfl rfl rfl) (Nat.le_of_ble_eq_true rfl)) (.cons (TF := T3) (by decide) rfl tok3 (by decide) (EqIn.mono (EqIn.int rfl rfl rfl) (Nat.le_of_ble_eq_true rfl)) (.cons (TF := T3) (by decide) rfl tok3 (by decide) (EqIn.mono (EqIn.int rfl rfl rfl) (Nat.le_of_ble_eq_true rfl)) (.nil _))))
theorem eq46 (a0 : Int) (a1 : Int) (a2 : Int) (b0 : Int) (b1 : Int) (b2 : Int) : EqFact Try.prog 46 [i64 a0, i64 a1, i64 a2] [i64 b0, i64 b1, i64 b2] (decide ([a0, a1, a2] = [b0, b1, b2])) := eqin46.fact (Nat.le_of_ble_eq_true rfl) rfl (by kernel_rfl) [iv a0, iv a1, iv a2] [iv b0, iv b1, iv b2] ⟨[iv a0], _, rfl, ⟨a0, rfl⟩, ⟨[iv a1], _, rfl, ⟨a1, rfl⟩, ⟨[iv a2], _, rfl, ⟨a2, rfl⟩, rfl⟩⟩⟩ ⟨[iv b0], _, rfl, ⟨b0, rfl⟩, ⟨[iv b1], _, rfl, ⟨b1, rfl⟩, ⟨[iv b2], _, rfl, ⟨b2, rfl⟩, rfl⟩⟩⟩ _ (by simp)
theorem typ46 {cs : List SV} (h : Typ Try.prog 46 cs) : ∃ a0 a1 a2, cs = [i64 a0, i64 a1, i64 a2] ∧ R64 a0 ∧ R64 a1 ∧ R64 a2 := by
  have hl : cs.length = 3 := (Typ.inv_str rfl h).1
  match cs, hl, h with
  | [c0, c1, c2], _, h =>
    obtain ⟨a0, e0, ha0⟩ := Typ.inv_i64 rfl (h.field rfl 0 0 1 3 rfl)
    cases (show [c0] = [i64 a0] from e0)
    obtain ⟨a1, e1, ha1⟩ := Typ.inv_i64 rfl (h.field rfl 1 1 1 3 rfl)
    cases (show [c1] = [i64 a1] from e1)
    obtain ⟨a2, e2, ha2⟩ := Typ.inv_i64 rfl (h.field rfl 2 2 1 3 rfl)
    cases (show [c2] = [i64 a2] from e2)
    exact ⟨a0, a1, a2, rfl, ha0, ha1, ha2⟩
abbrev C61 : List Value → Prop := fun xs => ∃ a b, xs = a ++ b ∧ CInt a ∧ (fun xs => ∃ a b, xs = a ++ b ∧ CInt a ∧ (fun xs => xs = []) b) b
theorem eqin61 : EqIn Try.prog 2 61 T61 C61 := EqIn.str rfl rfl (by kernel_rfl) (.cons (TF := T3) (by decide) rfl tok3 (by decide) (EqIn.mono (EqIn.int rfl rfl rfl) (Nat.le_of_ble_eq_true rfl)) (.cons (TF := T3) (by decide) rfl tok3 (by decide) (EqIn.mono (EqIn.int rfl rfl rfl) (Nat.le_of_ble_eq_true rfl)) (.nil _)))
theorem eq61 (a0 : Int) (a1 : Int) (b0 : Int) (b1 : Int) : EqFact Try.prog 61 [i64 a0, i64 a1] [i64 b0, i64 b1] (decide ([a0, a1] = [b0, b1])) := eqin61.fact (Nat.le_of_ble_eq_true rfl) rfl (by kernel_rfl) [iv a0, iv a1] [iv b0, iv b1] ⟨[iv a0], _, rfl, ⟨a0, rfl⟩, ⟨[iv a1], _, rfl, ⟨a1, rfl⟩, rfl⟩⟩ ⟨[iv b0], _, rfl, ⟨b0, rfl⟩, ⟨[iv b1], _, rfl, ⟨b1, rfl⟩, rfl⟩⟩ _ (by simp)
theorem typ61 {cs : List SV} (h : Typ Try.prog 61 cs) : ∃ a0 a1, cs = [i64 a0, i64 a1] ∧ R64 a0 ∧ R64 a1 := by
  have hl : cs.length = 2 := (Typ.inv_str rfl h).1
  match cs, hl, h with
  | [c0, c1], _, h =>
    obtain ⟨a0, e0, ha0⟩ := Typ.inv_i64 rfl (h.field rfl 0 0 1 3 rfl)
    cases (show [c0] = [i64 a0] from e0)
    obtain ⟨a1, e1, ha1⟩ := Typ.inv_i64 rfl (h.field rfl 1 1 1 3 rfl)
    cases (show [c1] = [i64 a1] from e1)
    exact ⟨a0, a1, rfl, ha0, ha1⟩
abbrev C62 : List Value → Prop := fun xs => ∃ a b, xs = a ++ b ∧ CInt a ∧ (fun xs => ∃ a b, xs = a ++ b ∧ CInt a ∧ (fun xs => xs = []) b) b
theorem eqin62 : EqIn Try.prog 2 62 T62 C62 := EqIn.str rfl rfl (by kernel_rfl) (.cons (TF := T3) (by decide) rfl tok3 (by decide) (EqIn.mono (EqIn.int rfl rfl rfl) (Nat.le_of_ble_eq_true rfl)) (.cons (TF := T3) (by decide) rfl tok3 (by decide) (EqIn.mono (EqIn.int rfl rfl rfl) (Nat.le_of_ble_eq_true rfl)) (.nil _)))
theorem eq62 (a0 : Int) (a1 : Int) (b0 : Int) (b1 : Int) : EqFact Try.prog 62 [i64 a0, i64 a1] [i64 b0, i64 b1] (decide ([a0, a1] = [b0, b1])) := eqin62.fact (Nat.le_of_ble_eq_true rfl) rfl (by kernel_rfl) [iv a0, iv a1] [iv b0, iv b1] ⟨[iv a0], _, rfl, ⟨a0, rfl⟩, ⟨[iv a1], _, rfl, ⟨a1, rfl⟩, rfl⟩⟩ ⟨[iv b0], _, rfl, ⟨b0, rfl⟩, ⟨[iv b1], _, rfl, ⟨b1, rfl⟩, rfl⟩⟩ _ (by simp)
theorem typ62 {cs : List SV} (h : Typ Try.prog 62 cs) : ∃ a0 a1, cs = [i64 a0, i64 a1] ∧ R64 a0 ∧ R64 a1 := by
  have hl : cs.length = 2 := (Typ.inv_str rfl h).1
  match cs, hl, h with
  | [c0, c1], _, h =>
    obtain ⟨a0, e0, ha0⟩ := Typ.inv_i64 rfl (h.field rfl 0 0 1 3 rfl)
    cases (show [c0] = [i64 a0] from e0)
    obtain ⟨a1, e1, ha1⟩ := Typ.inv_i64 rfl (h.field rfl 1 1 1 3 rfl)
    cases (show [c1] = [i64 a1] from e1)
    exact ⟨a0, a1, rfl, ha0, ha1⟩
abbrev C63 : List Value → Prop := fun xs => ∃ a b, xs = a ++ b ∧ C62 a ∧ (fun xs => ∃ a b, xs = a ++ b ∧ C62 a ∧ (fun xs => xs = []) b) b
theorem eqin63 : EqIn Try.prog 3 63 T63 C63 := EqIn.str rfl rfl (by kernel_rfl) (.cons (TF := T62) (by decide) rfl tok62 (by decide) (EqIn.mono eqin62 (Nat.le_of_ble_eq_true rfl)) (.cons (TF := T62) (by decide) rfl tok62 (by decide) (EqIn.mono eqin62 (Nat.le_of_ble_eq_true rfl)) (.nil _)))
theorem eq63 (a0 : Int) (a1 : Int) (a2 : Int) (a3 : Int) (b0 : Int) (b1 : Int) (b2 : Int) (b3 : Int) : EqFact Try.prog 63 [i64 a0, i64 a1, i64 a2, i64 a3] [i64 b0, i64 b1, i64 b2, i64 b3] (decide ([a0, a1, a2, a3] = [b0, b1, b2, b3])) := eqin63.fact (Nat.le_of_ble_eq_true rfl) rfl (by kernel_rfl) [iv a0, iv a1, iv a2, iv a3] [iv b0, iv b1, iv b2, iv b3] ⟨[iv a0, iv a1], _, rfl, ⟨[iv a0], _, rfl, ⟨a0, rfl⟩, ⟨[iv a1], _, rfl, ⟨a1, rfl⟩, rfl⟩⟩, ⟨[iv a2, iv a3], _, rfl, ⟨[iv a2], _, rfl, ⟨a2, rfl⟩, ⟨[iv a3], _, rfl, ⟨a3, rfl⟩, rfl⟩⟩, rfl⟩⟩ ⟨[iv b0, iv b1], _, rfl, ⟨[iv b0], _, rfl, ⟨b0, rfl⟩, ⟨[iv b1], _, rfl, ⟨b1, rfl⟩, rfl⟩⟩, ⟨[iv b2, iv b3], _, rfl, ⟨[iv b2], _, rfl, ⟨b2, rfl⟩, ⟨[iv b3], _, rfl, ⟨b3, rfl⟩, rfl⟩⟩, rfl⟩⟩ _ (by simp)
theorem typ63 {cs : List SV} (h : Typ Try.prog 63 cs) : ∃ a0 a1 a2 a3, cs = [i64 a0, i64 a1, i64 a2, i64 a3] ∧ R64 a0 ∧ R64 a1 ∧ R64 a2 ∧ R64 a3 := by
  have hl : cs.length = 4 := (Typ.inv_str rfl h).1
  match cs, hl, h with
  | [c0, c1, c2, c3], _, h =>
    obtain ⟨a0, a1, e0, ha0, ha1⟩ := typ62 (h.field rfl 0 0 2 62 rfl)
    cases (show [c0, c1] = [i64 a0, i64 a1] from e0)
    obtain ⟨a2, a3, e1, ha2, ha3⟩ := typ62 (h.field rfl 1 2 2 62 rfl)
    cases (show [c2, c3] = [i64 a2, i64 a3] from e1)
    exact ⟨a0, a1, a2, a3, rfl, ha0, ha1, ha2, ha3⟩
abbrev C64 : List Value → Prop := fun xs => ∃ a b, xs = a ++ b ∧ C62 a ∧ (fun xs => ∃ a b, xs = a ++ b ∧ C62 a ∧ (fun xs => xs = []) b) b
theorem eqin64 : EqIn Try.prog 3 64 T64 C64 := EqIn.str rfl rfl (by kernel_rfl) (.cons (TF := T62) (by decide) rfl tok62 (by decide) (EqIn.mono eqin62 (Nat.le_of_ble_eq_true rfl)) (.cons (TF := T62) (by decide) rfl tok62 (by decide) (EqIn.mono eqin62 (Nat.le_of_ble_eq_true rfl)) (.nil _)))
theorem eq64 (a0 : Int) (a1 : Int) (a2 : Int) (a3 : Int) (b0 : Int) (b1 : Int) (b2 : Int) (b3 : Int) : EqFact Try.prog 64 [i64 a0, i64 a1, i64 a2, i64 a3] [i64 b0, i64 b1, i64 b2, i64 b3] (decide ([a0, a1, a2, a3] = [b0, b1, b2, b3])) := eqin64.fact (Nat.le_of_ble_eq_true rfl) rfl (by kernel_rfl) [iv a0, iv a1, iv a2, iv a3] [iv b0, iv b1, iv b2, iv b3] ⟨[iv a0, iv a1], _, rfl, ⟨[iv a0], _, rfl, ⟨a0, rfl⟩, ⟨[iv a1], _, rfl, ⟨a1, rfl⟩, rfl⟩⟩, ⟨[iv a2, iv a3], _, rfl, ⟨[iv a2], _, rfl, ⟨a2, rfl⟩, ⟨[iv a3], _, rfl, ⟨a3, rfl⟩, rfl⟩⟩, rfl⟩⟩ ⟨[iv b0, iv b1], _, rfl, ⟨[iv b0], _, rfl, ⟨b0, rfl⟩, ⟨[iv b1], _, rfl, ⟨b1, rfl⟩, rfl⟩⟩, ⟨[iv b2, iv b3], _, rfl, ⟨[iv b2], _, rfl, ⟨b2, rfl⟩, ⟨[iv b3], _, rfl, ⟨b3, rfl⟩, rfl⟩⟩, rfl⟩⟩ _ (by simp)
theorem typ64 {cs : List SV} (h : Typ Try.prog 64 cs) : ∃ a0 a1 a2 a3, cs = [i64 a0, i64 a1, i64 a2, i64 a3] ∧ R64 a0 ∧ R64 a1 ∧ R64 a2 ∧ R64 a3 := by
  have hl : cs.length = 4 := (Typ.inv_str rfl h).1
  match cs, hl, h with
  | [c0, c1, c2, c3], _, h =>
    obtain ⟨a0, a1, e0, ha0, ha1⟩ := typ62 (h.field rfl 0 0 2 62 rfl)
    cases (show [c0, c1] = [i64 a0, i64 a1] from e0)
    obtain ⟨a2, a3, e1, ha2, ha3⟩ := typ62 (h.field rfl 1 2 2 62 rfl)
    cases (show [c2, c3] = [i64 a2, i64 a3] from e1)
    exact ⟨a0, a1, a2, a3, rfl, ha0, ha1, ha2, ha3⟩
abbrev C75 : List Value → Prop := fun xs => ∃ a b, xs = a ++ b ∧ CInt a ∧ (fun xs => ∃ a b, xs = a ++ b ∧ CInt a ∧ (fun xs => ∃ a b, xs = a ++ b ∧ CInt a ∧ (fun xs => xs = []) b) b) b
theorem eqin75 : EqIn Try.prog 2 75 T75 C75 := EqIn.str rfl rfl (by kernel_rfl) (.cons (TF := T3) (by decide) rfl tok3 (by decide) (EqIn.mono (EqIn.int rfl rfl rfl) (Nat.le_of_ble_eq_true rfl)) (.cons (TF := T3) (by decide) rfl tok3 (by decide) (EqIn.mono (EqIn.int rfl rfl rfl) (Nat.le_of_ble_eq_true rfl)) (.cons (TF := T3) (by decide) rfl tok3 (by decide) (EqIn.mono (EqIn.int rfl rfl rfl) (Nat.le_of_ble_eq_true rfl)) (.nil _))))
theorem eq75 (a0 : Int) (a1 : Int) (a2 : Int) (b0 : Int) (b1 : Int) (b2 : Int) : EqFact Try.prog 75 [i64 a0, i64 a1, i64 a2] [i64 b0, i64 b1, i64 b2] (decide ([a0, a1, a2] = [b0, b1, b2])) := eqin75.fact (Nat.le_of_ble_eq_true rfl) rfl (by kernel_rfl) [iv a0, iv a1, iv a2] [iv b0, iv b1, iv b2] ⟨[iv a0], _, rfl, ⟨a0, rfl⟩, ⟨[iv a1], _, rfl, ⟨a1, rfl⟩, ⟨[iv a2], _, rfl, ⟨a2, rfl⟩, rfl⟩⟩⟩ ⟨[iv b0], _, rfl, ⟨b0, rfl⟩, ⟨[iv b1], _, rfl, ⟨b1, rfl⟩, ⟨[iv b2], _, rfl, ⟨b2, rfl⟩, rfl⟩⟩⟩ _ (by simp)
theorem typ75 {cs : List SV} (h : Typ Try.prog 75 cs) : ∃ a0 a1 a2, cs = [i64 a0, i64 a1, i64 a2] ∧ R64 a0 ∧ R64 a1 ∧ R64 a2 := by
  have hl : cs.length = 3 := (Typ.inv_str rfl h).1
  match cs, hl, h with
  | [c0, c1, c2], _, h =>
    obtain ⟨a0, e0, ha0⟩ := Typ.inv_i64 rfl (h.field rfl 0 0 1 3 rfl)
    cases (show [c0] = [i64 a0] from e0)
    obtain ⟨a1, e1, ha1⟩ := Typ.inv_i64 rfl (h.field rfl 1 1 1 3 rfl)
    cases (show [c1] = [i64 a1] from e1)
    obtain ⟨a2, e2, ha2⟩ := Typ.inv_i64 rfl (h.field rfl 2 2 1 3 rfl)
    cases (show [c2] = [i64 a2] from e2)
    exact ⟨a0, a1, a2, rfl, ha0, ha1, ha2⟩
abbrev C76 : List Value → Prop := fun xs => ∃ a b, xs = a ++ b ∧ CInt a ∧ (fun xs => ∃ a b, xs = a ++ b ∧ CInt a ∧ (fun xs => ∃ a b, xs = a ++ b ∧ CInt a ∧ (fun xs => xs = []) b) b) b
theorem eqin76 : EqIn Try.prog 2 76 T76 C76 := EqIn.str rfl rfl (by kernel_rfl) (.cons (TF := T3) (by decide) rfl tok3 (by decide) (EqIn.mono (EqIn.int rfl rfl rfl) (Nat.le_of_ble_eq_true rfl)) (.cons (TF := T3) (by decide) rfl tok3 (by decide) (EqIn.mono (EqIn.int rfl rfl rfl) (Nat.le_of_ble_eq_true rfl)) (.cons (TF := T3) (by decide) rfl tok3 (by decide) (EqIn.mono (EqIn.int rfl rfl rfl) (Nat.le_of_ble_eq_true rfl)) (.nil _))))
theorem eq76 (a0 : Int) (a1 : Int) (a2 : Int) (b0 : Int) (b1 : Int) (b2 : Int) : EqFact Try.prog 76 [i64 a0, i64 a1, i64 a2] [i64 b0, i64 b1, i64 b2] (decide ([a0, a1, a2] = [b0, b1, b2])) := eqin76.fact (Nat.le_of_ble_eq_true rfl) rfl (by kernel_rfl) [iv a0, iv a1, iv a2] [iv b0, iv b1, iv b2] ⟨[iv a0], _, rfl, ⟨a0, rfl⟩, ⟨[iv a1], _, rfl, ⟨a1, rfl⟩, ⟨[iv a2], _, rfl, ⟨a2, rfl⟩, rfl⟩⟩⟩ ⟨[iv b0], _, rfl, ⟨b0, rfl⟩, ⟨[iv b1], _, rfl, ⟨b1, rfl⟩, ⟨[iv b2], _, rfl, ⟨b2, rfl⟩, rfl⟩⟩⟩ _ (by simp)
theorem typ76 {cs : List SV} (h : Typ Try.prog 76 cs) : ∃ a0 a1 a2, cs = [i64 a0, i64 a1, i64 a2] ∧ R64 a0 ∧ R64 a1 ∧ R64 a2 := by
  have hl : cs.length = 3 := (Typ.inv_str rfl h).1
  match cs, hl, h with
  | [c0, c1, c2], _, h =>
    obtain ⟨a0, e0, ha0⟩ := Typ.inv_i64 rfl (h.field rfl 0 0 1 3 rfl)
    cases (show [c0] = [i64 a0] from e0)
    obtain ⟨a1, e1, ha1⟩ := Typ.inv_i64 rfl (h.field rfl 1 1 1 3 rfl)
    cases (show [c1] = [i64 a1] from e1)
    obtain ⟨a2, e2, ha2⟩ := Typ.inv_i64 rfl (h.field rfl 2 2 1 3 rfl)
    cases (show [c2] = [i64 a2] from e2)
    exact ⟨a0, a1, a2, rfl, ha0, ha1, ha2⟩
abbrev C77 : List Value → Prop := fun xs => ∃ a b, xs = a ++ b ∧ CInt a ∧ (fun xs => ∃ a b, xs = a ++ b ∧ CInt a ∧ (fun xs => ∃ a b, xs = a ++ b ∧ CInt a ∧ (fun xs => xs = []) b) b) b
theorem eqin77 : EqIn Try.prog 2 77 T77 C77 := EqIn.str rfl rfl (by kernel_rfl) (.cons (TF := T3) (by decide) rfl tok3 (by decide) (EqIn.mono (EqIn.int rfl rfl rfl) (Nat.le_of_ble_eq_true rfl)) (.cons (TF := T3) (by decide) rfl tok3 (by decide) (EqIn.mono (EqIn.int rfl rfl rfl) (Nat.le_of_ble_eq_true rfl)) (.cons (TF := T3) (by decide) rfl tok3 (by decide) (EqIn.mono (EqIn.int rfl rfl rfl) (Nat.le_of_ble_eq_true rfl)) (.nil _))))
theorem eq77 (a0 : Int) (a1 : Int) (a2 : Int) (b0 : Int) (b1 : Int) (b2 : Int) : EqFact Try.prog 77 [i64 a0, i64 a1, i64 a2] [i64 b0, i64 b1, i64 b2] (decide ([a0, a1, a2] = [b0, b1, b2])) := eqin77.fact (Nat.le_of_ble_eq_true rfl) rfl (by kernel_rfl) [iv a0, iv a1, iv a2] [iv b0, iv b1, iv b2] ⟨[iv a0], _, rfl, ⟨a0, rfl⟩, ⟨[iv a1], _, rfl, ⟨a1, rfl⟩, ⟨[iv a2], _, rfl, ⟨a2, rfl⟩, rfl⟩⟩⟩ ⟨[iv b0], _, rfl, ⟨b0, rfl⟩, ⟨[iv b1], _, rfl, ⟨b1, rfl⟩, ⟨[iv b2], _, rfl, ⟨b2, rfl⟩, rfl⟩⟩⟩ _ (by simp)
theorem typ77 {cs : List SV} (h : Typ Try.prog 77 cs) : ∃ a0 a1 a2, cs = [i64 a0, i64 a1, i64 a2] ∧ R64 a0 ∧ R64 a1 ∧ R64 a2 := by
  have hl : cs.length = 3 := (Typ.inv_str rfl h).1
  match cs, hl, h with
  | [c0, c1, c2], _, h =>
    obtain ⟨a0, e0, ha0⟩ := Typ.inv_i64 rfl (h.field rfl 0 0 1 3 rfl)
    cases (show [c0] = [i64 a0] from e0)
    obtain ⟨a1, e1, ha1⟩ := Typ.inv_i64 rfl (h.field rfl 1 1 1 3 rfl)
    cases (show [c1] = [i64 a1] from e1)
    obtain ⟨a2, e2, ha2⟩ := Typ.inv_i64 rfl (h.field rfl 2 2 1 3 rfl)
    cases (show [c2] = [i64 a2] from e2)
    exact ⟨a0, a1, a2, rfl, ha0, ha1, ha2⟩
abbrev C85 : List Value → Prop := fun xs => ∃ a b, xs = a ++ b ∧ CInt a ∧ (fun xs => ∃ a b, xs = a ++ b ∧ CInt a ∧ (fun xs => xs = []) b) b
theorem eqin85 : EqIn Try.prog 2 85 T85 C85 := EqIn.str rfl rfl (by kernel_rfl) (.cons (TF := T3) (by decide) rfl tok3 (by decide) (EqIn.mono (EqIn.int rfl rfl rfl) (Nat.le_of_ble_eq_true rfl)) (.cons (TF := T3) (by decide) rfl tok3 (by decide) (EqIn.mono (EqIn.int rfl rfl rfl) (Nat.le_of_ble_eq_true rfl)) (.nil _)))
theorem eq85 (a0 : Int) (a1 : Int) (b0 : Int) (b1 : Int) : EqFact Try.prog 85 [i64 a0, i64 a1] [i64 b0, i64 b1] (decide ([a0, a1] = [b0, b1])) := eqin85.fact (Nat.le_of_ble_eq_true rfl) rfl (by kernel_rfl) [iv a0, iv a1] [iv b0, iv b1] ⟨[iv a0], _, rfl, ⟨a0, rfl⟩, ⟨[iv a1], _, rfl, ⟨a1, rfl⟩, rfl⟩⟩ ⟨[iv b0], _, rfl, ⟨b0, rfl⟩, ⟨[iv b1], _, rfl, ⟨b1, rfl⟩, rfl⟩⟩ _ (by simp)
theorem typ85 {cs : List SV} (h : Typ Try.prog 85 cs) : ∃ a0 a1, cs = [i64 a0, i64 a1] ∧ R64 a0 ∧ R64 a1 := by
  have hl : cs.length = 2 := (Typ.inv_str rfl h).1
  match cs, hl, h with
  | [c0, c1], _, h =>
    obtain ⟨a0, e0, ha0⟩ := Typ.inv_i64 rfl (h.field rfl 0 0 1 3 rfl)
    cases (show [c0] = [i64 a0] from e0)
    obtain ⟨a1, e1, ha1⟩ := Typ.inv_i64 rfl (h.field rfl 1 1 1 3 rfl)
    cases (show [c1] = [i64 a1] from e1)
    exact ⟨a0, a1, rfl, ha0, ha1⟩
abbrev C86 : List Value → Prop := fun xs => ∃ a b, xs = a ++ b ∧ CInt a ∧ (fun xs => ∃ a b, xs = a ++ b ∧ CInt a ∧ (fun xs => xs = []) b) b
theorem eqin86 : EqIn Try.prog 2 86 T86 C86 := EqIn.str rfl rfl (by kernel_rfl) (.cons (TF := T3) (by decide) rfl tok3 (by decide) (EqIn.mono (EqIn.int rfl rfl rfl) (Nat.le_of_ble_eq_true rfl)) (.cons (TF := T3) (by decide) rfl tok3 (by decide) (EqIn.mono (EqIn.int rfl rfl rfl) (Nat.le_of_ble_eq_true rfl)) (.nil _)))
theorem eq86 (a0 : Int) (a1 : Int) (b0 : Int) (b1 : Int) : EqFact Try.prog 86 [i64 a0, i64 a1] [i64 b0, i64 b1] (decide ([a0, a1] = [b0, b1])) := eqin86.fact (Nat.le_of_ble_eq_true rfl) rfl (by kernel_rfl) [iv a0, iv a1] [iv b0, iv b1] ⟨[iv a0], _, rfl, ⟨a0, rfl⟩, ⟨[iv a1], _, rfl, ⟨a1, rfl⟩, rfl⟩⟩ ⟨[iv b0], _, rfl, ⟨b0, rfl⟩, ⟨[iv b1], _, rfl, ⟨b1, rfl⟩, rfl⟩⟩ _ (by simp)
theorem typ86 {cs : List SV} (h : Typ Try.prog 86 cs) : ∃ a0 a1, cs = [i64 a0, i64 a1] ∧ R64 a0 ∧ R64 a1 := by
  have hl : cs.length = 2 := (Typ.inv_str rfl h).1
  match cs, hl, h with
  | [c0, c1], _, h =>
    obtain ⟨a0, e0, ha0⟩ := Typ.inv_i64 rfl (h.field rfl 0 0 1 3 rfl)
    cases (show [c0] = [i64 a0] from e0)
    obtain ⟨a1, e1, ha1⟩ := Typ.inv_i64 rfl (h.field rfl 1 1 1 3 rfl)
    cases (show [c1] = [i64 a1] from e1)
    exact ⟨a0, a1, rfl, ha0, ha1⟩
abbrev C95 : List Value → Prop := fun xs => ∃ a b, xs = a ++ b ∧ CBool a ∧ (fun xs => ∃ a b, xs = a ++ b ∧ CInt a ∧ (fun xs => ∃ a b, xs = a ++ b ∧ CInt a ∧ (fun xs => ∃ a b, xs = a ++ b ∧ CInt a ∧ (fun xs => ∃ a b, xs = a ++ b ∧ CInt a ∧ (fun xs => xs = []) b) b) b) b) b
theorem eqin95 : EqIn Try.prog 2 95 T95 C95 := EqIn.str rfl rfl (by kernel_rfl) (.cons (TF := T4) (by decide) rfl tok4 (by decide) (EqIn.mono (EqIn.bool rfl rfl rfl) (Nat.le_of_ble_eq_true rfl)) (.cons (TF := T3) (by decide) rfl tok3 (by decide) (EqIn.mono (EqIn.int rfl rfl rfl) (Nat.le_of_ble_eq_true rfl)) (.cons (TF := T3) (by decide) rfl tok3 (by decide) (EqIn.mono (EqIn.int rfl rfl rfl) (Nat.le_of_ble_eq_true rfl)) (.cons (TF := T3) (by decide) rfl tok3 (by decide) (EqIn.mono (EqIn.int rfl rfl rfl) (Nat.le_of_ble_eq_true rfl)) (.cons (TF := T3) (by decide) rfl tok3 (by decide) (EqIn.mono (EqIn.int rfl rfl rfl) (Nat.le_of_ble_eq_true rfl)) (.nil _))))))
theorem eq95 (a0 : Bool) (a1 : Int) (a2 : Int) (a3 : Int) (a4 : Int) (b0 : Bool) (b1 : Int) (b2 : Int) (b3 : Int) (b4 : Int) : EqFact Try.prog 95 [.v (.bool a0), i64 a1, i64 a2, i64 a3, i64 a4] [.v (.bool b0), i64 b1, i64 b2, i64 b3, i64 b4] (decide (a0 = b0 ∧ a1 = b1 ∧ a2 = b2 ∧ a3 = b3 ∧ a4 = b4)) := eqin95.fact (Nat.le_of_ble_eq_true rfl) rfl (by kernel_rfl) [.bool a0, iv a1, iv a2, iv a3, iv a4] [.bool b0, iv b1, iv b2, iv b3, iv b4] ⟨[.bool a0], _, rfl, ⟨a0, rfl⟩, ⟨[iv a1], _, rfl, ⟨a1, rfl⟩, ⟨[iv a2], _, rfl, ⟨a2, rfl⟩, ⟨[iv a3], _, rfl, ⟨a3, rfl⟩, ⟨[iv a4], _, rfl, ⟨a4, rfl⟩, rfl⟩⟩⟩⟩⟩ ⟨[.bool b0], _, rfl, ⟨b0, rfl⟩, ⟨[iv b1], _, rfl, ⟨b1, rfl⟩, ⟨[iv b2], _, rfl, ⟨b2, rfl⟩, ⟨[iv b3], _, rfl, ⟨b3, rfl⟩, ⟨[iv b4], _, rfl, ⟨b4, rfl⟩, rfl⟩⟩⟩⟩⟩ _ (by simp)
theorem typ95 {cs : List SV} (h : Typ Try.prog 95 cs) : ∃ a0 a1 a2 a3 a4, cs = [.v (.bool a0), i64 a1, i64 a2, i64 a3, i64 a4] ∧ a0 = a0 ∧ R64 a1 ∧ R64 a2 ∧ R64 a3 ∧ R64 a4 := by
  have hl : cs.length = 5 := (Typ.inv_str rfl h).1
  match cs, hl, h with
  | [c0, c1, c2, c3, c4], _, h =>
    obtain ⟨a0, e0, ha0⟩ := Typ.inv_bool' rfl (h.field rfl 0 0 1 4 rfl)
    cases (show [c0] = [.v (.bool a0)] from e0)
    obtain ⟨a1, e1, ha1⟩ := Typ.inv_i64 rfl (h.field rfl 1 1 1 3 rfl)
    cases (show [c1] = [i64 a1] from e1)
    obtain ⟨a2, e2, ha2⟩ := Typ.inv_i64 rfl (h.field rfl 2 2 1 3 rfl)
    cases (show [c2] = [i64 a2] from e2)
    obtain ⟨a3, e3, ha3⟩ := Typ.inv_i64 rfl (h.field rfl 3 3 1 3 rfl)
    cases (show [c3] = [i64 a3] from e3)
    obtain ⟨a4, e4, ha4⟩ := Typ.inv_i64 rfl (h.field rfl 4 4 1 3 rfl)
    cases (show [c4] = [i64 a4] from e4)
    exact ⟨a0, a1, a2, a3, a4, rfl, ha0, ha1, ha2, ha3, ha4⟩
abbrev C96 : List Value → Prop := fun xs => ∃ a b, xs = a ++ b ∧ CBool a ∧ (fun xs => ∃ a b, xs = a ++ b ∧ CInt a ∧ (fun xs => ∃ a b, xs = a ++ b ∧ CInt a ∧ (fun xs => ∃ a b, xs = a ++ b ∧ CInt a ∧ (fun xs => ∃ a b, xs = a ++ b ∧ CInt a ∧ (fun xs => xs = []) b) b) b) b) b
theorem eqin96 : EqIn Try.prog 2 96 T96 C96 := EqIn.str rfl rfl (by kernel_rfl) (.cons (TF := T4) (by decide) rfl tok4 (by decide) (EqIn.mono (EqIn.bool rfl rfl rfl) (Nat.le_of_ble_eq_true rfl)) (.cons (TF := T3) (by decide) rfl tok3 (by decide) (EqIn.mono (EqIn.int rfl rfl rfl) (Nat.le_of_ble_eq_true rfl)) (.cons (TF := T3) (by decide) rfl tok3 (by decide) (EqIn.mono (EqIn.int rfl rfl rfl) (Nat.le_of_ble_eq_true rfl)) (.cons (TF := T3) (by decide) rfl tok3 (by decide) (EqIn.mono (EqIn.int rfl rfl rfl) (Nat.le_of_ble_eq_true rfl)) (.cons (TF := T3) (by decide) rfl tok3 (by decide) (EqIn.mono (EqIn.int rfl rfl rfl) (Nat.le_of_ble_eq_true rfl)) (.nil _))))))
theorem eq96 (a0 : Bool) (a1 : Int) (a2 : Int) (a3 : Int) (a4 : Int) (b0 : Bool) (b1 : Int) (b2 : Int) (b3 : Int) (b4 : Int) : EqFact Try.prog 96 [.v (.bool a0), i64 a1, i64 a2, i64 a3, i64 a4] [.v (.bool b0), i64 b1, i64 b2, i64 b3, i64 b4] (decide (a0 = b0 ∧ a1 = b1 ∧ a2 = b2 ∧ a3 = b3 ∧ a4 = b4)) := eqin96.fact (Nat.le_of_ble_eq_true rfl) rfl (by kernel_rfl) [.bool a0, iv a1, iv a2, iv a3, iv a4] [.bool b0, iv b1, iv b2, iv b3, iv b4] ⟨[.bool a0], _, rfl, ⟨a0, rfl⟩, ⟨[iv a1], _, rfl, ⟨a1, rfl⟩, ⟨[iv a2], _, rfl, ⟨a2, rfl⟩, ⟨[iv a3], _, rfl, ⟨a3, rfl⟩, ⟨[iv a4], _, rfl, ⟨a4, rfl⟩, rfl⟩⟩⟩⟩⟩ ⟨[.bool b0], _, rfl, ⟨b0, rfl⟩, ⟨[iv b1], _, rfl, ⟨b1, rfl⟩, ⟨[iv b2], _, rfl, ⟨b2, rfl⟩, ⟨[iv b3], _, rfl, ⟨b3, rfl⟩, ⟨[iv b4], _, rfl, ⟨b4, rfl⟩, rfl⟩⟩⟩⟩⟩ _ (by simp)
theorem typ96 {cs : List SV} (h : Typ Try.prog 96 cs) : ∃ a0 a1 a2 a3 a4, cs = [.v (.bool a0), i64 a1, i64 a2, i64 a3, i64 a4] ∧ a0 = a0 ∧ R64 a1 ∧ R64 a2 ∧ R64 a3 ∧ R64 a4 := by
  have hl : cs.length = 5 := (Typ.inv_str rfl h).1
  match cs, hl, h with
  | [c0, c1, c2, c3, c4], _, h =>
    obtain ⟨a0, e0, ha0⟩ := Typ.inv_bool' rfl (h.field rfl 0 0 1 4 rfl)
    cases (show [c0] = [.v (.bool a0)] from e0)
    obtain ⟨a1, e1, ha1⟩ := Typ.inv_i64 rfl (h.field rfl 1 1 1 3 rfl)
    cases (show [c1] = [i64 a1] from e1)
    obtain ⟨a2, e2, ha2⟩ := Typ.inv_i64 rfl (h.field rfl 2 2 1 3 rfl)
    cases (show [c2] = [i64 a2] from e2)
    obtain ⟨a3, e3, ha3⟩ := Typ.inv_i64 rfl (h.field rfl 3 3 1 3 rfl)
    cases (show [c3] = [i64 a3] from e3)
    obtain ⟨a4, e4, ha4⟩ := Typ.inv_i64 rfl (h.field rfl 4 4 1 3 rfl)
    cases (show [c4] = [i64 a4] from e4)
    exact ⟨a0, a1, a2, a3, a4, rfl, ha0, ha1, ha2, ha3, ha4⟩
abbrev C97 : List Value → Prop := fun xs => ∃ a b, xs = a ++ b ∧ CBool a ∧ (fun xs => ∃ a b, xs = a ++ b ∧ CInt a ∧ (fun xs => ∃ a b, xs = a ++ b ∧ CInt a ∧ (fun xs => ∃ a b, xs = a ++ b ∧ CInt a ∧ (fun xs => ∃ a b, xs = a ++ b ∧ CInt a ∧ (fun xs => xs = []) b) b) b) b) b
theorem eqin97 : EqIn Try.prog 2 97 T97 C97 := EqIn.str rfl rfl (by kernel_rfl) (.cons (TF := T4) (by decide) rfl tok4 (by decide) (EqIn.mono (EqIn.bool rfl rfl rfl) (Nat.le_of_ble_eq_true rfl)) (.cons (TF := T3) (by decide) rfl tok3 (by decide) (EqIn.mono (EqIn.int rfl rfl rfl) (Nat.le_of_ble_eq_true rfl)) (.cons (TF := T3) (by decide) rfl tok3 (by decide) (EqIn.mono (EqIn.int rfl rfl rfl) (Nat.le_of_ble_eq_true rfl)) (.cons (TF := T3) (by decide) rfl tok3 (by decide) (EqIn.mono (EqIn.int rfl rfl rfl) (Nat.le_of_ble_eq_true rfl)) (.cons (TF := T3) (by decide) rfl tok3 (by decide) (EqIn.mono (EqIn.int rfl rfl rfl) (Nat.le_of_ble_eq_true rfl)) (.nil _))))))
theorem eq97 (a0 : Bool) (a1 : Int) (a2 : Int) (a3 : Int) (a4 : Int) (b0 : Bool) (b1 : Int) (b2 : Int) (b3 : Int) (b4 : Int) : EqFact Try.prog 97 [.v (.bool a0), i64 a1, i64 a2, i64 a3, i64 a4] [.v (.bool b0), i64 b1, i64 b2, i64 b3, i64 b4] (decide (a0 = b0 ∧ a1 = b1 ∧ a2 = b2 ∧ a3 = b3 ∧ a4 = b4)) := eqin97.fact (Nat.le_of_ble_eq_true rfl) rfl (by kernel_rfl) [.bool a0, iv a1, iv a2, iv a3, iv a4] [.bool b0, iv b1, iv b2, iv b3, iv b4] ⟨[.bool a0], _, rfl, ⟨a0, rfl⟩, ⟨[iv a1], _, rfl, ⟨a1, rfl⟩, ⟨[iv a2], _, rfl, ⟨a2, rfl⟩, ⟨[iv a3], _, rfl, ⟨a3, rfl⟩, ⟨[iv a4], _, rfl, ⟨a4, rfl⟩, rfl⟩⟩⟩⟩⟩ ⟨[.bool b0], _, rfl, ⟨b0, rfl⟩, ⟨[iv b1], _, rfl, ⟨b1, rfl⟩, ⟨[iv b2], _, rfl, ⟨b2, rfl⟩, ⟨[iv b3], _, rfl, ⟨b3, rfl⟩, ⟨[iv b4], _, rfl, ⟨b4, rfl⟩, rfl⟩⟩⟩⟩⟩ _ (by simp)
theorem typ97 {cs : List SV} (h : Typ Try.prog 97 cs) : ∃ a0 a1 a2 a3 a4, cs = [.v (.bool a0), i64 a1, i64 a2, i64 a3, i64 a4] ∧ a0 = a0 ∧ R64 a1 ∧ R64 a2 ∧ R64 a3 ∧ R64 a4 := by
  have hl : cs.length = 5 := (Typ.inv_str rfl h).1
  match cs, hl, h with
  | [c0, c1, c2, c3, c4], _, h =>
    obtain ⟨a0, e0, ha0⟩ := Typ.inv_bool' rfl (h.field rfl 0 0 1 4 rfl)
    cases (show [c0] = [.v (.bool a0)] from e0)
    obtain ⟨a1, e1, ha1⟩ := Typ.inv_i64 rfl (h.field rfl 1 1 1 3 rfl)
    cases (show [c1] = [i64 a1] from e1)
    obtain ⟨a2, e2, ha2⟩ := Typ.inv_i64 rfl (h.field rfl 2 2 1 3 rfl)
    cases (show [c2] = [i64 a2] from e2)
    obtain ⟨a3, e3, ha3⟩ := Typ.inv_i64 rfl (h.field rfl 3 3 1 3 rfl)
    cases (show [c3] = [i64 a3] from e3)
    obtain ⟨a4, e4, ha4⟩ := Typ.inv_i64 rfl (h.field rfl 4 4 1 3 rfl)
    cases (show [c4] = [i64 a4] from e4)
    exact ⟨a0, a1, a2, a3, a4, rfl, ha0, ha1, ha2, ha3, ha4⟩
abbrev C104 : List Value → Prop := fun xs => ∃ a b, xs = a ++ b ∧ CInt a ∧ (fun xs => ∃ a b, xs = a ++ b ∧ CInt a ∧ (fun xs => ∃ a b, xs = a ++ b ∧ CInt a ∧ (fun xs => ∃ a b, xs = a ++ b ∧ CInt a ∧ (fun xs => xs = []) b) b) b) b
theorem eqin104 : EqIn Try.prog 2 104 T104 C104 := EqIn.str rfl rfl (by kernel_rfl) (.cons (TF := T3) (by decide) rfl tok3 (by decide) (EqIn.mono (EqIn.int rfl rfl rfl) (Nat.le_of_ble_eq_true rfl)) (.cons (TF := T3) (by decide) rfl tok3 (by decide) (EqIn.mono (EqIn.int rfl rfl rfl) (Nat.le_of_ble_eq_true rfl)) (.cons (TF := T3) (by decide) rfl tok3 (by decide) (EqIn.mono (EqIn.int rfl rfl rfl) (Nat.le_of_ble_eq_true rfl)) (.cons (TF := T3) (by decide) rfl tok3 (by decide) (EqIn.mono (EqIn.int rfl rfl rfl) (Nat.le_of_ble_eq_true rfl)) (.nil _)))))
theorem eq104 (a0 : Int) (a1 : Int) (a2 : Int) (a3 : Int) (b0 : Int) (b1 : Int) (b2 : Int) (b3 : Int) : EqFact Try.prog 104 [i64 a0, i64 a1, i64 a2, i64 a3] [i64 b0, i64 b1, i64 b2, i64 b3] (decide ([a0, a1, a2, a3] = [b0, b1, b2, b3])) := eqin104.fact (Nat.le_of_ble_eq_true rfl) rfl (by kernel_rfl) [iv a0, iv a1, iv a2, iv a3] [iv b0, iv b1, iv b2, iv b3] ⟨[iv a0], _, rfl, ⟨a0, rfl⟩, ⟨[iv a1], _, rfl, ⟨a1, rfl⟩, ⟨[iv a2], _, rfl, ⟨a2, rfl⟩, ⟨[iv a3], _, rfl, ⟨a3, rfl⟩, rfl⟩⟩⟩⟩ ⟨[iv b0], _, rfl, ⟨b0, rfl⟩, ⟨[iv b1], _, rfl, ⟨b1, rfl⟩, ⟨[iv b2], _, rfl, ⟨b2, rfl⟩, ⟨[iv b3], _, rfl, ⟨b3, rfl⟩, rfl⟩⟩⟩⟩ _ (by simp)
theorem typ104 {cs : List SV} (h : Typ Try.prog 104 cs) : ∃ a0 a1 a2 a3, cs = [i64 a0, i64 a1, i64 a2, i64 a3] ∧ R64 a0 ∧ R64 a1 ∧ R64 a2 ∧ R64 a3 := by
  have hl : cs.length = 4 := (Typ.inv_str rfl h).1
  match cs, hl, h with
  | [c0, c1, c2, c3], _, h =>
    obtain ⟨a0, e0, ha0⟩ := Typ.inv_i64 rfl (h.field rfl 0 0 1 3 rfl)
    cases (show [c0] = [i64 a0] from e0)
    obtain ⟨a1, e1, ha1⟩ := Typ.inv_i64 rfl (h.field rfl 1 1 1 3 rfl)
    cases (show [c1] = [i64 a1] from e1)
    obtain ⟨a2, e2, ha2⟩ := Typ.inv_i64 rfl (h.field rfl 2 2 1 3 rfl)
    cases (show [c2] = [i64 a2] from e2)
    obtain ⟨a3, e3, ha3⟩ := Typ.inv_i64 rfl (h.field rfl 3 3 1 3 rfl)
    cases (show [c3] = [i64 a3] from e3)
    exact ⟨a0, a1, a2, a3, rfl, ha0, ha1, ha2, ha3⟩
abbrev C105 : List Value → Prop := fun xs => ∃ a b, xs = a ++ b ∧ CInt a ∧ (fun xs => ∃ a b, xs = a ++ b ∧ CInt a ∧ (fun xs => ∃ a b, xs = a ++ b ∧ CInt a ∧ (fun xs => ∃ a b, xs = a ++ b ∧ CInt a ∧ (fun xs => xs = []) b) b) b) b
theorem eqin105 : EqIn Try.prog 2 105 T105 C105 := EqIn.str rfl rfl (by kernel_rfl) (.cons (TF := T3) (by decide) rfl tok3 (by decide) (EqIn.mono (EqIn.int rfl rfl rfl) (Nat.le_of_ble_eq_true rfl)) (.cons (TF := T3) (by decide) rfl tok3 (by decide) (EqIn.mono (EqIn.int rfl rfl rfl) (Nat.le_of_ble_eq_true rfl)) (.cons (TF := T3) (by decide) rfl tok3 (by decide) (EqIn.mono (EqIn.int rfl rfl rfl) (Nat.le_of_ble_eq_true rfl)) (.cons (TF := T3) (by decide) rfl tok3 (by decide) (EqIn.mono (EqIn.int rfl rfl rfl) (Nat.le_of_ble_eq_true rfl)) (.nil _)))))
theorem eq105 (a0 : Int) (a1 : Int) (a2 : Int) (a3 : Int) (b0 : Int) (b1 : Int) (b2 : Int) (b3 : Int) : EqFact Try.prog 105 [i64 a0, i64 a1, i64 a2, i64 a3] [i64 b0, i64 b1, i64 b2, i64 b3] (decide ([a0, a1, a2, a3] = [b0, b1, b2, b3])) := eqin105.fact (Nat.le_of_ble_eq_true rfl) rfl (by kernel_rfl) [iv a0, iv a1, iv a2, iv a3] [iv b0, iv b1, iv b2, iv b3] ⟨[iv a0], _, rfl, ⟨a0, rfl⟩, ⟨[iv a1], _, rfl, ⟨a1, rfl⟩, ⟨[iv a2], _, rfl, ⟨a2, rfl⟩, ⟨[iv a3], _, rfl, ⟨a3, rfl⟩, rfl⟩⟩⟩⟩ ⟨[iv b0], _, rfl, ⟨b0, rfl⟩, ⟨[iv b1], _, rfl, ⟨b1, rfl⟩, ⟨[iv b2], _, rfl, ⟨b2, rfl⟩, ⟨[iv b3], _, rfl, ⟨b3, rfl⟩, rfl⟩⟩⟩⟩ _ (by simp)
theorem typ105 {cs : List SV} (h : Typ Try.prog 105 cs) : ∃ a0 a1 a2 a3, cs = [i64 a0, i64 a1, i64 a2, i64 a3] ∧ R64 a0 ∧ R64 a1 ∧ R64 a2 ∧ R64 a3 := by
  have hl : cs.length = 4 := (Typ.inv_str rfl h).1
  match cs, hl, h with
  | [c0, c1, c2, c3], _, h =>
    obtain ⟨a0, e0, ha0⟩ := Typ.inv_i64 rfl (h.field rfl 0 0 1 3 rfl)
    cases (show [c0] = [i64 a0] from e0)
    obtain ⟨a1, e1, ha1⟩ := Typ.inv_i64 rfl (h.field rfl 1 1 1 3 rfl)
    cases (show [c1] = [i64 a1] from e1)
    obtain ⟨a2, e2, ha2⟩ := Typ.inv_i64 rfl (h.field rfl 2 2 1 3 rfl)
    cases (show [c2] = [i64 a2] from e2)
    obtain ⟨a3, e3, ha3⟩ := Typ.inv_i64 rfl (h.field rfl 3 3 1 3 rfl)
    cases (show [c3] = [i64 a3] from e3)
    exact ⟨a0, a1, a2, a3, rfl, ha0, ha1, ha2, ha3⟩
abbrev C111 : List Value → Prop := fun xs => ∃ a b, xs = a ++ b ∧ CInt a ∧ (fun xs => ∃ a b, xs = a ++ b ∧ CInt a ∧ (fun xs => ∃ a b, xs = a ++ b ∧ CInt a ∧ (fun xs => ∃ a b, xs = a ++ b ∧ CBool a ∧ (fun xs => xs = []) b) b) b) b
theorem eqin111 : EqIn Try.prog 2 111 T111 C111 := EqIn.str rfl rfl (by kernel_rfl) (.cons (TF := T3) (by decide) rfl tok3 (by decide) (EqIn.mono (EqIn.int rfl rfl rfl) (Nat.le_of_ble_eq_true rfl)) (.cons (TF := T3) (by decide) rfl tok3 (by decide) (EqIn.mono (EqIn.int rfl rfl rfl) (Nat.le_of_ble_eq_true rfl)) (.cons (TF := T3) (by decide) rfl tok3 (by decide) (EqIn.mono (EqIn.int rfl rfl rfl) (Nat.le_of_ble_eq_true rfl)) (.cons (TF := T4) (by decide) rfl tok4 (by decide) (EqIn.mono (EqIn.bool rfl rfl rfl) (Nat.le_of_ble_eq_true rfl)) (.nil _)))))
theorem eq111 (a0 : Int) (a1 : Int) (a2 : Int) (a3 : Bool) (b0 : Int) (b1 : Int) (b2 : Int) (b3 : Bool) : EqFact Try.prog 111 [i64 a0, i64 a1, i64 a2, .v (.bool a3)] [i64 b0, i64 b1, i64 b2, .v (.bool b3)] (decide (a0 = b0 ∧ a1 = b1 ∧ a2 = b2 ∧ a3 = b3)) := eqin111.fact (Nat.le_of_ble_eq_true rfl) rfl (by kernel_rfl) [iv a0, iv a1, iv a2, .bool a3] [iv b0, iv b1, iv b2, .bool b3] ⟨[iv a0], _, rfl, ⟨a0, rfl⟩, ⟨[iv a1], _, rfl, ⟨a1, rfl⟩, ⟨[iv a2], _, rfl, ⟨a2, rfl⟩, ⟨[.bool a3], _, rfl, ⟨a3, rfl⟩, rfl⟩⟩⟩⟩ ⟨[iv b0], _, rfl, ⟨b0, rfl⟩, ⟨[iv b1], _, rfl, ⟨b1, rfl⟩, ⟨[iv b2], _, rfl, ⟨b2, rfl⟩, ⟨[.bool b3], _, rfl, ⟨b3, rfl⟩, rfl⟩⟩⟩⟩ _ (by simp)
theorem typ111 {cs : List SV} (h : Typ Try.prog 111 cs) : ∃ a0 a1 a2 a3, cs = [i64 a0, i64 a1, i64 a2, .v (.bool a3)] ∧ R64 a0 ∧ R64 a1 ∧ R64 a2 ∧ a3 = a3 := by
  have hl : cs.length = 4 := (Typ.inv_str rfl h).1
  match cs, hl, h with
  | [c0, c1, c2, c3], _, h =>
    obtain ⟨a0, e0, ha0⟩ := Typ.inv_i64 rfl (h.field rfl 0 0 1 3 rfl)
    cases (show [c0] = [i64 a0] from e0)
    obtain ⟨a1, e1, ha1⟩ := Typ.inv_i64 rfl (h.field rfl 1 1 1 3 rfl)
    cases (show [c1] = [i64 a1] from e1)
    obtain ⟨a2, e2, ha2⟩ := Typ.inv_i64 rfl (h.field rfl 2 2 1 3 rfl)
    cases (show [c2] = [i64 a2] from e2)
    obtain ⟨a3, e3, ha3⟩ := Typ.inv_bool' rfl (h.field rfl 3 3 1 4 rfl)
    cases (show [c3] = [.v (.bool a3)] from e3)
    exact ⟨a0, a1, a2, a3, rfl, ha0, ha1, ha2, ha3⟩
abbrev C112 : List Value → Prop := fun xs => ∃ a b, xs = a ++ b ∧ CInt a ∧ (fun xs => ∃ a b, xs = a ++ b ∧ CInt a ∧ (fun xs => ∃ a b, xs = a ++ b ∧ CInt a ∧ (fun xs => ∃ a b, xs = a ++ b ∧ CBool a ∧ (fun xs => xs = []) b) b) b) b
theorem eqin112 : EqIn Try.prog 2 112 T112 C112 := EqIn.str rfl rfl (by kernel_rfl) (.cons (TF := T3) (by decide) rfl tok3 (by decide) (EqIn.mono (EqIn.int rfl rfl rfl) (Nat.le_of_ble_eq_true rfl)) (.cons (TF := T3) (by decide) rfl tok3 (by decide) (EqIn.mono (EqIn.int rfl rfl rfl) (Nat.le_of_ble_eq_true rfl)) (.cons (TF := T3) (by decide) rfl tok3 (by decide) (EqIn.mono (EqIn.int rfl rfl rfl) (Nat.le_of_ble_eq_true rfl)) (.cons (TF := T4) (by decide) rfl tok4 (by decide) (EqIn.mono (EqIn.bool rfl rfl rfl) (Nat.le_of_ble_eq_true rfl)) (.nil _)))))
theorem eq112 (a0 : Int) (a1 : Int) (a2 : Int) (a3 : Bool) (b0 : Int) (b1 : Int) (b2 : Int) (b3 : Bool) : EqFact Try.prog 112 [i64 a0, i64 a1, i64 a2, .v (.bool a3)] [i64 b0, i64 b1, i64 b2, .v (.bool b3)] (decide (a0 = b0 ∧ a1 = b1 ∧ a2 = b2 ∧ a3 = b3)) := eqin112.fact (Nat.le_of_ble_eq_true rfl) rfl (by kernel_rfl) [iv a0, iv a1, iv a2, .bool a3] [iv b0, iv b1, iv b2, .bool b3] ⟨[iv a0], _, rfl, ⟨a0, rfl⟩, ⟨[iv a1], _, rfl, ⟨a1, rfl⟩, ⟨[iv a2], _, rfl, ⟨a2, rfl⟩, ⟨[.bool a3], _, rfl, ⟨a3, rfl⟩, rfl⟩⟩⟩⟩ ⟨[iv b0], _, rfl, ⟨b0, rfl⟩, ⟨[iv b1], _, rfl, ⟨b1, rfl⟩, ⟨[iv b2], _, rfl, ⟨b2, rfl⟩, ⟨[.bool b3], _, rfl, ⟨b3, rfl⟩, rfl⟩⟩⟩⟩ _ (by simp)
theorem typ112 {cs : List SV} (h : Typ Try.prog 112 cs) : ∃ a0 a1 a2 a3, cs = [i64 a0, i64 a1, i64 a2, .v (.bool a3)] ∧ R64 a0 ∧ R64 a1 ∧ R64 a2 ∧ a3 = a3 := by
  have hl : cs.length = 4 := (Typ.inv_str rfl h).1
  match cs, hl, h with
  | [c0, c1, c2, c3], _, h =>
    obtain ⟨a0, e0, ha0⟩ := Typ.inv_i64 rfl (h.field rfl 0 0 1 3 rfl)
    cases (show [c0] = [i64 a0] from e0)
    obtain ⟨a1, e1, ha1⟩ := Typ.inv_i64 rfl (h.field rfl 1 1 1 3 rfl)
    cases (show [c1] = [i64 a1] from e1)
    obtain ⟨a2, e2, ha2⟩ := Typ.inv_i64 rfl (h.field rfl 2 2 1 3 rfl)
    cases (show [c2] = [i64 a2] from e2)
    obtain ⟨a3, e3, ha3⟩ := Typ.inv_bool' rfl (h.field rfl 3 3 1 4 rfl)
    cases (show [c3] = [.v (.bool a3)] from e3)
    exact ⟨a0, a1, a2, a3, rfl, ha0, ha1, ha2, ha3⟩
abbrev C124 : List Value → Prop := fun xs => ∃ a b, xs = a ++ b ∧ C62 a ∧ (fun xs => ∃ a b, xs = a ++ b ∧ C62 a ∧ (fun xs => xs = []) b) b
theorem eqin124 : EqIn Try.prog 3 124 T124 C124 := EqIn.str rfl rfl (by kernel_rfl) (.cons (TF := T62) (by decide) rfl tok62 (by decide) (EqIn.mono eqin62 (Nat.le_of_ble_eq_true rfl)) (.cons (TF := T62) (by decide) rfl tok62 (by decide) (EqIn.mono eqin62 (Nat.le_of_ble_eq_true rfl)) (.nil _)))
theorem eq124 (a0 : Int) (a1 : Int) (a2 : Int) (a3 : Int) (b0 : Int) (b1 : Int) (b2 : Int) (b3 : Int) : EqFact Try.prog 124 [i64 a0, i64 a1, i64 a2, i64 a3] [i64 b0, i64 b1, i64 b2, i64 b3] (decide ([a0, a1, a2, a3] = [b0, b1, b2, b3])) := eqin124.fact (Nat.le_of_ble_eq_true rfl) rfl (by kernel_rfl) [iv a0, iv a1, iv a2, iv a3] [iv b0, iv b1, iv b2, iv b3] ⟨[iv a0, iv a1], _, rfl, ⟨[iv a0], _, rfl, ⟨a0, rfl⟩, ⟨[iv a1], _, rfl, ⟨a1, rfl⟩, rfl⟩⟩, ⟨[iv a2, iv a3], _, rfl, ⟨[iv a2], _, rfl, ⟨a2, rfl⟩, ⟨[iv a3], _, rfl, ⟨a3, rfl⟩, rfl⟩⟩, rfl⟩⟩ ⟨[iv b0, iv b1], _, rfl, ⟨[iv b0], _, rfl, ⟨b0, rfl⟩, ⟨[iv b1], _, rfl, ⟨b1, rfl⟩, rfl⟩⟩, ⟨[iv b2, iv b3], _, rfl, ⟨[iv b2], _, rfl, ⟨b2, rfl⟩, ⟨[iv b3], _, rfl, ⟨b3, rfl⟩, rfl⟩⟩, rfl⟩⟩ _ (by simp)
theorem typ124 {cs : List SV} (h : Typ Try.prog 124 cs) : ∃ a0 a1 a2 a3, cs = [i64 a0, i64 a1, i64 a2, i64 a3] ∧ R64 a0 ∧ R64 a1 ∧ R64 a2 ∧ R64 a3 := by
  have hl : cs.length = 4 := (Typ.inv_str rfl h).1
  match cs, hl, h with
  | [c0, c1, c2, c3], _, h =>
    obtain ⟨a0, a1, e0, ha0, ha1⟩ := typ62 (h.field rfl 0 0 2 62 rfl)
    cases (show [c0, c1] = [i64 a0, i64 a1] from e0)
    obtain ⟨a2, a3, e1, ha2, ha3⟩ := typ62 (h.field rfl 1 2 2 62 rfl)
    cases (show [c2, c3] = [i64 a2, i64 a3] from e1)
    exact ⟨a0, a1, a2, a3, rfl, ha0, ha1, ha2, ha3⟩
abbrev C125 : List Value → Prop := fun xs => ∃ a b, xs = a ++ b ∧ C62 a ∧ (fun xs => ∃ a b, xs = a ++ b ∧ C62 a ∧ (fun xs => xs = []) b) b
theorem eqin125 : EqIn Try.prog 3 125 T125 C125 := EqIn.str rfl rfl (by kernel_rfl) (.cons (TF := T62) (by decide) rfl tok62 (by decide) (EqIn.mono eqin62 (Nat.le_of_ble_eq_true rfl)) (.cons (TF := T62) (by decide) rfl tok62 (by decide) (EqIn.mono eqin62 (Nat.le_of_ble_eq_true rfl)) (.nil _)))
theorem eq125 (a0 : Int) (a1 : Int) (a2 : Int) (a3 : Int) (b0 : Int) (b1 : Int) (b2 : Int) (b3 : Int) : EqFact Try.prog 125 [i64 a0, i64 a1, i64 a2, i64 a3] [i64 b0, i64 b1, i64 b2, i64 b3] (decide ([a0, a1, a2, a3] = [b0, b1, b2, b3])) := eqin125.fact (Nat.le_of_ble_eq_true rfl) rfl (by kernel_rfl) [iv a0, iv a1, iv a2, iv a3] [iv b0, iv b1, iv b2, iv b3] ⟨[iv a0, iv a1], _, rfl, ⟨[iv a0], _, rfl, ⟨a0, rfl⟩, ⟨[iv a1], _, rfl, ⟨a1, rfl⟩, rfl⟩⟩, ⟨[iv a2, iv a3], _, rfl, ⟨[iv a2], _, rfl, ⟨a2, rfl⟩, ⟨[iv a3], _, rfl, ⟨a3, rfl⟩, rfl⟩⟩, rfl⟩⟩ ⟨[iv b0, iv b1], _, rfl, ⟨[iv b0], _, rfl, ⟨b0, rfl⟩, ⟨[iv b1], _, rfl, ⟨b1, rfl⟩, rfl⟩⟩, ⟨[iv b2, iv b3], _, rfl, ⟨[iv b2], _, rfl, ⟨b2, rfl⟩, ⟨[iv b3], _, rfl, ⟨b3, rfl⟩, rfl⟩⟩, rfl⟩⟩ _ (by simp)
theorem typ125 {cs : List SV} (h : Typ Try.prog 125 cs) : ∃ a0 a1 a2 a3, cs = [i64 a0, i64 a1, i64 a2, i64 a3] ∧ R64 a0 ∧ R64 a1 ∧ R64 a2 ∧ R64 a3 := by
  have hl : cs.length = 4 := (Typ.inv_str rfl h).1
  match cs, hl, h with
  | [c0, c1, c2, c3], _, h =>
    obtain ⟨a0, a1, e0, ha0, ha1⟩ := typ62 (h.field rfl 0 0 2 62 rfl)
    cases (show [c0, c1] = [i64 a0, i64 a1] from e0)
    obtain ⟨a2, a3, e1, ha2, ha3⟩ := typ62 (h.field rfl 1 2 2 62 rfl)
    cases (show [c2, c3] = [i64 a2, i64 a3] from e1)
    exact ⟨a0, a1, a2, a3, rfl, ha0, ha1, ha2, ha3⟩
abbrev C133 : List Value → Prop := fun xs => ∃ a b, xs = a ++ b ∧ CInt a ∧ (fun xs => ∃ a b, xs = a ++ b ∧ CInt a ∧ (fun xs => ∃ a b, xs = a ++ b ∧ CInt a ∧ (fun xs => ∃ a b, xs = a ++ b ∧ CInt a ∧ (fun xs => xs = []) b) b) b) b
theorem eqin133 : EqIn Try.prog 2 133 T133 C133 := EqIn.str rfl rfl (by kernel_rfl) (.cons (TF := T3) (by decide) rfl tok3 (by decide) (EqIn.mono (EqIn.int rfl rfl rfl) (Nat.le_of_ble_eq_true rfl)) (.cons (TF := T3) (by decide) rfl tok3 (by decide) (EqIn.mono (EqIn.int rfl rfl rfl) (Nat.le_of_ble_eq_true rfl)) (.cons (TF := T3) (by decide) rfl tok3 (by decide) (EqIn.mono (EqIn.int rfl rfl rfl) (Nat.le_of_ble_eq_true rfl)) (.cons (TF := T3) (by decide) rfl tok3 (by decide) (EqIn.mono (EqIn.int rfl rfl rfl) (Nat.le_of_ble_eq_true rfl)) (.nil _)))))
theorem eq133 (a0 : Int) (a1 : Int) (a2 : Int) (a3 : Int) (b0 : Int) (b1 : Int) (b2 : Int) (b3 : Int) : EqFact Try.prog 133 [i64 a0, i64 a1, i64 a2, i64 a3] [i64 b0, i64 b1, i64 b2, i64 b3] (decide ([a0, a1, a2, a3] = [b0, b1, b2, b3])) := eqin133.fact (Nat.le_of_ble_eq_true rfl) rfl (by kernel_rfl) [iv a0, iv a1, iv a2, iv a3] [iv b0, iv b1, iv b2, iv b3] ⟨[iv a0], _, rfl, ⟨a0, rfl⟩, ⟨[iv a1], _, rfl, ⟨a1, rfl⟩, ⟨[iv a2], _, rfl, ⟨a2, rfl⟩, ⟨[iv a3], _, rfl, ⟨a3, rfl⟩, rfl⟩⟩⟩⟩ ⟨[iv b0], _, rfl, ⟨b0, rfl⟩, ⟨[iv b1], _, rfl, ⟨b1, rfl⟩, ⟨[iv b2], _, rfl, ⟨b2, rfl⟩, ⟨[iv b3], _, rfl, ⟨b3, rfl⟩, rfl⟩⟩⟩⟩ _ (by simp)
theorem typ133 {cs : List SV} (h : Typ Try.prog 133 cs) : ∃ a0 a1 a2 a3, cs = [i64 a0, i64 a1, i64 a2, i64 a3] ∧ R64 a0 ∧ R64 a1 ∧ R64 a2 ∧ R64 a3 := by
  have hl : cs.length = 4 := (Typ.inv_str rfl h).1
  match cs, hl, h with
  | [c0, c1, c2, c3], _, h =>
    obtain ⟨a0, e0, ha0⟩ := Typ.inv_i64 rfl (h.field rfl 0 0 1 3 rfl)
    cases (show [c0] = [i64 a0] from e0)
    obtain ⟨a1, e1, ha1⟩ := Typ.inv_i64 rfl (h.field rfl 1 1 1 3 rfl)
    cases (show [c1] = [i64 a1] from e1)
    obtain ⟨a2, e2, ha2⟩ := Typ.inv_i64 rfl (h.field rfl 2 2 1 3 rfl)
    cases (show [c2] = [i64 a2] from e2)
    obtain ⟨a3, e3, ha3⟩ := Typ.inv_i64 rfl (h.field rfl 3 3 1 3 rfl)
    cases (show [c3] = [i64 a3] from e3)
    exact ⟨a0, a1, a2, a3, rfl, ha0, ha1, ha2, ha3⟩
abbrev C134 : List Value → Prop := fun xs => ∃ a b, xs = a ++ b ∧ CInt a ∧ (fun xs => ∃ a b, xs = a ++ b ∧ CInt a ∧ (fun xs => ∃ a b, xs = a ++ b ∧ CInt a ∧ (fun xs => ∃ a b, xs = a ++ b ∧ CInt a ∧ (fun xs => xs = []) b) b) b) b
theorem eqin134 : EqIn Try.prog 2 134 T134 C134 := EqIn.str rfl rfl (by kernel_rfl) (.cons (TF := T3) (by decide) rfl tok3 (by decide) (EqIn.mono (EqIn.int rfl rfl rfl) (Nat.le_of_ble_eq_true rfl)) (.cons (TF := T3) (by decide) rfl tok3 (by decide) (EqIn.mono (EqIn.int rfl rfl rfl) (Nat.le_of_ble_eq_true rfl)) (.cons (TF := T3) (by decide) rfl tok3 (by decide) (EqIn.mono (EqIn.int rfl rfl rfl) (Nat.le_of_ble_eq_true rfl)) (.cons (TF := T3) (by decide) rfl tok3 (by decide) (EqIn.mono (EqIn.int rfl rfl rfl) (Nat.le_of_ble_eq_true rfl)) (.nil _)))))
theorem eq134 (a0 : Int) (a1 : Int) (a2 : Int) (a3 : Int) (b0 : Int) (b1 : Int) (b2 : Int) (b3 : Int) : EqFact Try.prog 134 [i64 a0, i64 a1, i64 a2, i64 a3] [i64 b0, i64 b1, i64 b2, i64 b3] (decide ([a0, a1, a2, a3] = [b0, b1, b2, b3])) := eqin134.fact (Nat.le_of_ble_eq_true rfl) rfl (by kernel_rfl) [iv a0, iv a1, iv a2, iv a3] [iv b0, iv b1, iv b2, iv b3] ⟨[iv a0], _, rfl, ⟨a0, rfl⟩, ⟨[iv a1], _, rfl, ⟨a1, rfl⟩, ⟨[iv a2], _, rfl, ⟨a2, rfl⟩, ⟨[iv a3], _, rfl, ⟨a3, rfl⟩, rfl⟩⟩⟩⟩ ⟨[iv b0], _, rfl, ⟨b0, rfl⟩, ⟨[iv b1], _, rfl, ⟨b1, rfl⟩, ⟨[iv b2], _, rfl, ⟨b2, rfl⟩, ⟨[iv b3], _, rfl, ⟨b3, rfl⟩, rfl⟩⟩⟩⟩ _ (by simp)
theorem typ134 {cs : List SV} (h : Typ Try.prog 134 cs) : ∃ a0 a1 a2 a3, cs = [i64 a0, i64 a1, i64 a2, i64 a3] ∧ R64 a0 ∧ R64 a1 ∧ R64 a2 ∧ R64 a3 := by
  have hl : cs.length = 4 := (Typ.inv_str rfl h).1
  match cs, hl, h with
  | [c0, c1, c2, c3], _, h =>
    obtain ⟨a0, e0, ha0⟩ := Typ.inv_i64 rfl (h.field rfl 0 0 1 3 rfl)
    cases (show [c0] = [i64 a0] from e0)
    obtain ⟨a1, e1, ha1⟩ := Typ.inv_i64 rfl (h.field rfl 1 1 1 3 rfl)
    cases (show [c1] = [i64 a1] from e1)
    obtain ⟨a2, e2, ha2⟩ := Typ.inv_i64 rfl (h.field rfl 2 2 1 3 rfl)
    cases (show [c2] = [i64 a2] from e2)
    obtain ⟨a3, e3, ha3⟩ := Typ.inv_i64 rfl (h.field rfl 3 3 1 3 rfl)
    cases (show [c3] = [i64 a3] from e3)
    exact ⟨a0, a1, a2, a3, rfl, ha0, ha1, ha2, ha3⟩
theorem mixed : Try.prog.follows .mixedOrders = true := by kernel_rfl
end Go.Vm
