/-
  The table of this program's types.
-/
import Derived.Test.YtlckiecpelchlaaVmQ
import Derived.Test.YtlckiecpelchlaaVmV
import Derived.Test.YtlckiecpelchlaaProg
namespace Go.Vm
set_option maxRecDepth 20000
open Go Go.RowKit Go.Proofs
def T1 : Ty := ⟨1, 8, .cell, [.v .nilFunc]⟩
theorem tok1 : TyOk Try.prog 1 T1 := ⟨⟨_, _, rfl, rfl, rfl, rfl, rfl, rfl, rfl⟩, _, rfl, rfl⟩
def T2 : Ty := ⟨1, 8, .int .i64, [.v (.int .i64 0)]⟩
theorem tok2 : TyOk Try.prog 2 T2 := ⟨⟨_, _, rfl, rfl, rfl, rfl, rfl, rfl, rfl⟩, rfl⟩
def T3 : Ty := ⟨1, 8, .int .i64, [.v (.int .i64 0)]⟩
theorem tok3 : TyOk Try.prog 3 T3 := ⟨⟨_, _, rfl, rfl, rfl, rfl, rfl, rfl, rfl⟩, rfl⟩
def T4 : Ty := ⟨1, 1, .cell, [.v (.bool false)]⟩
theorem tok4 : TyOk Try.prog 4 T4 := ⟨⟨_, _, rfl, rfl, rfl, rfl, rfl, rfl, rfl⟩, _, rfl, rfl⟩
def T5 : Ty := ⟨1, 1, .int .u8, [.v (.int .u8 0)]⟩
theorem tok5 : TyOk Try.prog 5 T5 := ⟨⟨_, _, rfl, rfl, rfl, rfl, rfl, rfl, rfl⟩, rfl⟩
def T9 : Ty := ⟨1, 16, .cell, [.v (.string ⟨#[]⟩)]⟩
theorem tok9 : TyOk Try.prog 9 T9 := ⟨⟨_, _, rfl, rfl, rfl, rfl, rfl, rfl, rfl⟩, _, rfl, rfl⟩
def T12 : Ty := ⟨1, 8, .int .u64, [.v (.int .u64 0)]⟩
theorem tok12 : TyOk Try.prog 12 T12 := ⟨⟨_, _, rfl, rfl, rfl, rfl, rfl, rfl, rfl⟩, rfl⟩
def T21 : Ty := ⟨1, 4, .int .i32, [.v (.int .i32 0)]⟩
theorem tok21 : TyOk Try.prog 21 T21 := ⟨⟨_, _, rfl, rfl, rfl, rfl, rfl, rfl, rfl⟩, rfl⟩
def T22 : Ty := ⟨1, 24, .slc 65, [.v (.slice none 0 0)]⟩
theorem tok22 : TyOk Try.prog 22 T22 := ⟨⟨_, _, rfl, rfl, rfl, rfl, rfl, rfl, rfl⟩, rfl⟩
def T23 : Ty := ⟨1, 24, .slc 38, [.v (.slice none 0 0)]⟩
theorem tok23 : TyOk Try.prog 23 T23 := ⟨⟨_, _, rfl, rfl, rfl, rfl, rfl, rfl, rfl⟩, rfl⟩
def T24 : Ty := ⟨1, 8, .cell, [.v .nilFunc]⟩
theorem tok24 : TyOk Try.prog 24 T24 := ⟨⟨_, _, rfl, rfl, rfl, rfl, rfl, rfl, rfl⟩, _, rfl, rfl⟩
def T25 : Ty := ⟨1, 24, .slc 72, [.v (.slice none 0 0)]⟩
theorem tok25 : TyOk Try.prog 25 T25 := ⟨⟨_, _, rfl, rfl, rfl, rfl, rfl, rfl, rfl⟩, rfl⟩
def T26 : Ty := ⟨1, 8, .int .i64, [.v (.int .i64 0)]⟩
theorem tok26 : TyOk Try.prog 26 T26 := ⟨⟨_, _, rfl, rfl, rfl, rfl, rfl, rfl, rfl⟩, rfl⟩
def T28 : Ty := ⟨1, 8, .cell, [.v .nilFunc]⟩
theorem tok28 : TyOk Try.prog 28 T28 := ⟨⟨_, _, rfl, rfl, rfl, rfl, rfl, rfl, rfl⟩, _, rfl, rfl⟩
def T30 : Ty := ⟨1, 8, .cell, [.v .nilFunc]⟩
theorem tok30 : TyOk Try.prog 30 T30 := ⟨⟨_, _, rfl, rfl, rfl, rfl, rfl, rfl, rfl⟩, _, rfl, rfl⟩
def T31 : Ty := ⟨1, 8, .cell, [.v .nilFunc]⟩
theorem tok31 : TyOk Try.prog 31 T31 := ⟨⟨_, _, rfl, rfl, rfl, rfl, rfl, rfl, rfl⟩, _, rfl, rfl⟩
def T32 : Ty := ⟨1, 8, .cell, [.v .nilFunc]⟩
theorem tok32 : TyOk Try.prog 32 T32 := ⟨⟨_, _, rfl, rfl, rfl, rfl, rfl, rfl, rfl⟩, _, rfl, rfl⟩
def T34 : Ty := ⟨1, 8, .cell, [.v .nilFunc]⟩
theorem tok34 : TyOk Try.prog 34 T34 := ⟨⟨_, _, rfl, rfl, rfl, rfl, rfl, rfl, rfl⟩, _, rfl, rfl⟩
def T35 : Ty := ⟨1, 8, .cell, [.v .nilFunc]⟩
theorem tok35 : TyOk Try.prog 35 T35 := ⟨⟨_, _, rfl, rfl, rfl, rfl, rfl, rfl, rfl⟩, _, rfl, rfl⟩
def T36 : Ty := ⟨1, 24, .slc 4, [.v (.slice none 0 0)]⟩
theorem tok36 : TyOk Try.prog 36 T36 := ⟨⟨_, _, rfl, rfl, rfl, rfl, rfl, rfl, rfl⟩, rfl⟩
def T37 : Ty := ⟨2, 16, .str [(0, 3, 1), (1, 4, 1)], [.v (.int .i64 0), .v (.bool false)]⟩
theorem tok37 : TyOk Try.prog 37 T37 := ⟨⟨_, _, rfl, rfl, rfl, rfl, rfl, rfl, rfl⟩, _, rfl, rfl, rfl⟩
def T38 : Ty := ⟨2, 16, .str [(0, 3, 1), (1, 4, 1)], [.v (.int .i64 0), .v (.bool false)]⟩
theorem tok38 : TyOk Try.prog 38 T38 := ⟨⟨_, _, rfl, rfl, rfl, rfl, rfl, rfl, rfl⟩, _, rfl, rfl, rfl⟩
def T40 : Ty := ⟨1, 8, .cell, [.v .nilFunc]⟩
theorem tok40 : TyOk Try.prog 40 T40 := ⟨⟨_, _, rfl, rfl, rfl, rfl, rfl, rfl, rfl⟩, _, rfl, rfl⟩
def T41 : Ty := ⟨1, 8, .cell, [.v .nilFunc]⟩
theorem tok41 : TyOk Try.prog 41 T41 := ⟨⟨_, _, rfl, rfl, rfl, rfl, rfl, rfl, rfl⟩, _, rfl, rfl⟩
def T42 : Ty := ⟨2, 16, .str [(0, 3, 1), (1, 3, 1)], [.v (.int .i64 0), .v (.int .i64 0)]⟩
theorem tok42 : TyOk Try.prog 42 T42 := ⟨⟨_, _, rfl, rfl, rfl, rfl, rfl, rfl, rfl⟩, _, rfl, rfl, rfl⟩
def T43 : Ty := ⟨2, 16, .str [(0, 3, 1), (1, 3, 1)], [.v (.int .i64 0), .v (.int .i64 0)]⟩
theorem tok43 : TyOk Try.prog 43 T43 := ⟨⟨_, _, rfl, rfl, rfl, rfl, rfl, rfl, rfl⟩, _, rfl, rfl, rfl⟩
def T44 : Ty := ⟨7, 56, .str [(0, 43, 2), (2, 43, 2), (4, 43, 2), (6, 4, 1)], [.v (.int .i64 0), .v (.int .i64 0), .v (.int .i64 0), .v (.int .i64 0), .v (.int .i64 0), .v (.int .i64 0), .v (.bool false)]⟩
theorem tok44 : TyOk Try.prog 44 T44 := ⟨⟨_, _, rfl, rfl, rfl, rfl, rfl, rfl, rfl⟩, _, rfl, rfl, rfl⟩
def T45 : Ty := ⟨7, 56, .str [(0, 43, 2), (2, 43, 2), (4, 43, 2), (6, 4, 1)], [.v (.int .i64 0), .v (.int .i64 0), .v (.int .i64 0), .v (.int .i64 0), .v (.int .i64 0), .v (.int .i64 0), .v (.bool false)]⟩
theorem tok45 : TyOk Try.prog 45 T45 := ⟨⟨_, _, rfl, rfl, rfl, rfl, rfl, rfl, rfl⟩, _, rfl, rfl, rfl⟩
def T46 : Ty := ⟨1, 24, .slc 43, [.v (.slice none 0 0)]⟩
theorem tok46 : TyOk Try.prog 46 T46 := ⟨⟨_, _, rfl, rfl, rfl, rfl, rfl, rfl, rfl⟩, rfl⟩
def T48 : Ty := ⟨1, 8, .cell, [.v .nilFunc]⟩
theorem tok48 : TyOk Try.prog 48 T48 := ⟨⟨_, _, rfl, rfl, rfl, rfl, rfl, rfl, rfl⟩, _, rfl, rfl⟩
def T49 : Ty := ⟨1, 8, .cell, [.v .nilFunc]⟩
theorem tok49 : TyOk Try.prog 49 T49 := ⟨⟨_, _, rfl, rfl, rfl, rfl, rfl, rfl, rfl⟩, _, rfl, rfl⟩
def T50 : Ty := ⟨1, 8, .cell, [.v .nilFunc]⟩
theorem tok50 : TyOk Try.prog 50 T50 := ⟨⟨_, _, rfl, rfl, rfl, rfl, rfl, rfl, rfl⟩, _, rfl, rfl⟩
def T51 : Ty := ⟨1, 8, .cell, [.v .nilFunc]⟩
theorem tok51 : TyOk Try.prog 51 T51 := ⟨⟨_, _, rfl, rfl, rfl, rfl, rfl, rfl, rfl⟩, _, rfl, rfl⟩
def T52 : Ty := ⟨1, 24, .slc 43, [.v (.slice none 0 0)]⟩
theorem tok52 : TyOk Try.prog 52 T52 := ⟨⟨_, _, rfl, rfl, rfl, rfl, rfl, rfl, rfl⟩, rfl⟩
def T54 : Ty := ⟨1, 8, .cell, [.v .nilFunc]⟩
theorem tok54 : TyOk Try.prog 54 T54 := ⟨⟨_, _, rfl, rfl, rfl, rfl, rfl, rfl, rfl⟩, _, rfl, rfl⟩
def T55 : Ty := ⟨1, 8, .cell, [.v .nilFunc]⟩
theorem tok55 : TyOk Try.prog 55 T55 := ⟨⟨_, _, rfl, rfl, rfl, rfl, rfl, rfl, rfl⟩, _, rfl, rfl⟩
def T56 : Ty := ⟨1, 8, .cell, [.v .nilFunc]⟩
theorem tok56 : TyOk Try.prog 56 T56 := ⟨⟨_, _, rfl, rfl, rfl, rfl, rfl, rfl, rfl⟩, _, rfl, rfl⟩
def T57 : Ty := ⟨1, 8, .cell, [.v .nilFunc]⟩
theorem tok57 : TyOk Try.prog 57 T57 := ⟨⟨_, _, rfl, rfl, rfl, rfl, rfl, rfl, rfl⟩, _, rfl, rfl⟩
def T58 : Ty := ⟨1, 8, .cell, [.v .nilFunc]⟩
theorem tok58 : TyOk Try.prog 58 T58 := ⟨⟨_, _, rfl, rfl, rfl, rfl, rfl, rfl, rfl⟩, _, rfl, rfl⟩
def T59 : Ty := ⟨1, 8, .cell, [.v .nilFunc]⟩
theorem tok59 : TyOk Try.prog 59 T59 := ⟨⟨_, _, rfl, rfl, rfl, rfl, rfl, rfl, rfl⟩, _, rfl, rfl⟩
def T60 : Ty := ⟨1, 8, .cell, [.v .nilFunc]⟩
theorem tok60 : TyOk Try.prog 60 T60 := ⟨⟨_, _, rfl, rfl, rfl, rfl, rfl, rfl, rfl⟩, _, rfl, rfl⟩
def T61 : Ty := ⟨1, 8, .cell, [.v .nilFunc]⟩
theorem tok61 : TyOk Try.prog 61 T61 := ⟨⟨_, _, rfl, rfl, rfl, rfl, rfl, rfl, rfl⟩, _, rfl, rfl⟩
def T62 : Ty := ⟨1, 8, .cell, [.v .nilFunc]⟩
theorem tok62 : TyOk Try.prog 62 T62 := ⟨⟨_, _, rfl, rfl, rfl, rfl, rfl, rfl, rfl⟩, _, rfl, rfl⟩
def T63 : Ty := ⟨1, 8, .cell, [.v .nilFunc]⟩
theorem tok63 : TyOk Try.prog 63 T63 := ⟨⟨_, _, rfl, rfl, rfl, rfl, rfl, rfl, rfl⟩, _, rfl, rfl⟩
def T64 : Ty := ⟨5, 56, .str [(0, 9, 1), (1, 9, 1), (2, 3, 1), (3, 3, 1), (4, 3, 1)], [.v (.string ⟨#[]⟩), .v (.string ⟨#[]⟩), .v (.int .i64 0), .v (.int .i64 0), .v (.int .i64 0)]⟩
theorem tok64 : TyOk Try.prog 64 T64 := ⟨⟨_, _, rfl, rfl, rfl, rfl, rfl, rfl, rfl⟩, _, rfl, rfl, rfl⟩
def T65 : Ty := ⟨5, 56, .str [(0, 9, 1), (1, 9, 1), (2, 3, 1), (3, 3, 1), (4, 3, 1)], [.v (.string ⟨#[]⟩), .v (.string ⟨#[]⟩), .v (.int .i64 0), .v (.int .i64 0), .v (.int .i64 0)]⟩
theorem tok65 : TyOk Try.prog 65 T65 := ⟨⟨_, _, rfl, rfl, rfl, rfl, rfl, rfl, rfl⟩, _, rfl, rfl, rfl⟩
def T66 : Ty := ⟨1, 8, .cell, [.v .nilFunc]⟩
theorem tok66 : TyOk Try.prog 66 T66 := ⟨⟨_, _, rfl, rfl, rfl, rfl, rfl, rfl, rfl⟩, _, rfl, rfl⟩
def T67 : Ty := ⟨1, 8, .cell, [.v .nilFunc]⟩
theorem tok67 : TyOk Try.prog 67 T67 := ⟨⟨_, _, rfl, rfl, rfl, rfl, rfl, rfl, rfl⟩, _, rfl, rfl⟩
def T68 : Ty := ⟨1, 8, .cell, [.v .nilFunc]⟩
theorem tok68 : TyOk Try.prog 68 T68 := ⟨⟨_, _, rfl, rfl, rfl, rfl, rfl, rfl, rfl⟩, _, rfl, rfl⟩
def T69 : Ty := ⟨1, 8, .cell, [.v .nilFunc]⟩
theorem tok69 : TyOk Try.prog 69 T69 := ⟨⟨_, _, rfl, rfl, rfl, rfl, rfl, rfl, rfl⟩, _, rfl, rfl⟩
def T70 : Ty := ⟨1, 8, .cell, [.v .nilFunc]⟩
theorem tok70 : TyOk Try.prog 70 T70 := ⟨⟨_, _, rfl, rfl, rfl, rfl, rfl, rfl, rfl⟩, _, rfl, rfl⟩
def T71 : Ty := ⟨1, 8, .cell, [.v .nilFunc]⟩
theorem tok71 : TyOk Try.prog 71 T71 := ⟨⟨_, _, rfl, rfl, rfl, rfl, rfl, rfl, rfl⟩, _, rfl, rfl⟩
def T72 : Ty := ⟨2, 16, .str [(0, 3, 1), (1, 4, 1)], [.v (.int .i64 0), .v (.bool false)]⟩
theorem tok72 : TyOk Try.prog 72 T72 := ⟨⟨_, _, rfl, rfl, rfl, rfl, rfl, rfl, rfl⟩, _, rfl, rfl, rfl⟩
def T73 : Ty := ⟨1, 8, .cell, [.v .nilFunc]⟩
theorem tok73 : TyOk Try.prog 73 T73 := ⟨⟨_, _, rfl, rfl, rfl, rfl, rfl, rfl, rfl⟩, _, rfl, rfl⟩
def T74 : Ty := ⟨1, 8, .cell, [.v .nilFunc]⟩
theorem tok74 : TyOk Try.prog 74 T74 := ⟨⟨_, _, rfl, rfl, rfl, rfl, rfl, rfl, rfl⟩, _, rfl, rfl⟩
def T75 : Ty := ⟨1, 8, .cell, [.v .nilFunc]⟩
theorem tok75 : TyOk Try.prog 75 T75 := ⟨⟨_, _, rfl, rfl, rfl, rfl, rfl, rfl, rfl⟩, _, rfl, rfl⟩
def T76 : Ty := ⟨1, 8, .cell, [.v .nilFunc]⟩
theorem tok76 : TyOk Try.prog 76 T76 := ⟨⟨_, _, rfl, rfl, rfl, rfl, rfl, rfl, rfl⟩, _, rfl, rfl⟩
def T77 : Ty := ⟨1, 8, .cell, [.v .nilFunc]⟩
theorem tok77 : TyOk Try.prog 77 T77 := ⟨⟨_, _, rfl, rfl, rfl, rfl, rfl, rfl, rfl⟩, _, rfl, rfl⟩
def T78 : Ty := ⟨1, 8, .cell, [.v .nilFunc]⟩
theorem tok78 : TyOk Try.prog 78 T78 := ⟨⟨_, _, rfl, rfl, rfl, rfl, rfl, rfl, rfl⟩, _, rfl, rfl⟩
def T79 : Ty := ⟨1, 8, .cell, [.v .nilFunc]⟩
theorem tok79 : TyOk Try.prog 79 T79 := ⟨⟨_, _, rfl, rfl, rfl, rfl, rfl, rfl, rfl⟩, _, rfl, rfl⟩
def T80 : Ty := ⟨1, 8, .cell, [.v .nilFunc]⟩
theorem tok80 : TyOk Try.prog 80 T80 := ⟨⟨_, _, rfl, rfl, rfl, rfl, rfl, rfl, rfl⟩, _, rfl, rfl⟩
def T81 : Ty := ⟨1, 8, .cell, [.v .nilFunc]⟩
theorem tok81 : TyOk Try.prog 81 T81 := ⟨⟨_, _, rfl, rfl, rfl, rfl, rfl, rfl, rfl⟩, _, rfl, rfl⟩
def T82 : Ty := ⟨6, 48, .arr 3 43, [.v (.int .i64 0), .v (.int .i64 0), .v (.int .i64 0), .v (.int .i64 0), .v (.int .i64 0), .v (.int .i64 0)]⟩
theorem tok82 : TyOk Try.prog 82 T82 := ⟨⟨_, _, rfl, rfl, rfl, rfl, rfl, rfl, rfl⟩, rfl⟩
def T83 : Ty := ⟨1, 8, .cell, [.v .nilFunc]⟩
theorem tok83 : TyOk Try.prog 83 T83 := ⟨⟨_, _, rfl, rfl, rfl, rfl, rfl, rfl, rfl⟩, _, rfl, rfl⟩
def T84 : Ty := ⟨1, 8, .cell, [.v .nilFunc]⟩
theorem tok84 : TyOk Try.prog 84 T84 := ⟨⟨_, _, rfl, rfl, rfl, rfl, rfl, rfl, rfl⟩, _, rfl, rfl⟩
def T85 : Ty := ⟨1, 8, .cell, [.v (.float .f64 0)]⟩
theorem tok85 : TyOk Try.prog 85 T85 := ⟨⟨_, _, rfl, rfl, rfl, rfl, rfl, rfl, rfl⟩, _, rfl, rfl⟩
def T86 : Ty := ⟨1, 8, .cell, [.v .nilFunc]⟩
theorem tok86 : TyOk Try.prog 86 T86 := ⟨⟨_, _, rfl, rfl, rfl, rfl, rfl, rfl, rfl⟩, _, rfl, rfl⟩
def T87 : Ty := ⟨1, 8, .cell, [.v .nilFunc]⟩
theorem tok87 : TyOk Try.prog 87 T87 := ⟨⟨_, _, rfl, rfl, rfl, rfl, rfl, rfl, rfl⟩, _, rfl, rfl⟩
def T88 : Ty := ⟨1, 8, .cell, [.v .nilFunc]⟩
theorem tok88 : TyOk Try.prog 88 T88 := ⟨⟨_, _, rfl, rfl, rfl, rfl, rfl, rfl, rfl⟩, _, rfl, rfl⟩
def T89 : Ty := ⟨1, 24, .slc 3, [.v (.slice none 0 0)]⟩
theorem tok89 : TyOk Try.prog 89 T89 := ⟨⟨_, _, rfl, rfl, rfl, rfl, rfl, rfl, rfl⟩, rfl⟩
def T91 : Ty := ⟨1, 8, .cell, [.v .nilFunc]⟩
theorem tok91 : TyOk Try.prog 91 T91 := ⟨⟨_, _, rfl, rfl, rfl, rfl, rfl, rfl, rfl⟩, _, rfl, rfl⟩
def T93 : Ty := ⟨1, 8, .cell, [.v .nilFunc]⟩
theorem tok93 : TyOk Try.prog 93 T93 := ⟨⟨_, _, rfl, rfl, rfl, rfl, rfl, rfl, rfl⟩, _, rfl, rfl⟩
def T94 : Ty := ⟨1, 8, .cell, [.v .nilFunc]⟩
theorem tok94 : TyOk Try.prog 94 T94 := ⟨⟨_, _, rfl, rfl, rfl, rfl, rfl, rfl, rfl⟩, _, rfl, rfl⟩
def T95 : Ty := ⟨1, 8, .cell, [.v .nilFunc]⟩
theorem tok95 : TyOk Try.prog 95 T95 := ⟨⟨_, _, rfl, rfl, rfl, rfl, rfl, rfl, rfl⟩, _, rfl, rfl⟩
def T97 : Ty := ⟨1, 8, .cell, [.v .nilFunc]⟩
theorem tok97 : TyOk Try.prog 97 T97 := ⟨⟨_, _, rfl, rfl, rfl, rfl, rfl, rfl, rfl⟩, _, rfl, rfl⟩
def T98 : Ty := ⟨1, 8, .cell, [.v .nilFunc]⟩
theorem tok98 : TyOk Try.prog 98 T98 := ⟨⟨_, _, rfl, rfl, rfl, rfl, rfl, rfl, rfl⟩, _, rfl, rfl⟩
def T99 : Ty := ⟨1, 8, .cell, [.v .nilFunc]⟩
theorem tok99 : TyOk Try.prog 99 T99 := ⟨⟨_, _, rfl, rfl, rfl, rfl, rfl, rfl, rfl⟩, _, rfl, rfl⟩
def T100 : Ty := ⟨1, 8, .cell, [.v .nilFunc]⟩
theorem tok100 : TyOk Try.prog 100 T100 := ⟨⟨_, _, rfl, rfl, rfl, rfl, rfl, rfl, rfl⟩, _, rfl, rfl⟩
def T101 : Ty := ⟨1, 8, .cell, [.v .nilFunc]⟩
theorem tok101 : TyOk Try.prog 101 T101 := ⟨⟨_, _, rfl, rfl, rfl, rfl, rfl, rfl, rfl⟩, _, rfl, rfl⟩
def T102 : Ty := ⟨1, 8, .cell, [.v .nilFunc]⟩
theorem tok102 : TyOk Try.prog 102 T102 := ⟨⟨_, _, rfl, rfl, rfl, rfl, rfl, rfl, rfl⟩, _, rfl, rfl⟩
def T103 : Ty := ⟨1, 8, .cell, [.v .nilFunc]⟩
theorem tok103 : TyOk Try.prog 103 T103 := ⟨⟨_, _, rfl, rfl, rfl, rfl, rfl, rfl, rfl⟩, _, rfl, rfl⟩
def T104 : Ty := ⟨1, 8, .cell, [.v .nilFunc]⟩
theorem tok104 : TyOk Try.prog 104 T104 := ⟨⟨_, _, rfl, rfl, rfl, rfl, rfl, rfl, rfl⟩, _, rfl, rfl⟩
def T105 : Ty := ⟨1, 8, .cell, [.v .nilFunc]⟩
theorem tok105 : TyOk Try.prog 105 T105 := ⟨⟨_, _, rfl, rfl, rfl, rfl, rfl, rfl, rfl⟩, _, rfl, rfl⟩
def T106 : Ty := ⟨1, 8, .cell, [.v .nilFunc]⟩
theorem tok106 : TyOk Try.prog 106 T106 := ⟨⟨_, _, rfl, rfl, rfl, rfl, rfl, rfl, rfl⟩, _, rfl, rfl⟩
def T107 : Ty := ⟨1, 8, .cell, [.v .nilFunc]⟩
theorem tok107 : TyOk Try.prog 107 T107 := ⟨⟨_, _, rfl, rfl, rfl, rfl, rfl, rfl, rfl⟩, _, rfl, rfl⟩
def T108 : Ty := ⟨1, 8, .cell, [.v .nilFunc]⟩
theorem tok108 : TyOk Try.prog 108 T108 := ⟨⟨_, _, rfl, rfl, rfl, rfl, rfl, rfl, rfl⟩, _, rfl, rfl⟩
def T109 : Ty := ⟨1, 8, .cell, [.v .nilFunc]⟩
theorem tok109 : TyOk Try.prog 109 T109 := ⟨⟨_, _, rfl, rfl, rfl, rfl, rfl, rfl, rfl⟩, _, rfl, rfl⟩
def T110 : Ty := ⟨1, 8, .cell, [.v .nilFunc]⟩
theorem tok110 : TyOk Try.prog 110 T110 := ⟨⟨_, _, rfl, rfl, rfl, rfl, rfl, rfl, rfl⟩, _, rfl, rfl⟩
def T111 : Ty := ⟨1, 8, .cell, [.v .nilFunc]⟩
theorem tok111 : TyOk Try.prog 111 T111 := ⟨⟨_, _, rfl, rfl, rfl, rfl, rfl, rfl, rfl⟩, _, rfl, rfl⟩
def T112 : Ty := ⟨1, 8, .cell, [.v .nilFunc]⟩
theorem tok112 : TyOk Try.prog 112 T112 := ⟨⟨_, _, rfl, rfl, rfl, rfl, rfl, rfl, rfl⟩, _, rfl, rfl⟩
def T113 : Ty := ⟨1, 8, .cell, [.v .nilFunc]⟩
theorem tok113 : TyOk Try.prog 113 T113 := ⟨⟨_, _, rfl, rfl, rfl, rfl, rfl, rfl, rfl⟩, _, rfl, rfl⟩
def T114 : Ty := ⟨1, 24, .slc 118, [.v (.slice none 0 0)]⟩
theorem tok114 : TyOk Try.prog 114 T114 := ⟨⟨_, _, rfl, rfl, rfl, rfl, rfl, rfl, rfl⟩, rfl⟩
def T115 : Ty := ⟨1, 8, .cell, [.v .nilFunc]⟩
theorem tok115 : TyOk Try.prog 115 T115 := ⟨⟨_, _, rfl, rfl, rfl, rfl, rfl, rfl, rfl⟩, _, rfl, rfl⟩
def T116 : Ty := ⟨1, 8, .cell, [.v .nilFunc]⟩
theorem tok116 : TyOk Try.prog 116 T116 := ⟨⟨_, _, rfl, rfl, rfl, rfl, rfl, rfl, rfl⟩, _, rfl, rfl⟩
def T117 : Ty := ⟨4, 32, .str [(0, 43, 2), (2, 43, 2)], [.v (.int .i64 0), .v (.int .i64 0), .v (.int .i64 0), .v (.int .i64 0)]⟩
theorem tok117 : TyOk Try.prog 117 T117 := ⟨⟨_, _, rfl, rfl, rfl, rfl, rfl, rfl, rfl⟩, _, rfl, rfl, rfl⟩
def T118 : Ty := ⟨4, 32, .str [(0, 43, 2), (2, 43, 2)], [.v (.int .i64 0), .v (.int .i64 0), .v (.int .i64 0), .v (.int .i64 0)]⟩
theorem tok118 : TyOk Try.prog 118 T118 := ⟨⟨_, _, rfl, rfl, rfl, rfl, rfl, rfl, rfl⟩, _, rfl, rfl, rfl⟩
def T119 : Ty := ⟨1, 8, .cell, [.v .nilFunc]⟩
theorem tok119 : TyOk Try.prog 119 T119 := ⟨⟨_, _, rfl, rfl, rfl, rfl, rfl, rfl, rfl⟩, _, rfl, rfl⟩
def T120 : Ty := ⟨1, 8, .cell, [.v .nilFunc]⟩
theorem tok120 : TyOk Try.prog 120 T120 := ⟨⟨_, _, rfl, rfl, rfl, rfl, rfl, rfl, rfl⟩, _, rfl, rfl⟩
def T121 : Ty := ⟨1, 8, .cell, [.v .nilFunc]⟩
theorem tok121 : TyOk Try.prog 121 T121 := ⟨⟨_, _, rfl, rfl, rfl, rfl, rfl, rfl, rfl⟩, _, rfl, rfl⟩
def T122 : Ty := ⟨1, 8, .cell, [.v .nilFunc]⟩
theorem tok122 : TyOk Try.prog 122 T122 := ⟨⟨_, _, rfl, rfl, rfl, rfl, rfl, rfl, rfl⟩, _, rfl, rfl⟩
def T123 : Ty := ⟨1, 8, .cell, [.v .nilFunc]⟩
theorem tok123 : TyOk Try.prog 123 T123 := ⟨⟨_, _, rfl, rfl, rfl, rfl, rfl, rfl, rfl⟩, _, rfl, rfl⟩
def T124 : Ty := ⟨3, 24, .str [(0, 3, 1), (1, 3, 1), (2, 3, 1)], [.v (.int .i64 0), .v (.int .i64 0), .v (.int .i64 0)]⟩
theorem tok124 : TyOk Try.prog 124 T124 := ⟨⟨_, _, rfl, rfl, rfl, rfl, rfl, rfl, rfl⟩, _, rfl, rfl, rfl⟩
def T125 : Ty := ⟨3, 24, .str [(0, 3, 1), (1, 3, 1), (2, 3, 1)], [.v (.int .i64 0), .v (.int .i64 0), .v (.int .i64 0)]⟩
theorem tok125 : TyOk Try.prog 125 T125 := ⟨⟨_, _, rfl, rfl, rfl, rfl, rfl, rfl, rfl⟩, _, rfl, rfl, rfl⟩
def T126 : Ty := ⟨8, 64, .str [(0, 3, 1), (1, 125, 3), (4, 118, 4)], [.v (.int .i64 0), .v (.int .i64 0), .v (.int .i64 0), .v (.int .i64 0), .v (.int .i64 0), .v (.int .i64 0), .v (.int .i64 0), .v (.int .i64 0)]⟩
theorem tok126 : TyOk Try.prog 126 T126 := ⟨⟨_, _, rfl, rfl, rfl, rfl, rfl, rfl, rfl⟩, _, rfl, rfl, rfl⟩
def T127 : Ty := ⟨8, 64, .str [(0, 3, 1), (1, 125, 3), (4, 118, 4)], [.v (.int .i64 0), .v (.int .i64 0), .v (.int .i64 0), .v (.int .i64 0), .v (.int .i64 0), .v (.int .i64 0), .v (.int .i64 0), .v (.int .i64 0)]⟩
theorem tok127 : TyOk Try.prog 127 T127 := ⟨⟨_, _, rfl, rfl, rfl, rfl, rfl, rfl, rfl⟩, _, rfl, rfl, rfl⟩
def T128 : Ty := ⟨1, 8, .cell, [.v .nilFunc]⟩
theorem tok128 : TyOk Try.prog 128 T128 := ⟨⟨_, _, rfl, rfl, rfl, rfl, rfl, rfl, rfl⟩, _, rfl, rfl⟩
def T129 : Ty := ⟨1, 8, .cell, [.v .nilFunc]⟩
theorem tok129 : TyOk Try.prog 129 T129 := ⟨⟨_, _, rfl, rfl, rfl, rfl, rfl, rfl, rfl⟩, _, rfl, rfl⟩
def T130 : Ty := ⟨1, 24, .slc 52, [.v (.slice none 0 0)]⟩
theorem tok130 : TyOk Try.prog 130 T130 := ⟨⟨_, _, rfl, rfl, rfl, rfl, rfl, rfl, rfl⟩, rfl⟩
def T131 : Ty := ⟨1, 8, .cell, [.v .nilFunc]⟩
theorem tok131 : TyOk Try.prog 131 T131 := ⟨⟨_, _, rfl, rfl, rfl, rfl, rfl, rfl, rfl⟩, _, rfl, rfl⟩
def T132 : Ty := ⟨1, 8, .cell, [.v .nilFunc]⟩
theorem tok132 : TyOk Try.prog 132 T132 := ⟨⟨_, _, rfl, rfl, rfl, rfl, rfl, rfl, rfl⟩, _, rfl, rfl⟩
def T133 : Ty := ⟨1, 8, .cell, [.v .nilFunc]⟩
theorem tok133 : TyOk Try.prog 133 T133 := ⟨⟨_, _, rfl, rfl, rfl, rfl, rfl, rfl, rfl⟩, _, rfl, rfl⟩
def T134 : Ty := ⟨1, 8, .cell, [.v .nilFunc]⟩
theorem tok134 : TyOk Try.prog 134 T134 := ⟨⟨_, _, rfl, rfl, rfl, rfl, rfl, rfl, rfl⟩, _, rfl, rfl⟩
def T135 : Ty := ⟨1, 8, .cell, [.v .nilFunc]⟩
theorem tok135 : TyOk Try.prog 135 T135 := ⟨⟨_, _, rfl, rfl, rfl, rfl, rfl, rfl, rfl⟩, _, rfl, rfl⟩
def T136 : Ty := ⟨1, 8, .cell, [.v .nilFunc]⟩
theorem tok136 : TyOk Try.prog 136 T136 := ⟨⟨_, _, rfl, rfl, rfl, rfl, rfl, rfl, rfl⟩, _, rfl, rfl⟩
def T137 : Ty := ⟨1, 8, .cell, [.v .nilFunc]⟩
theorem tok137 : TyOk Try.prog 137 T137 := ⟨⟨_, _, rfl, rfl, rfl, rfl, rfl, rfl, rfl⟩, _, rfl, rfl⟩
def T138 : Ty := ⟨8, 64, .arr 4 43, [.v (.int .i64 0), .v (.int .i64 0), .v (.int .i64 0), .v (.int .i64 0), .v (.int .i64 0), .v (.int .i64 0), .v (.int .i64 0), .v (.int .i64 0)]⟩
theorem tok138 : TyOk Try.prog 138 T138 := ⟨⟨_, _, rfl, rfl, rfl, rfl, rfl, rfl, rfl⟩, rfl⟩
def T139 : Ty := ⟨4, 32, .str [(0, 43, 2), (2, 43, 2)], [.v (.int .i64 0), .v (.int .i64 0), .v (.int .i64 0), .v (.int .i64 0)]⟩
theorem tok139 : TyOk Try.prog 139 T139 := ⟨⟨_, _, rfl, rfl, rfl, rfl, rfl, rfl, rfl⟩, _, rfl, rfl, rfl⟩
def T140 : Ty := ⟨4, 32, .str [(0, 43, 2), (2, 43, 2)], [.v (.int .i64 0), .v (.int .i64 0), .v (.int .i64 0), .v (.int .i64 0)]⟩
theorem tok140 : TyOk Try.prog 140 T140 := ⟨⟨_, _, rfl, rfl, rfl, rfl, rfl, rfl, rfl⟩, _, rfl, rfl, rfl⟩
def T142 : Ty := ⟨1, 8, .cell, [.v .nilFunc]⟩
theorem tok142 : TyOk Try.prog 142 T142 := ⟨⟨_, _, rfl, rfl, rfl, rfl, rfl, rfl, rfl⟩, _, rfl, rfl⟩
def T143 : Ty := ⟨1, 8, .cell, [.v .nilFunc]⟩
theorem tok143 : TyOk Try.prog 143 T143 := ⟨⟨_, _, rfl, rfl, rfl, rfl, rfl, rfl, rfl⟩, _, rfl, rfl⟩
def T144 : Ty := ⟨1, 8, .cell, [.v .nilFunc]⟩
theorem tok144 : TyOk Try.prog 144 T144 := ⟨⟨_, _, rfl, rfl, rfl, rfl, rfl, rfl, rfl⟩, _, rfl, rfl⟩
def T145 : Ty := ⟨1, 8, .cell, [.v .nilFunc]⟩
theorem tok145 : TyOk Try.prog 145 T145 := ⟨⟨_, _, rfl, rfl, rfl, rfl, rfl, rfl, rfl⟩, _, rfl, rfl⟩
def T151 : Ty := ⟨1, 8, .cell, [.v .nilFunc]⟩
theorem tok151 : TyOk Try.prog 151 T151 := ⟨⟨_, _, rfl, rfl, rfl, rfl, rfl, rfl, rfl⟩, _, rfl, rfl⟩
def T152 : Ty := ⟨1, 4, .int .u32, [.v (.int .u32 0)]⟩
theorem tok152 : TyOk Try.prog 152 T152 := ⟨⟨_, _, rfl, rfl, rfl, rfl, rfl, rfl, rfl⟩, rfl⟩
def T155 : Ty := ⟨1, 8, .cell, [.v .nilFunc]⟩
theorem tok155 : TyOk Try.prog 155 T155 := ⟨⟨_, _, rfl, rfl, rfl, rfl, rfl, rfl, rfl⟩, _, rfl, rfl⟩
def T156 : Ty := ⟨1, 8, .cell, [.v (.pointer none)]⟩
theorem tok156 : TyOk Try.prog 156 T156 := ⟨⟨_, _, rfl, rfl, rfl, rfl, rfl, rfl, rfl⟩, _, rfl, rfl⟩
abbrev TT : Tab := tabL [(1, T1), (2, T2), (3, T3), (4, T4), (5, T5), (9, T9), (12, T12), (21, T21), (22, T22), (23, T23), (24, T24), (25, T25), (26, T26), (28, T28), (30, T30), (31, T31), (32, T32), (34, T34), (35, T35), (36, T36), (37, T37), (38, T38), (40, T40), (41, T41), (42, T42), (43, T43), (44, T44), (45, T45), (46, T46), (48, T48), (49, T49), (50, T50), (51, T51), (52, T52), (54, T54), (55, T55), (56, T56), (57, T57), (58, T58), (59, T59), (60, T60), (61, T61), (62, T62), (63, T63), (64, T64), (65, T65), (66, T66), (67, T67), (68, T68), (69, T69), (70, T70), (71, T71), (72, T72), (73, T73), (74, T74), (75, T75), (76, T76), (77, T77), (78, T78), (79, T79), (80, T80), (81, T81), (82, T82), (83, T83), (84, T84), (85, T85), (86, T86), (87, T87), (88, T88), (89, T89), (91, T91), (93, T93), (94, T94), (95, T95), (97, T97), (98, T98), (99, T99), (100, T100), (101, T101), (102, T102), (103, T103), (104, T104), (105, T105), (106, T106), (107, T107), (108, T108), (109, T109), (110, T110), (111, T111), (112, T112), (113, T113), (114, T114), (115, T115), (116, T116), (117, T117), (118, T118), (119, T119), (120, T120), (121, T121), (122, T122), (123, T123), (124, T124), (125, T125), (126, T126), (127, T127), (128, T128), (129, T129), (130, T130), (131, T131), (132, T132), (133, T133), (134, T134), (135, T135), (136, T136), (137, T137), (138, T138), (139, T139), (140, T140), (142, T142), (143, T143), (144, T144), (145, T145), (151, T151), (152, T152), (155, T155), (156, T156)]
theorem TTok : TabOk Try.prog TT := tabL_ok (.cons tok1 ( .cons tok2 ( .cons tok3 ( .cons tok4 ( .cons tok5 ( .cons tok9 ( .cons tok12 ( .cons tok21 ( .cons tok22 ( .cons tok23 ( .cons tok24 ( .cons tok25 ( .cons tok26 ( .cons tok28 ( .cons tok30 ( .cons tok31 ( .cons tok32 ( .cons tok34 ( .cons tok35 ( .cons tok36 ( .cons tok37 ( .cons tok38 ( .cons tok40 ( .cons tok41 ( .cons tok42 ( .cons tok43 ( .cons tok44 ( .cons tok45 ( .cons tok46 ( .cons tok48 ( .cons tok49 ( .cons tok50 ( .cons tok51 ( .cons tok52 ( .cons tok54 ( .cons tok55 ( .cons tok56 ( .cons tok57 ( .cons tok58 ( .cons tok59 ( .cons tok60 ( .cons tok61 ( .cons tok62 ( .cons tok63 ( .cons tok64 ( .cons tok65 ( .cons tok66 ( .cons tok67 ( .cons tok68 ( .cons tok69 ( .cons tok70 ( .cons tok71 ( .cons tok72 ( .cons tok73 ( .cons tok74 ( .cons tok75 ( .cons tok76 ( .cons tok77 ( .cons tok78 ( .cons tok79 ( .cons tok80 ( .cons tok81 ( .cons tok82 ( .cons tok83 ( .cons tok84 ( .cons tok85 ( .cons tok86 ( .cons tok87 ( .cons tok88 ( .cons tok89 ( .cons tok91 ( .cons tok93 ( .cons tok94 ( .cons tok95 ( .cons tok97 ( .cons tok98 ( .cons tok99 ( .cons tok100 ( .cons tok101 ( .cons tok102 ( .cons tok103 ( .cons tok104 ( .cons tok105 ( .cons tok106 ( .cons tok107 ( .cons tok108 ( .cons tok109 ( .cons tok110 ( .cons tok111 ( .cons tok112 ( .cons tok113 ( .cons tok114 ( .cons tok115 ( .cons tok116 ( .cons tok117 ( .cons tok118 ( .cons tok119 ( .cons tok120 ( .cons tok121 ( .cons tok122 ( .cons tok123 ( .cons tok124 ( .cons tok125 ( .cons tok126 ( .cons tok127 ( .cons tok128 ( .cons tok129 ( .cons tok130 ( .cons tok131 ( .cons tok132 ( .cons tok133 ( .cons tok134 ( .cons tok135 ( .cons tok136 ( .cons tok137 ( .cons tok138 ( .cons tok139 ( .cons tok140 ( .cons tok142 ( .cons tok143 ( .cons tok144 ( .cons tok145 ( .cons tok151 ( .cons tok152 ( .cons tok155 ( .cons tok156 (.nil)))))))))))))))))))))))))))))))))))))))))))))))))))))))))))))))))))))))))))))))))))))))))))))))))))))))))))))))))))))))))))))))
abbrev C37 : List Value → Prop := fun xs => ∃ a b, xs = a ++ b ∧ CInt a ∧ (fun xs => ∃ a b, xs = a ++ b ∧ CBool a ∧ (fun xs => xs = []) b) b
theorem eqin37 : EqIn Try.prog 2 37 T37 C37 := EqIn.str rfl rfl (by kernel_rfl) (.cons (TF := T3) (by decide) rfl tok3 (by decide) (EqIn.mono (EqIn.int rfl rfl rfl) (Nat.le_of_ble_eq_true rfl)) (.cons (TF := T4) (by decide) rfl tok4 (by decide) (EqIn.mono (EqIn.bool rfl rfl rfl) (Nat.le_of_ble_eq_true rfl)) (.nil _)))
theorem eq37 (a0 : Int) (a1 : Bool) (b0 : Int) (b1 : Bool) : EqFact Try.prog 37 [i64 a0, .v (.bool a1)] [i64 b0, .v (.bool b1)] (decide (a0 = b0 ∧ a1 = b1)) := eqin37.fact (Nat.le_of_ble_eq_true rfl) rfl (by kernel_rfl) [iv a0, .bool a1] [iv b0, .bool b1] ⟨[iv a0], _, rfl, ⟨a0, rfl⟩, ⟨[.bool a1], _, rfl, ⟨a1, rfl⟩, rfl⟩⟩ ⟨[iv b0], _, rfl, ⟨b0, rfl⟩, ⟨[.bool b1], _, rfl, ⟨b1, rfl⟩, rfl⟩⟩ _ (by simp)
theorem typ37 {cs : List SV} (h : Typ Try.prog 37 cs) : ∃ a0 a1, cs = [i64 a0, .v (.bool a1)] ∧ R64 a0 ∧ a1 = a1 := by
  have hl : cs.length = 2 := (Typ.inv_str rfl h).1
  match cs, hl, h with
  | [c0, c1], _, h =>
    obtain ⟨a0, e0, ha0⟩ := Typ.inv_i64 rfl (h.field rfl 0 0 1 3 rfl)
    cases (show [c0] = [i64 a0] from e0)
    obtain ⟨a1, e1, ha1⟩ := Typ.inv_bool' rfl (h.field rfl 1 1 1 4 rfl)
    cases (show [c1] = [.v (.bool a1)] from e1)
    exact ⟨a0, a1, rfl, ha0, ha1⟩
abbrev C38 : List Value → Prop := fun xs => ∃ a b, xs = a ++ b ∧ CInt a ∧ (fun xs => ∃ a b, xs = a ++ b ∧ CBool a ∧ (fun xs => xs = []) b) b
theorem eqin38 : EqIn Try.prog 2 38 T38 C38 := EqIn.str rfl rfl (by kernel_rfl) (.cons (TF := T3) (by decide) rfl tok3 (by decide) (EqIn.mono (EqIn.int rfl rfl rfl) (Nat.le_of_ble_eq_true rfl)) (.cons (TF := T4) (by decide) rfl tok4 (by decide) (EqIn.mono (EqIn.bool rfl rfl rfl) (Nat.le_of_ble_eq_true rfl)) (.nil _)))
theorem eq38 (a0 : Int) (a1 : Bool) (b0 : Int) (b1 : Bool) : EqFact Try.prog 38 [i64 a0, .v (.bool a1)] [i64 b0, .v (.bool b1)] (decide (a0 = b0 ∧ a1 = b1)) := eqin38.fact (Nat.le_of_ble_eq_true rfl) rfl (by kernel_rfl) [iv a0, .bool a1] [iv b0, .bool b1] ⟨[iv a0], _, rfl, ⟨a0, rfl⟩, ⟨[.bool a1], _, rfl, ⟨a1, rfl⟩, rfl⟩⟩ ⟨[iv b0], _, rfl, ⟨b0, rfl⟩, ⟨[.bool b1], _, rfl, ⟨b1, rfl⟩, rfl⟩⟩ _ (by simp)
theorem typ38 {cs : List SV} (h : Typ Try.prog 38 cs) : ∃ a0 a1, cs = [i64 a0, .v (.bool a1)] ∧ R64 a0 ∧ a1 = a1 := by
  have hl : cs.length = 2 := (Typ.inv_str rfl h).1
  match cs, hl, h with
  | [c0, c1], _, h =>
    obtain ⟨a0, e0, ha0⟩ := Typ.inv_i64 rfl (h.field rfl 0 0 1 3 rfl)
    cases (show [c0] = [i64 a0] from e0)
    obtain ⟨a1, e1, ha1⟩ := Typ.inv_bool' rfl (h.field rfl 1 1 1 4 rfl)
    cases (show [c1] = [.v (.bool a1)] from e1)
    exact ⟨a0, a1, rfl, ha0, ha1⟩
abbrev C42 : List Value → Prop := fun xs => ∃ a b, xs = a ++ b ∧ CInt a ∧ (fun xs => ∃ a b, xs = a ++ b ∧ CInt a ∧ (fun xs => xs = []) b) b
theorem eqin42 : EqIn Try.prog 2 42 T42 C42 := EqIn.str rfl rfl (by kernel_rfl) (.cons (TF := T3) (by decide) rfl tok3 (by decide) (EqIn.mono (EqIn.int rfl rfl rfl) (Nat.le_of_ble_eq_true rfl)) (.cons (TF := T3) (by decide) rfl tok3 (by decide) (EqIn.mono (EqIn.int rfl rfl rfl) (Nat.le_of_ble_eq_true rfl)) (.nil _)))
theorem eq42 (a0 : Int) (a1 : Int) (b0 : Int) (b1 : Int) : EqFact Try.prog 42 [i64 a0, i64 a1] [i64 b0, i64 b1] (decide ([a0, a1] = [b0, b1])) := eqin42.fact (Nat.le_of_ble_eq_true rfl) rfl (by kernel_rfl) [iv a0, iv a1] [iv b0, iv b1] ⟨[iv a0], _, rfl, ⟨a0, rfl⟩, ⟨[iv a1], _, rfl, ⟨a1, rfl⟩, rfl⟩⟩ ⟨[iv b0], _, rfl, ⟨b0, rfl⟩, ⟨[iv b1], _, rfl, ⟨b1, rfl⟩, rfl⟩⟩ _ (by simp)
theorem typ42 {cs : List SV} (h : Typ Try.prog 42 cs) : ∃ a0 a1, cs = [i64 a0, i64 a1] ∧ R64 a0 ∧ R64 a1 := by
  have hl : cs.length = 2 := (Typ.inv_str rfl h).1
  match cs, hl, h with
  | [c0, c1], _, h =>
    obtain ⟨a0, e0, ha0⟩ := Typ.inv_i64 rfl (h.field rfl 0 0 1 3 rfl)
    cases (show [c0] = [i64 a0] from e0)
    obtain ⟨a1, e1, ha1⟩ := Typ.inv_i64 rfl (h.field rfl 1 1 1 3 rfl)
    cases (show [c1] = [i64 a1] from e1)
    exact ⟨a0, a1, rfl, ha0, ha1⟩
abbrev C43 : List Value → Prop := fun xs => ∃ a b, xs = a ++ b ∧ CInt a ∧ (fun xs => ∃ a b, xs = a ++ b ∧ CInt a ∧ (fun xs => xs = []) b) b
theorem eqin43 : EqIn Try.prog 2 43 T43 C43 := EqIn.str rfl rfl (by kernel_rfl) (.cons (TF := T3) (by decide) rfl tok3 (by decide) (EqIn.mono (EqIn.int rfl rfl rfl) (Nat.le_of_ble_eq_true rfl)) (.cons (TF := T3) (by decide) rfl tok3 (by decide) (EqIn.mono (EqIn.int rfl rfl rfl) (Nat.le_of_ble_eq_true rfl)) (.nil _)))
theorem eq43 (a0 : Int) (a1 : Int) (b0 : Int) (b1 : Int) : EqFact Try.prog 43 [i64 a0, i64 a1] [i64 b0, i64 b1] (decide ([a0, a1] = [b0, b1])) := eqin43.fact (Nat.le_of_ble_eq_true rfl) rfl (by kernel_rfl) [iv a0, iv a1] [iv b0, iv b1] ⟨[iv a0], _, rfl, ⟨a0, rfl⟩, ⟨[iv a1], _, rfl, ⟨a1, rfl⟩, rfl⟩⟩ ⟨[iv b0], _, rfl, ⟨b0, rfl⟩, ⟨[iv b1], _, rfl, ⟨b1, rfl⟩, rfl⟩⟩ _ (by simp)
theorem typ43 {cs : List SV} (h : Typ Try.prog 43 cs) : ∃ a0 a1, cs = [i64 a0, i64 a1] ∧ R64 a0 ∧ R64 a1 := by
  have hl : cs.length = 2 := (Typ.inv_str rfl h).1
  match cs, hl, h with
  | [c0, c1], _, h =>
    obtain ⟨a0, e0, ha0⟩ := Typ.inv_i64 rfl (h.field rfl 0 0 1 3 rfl)
    cases (show [c0] = [i64 a0] from e0)
    obtain ⟨a1, e1, ha1⟩ := Typ.inv_i64 rfl (h.field rfl 1 1 1 3 rfl)
    cases (show [c1] = [i64 a1] from e1)
    exact ⟨a0, a1, rfl, ha0, ha1⟩
abbrev C44 : List Value → Prop := fun xs => ∃ a b, xs = a ++ b ∧ C43 a ∧ (fun xs => ∃ a b, xs = a ++ b ∧ C43 a ∧ (fun xs => ∃ a b, xs = a ++ b ∧ C43 a ∧ (fun xs => ∃ a b, xs = a ++ b ∧ CBool a ∧ (fun xs => xs = []) b) b) b) b
theorem eqin44 : EqIn Try.prog 3 44 T44 C44 := EqIn.str rfl rfl (by kernel_rfl) (.cons (TF := T43) (by decide) rfl tok43 (by decide) (EqIn.mono eqin43 (Nat.le_of_ble_eq_true rfl)) (.cons (TF := T43) (by decide) rfl tok43 (by decide) (EqIn.mono eqin43 (Nat.le_of_ble_eq_true rfl)) (.cons (TF := T43) (by decide) rfl tok43 (by decide) (EqIn.mono eqin43 (Nat.le_of_ble_eq_true rfl)) (.cons (TF := T4) (by decide) rfl tok4 (by decide) (EqIn.mono (EqIn.bool rfl rfl rfl) (Nat.le_of_ble_eq_true rfl)) (.nil _)))))
theorem eq44 (a0 : Int) (a1 : Int) (a2 : Int) (a3 : Int) (a4 : Int) (a5 : Int) (a6 : Bool) (b0 : Int) (b1 : Int) (b2 : Int) (b3 : Int) (b4 : Int) (b5 : Int) (b6 : Bool) : EqFact Try.prog 44 [i64 a0, i64 a1, i64 a2, i64 a3, i64 a4, i64 a5, .v (.bool a6)] [i64 b0, i64 b1, i64 b2, i64 b3, i64 b4, i64 b5, .v (.bool b6)] (decide (a0 = b0 ∧ a1 = b1 ∧ a2 = b2 ∧ a3 = b3 ∧ a4 = b4 ∧ a5 = b5 ∧ a6 = b6)) := eqin44.fact (Nat.le_of_ble_eq_true rfl) rfl (by kernel_rfl) [iv a0, iv a1, iv a2, iv a3, iv a4, iv a5, .bool a6] [iv b0, iv b1, iv b2, iv b3, iv b4, iv b5, .bool b6] ⟨[iv a0, iv a1], _, rfl, ⟨[iv a0], _, rfl, ⟨a0, rfl⟩, ⟨[iv a1], _, rfl, ⟨a1, rfl⟩, rfl⟩⟩, ⟨[iv a2, iv a3], _, rfl, ⟨[iv a2], _, rfl, ⟨a2, rfl⟩, ⟨[iv a3], _, rfl, ⟨a3, rfl⟩, rfl⟩⟩, ⟨[iv a4, iv a5], _, rfl, ⟨[iv a4], _, rfl, ⟨a4, rfl⟩, ⟨[iv a5], _, rfl, ⟨a5, rfl⟩, rfl⟩⟩, ⟨[.bool a6], _, rfl, ⟨a6, rfl⟩, rfl⟩⟩⟩⟩ ⟨[iv b0, iv b1], _, rfl, ⟨[iv b0], _, rfl, ⟨b0, rfl⟩, ⟨[iv b1], _, rfl, ⟨b1, rfl⟩, rfl⟩⟩, ⟨[iv b2, iv b3], _, rfl, ⟨[iv b2], _, rfl, ⟨b2, rfl⟩, ⟨[iv b3], _, rfl, ⟨b3, rfl⟩, rfl⟩⟩, ⟨[iv b4, iv b5], _, rfl, ⟨[iv b4], _, rfl, ⟨b4, rfl⟩, ⟨[iv b5], _, rfl, ⟨b5, rfl⟩, rfl⟩⟩, ⟨[.bool b6], _, rfl, ⟨b6, rfl⟩, rfl⟩⟩⟩⟩ _ (by simp)
theorem typ44 {cs : List SV} (h : Typ Try.prog 44 cs) : ∃ a0 a1 a2 a3 a4 a5 a6, cs = [i64 a0, i64 a1, i64 a2, i64 a3, i64 a4, i64 a5, .v (.bool a6)] ∧ R64 a0 ∧ R64 a1 ∧ R64 a2 ∧ R64 a3 ∧ R64 a4 ∧ R64 a5 ∧ a6 = a6 := by
  have hl : cs.length = 7 := (Typ.inv_str rfl h).1
  match cs, hl, h with
  | [c0, c1, c2, c3, c4, c5, c6], _, h =>
    obtain ⟨a0, a1, e0, ha0, ha1⟩ := typ43 (h.field rfl 0 0 2 43 rfl)
    cases (show [c0, c1] = [i64 a0, i64 a1] from e0)
    obtain ⟨a2, a3, e1, ha2, ha3⟩ := typ43 (h.field rfl 1 2 2 43 rfl)
    cases (show [c2, c3] = [i64 a2, i64 a3] from e1)
    obtain ⟨a4, a5, e2, ha4, ha5⟩ := typ43 (h.field rfl 2 4 2 43 rfl)
    cases (show [c4, c5] = [i64 a4, i64 a5] from e2)
    obtain ⟨a6, e3, ha6⟩ := Typ.inv_bool' rfl (h.field rfl 3 6 1 4 rfl)
    cases (show [c6] = [.v (.bool a6)] from e3)
    exact ⟨a0, a1, a2, a3, a4, a5, a6, rfl, ha0, ha1, ha2, ha3, ha4, ha5, ha6⟩
abbrev C45 : List Value → Prop := fun xs => ∃ a b, xs = a ++ b ∧ C43 a ∧ (fun xs => ∃ a b, xs = a ++ b ∧ C43 a ∧ (fun xs => ∃ a b, xs = a ++ b ∧ C43 a ∧ (fun xs => ∃ a b, xs = a ++ b ∧ CBool a ∧ (fun xs => xs = []) b) b) b) b
theorem eqin45 : EqIn Try.prog 3 45 T45 C45 := EqIn.str rfl rfl (by kernel_rfl) (.cons (TF := T43) (by decide) rfl tok43 (by decide) (EqIn.mono eqin43 (Nat.le_of_ble_eq_true rfl)) (.cons (TF := T43) (by decide) rfl tok43 (by decide) (EqIn.mono eqin43 (Nat.le_of_ble_eq_true rfl)) (.cons (TF := T43) (by decide) rfl tok43 (by decide) (EqIn.mono eqin43 (Nat.le_of_ble_eq_true rfl)) (.cons (TF := T4) (by decide) rfl tok4 (by decide) (EqIn.mono (EqIn.bool rfl rfl rfl) (Nat.le_of_ble_eq_true rfl)) (.nil _)))))
theorem eq45 (a0 : Int) (a1 : Int) (a2 : Int) (a3 : Int) (a4 : Int) (a5 : Int) (a6 : Bool) (b0 : Int) (b1 : Int) (b2 : Int) (b3 : Int) (b4 : Int) (b5 : Int) (b6 : Bool) : EqFact Try.prog 45 [i64 a0, i64 a1, i64 a2, i64 a3, i64 a4, i64 a5, .v (.bool a6)] [i64 b0, i64 b1, i64 b2, i64 b3, i64 b4, i64 b5, .v (.bool b6)] (decide (a0 = b0 ∧ a1 = b1 ∧ a2 = b2 ∧ a3 = b3 ∧ a4 = b4 ∧ a5 = b5 ∧ a6 = b6)) := eqin45.fact (Nat.le_of_ble_eq_true rfl) rfl (by kernel_rfl) [iv a0, iv a1, iv a2, iv a3, iv a4, iv a5, .bool a6] [iv b0, iv b1, iv b2, iv b3, iv b4, iv b5, .bool b6] ⟨[iv a0, iv a1], _, rfl, ⟨[iv a0], _, rfl, ⟨a0, rfl⟩, ⟨[iv a1], _, rfl, ⟨a1, rfl⟩, rfl⟩⟩, ⟨[iv a2, iv a3], _, rfl, ⟨[iv a2], _, rfl, ⟨a2, rfl⟩, ⟨[iv a3], _, rfl, ⟨a3, rfl⟩, rfl⟩⟩, ⟨[iv a4, iv a5], _, rfl, ⟨[iv a4], _, rfl, ⟨a4, rfl⟩, ⟨[iv a5], _, rfl, ⟨a5, rfl⟩, rfl⟩⟩, ⟨[.bool a6], _, rfl, ⟨a6, rfl⟩, rfl⟩⟩⟩⟩ ⟨[iv b0, iv b1], _, rfl, ⟨[iv b0], _, rfl, ⟨b0, rfl⟩, ⟨[iv b1], _, rfl, ⟨b1, rfl⟩, rfl⟩⟩, ⟨[iv b2, iv b3], _, rfl, ⟨[iv b2], _, rfl, ⟨b2, rfl⟩, ⟨[iv b3], _, rfl, ⟨b3, rfl⟩, rfl⟩⟩, ⟨[iv b4, iv b5], _, rfl, ⟨[iv b4], _, rfl, ⟨b4, rfl⟩, ⟨[iv b5], _, rfl, ⟨b5, rfl⟩, rfl⟩⟩, ⟨[.bool b6], _, rfl, ⟨b6, rfl⟩, rfl⟩⟩⟩⟩ _ (by simp)
theorem typ45 {cs : List SV} (h : Typ Try.prog 45 cs) : ∃ a0 a1 a2 a3 a4 a5 a6, cs = [i64 a0, i64 a1, i64 a2, i64 a3, i64 a4, i64 a5, .v (.bool a6)] ∧ R64 a0 ∧ R64 a1 ∧ R64 a2 ∧ R64 a3 ∧ R64 a4 ∧ R64 a5 ∧ a6 = a6 := by
  have hl : cs.length = 7 := (Typ.inv_str rfl h).1
  match cs, hl, h with
  | [c0, c1, c2, c3, c4, c5, c6], _, h =>
    obtain ⟨a0, a1, e0, ha0, ha1⟩ := typ43 (h.field rfl 0 0 2 43 rfl)
    cases (show [c0, c1] = [i64 a0, i64 a1] from e0)
    obtain ⟨a2, a3, e1, ha2, ha3⟩ := typ43 (h.field rfl 1 2 2 43 rfl)
    cases (show [c2, c3] = [i64 a2, i64 a3] from e1)
    obtain ⟨a4, a5, e2, ha4, ha5⟩ := typ43 (h.field rfl 2 4 2 43 rfl)
    cases (show [c4, c5] = [i64 a4, i64 a5] from e2)
    obtain ⟨a6, e3, ha6⟩ := Typ.inv_bool' rfl (h.field rfl 3 6 1 4 rfl)
    cases (show [c6] = [.v (.bool a6)] from e3)
    exact ⟨a0, a1, a2, a3, a4, a5, a6, rfl, ha0, ha1, ha2, ha3, ha4, ha5, ha6⟩
abbrev C64 : List Value → Prop := fun xs => ∃ a b, xs = a ++ b ∧ CStr a ∧ (fun xs => ∃ a b, xs = a ++ b ∧ CStr a ∧ (fun xs => ∃ a b, xs = a ++ b ∧ CInt a ∧ (fun xs => ∃ a b, xs = a ++ b ∧ CInt a ∧ (fun xs => ∃ a b, xs = a ++ b ∧ CInt a ∧ (fun xs => xs = []) b) b) b) b) b
theorem eqin64 : EqIn Try.prog 2 64 T64 C64 := EqIn.str rfl rfl (by kernel_rfl) (.cons (TF := T9) (by decide) rfl tok9 (by decide) (EqIn.mono (EqIn.string rfl rfl rfl) (Nat.le_of_ble_eq_true rfl)) (.cons (TF := T9) (by decide) rfl tok9 (by decide) (EqIn.mono (EqIn.string rfl rfl rfl) (Nat.le_of_ble_eq_true rfl)) (.cons (TF := T3) (by decide) rfl tok3 (by decide) (EqIn.mono (EqIn.int rfl rfl rfl) (Nat.le_of_ble_eq_true rfl)) (.cons (TF := T3) (by decide) rfl tok3 (by decide) (EqIn.mono (EqIn.int rfl rfl rfl) (Nat.le_of_ble_eq_true rfl)) (.cons (TF := T3) (by decide) rfl tok3 (by decide) (EqIn.mono (EqIn.int rfl rfl rfl) (Nat.le_of_ble_eq_true rfl)) (.nil _))))))
theorem eq64 (a0 : ByteArray) (a1 : ByteArray) (a2 : Int) (a3 : Int) (a4 : Int) (b0 : ByteArray) (b1 : ByteArray) (b2 : Int) (b3 : Int) (b4 : Int) : EqFact Try.prog 64 [.v (.string a0), .v (.string a1), i64 a2, i64 a3, i64 a4] [.v (.string b0), .v (.string b1), i64 b2, i64 b3, i64 b4] (decide (a0 = b0 ∧ a1 = b1 ∧ a2 = b2 ∧ a3 = b3 ∧ a4 = b4)) := eqin64.fact (Nat.le_of_ble_eq_true rfl) rfl (by kernel_rfl) [.string a0, .string a1, iv a2, iv a3, iv a4] [.string b0, .string b1, iv b2, iv b3, iv b4] ⟨[.string a0], _, rfl, ⟨a0, rfl⟩, ⟨[.string a1], _, rfl, ⟨a1, rfl⟩, ⟨[iv a2], _, rfl, ⟨a2, rfl⟩, ⟨[iv a3], _, rfl, ⟨a3, rfl⟩, ⟨[iv a4], _, rfl, ⟨a4, rfl⟩, rfl⟩⟩⟩⟩⟩ ⟨[.string b0], _, rfl, ⟨b0, rfl⟩, ⟨[.string b1], _, rfl, ⟨b1, rfl⟩, ⟨[iv b2], _, rfl, ⟨b2, rfl⟩, ⟨[iv b3], _, rfl, ⟨b3, rfl⟩, ⟨[iv b4], _, rfl, ⟨b4, rfl⟩, rfl⟩⟩⟩⟩⟩ _ (by simp)
theorem typ64 {cs : List SV} (h : Typ Try.prog 64 cs) : ∃ a0 a1 a2 a3 a4, cs = [.v (.string a0), .v (.string a1), i64 a2, i64 a3, i64 a4] ∧ a0.size ≤ maxLen ∧ a1.size ≤ maxLen ∧ R64 a2 ∧ R64 a3 ∧ R64 a4 := by
  have hl : cs.length = 5 := (Typ.inv_str rfl h).1
  match cs, hl, h with
  | [c0, c1, c2, c3, c4], _, h =>
    obtain ⟨a0, e0, ha0⟩ := Typ.inv_string rfl (h.field rfl 0 0 1 9 rfl)
    cases (show [c0] = [.v (.string a0)] from e0)
    obtain ⟨a1, e1, ha1⟩ := Typ.inv_string rfl (h.field rfl 1 1 1 9 rfl)
    cases (show [c1] = [.v (.string a1)] from e1)
    obtain ⟨a2, e2, ha2⟩ := Typ.inv_i64 rfl (h.field rfl 2 2 1 3 rfl)
    cases (show [c2] = [i64 a2] from e2)
    obtain ⟨a3, e3, ha3⟩ := Typ.inv_i64 rfl (h.field rfl 3 3 1 3 rfl)
    cases (show [c3] = [i64 a3] from e3)
    obtain ⟨a4, e4, ha4⟩ := Typ.inv_i64 rfl (h.field rfl 4 4 1 3 rfl)
    cases (show [c4] = [i64 a4] from e4)
    exact ⟨a0, a1, a2, a3, a4, rfl, ha0, ha1, ha2, ha3, ha4⟩
abbrev C65 : List Value → Prop := fun xs => ∃ a b, xs = a ++ b ∧ CStr a ∧ (fun xs => ∃ a b, xs = a ++ b ∧ CStr a ∧ (fun xs => ∃ a b, xs = a ++ b ∧ CInt a ∧ (fun xs => ∃ a b, xs = a ++ b ∧ CInt a ∧ (fun xs => ∃ a b, xs = a ++ b ∧ CInt a ∧ (fun xs => xs = []) b) b) b) b) b
theorem eqin65 : EqIn Try.prog 2 65 T65 C65 := EqIn.str rfl rfl (by kernel_rfl) (.cons (TF := T9) (by decide) rfl tok9 (by decide) (EqIn.mono (EqIn.string rfl rfl rfl) (Nat.le_of_ble_eq_true rfl)) (.cons (TF := T9) (by decide) rfl tok9 (by decide) (EqIn.mono (EqIn.string rfl rfl rfl) (Nat.le_of_ble_eq_true rfl)) (.cons (TF := T3) (by decide) rfl tok3 (by decide) (EqIn.mono (EqIn.int rfl rfl rfl) (Nat.le_of_ble_eq_true rfl)) (.cons (TF := T3) (by decide) rfl tok3 (by decide) (EqIn.mono (EqIn.int rfl rfl rfl) (Nat.le_of_ble_eq_true rfl)) (.cons (TF := T3) (by decide) rfl tok3 (by decide) (EqIn.mono (EqIn.int rfl rfl rfl) (Nat.le_of_ble_eq_true rfl)) (.nil _))))))
theorem eq65 (a0 : ByteArray) (a1 : ByteArray) (a2 : Int) (a3 : Int) (a4 : Int) (b0 : ByteArray) (b1 : ByteArray) (b2 : Int) (b3 : Int) (b4 : Int) : EqFact Try.prog 65 [.v (.string a0), .v (.string a1), i64 a2, i64 a3, i64 a4] [.v (.string b0), .v (.string b1), i64 b2, i64 b3, i64 b4] (decide (a0 = b0 ∧ a1 = b1 ∧ a2 = b2 ∧ a3 = b3 ∧ a4 = b4)) := eqin65.fact (Nat.le_of_ble_eq_true rfl) rfl (by kernel_rfl) [.string a0, .string a1, iv a2, iv a3, iv a4] [.string b0, .string b1, iv b2, iv b3, iv b4] ⟨[.string a0], _, rfl, ⟨a0, rfl⟩, ⟨[.string a1], _, rfl, ⟨a1, rfl⟩, ⟨[iv a2], _, rfl, ⟨a2, rfl⟩, ⟨[iv a3], _, rfl, ⟨a3, rfl⟩, ⟨[iv a4], _, rfl, ⟨a4, rfl⟩, rfl⟩⟩⟩⟩⟩ ⟨[.string b0], _, rfl, ⟨b0, rfl⟩, ⟨[.string b1], _, rfl, ⟨b1, rfl⟩, ⟨[iv b2], _, rfl, ⟨b2, rfl⟩, ⟨[iv b3], _, rfl, ⟨b3, rfl⟩, ⟨[iv b4], _, rfl, ⟨b4, rfl⟩, rfl⟩⟩⟩⟩⟩ _ (by simp)
theorem typ65 {cs : List SV} (h : Typ Try.prog 65 cs) : ∃ a0 a1 a2 a3 a4, cs = [.v (.string a0), .v (.string a1), i64 a2, i64 a3, i64 a4] ∧ a0.size ≤ maxLen ∧ a1.size ≤ maxLen ∧ R64 a2 ∧ R64 a3 ∧ R64 a4 := by
  have hl : cs.length = 5 := (Typ.inv_str rfl h).1
  match cs, hl, h with
  | [c0, c1, c2, c3, c4], _, h =>
    obtain ⟨a0, e0, ha0⟩ := Typ.inv_string rfl (h.field rfl 0 0 1 9 rfl)
    cases (show [c0] = [.v (.string a0)] from e0)
    obtain ⟨a1, e1, ha1⟩ := Typ.inv_string rfl (h.field rfl 1 1 1 9 rfl)
    cases (show [c1] = [.v (.string a1)] from e1)
    obtain ⟨a2, e2, ha2⟩ := Typ.inv_i64 rfl (h.field rfl 2 2 1 3 rfl)
    cases (show [c2] = [i64 a2] from e2)
    obtain ⟨a3, e3, ha3⟩ := Typ.inv_i64 rfl (h.field rfl 3 3 1 3 rfl)
    cases (show [c3] = [i64 a3] from e3)
    obtain ⟨a4, e4, ha4⟩ := Typ.inv_i64 rfl (h.field rfl 4 4 1 3 rfl)
    cases (show [c4] = [i64 a4] from e4)
    exact ⟨a0, a1, a2, a3, a4, rfl, ha0, ha1, ha2, ha3, ha4⟩
abbrev C72 : List Value → Prop := fun xs => ∃ a b, xs = a ++ b ∧ CInt a ∧ (fun xs => ∃ a b, xs = a ++ b ∧ CBool a ∧ (fun xs => xs = []) b) b
theorem eqin72 : EqIn Try.prog 2 72 T72 C72 := EqIn.str rfl rfl (by kernel_rfl) (.cons (TF := T3) (by decide) rfl tok3 (by decide) (EqIn.mono (EqIn.int rfl rfl rfl) (Nat.le_of_ble_eq_true rfl)) (.cons (TF := T4) (by decide) rfl tok4 (by decide) (EqIn.mono (EqIn.bool rfl rfl rfl) (Nat.le_of_ble_eq_true rfl)) (.nil _)))
theorem eq72 (a0 : Int) (a1 : Bool) (b0 : Int) (b1 : Bool) : EqFact Try.prog 72 [i64 a0, .v (.bool a1)] [i64 b0, .v (.bool b1)] (decide (a0 = b0 ∧ a1 = b1)) := eqin72.fact (Nat.le_of_ble_eq_true rfl) rfl (by kernel_rfl) [iv a0, .bool a1] [iv b0, .bool b1] ⟨[iv a0], _, rfl, ⟨a0, rfl⟩, ⟨[.bool a1], _, rfl, ⟨a1, rfl⟩, rfl⟩⟩ ⟨[iv b0], _, rfl, ⟨b0, rfl⟩, ⟨[.bool b1], _, rfl, ⟨b1, rfl⟩, rfl⟩⟩ _ (by simp)
theorem typ72 {cs : List SV} (h : Typ Try.prog 72 cs) : ∃ a0 a1, cs = [i64 a0, .v (.bool a1)] ∧ R64 a0 ∧ a1 = a1 := by
  have hl : cs.length = 2 := (Typ.inv_str rfl h).1
  match cs, hl, h with
  | [c0, c1], _, h =>
    obtain ⟨a0, e0, ha0⟩ := Typ.inv_i64 rfl (h.field rfl 0 0 1 3 rfl)
    cases (show [c0] = [i64 a0] from e0)
    obtain ⟨a1, e1, ha1⟩ := Typ.inv_bool' rfl (h.field rfl 1 1 1 4 rfl)
    cases (show [c1] = [.v (.bool a1)] from e1)
    exact ⟨a0, a1, rfl, ha0, ha1⟩
abbrev C117 : List Value → Prop := fun xs => ∃ a b, xs = a ++ b ∧ C43 a ∧ (fun xs => ∃ a b, xs = a ++ b ∧ C43 a ∧ (fun xs => xs = []) b) b
theorem eqin117 : EqIn Try.prog 3 117 T117 C117 := EqIn.str rfl rfl (by kernel_rfl) (.cons (TF := T43) (by decide) rfl tok43 (by decide) (EqIn.mono eqin43 (Nat.le_of_ble_eq_true rfl)) (.cons (TF := T43) (by decide) rfl tok43 (by decide) (EqIn.mono eqin43 (Nat.le_of_ble_eq_true rfl)) (.nil _)))
theorem eq117 (a0 : Int) (a1 : Int) (a2 : Int) (a3 : Int) (b0 : Int) (b1 : Int) (b2 : Int) (b3 : Int) : EqFact Try.prog 117 [i64 a0, i64 a1, i64 a2, i64 a3] [i64 b0, i64 b1, i64 b2, i64 b3] (decide ([a0, a1, a2, a3] = [b0, b1, b2, b3])) := eqin117.fact (Nat.le_of_ble_eq_true rfl) rfl (by kernel_rfl) [iv a0, iv a1, iv a2, iv a3] [iv b0, iv b1, iv b2, iv b3] ⟨[iv a0, iv a1], _, rfl, ⟨[iv a0], _, rfl, ⟨a0, rfl⟩, ⟨[iv a1], _, rfl, ⟨a1, rfl⟩, rfl⟩⟩, ⟨[iv a2, iv a3], _, rfl, ⟨[iv a2], _, rfl, ⟨a2, rfl⟩, ⟨[iv a3], _, rfl, ⟨a3, rfl⟩, rfl⟩⟩, rfl⟩⟩ ⟨[iv b0, iv b1], _, rfl, ⟨[iv b0], _, rfl, ⟨b0, rfl⟩, ⟨[iv b1], _, rfl, ⟨b1, rfl⟩, rfl⟩⟩, ⟨[iv b2, iv b3], _, rfl, ⟨[iv b2], _, rfl, ⟨b2, rfl⟩, ⟨[iv b3], _, rfl, ⟨b3, rfl⟩, rfl⟩⟩, rfl⟩⟩ _ (by simp)
theorem typ117 {cs : List SV} (h : Typ Try.prog 117 cs) : ∃ a0 a1 a2 a3, cs = [i64 a0, i64 a1, i64 a2, i64 a3] ∧ R64 a0 ∧ R64 a1 ∧ R64 a2 ∧ R64 a3 := by
  have hl : cs.length = 4 := (Typ.inv_str rfl h).1
  match cs, hl, h with
  | [c0, c1, c2, c3], _, h =>
    obtain ⟨a0, a1, e0, ha0, ha1⟩ := typ43 (h.field rfl 0 0 2 43 rfl)
    cases (show [c0, c1] = [i64 a0, i64 a1] from e0)
    obtain ⟨a2, a3, e1, ha2, ha3⟩ := typ43 (h.field rfl 1 2 2 43 rfl)
    cases (show [c2, c3] = [i64 a2, i64 a3] from e1)
    exact ⟨a0, a1, a2, a3, rfl, ha0, ha1, ha2, ha3⟩
abbrev C118 : List Value → Prop := fun xs => ∃ a b, xs = a ++ b ∧ C43 a ∧ (fun xs => ∃ a b, xs = a ++ b ∧ C43 a ∧ (fun xs => xs = []) b) b
theorem eqin118 : EqIn Try.prog 3 118 T118 C118 := EqIn.str rfl rfl (by kernel_rfl) (.cons (TF := T43) (by decide) rfl tok43 (by decide) (EqIn.mono eqin43 (Nat.le_of_ble_eq_true rfl)) (.cons (TF := T43) (by decide) rfl tok43 (by decide) (EqIn.mono eqin43 (Nat.le_of_ble_eq_true rfl)) (.nil _)))
theorem eq118 (a0 : Int) (a1 : Int) (a2 : Int) (a3 : Int) (b0 : Int) (b1 : Int) (b2 : Int) (b3 : Int) : EqFact Try.prog 118 [i64 a0, i64 a1, i64 a2, i64 a3] [i64 b0, i64 b1, i64 b2, i64 b3] (decide ([a0, a1, a2, a3] = [b0, b1, b2, b3])) := eqin118.fact (Nat.le_of_ble_eq_true rfl) rfl (by kernel_rfl) [iv a0, iv a1, iv a2, iv a3] [iv b0, iv b1, iv b2, iv b3] ⟨[iv a0, iv a1], _, rfl, ⟨[iv a0], _, rfl, ⟨a0, rfl⟩, ⟨[iv a1], _, rfl, ⟨a1, rfl⟩, rfl⟩⟩, ⟨[iv a2, iv a3], _, rfl, ⟨[iv a2], _, rfl, ⟨a2, rfl⟩, ⟨[iv a3], _, rfl, ⟨a3, rfl⟩, rfl⟩⟩, rfl⟩⟩ ⟨[iv b0, iv b1], _, rfl, ⟨[iv b0], _, rfl, ⟨b0, rfl⟩, ⟨[iv b1], _, rfl, ⟨b1, rfl⟩, rfl⟩⟩, ⟨[iv b2, iv b3], _, rfl, ⟨[iv b2], _, rfl, ⟨b2, rfl⟩, ⟨[iv b3], _, rfl, ⟨b3, rfl⟩, rfl⟩⟩, rfl⟩⟩ _ (by simp)
theorem typ118 {cs : List SV} (h : Typ Try.prog 118 cs) : ∃ a0 a1 a2 a3, cs = [i64 a0, i64 a1, i64 a2, i64 a3] ∧ R64 a0 ∧ R64 a1 ∧ R64 a2 ∧ R64 a3 := by
  have hl : cs.length = 4 := (Typ.inv_str rfl h).1
  match cs, hl, h with
  | [c0, c1, c2, c3], _, h =>
    obtain ⟨a0, a1, e0, ha0, ha1⟩ := typ43 (h.field rfl 0 0 2 43 rfl)
    cases (show [c0, c1] = [i64 a0, i64 a1] from e0)
    obtain ⟨a2, a3, e1, ha2, ha3⟩ := typ43 (h.field rfl 1 2 2 43 rfl)
    cases (show [c2, c3] = [i64 a2, i64 a3] from e1)
    exact ⟨a0, a1, a2, a3, rfl, ha0, ha1, ha2, ha3⟩
abbrev C124 : List Value → Prop := fun xs => ∃ a b, xs = a ++ b ∧ CInt a ∧ (fun xs => ∃ a b, xs = a ++ b ∧ CInt a ∧ (fun xs => ∃ a b, xs = a ++ b ∧ CInt a ∧ (fun xs => xs = []) b) b) b
theorem eqin124 : EqIn Try.prog 2 124 T124 C124 := EqIn.str rfl rfl (by kernel_rfl) (.cons (TF := T3) (by decide) rfl tok3 (by decide) (EqIn.mono (EqIn.int rfl rfl rfl) (Nat.le_of_ble_eq_true rfl)) (.cons (TF := T3) (by decide) rfl tok3 (by decide) (EqIn.mono (EqIn.int rfl rfl rfl) (Nat.le_of_ble_eq_true rfl)) (.cons (TF := T3) (by decide) rfl tok3 (by decide) (EqIn.mono (EqIn.int rfl rfl rfl) (Nat.le_of_ble_eq_true rfl)) (.nil _))))
theorem eq124 (a0 : Int) (a1 : Int) (a2 : Int) (b0 : Int) (b1 : Int) (b2 : Int) : EqFact Try.prog 124 [i64 a0, i64 a1, i64 a2] [i64 b0, i64 b1, i64 b2] (decide ([a0, a1, a2] = [b0, b1, b2])) := eqin124.fact (Nat.le_of_ble_eq_true rfl) rfl (by kernel_rfl) [iv a0, iv a1, iv a2] [iv b0, iv b1, iv b2] ⟨[iv a0], _, rfl, ⟨a0, rfl⟩, ⟨[iv a1], _, rfl, ⟨a1, rfl⟩, ⟨[iv a2], _, rfl, ⟨a2, rfl⟩, rfl⟩⟩⟩ ⟨[iv b0], _, rfl, ⟨b0, rfl⟩, ⟨[iv b1], _, rfl, ⟨b1, rfl⟩, ⟨[iv b2], _, rfl, ⟨b2, rfl⟩, rfl⟩⟩⟩ _ (by simp)
theorem typ124 {cs : List SV} (h : Typ Try.prog 124 cs) : ∃ a0 a1 a2, cs = [i64 a0, i64 a1, i64 a2] ∧ R64 a0 ∧ R64 a1 ∧ R64 a2 := by
  have hl : cs.length = 3 := (Typ.inv_str rfl h).1
  match cs, hl, h with
  | [c0, c1, c2], _, h =>
    obtain ⟨a0, e0, ha0⟩ := Typ.inv_i64 rfl (h.field rfl 0 0 1 3 rfl)
    cases (show [c0] = [i64 a0] from e0)
    obtain ⟨a1, e1, ha1⟩ := Typ.inv_i64 rfl (h.field rfl 1 1 1 3 rfl)
    cases (show [c1] = [i64 a1] from e1)
    obtain ⟨a2, e2, ha2⟩ := Typ.inv_i64 rfl (h.field rfl 2 2 1 3 rfl)
    cases (show [c2] = [i64 a2] from e2)
    exact ⟨a0, a1, a2, rfl, ha0, ha1, ha2⟩
abbrev C125 : List Value → Prop := fun xs => ∃ a b, xs = a ++ b ∧ CInt a ∧ (fun xs => ∃ a b, xs = a ++ b ∧ CInt a ∧ (fun xs => ∃ a b, xs = a ++ b ∧ CInt a ∧ (fun xs => xs = []) b) b) b
theorem eqin125 : EqIn Try.prog 2 125 T125 C125 := EqIn.str rfl rfl (by kernel_rfl) (.cons (TF := T3) (by decide) rfl tok3 (by decide) (EqIn.mono (EqIn.int rfl rfl rfl) (Nat.le_of_ble_eq_true rfl)) (.cons (TF := T3) (by decide) rfl tok3 (by decide) (EqIn.mono (EqIn.int rfl rfl rfl) (Nat.le_of_ble_eq_true rfl)) (.cons (TF := T3) (by decide) rfl tok3 (by decide) (EqIn.mono (EqIn.int rfl rfl rfl) (Nat.le_of_ble_eq_true rfl)) (.nil _))))
theorem eq125 (a0 : Int) (a1 : Int) (a2 : Int) (b0 : Int) (b1 : Int) (b2 : Int) : EqFact Try.prog 125 [i64 a0, i64 a1, i64 a2] [i64 b0, i64 b1, i64 b2] (decide ([a0, a1, a2] = [b0, b1, b2])) := eqin125.fact (Nat.le_of_ble_eq_true rfl) rfl (by kernel_rfl) [iv a0, iv a1, iv a2] [iv b0, iv b1, iv b2] ⟨[iv a0], _, rfl, ⟨a0, rfl⟩, ⟨[iv a1], _, rfl, ⟨a1, rfl⟩, ⟨[iv a2], _, rfl, ⟨a2, rfl⟩, rfl⟩⟩⟩ ⟨[iv b0], _, rfl, ⟨b0, rfl⟩, ⟨[iv b1], _, rfl, ⟨b1, rfl⟩, ⟨[iv b2], _, rfl, ⟨b2, rfl⟩, rfl⟩⟩⟩ _ (by simp)
theorem typ125 {cs : List SV} (h : Typ Try.prog 125 cs) : ∃ a0 a1 a2, cs = [i64 a0, i64 a1, i64 a2] ∧ R64 a0 ∧ R64 a1 ∧ R64 a2 := by
  have hl : cs.length = 3 := (Typ.inv_str rfl h).1
  match cs, hl, h with
  | [c0, c1, c2], _, h =>
    obtain ⟨a0, e0, ha0⟩ := Typ.inv_i64 rfl (h.field rfl 0 0 1 3 rfl)
    cases (show [c0] = [i64 a0] from e0)
    obtain ⟨a1, e1, ha1⟩ := Typ.inv_i64 rfl (h.field rfl 1 1 1 3 rfl)
    cases (show [c1] = [i64 a1] from e1)
    obtain ⟨a2, e2, ha2⟩ := Typ.inv_i64 rfl (h.field rfl 2 2 1 3 rfl)
    cases (show [c2] = [i64 a2] from e2)
    exact ⟨a0, a1, a2, rfl, ha0, ha1, ha2⟩
abbrev C126 : List Value → Prop := fun xs => ∃ a b, xs = a ++ b ∧ CInt a ∧ (fun xs => ∃ a b, xs = a ++ b ∧ C125 a ∧ (fun xs => ∃ a b, xs = a ++ b ∧ C118 a ∧ (fun xs => xs = []) b) b) b
theorem eqin126 : EqIn Try.prog 4 126 T126 C126 := EqIn.str rfl rfl (by kernel_rfl) (.cons (TF := T3) (by decide) rfl tok3 (by decide) (EqIn.mono (EqIn.int rfl rfl rfl) (Nat.le_of_ble_eq_true rfl)) (.cons (TF := T125) (by decide) rfl tok125 (by decide) (EqIn.mono eqin125 (Nat.le_of_ble_eq_true rfl)) (.cons (TF := T118) (by decide) rfl tok118 (by decide) (EqIn.mono eqin118 (Nat.le_of_ble_eq_true rfl)) (.nil _))))
theorem eq126 (a0 : Int) (a1 : Int) (a2 : Int) (a3 : Int) (a4 : Int) (a5 : Int) (a6 : Int) (a7 : Int) (b0 : Int) (b1 : Int) (b2 : Int) (b3 : Int) (b4 : Int) (b5 : Int) (b6 : Int) (b7 : Int) : EqFact Try.prog 126 [i64 a0, i64 a1, i64 a2, i64 a3, i64 a4, i64 a5, i64 a6, i64 a7] [i64 b0, i64 b1, i64 b2, i64 b3, i64 b4, i64 b5, i64 b6, i64 b7] (decide ([a0, a1, a2, a3, a4, a5, a6, a7] = [b0, b1, b2, b3, b4, b5, b6, b7])) := eqin126.fact (Nat.le_of_ble_eq_true rfl) rfl (by kernel_rfl) [iv a0, iv a1, iv a2, iv a3, iv a4, iv a5, iv a6, iv a7] [iv b0, iv b1, iv b2, iv b3, iv b4, iv b5, iv b6, iv b7] ⟨[iv a0], _, rfl, ⟨a0, rfl⟩, ⟨[iv a1, iv a2, iv a3], _, rfl, ⟨[iv a1], _, rfl, ⟨a1, rfl⟩, ⟨[iv a2], _, rfl, ⟨a2, rfl⟩, ⟨[iv a3], _, rfl, ⟨a3, rfl⟩, rfl⟩⟩⟩, ⟨[iv a4, iv a5, iv a6, iv a7], _, rfl, ⟨[iv a4, iv a5], _, rfl, ⟨[iv a4], _, rfl, ⟨a4, rfl⟩, ⟨[iv a5], _, rfl, ⟨a5, rfl⟩, rfl⟩⟩, ⟨[iv a6, iv a7], _, rfl, ⟨[iv a6], _, rfl, ⟨a6, rfl⟩, ⟨[iv a7], _, rfl, ⟨a7, rfl⟩, rfl⟩⟩, rfl⟩⟩, rfl⟩⟩⟩ ⟨[iv b0], _, rfl, ⟨b0, rfl⟩, ⟨[iv b1, iv b2, iv b3], _, rfl, ⟨[iv b1], _, rfl, ⟨b1, rfl⟩, ⟨[iv b2], _, rfl, ⟨b2, rfl⟩, ⟨[iv b3], _, rfl, ⟨b3, rfl⟩, rfl⟩⟩⟩, ⟨[iv b4, iv b5, iv b6, iv b7], _, rfl, ⟨[iv b4, iv b5], _, rfl, ⟨[iv b4], _, rfl, ⟨b4, rfl⟩, ⟨[iv b5], _, rfl, ⟨b5, rfl⟩, rfl⟩⟩, ⟨[iv b6, iv b7], _, rfl, ⟨[iv b6], _, rfl, ⟨b6, rfl⟩, ⟨[iv b7], _, rfl, ⟨b7, rfl⟩, rfl⟩⟩, rfl⟩⟩, rfl⟩⟩⟩ _ (by simp)
theorem typ126 {cs : List SV} (h : Typ Try.prog 126 cs) : ∃ a0 a1 a2 a3 a4 a5 a6 a7, cs = [i64 a0, i64 a1, i64 a2, i64 a3, i64 a4, i64 a5, i64 a6, i64 a7] ∧ R64 a0 ∧ R64 a1 ∧ R64 a2 ∧ R64 a3 ∧ R64 a4 ∧ R64 a5 ∧ R64 a6 ∧ R64 a7 := by
  have hl : cs.length = 8 := (Typ.inv_str rfl h).1
  match cs, hl, h with
  | [c0, c1, c2, c3, c4, c5, c6, c7], _, h =>
    obtain ⟨a0, e0, ha0⟩ := Typ.inv_i64 rfl (h.field rfl 0 0 1 3 rfl)
    cases (show [c0] = [i64 a0] from e0)
    obtain ⟨a1, a2, a3, e1, ha1, ha2, ha3⟩ := typ125 (h.field rfl 1 1 3 125 rfl)
    cases (show [c1, c2, c3] = [i64 a1, i64 a2, i64 a3] from e1)
    obtain ⟨a4, a5, a6, a7, e2, ha4, ha5, ha6, ha7⟩ := typ118 (h.field rfl 2 4 4 118 rfl)
    cases (show [c4, c5, c6, c7] = [i64 a4, i64 a5, i64 a6, i64 a7] from e2)
    exact ⟨a0, a1, a2, a3, a4, a5, a6, a7, rfl, ha0, ha1, ha2, ha3, ha4, ha5, ha6, ha7⟩
abbrev C127 : List Value → Prop := fun xs => ∃ a b, xs = a ++ b ∧ CInt a ∧ (fun xs => ∃ a b, xs = a ++ b ∧ C125 a ∧ (fun xs => ∃ a b, xs = a ++ b ∧ C118 a ∧ (fun xs => xs = []) b) b) b
theorem eqin127 : EqIn Try.prog 4 127 T127 C127 := EqIn.str rfl rfl (by kernel_rfl) (.cons (TF := T3) (by decide) rfl tok3 (by decide) (EqIn.mono (EqIn.int rfl rfl rfl) (Nat.le_of_ble_eq_true rfl)) (.cons (TF := T125) (by decide) rfl tok125 (by decide) (EqIn.mono eqin125 (Nat.le_of_ble_eq_true rfl)) (.cons (TF := T118) (by decide) rfl tok118 (by decide) (EqIn.mono eqin118 (Nat.le_of_ble_eq_true rfl)) (.nil _))))
theorem eq127 (a0 : Int) (a1 : Int) (a2 : Int) (a3 : Int) (a4 : Int) (a5 : Int) (a6 : Int) (a7 : Int) (b0 : Int) (b1 : Int) (b2 : Int) (b3 : Int) (b4 : Int) (b5 : Int) (b6 : Int) (b7 : Int) : EqFact Try.prog 127 [i64 a0, i64 a1, i64 a2, i64 a3, i64 a4, i64 a5, i64 a6, i64 a7] [i64 b0, i64 b1, i64 b2, i64 b3, i64 b4, i64 b5, i64 b6, i64 b7] (decide ([a0, a1, a2, a3, a4, a5, a6, a7] = [b0, b1, b2, b3, b4, b5, b6, b7])) := eqin127.fact (Nat.le_of_ble_eq_true rfl) rfl (by kernel_rfl) [iv a0, iv a1, iv a2, iv a3, iv a4, iv a5, iv a6, iv a7] [iv b0, iv b1, iv b2, iv b3, iv b4, iv b5, iv b6, iv b7] ⟨[iv a0], _, rfl, ⟨a0, rfl⟩, ⟨[iv a1, iv a2, iv a3], _, rfl, ⟨[iv a1], _, rfl, ⟨a1, rfl⟩, ⟨[iv a2], _, rfl, ⟨a2, rfl⟩, ⟨[iv a3], _, rfl, ⟨a3, rfl⟩, rfl⟩⟩⟩, ⟨[iv a4, iv a5, iv a6, iv a7], _, rfl, ⟨[iv a4, iv a5], _, rfl, ⟨[iv a4], _, rfl, ⟨a4, rfl⟩, ⟨[iv a5], _, rfl, ⟨a5, rfl⟩, rfl⟩⟩, ⟨[iv a6, iv a7], _, rfl, ⟨[iv a6], _, rfl, ⟨a6, rfl⟩, ⟨[iv a7], _, rfl, ⟨a7, rfl⟩, rfl⟩⟩, rfl⟩⟩, rfl⟩⟩⟩ ⟨[iv b0], _, rfl, ⟨b0, rfl⟩, ⟨[iv b1, iv b2, iv b3], _, rfl, ⟨[iv b1], _, rfl, ⟨b1, rfl⟩, ⟨[iv b2], _, rfl, ⟨b2, rfl⟩, ⟨[iv b3], _, rfl, ⟨b3, rfl⟩, rfl⟩⟩⟩, ⟨[iv b4, iv b5, iv b6, iv b7], _, rfl, ⟨[iv b4, iv b5], _, rfl, ⟨[iv b4], _, rfl, ⟨b4, rfl⟩, ⟨[iv b5], _, rfl, ⟨b5, rfl⟩, rfl⟩⟩, ⟨[iv b6, iv b7], _, rfl, ⟨[iv b6], _, rfl, ⟨b6, rfl⟩, ⟨[iv b7], _, rfl, ⟨b7, rfl⟩, rfl⟩⟩, rfl⟩⟩, rfl⟩⟩⟩ _ (by simp)
theorem typ127 {cs : List SV} (h : Typ Try.prog 127 cs) : ∃ a0 a1 a2 a3 a4 a5 a6 a7, cs = [i64 a0, i64 a1, i64 a2, i64 a3, i64 a4, i64 a5, i64 a6, i64 a7] ∧ R64 a0 ∧ R64 a1 ∧ R64 a2 ∧ R64 a3 ∧ R64 a4 ∧ R64 a5 ∧ R64 a6 ∧ R64 a7 := by
  have hl : cs.length = 8 := (Typ.inv_str rfl h).1
  match cs, hl, h with
  | [c0, c1, c2, c3, c4, c5, c6, c7], _, h =>
    obtain ⟨a0, e0, ha0⟩ := Typ.inv_i64 rfl (h.field rfl 0 0 1 3 rfl)
    cases (show [c0] = [i64 a0] from e0)
    obtain ⟨a1, a2, a3, e1, ha1, ha2, ha3⟩ := typ125 (h.field rfl 1 1 3 125 rfl)
    cases (show [c1, c2, c3] = [i64 a1, i64 a2, i64 a3] from e1)
    obtain ⟨a4, a5, a6, a7, e2, ha4, ha5, ha6, ha7⟩ := typ118 (h.field rfl 2 4 4 118 rfl)
    cases (show [c4, c5, c6, c7] = [i64 a4, i64 a5, i64 a6, i64 a7] from e2)
    exact ⟨a0, a1, a2, a3, a4, a5, a6, a7, rfl, ha0, ha1, ha2, ha3, ha4, ha5, ha6, ha7⟩
abbrev C139 : List Value → Prop := fun xs => ∃ a b, xs = a ++ b ∧ C43 a ∧ (fun xs => ∃ a b, xs = a ++ b ∧ C43 a ∧ (fun xs => xs = []) b) b
theorem eqin139 : EqIn Try.prog 3 139 T139 C139 := EqIn.str rfl rfl (by kernel_rfl) (.cons (TF := T43) (by decide) rfl tok43 (by decide) (EqIn.mono eqin43 (Nat.le_of_ble_eq_true rfl)) (.cons (TF := T43) (by decide) rfl tok43 (by decide) (EqIn.mono eqin43 (Nat.le_of_ble_eq_true rfl)) (.nil _)))
theorem eq139 (a0 : Int) (a1 : Int) (a2 : Int) (a3 : Int) (b0 : Int) (b1 : Int) (b2 : Int) (b3 : Int) : EqFact Try.prog 139 [i64 a0, i64 a1, i64 a2, i64 a3] [i64 b0, i64 b1, i64 b2, i64 b3] (decide ([a0, a1, a2, a3] = [b0, b1, b2, b3])) := eqin139.fact (Nat.le_of_ble_eq_true rfl) rfl (by kernel_rfl) [iv a0, iv a1, iv a2, iv a3] [iv b0, iv b1, iv b2, iv b3] ⟨[iv a0, iv a1], _, rfl, ⟨[iv a0], _, rfl, ⟨a0, rfl⟩, ⟨[iv a1], _, rfl, ⟨a1, rfl⟩, rfl⟩⟩, ⟨[iv a2, iv a3], _, rfl, ⟨[iv a2], _, rfl, ⟨a2, rfl⟩, ⟨[iv a3], _, rfl, ⟨a3, rfl⟩, rfl⟩⟩, rfl⟩⟩ ⟨[iv b0, iv b1], _, rfl, ⟨[iv b0], _, rfl, ⟨b0, rfl⟩, ⟨[iv b1], _, rfl, ⟨b1, rfl⟩, rfl⟩⟩, ⟨[iv b2, iv b3], _, rfl, ⟨[iv b2], _, rfl, ⟨b2, rfl⟩, ⟨[iv b3], _, rfl, ⟨b3, rfl⟩, rfl⟩⟩, rfl⟩⟩ _ (by simp)
theorem typ139 {cs : List SV} (h : Typ Try.prog 139 cs) : ∃ a0 a1 a2 a3, cs = [i64 a0, i64 a1, i64 a2, i64 a3] ∧ R64 a0 ∧ R64 a1 ∧ R64 a2 ∧ R64 a3 := by
  have hl : cs.length = 4 := (Typ.inv_str rfl h).1
  match cs, hl, h with
  | [c0, c1, c2, c3], _, h =>
    obtain ⟨a0, a1, e0, ha0, ha1⟩ := typ43 (h.field rfl 0 0 2 43 rfl)
    cases (show [c0, c1] = [i64 a0, i64 a1] from e0)
    obtain ⟨a2, a3, e1, ha2, ha3⟩ := typ43 (h.field rfl 1 2 2 43 rfl)
    cases (show [c2, c3] = [i64 a2, i64 a3] from e1)
    exact ⟨a0, a1, a2, a3, rfl, ha0, ha1, ha2, ha3⟩
abbrev C140 : List Value → Prop := fun xs => ∃ a b, xs = a ++ b ∧ C43 a ∧ (fun xs => ∃ a b, xs = a ++ b ∧ C43 a ∧ (fun xs => xs = []) b) b
theorem eqin140 : EqIn Try.prog 3 140 T140 C140 := EqIn.str rfl rfl (by kernel_rfl) (.cons (TF := T43) (by decide) rfl tok43 (by decide) (EqIn.mono eqin43 (Nat.le_of_ble_eq_true rfl)) (.cons (TF := T43) (by decide) rfl tok43 (by decide) (EqIn.mono eqin43 (Nat.le_of_ble_eq_true rfl)) (.nil _)))
theorem eq140 (a0 : Int) (a1 : Int) (a2 : Int) (a3 : Int) (b0 : Int) (b1 : Int) (b2 : Int) (b3 : Int) : EqFact Try.prog 140 [i64 a0, i64 a1, i64 a2, i64 a3] [i64 b0, i64 b1, i64 b2, i64 b3] (decide ([a0, a1, a2, a3] = [b0, b1, b2, b3])) := eqin140.fact (Nat.le_of_ble_eq_true rfl) rfl (by kernel_rfl) [iv a0, iv a1, iv a2, iv a3] [iv b0, iv b1, iv b2, iv b3] ⟨[iv a0, iv a1], _, rfl, ⟨[iv a0], _, rfl, ⟨a0, rfl⟩, ⟨[iv a1], _, rfl, ⟨a1, rfl⟩, rfl⟩⟩, ⟨[iv a2, iv a3], _, rfl, ⟨[iv a2], _, rfl, ⟨a2, rfl⟩, ⟨[iv a3], _, rfl, ⟨a3, rfl⟩, rfl⟩⟩, rfl⟩⟩ ⟨[iv b0, iv b1], _, rfl, ⟨[iv b0], _, rfl, ⟨b0, rfl⟩, ⟨[iv b1], _, rfl, ⟨b1, rfl⟩, rfl⟩⟩, ⟨[iv b2, iv b3], _, rfl, ⟨[iv b2], _, rfl, ⟨b2, rfl⟩, ⟨[iv b3], _, rfl, ⟨b3, rfl⟩, rfl⟩⟩, rfl⟩⟩ _ (by simp)
theorem typ140 {cs : List SV} (h : Typ Try.prog 140 cs) : ∃ a0 a1 a2 a3, cs = [i64 a0, i64 a1, i64 a2, i64 a3] ∧ R64 a0 ∧ R64 a1 ∧ R64 a2 ∧ R64 a3 := by
  have hl : cs.length = 4 := (Typ.inv_str rfl h).1
  match cs, hl, h with
  | [c0, c1, c2, c3], _, h =>
    obtain ⟨a0, a1, e0, ha0, ha1⟩ := typ43 (h.field rfl 0 0 2 43 rfl)
    cases (show [c0, c1] = [i64 a0, i64 a1] from e0)
    obtain ⟨a2, a3, e1, ha2, ha3⟩ := typ43 (h.field rfl 1 2 2 43 rfl)
    cases (show [c2, c3] = [i64 a2, i64 a3] from e1)
    exact ⟨a0, a1, a2, a3, rfl, ha0, ha1, ha2, ha3⟩
theorem mixed : Try.prog.follows .mixedOrders = true := by kernel_rfl
end Go.Vm
