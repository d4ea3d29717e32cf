/-
  The table of this program's types.
-/
import Derived.Test.YtbhjhbmdgdnbeaaVmQ
import Derived.Test.YtbhjhbmdgdnbeaaProg
namespace Go.Vm
open Go Go.RowKit Go.Proofs
def T2 : Ty := ⟨1, 8, .int .i64, [.v (.int .i64 0)]⟩
theorem tok2 : TyOk Try.prog 2 T2 := ⟨⟨_, _, rfl, rfl, rfl, rfl, rfl, rfl, rfl⟩, rfl⟩
def T3 : Ty := ⟨1, 8, .int .i64, [.v (.int .i64 0)]⟩
theorem tok3 : TyOk Try.prog 3 T3 := ⟨⟨_, _, rfl, rfl, rfl, rfl, rfl, rfl, rfl⟩, rfl⟩
def T4 : Ty := ⟨1, 1, .cell, [.v (.bool false)]⟩
theorem tok4 : TyOk Try.prog 4 T4 := ⟨⟨_, _, rfl, rfl, rfl, rfl, rfl, rfl, rfl⟩, _, rfl, rfl⟩
def T5 : Ty := ⟨1, 1, .int .u8, [.v (.int .u8 0)]⟩
theorem tok5 : TyOk Try.prog 5 T5 := ⟨⟨_, _, rfl, rfl, rfl, rfl, rfl, rfl, rfl⟩, rfl⟩
def T9 : Ty := ⟨1, 16, .cell, [.v (.string ⟨#[]⟩)]⟩
theorem tok9 : TyOk Try.prog 9 T9 := ⟨⟨_, _, rfl, rfl, rfl, rfl, rfl, rfl, rfl⟩, _, rfl, rfl⟩
def T12 : Ty := ⟨1, 8, .int .u64, [.v (.int .u64 0)]⟩
theorem tok12 : TyOk Try.prog 12 T12 := ⟨⟨_, _, rfl, rfl, rfl, rfl, rfl, rfl, rfl⟩, rfl⟩
def T21 : Ty := ⟨1, 4, .int .i32, [.v (.int .i32 0)]⟩
theorem tok21 : TyOk Try.prog 21 T21 := ⟨⟨_, _, rfl, rfl, rfl, rfl, rfl, rfl, rfl⟩, rfl⟩
def T22 : Ty := ⟨2, 16, .str [(0, 3, 1), (1, 3, 1)], [.v (.int .i64 0), .v (.int .i64 0)]⟩
theorem tok22 : TyOk Try.prog 22 T22 := ⟨⟨_, _, rfl, rfl, rfl, rfl, rfl, rfl, rfl⟩, _, rfl, rfl, rfl⟩
def T23 : Ty := ⟨2, 16, .str [(0, 3, 1), (1, 3, 1)], [.v (.int .i64 0), .v (.int .i64 0)]⟩
theorem tok23 : TyOk Try.prog 23 T23 := ⟨⟨_, _, rfl, rfl, rfl, rfl, rfl, rfl, rfl⟩, _, rfl, rfl, rfl⟩
def T24 : Ty := ⟨4, 32, .str [(0, 23, 2), (2, 23, 2)], [.v (.int .i64 0), .v (.int .i64 0), .v (.int .i64 0), .v (.int .i64 0)]⟩
theorem tok24 : TyOk Try.prog 24 T24 := ⟨⟨_, _, rfl, rfl, rfl, rfl, rfl, rfl, rfl⟩, _, rfl, rfl, rfl⟩
def T25 : Ty := ⟨4, 32, .str [(0, 23, 2), (2, 23, 2)], [.v (.int .i64 0), .v (.int .i64 0), .v (.int .i64 0), .v (.int .i64 0)]⟩
theorem tok25 : TyOk Try.prog 25 T25 := ⟨⟨_, _, rfl, rfl, rfl, rfl, rfl, rfl, rfl⟩, _, rfl, rfl, rfl⟩
def T27 : Ty := ⟨3, 24, .str [(0, 3, 1), (1, 3, 1), (2, 3, 1)], [.v (.int .i64 0), .v (.int .i64 0), .v (.int .i64 0)]⟩
theorem tok27 : TyOk Try.prog 27 T27 := ⟨⟨_, _, rfl, rfl, rfl, rfl, rfl, rfl, rfl⟩, _, rfl, rfl, rfl⟩
def T28 : Ty := ⟨3, 24, .str [(0, 3, 1), (1, 3, 1), (2, 3, 1)], [.v (.int .i64 0), .v (.int .i64 0), .v (.int .i64 0)]⟩
theorem tok28 : TyOk Try.prog 28 T28 := ⟨⟨_, _, rfl, rfl, rfl, rfl, rfl, rfl, rfl⟩, _, rfl, rfl, rfl⟩
def T36 : Ty := ⟨8, 64, .arr 2 25, [.v (.int .i64 0), .v (.int .i64 0), .v (.int .i64 0), .v (.int .i64 0), .v (.int .i64 0), .v (.int .i64 0), .v (.int .i64 0), .v (.int .i64 0)]⟩
theorem tok36 : TyOk Try.prog 36 T36 := ⟨⟨_, _, rfl, rfl, rfl, rfl, rfl, rfl, rfl⟩, rfl⟩
def T38 : Ty := ⟨24, 192, .arr 3 36, [.v (.int .i64 0), .v (.int .i64 0), .v (.int .i64 0), .v (.int .i64 0), .v (.int .i64 0), .v (.int .i64 0), .v (.int .i64 0), .v (.int .i64 0), .v (.int .i64 0), .v (.int .i64 0), .v (.int .i64 0), .v (.int .i64 0), .v (.int .i64 0), .v (.int .i64 0), .v (.int .i64 0), .v (.int .i64 0), .v (.int .i64 0), .v (.int .i64 0), .v (.int .i64 0), .v (.int .i64 0), .v (.int .i64 0), .v (.int .i64 0), .v (.int .i64 0), .v (.int .i64 0)]⟩
theorem tok38 : TyOk Try.prog 38 T38 := ⟨⟨_, _, rfl, rfl, rfl, rfl, rfl, rfl, rfl⟩, rfl⟩
def T52 : Ty := ⟨9, 72, .arr 3 28, [.v (.int .i64 0), .v (.int .i64 0), .v (.int .i64 0), .v (.int .i64 0), .v (.int .i64 0), .v (.int .i64 0), .v (.int .i64 0), .v (.int .i64 0), .v (.int .i64 0)]⟩
theorem tok52 : TyOk Try.prog 52 T52 := ⟨⟨_, _, rfl, rfl, rfl, rfl, rfl, rfl, rfl⟩, rfl⟩
def T55 : Ty := ⟨8, 64, .str [(0, 3, 1), (1, 28, 3), (4, 25, 4)], [.v (.int .i64 0), .v (.int .i64 0), .v (.int .i64 0), .v (.int .i64 0), .v (.int .i64 0), .v (.int .i64 0), .v (.int .i64 0), .v (.int .i64 0)]⟩
theorem tok55 : TyOk Try.prog 55 T55 := ⟨⟨_, _, rfl, rfl, rfl, rfl, rfl, rfl, rfl⟩, _, rfl, rfl, rfl⟩
def T56 : Ty := ⟨8, 64, .str [(0, 3, 1), (1, 28, 3), (4, 25, 4)], [.v (.int .i64 0), .v (.int .i64 0), .v (.int .i64 0), .v (.int .i64 0), .v (.int .i64 0), .v (.int .i64 0), .v (.int .i64 0), .v (.int .i64 0)]⟩
theorem tok56 : TyOk Try.prog 56 T56 := ⟨⟨_, _, rfl, rfl, rfl, rfl, rfl, rfl, rfl⟩, _, rfl, rfl, rfl⟩
def T58 : Ty := ⟨1, 24, .slc 23, [.v (.slice none 0 0)]⟩
theorem tok58 : TyOk Try.prog 58 T58 := ⟨⟨_, _, rfl, rfl, rfl, rfl, rfl, rfl, rfl⟩, rfl⟩
def T64 : Ty := ⟨4, 32, .str [(0, 23, 2), (2, 23, 2)], [.v (.int .i64 0), .v (.int .i64 0), .v (.int .i64 0), .v (.int .i64 0)]⟩
theorem tok64 : TyOk Try.prog 64 T64 := ⟨⟨_, _, rfl, rfl, rfl, rfl, rfl, rfl, rfl⟩, _, rfl, rfl, rfl⟩
def T65 : Ty := ⟨4, 32, .str [(0, 23, 2), (2, 23, 2)], [.v (.int .i64 0), .v (.int .i64 0), .v (.int .i64 0), .v (.int .i64 0)]⟩
theorem tok65 : TyOk Try.prog 65 T65 := ⟨⟨_, _, rfl, rfl, rfl, rfl, rfl, rfl, rfl⟩, _, rfl, rfl, rfl⟩
def T75 : Ty := ⟨8, 64, .arr 4 23, [.v (.int .i64 0), .v (.int .i64 0), .v (.int .i64 0), .v (.int .i64 0), .v (.int .i64 0), .v (.int .i64 0), .v (.int .i64 0), .v (.int .i64 0)]⟩
theorem tok75 : TyOk Try.prog 75 T75 := ⟨⟨_, _, rfl, rfl, rfl, rfl, rfl, rfl, rfl⟩, rfl⟩
def T77 : Ty := ⟨1, 24, .slc 3, [.v (.slice none 0 0)]⟩
theorem tok77 : TyOk Try.prog 77 T77 := ⟨⟨_, _, rfl, rfl, rfl, rfl, rfl, rfl, rfl⟩, rfl⟩
def T88 : Ty := ⟨1, 4, .int .u32, [.v (.int .u32 0)]⟩
theorem tok88 : TyOk Try.prog 88 T88 := ⟨⟨_, _, rfl, rfl, rfl, rfl, rfl, rfl, rfl⟩, rfl⟩
abbrev TT : Tab := tabL [(2, T2), (3, T3), (4, T4), (5, T5), (9, T9), (12, T12), (21, T21), (22, T22), (23, T23), (24, T24), (25, T25), (27, T27), (28, T28), (36, T36), (38, T38), (52, T52), (55, T55), (56, T56), (58, T58), (64, T64), (65, T65), (75, T75), (77, T77), (88, T88)]
theorem TTok : TabOk Try.prog TT := tabL_ok (.cons tok2 ( .cons tok3 ( .cons tok4 ( .cons tok5 ( .cons tok9 ( .cons tok12 ( .cons tok21 ( .cons tok22 ( .cons tok23 ( .cons tok24 ( .cons tok25 ( .cons tok27 ( .cons tok28 ( .cons tok36 ( .cons tok38 ( .cons tok52 ( .cons tok55 ( .cons tok56 ( .cons tok58 ( .cons tok64 ( .cons tok65 ( .cons tok75 ( .cons tok77 ( .cons tok88 (.nil)))))))))))))))))))))))))
abbrev C22 : List Value → Prop := fun xs => ∃ a b, xs = a ++ b ∧ CInt a ∧ (fun xs => ∃ a b, xs = a ++ b ∧ CInt a ∧ (fun xs => xs = []) b) b
theorem eqin22 : EqIn Try.prog 2 22 T22 C22 := EqIn.str rfl rfl (by kernel_rfl) (.cons (TF := T3) (by decide) rfl tok3 (by decide) (EqIn.mono (EqIn.int rfl rfl rfl) (Nat.le_of_ble_eq_true rfl)) (.cons (TF := T3) (by decide) rfl tok3 (by decide) (EqIn.mono (EqIn.int rfl rfl rfl) (Nat.le_of_ble_eq_true rfl)) (.nil _)))
theorem eq22 (a0 : Int) (a1 : Int) (b0 : Int) (b1 : Int) : EqFact Try.prog 22 [i64 a0, i64 a1] [i64 b0, i64 b1] (decide ([a0, a1] = [b0, b1])) := eqin22.fact (Nat.le_of_ble_eq_true rfl) rfl (by kernel_rfl) [iv a0, iv a1] [iv b0, iv b1] ⟨[iv a0], _, rfl, ⟨a0, rfl⟩, ⟨[iv a1], _, rfl, ⟨a1, rfl⟩, rfl⟩⟩ ⟨[iv b0], _, rfl, ⟨b0, rfl⟩, ⟨[iv b1], _, rfl, ⟨b1, rfl⟩, rfl⟩⟩ _ (by simp)
theorem typ22 {cs : List SV} (h : Typ Try.prog 22 cs) : ∃ a0 a1, cs = [i64 a0, i64 a1] ∧ R64 a0 ∧ R64 a1 := by
  have hl : cs.length = 2 := (Typ.inv_str rfl h).1
  match cs, hl, h with
  | [c0, c1], _, h =>
    obtain ⟨a0, e0, ha0⟩ := Typ.inv_i64 rfl (h.field rfl 0 0 1 3 rfl)
    cases (show [c0] = [i64 a0] from e0)
    obtain ⟨a1, e1, ha1⟩ := Typ.inv_i64 rfl (h.field rfl 1 1 1 3 rfl)
    cases (show [c1] = [i64 a1] from e1)
    exact ⟨a0, a1, rfl, ha0, ha1⟩
abbrev C23 : List Value → Prop := fun xs => ∃ a b, xs = a ++ b ∧ CInt a ∧ (fun xs => ∃ a b, xs = a ++ b ∧ CInt a ∧ (fun xs => xs = []) b) b
theorem eqin23 : EqIn Try.prog 2 23 T23 C23 := EqIn.str rfl rfl (by kernel_rfl) (.cons (TF := T3) (by decide) rfl tok3 (by decide) (EqIn.mono (EqIn.int rfl rfl rfl) (Nat.le_of_ble_eq_true rfl)) (.cons (TF := T3) (by decide) rfl tok3 (by decide) (EqIn.mono (EqIn.int rfl rfl rfl) (Nat.le_of_ble_eq_true rfl)) (.nil _)))
theorem eq23 (a0 : Int) (a1 : Int) (b0 : Int) (b1 : Int) : EqFact Try.prog 23 [i64 a0, i64 a1] [i64 b0, i64 b1] (decide ([a0, a1] = [b0, b1])) := eqin23.fact (Nat.le_of_ble_eq_true rfl) rfl (by kernel_rfl) [iv a0, iv a1] [iv b0, iv b1] ⟨[iv a0], _, rfl, ⟨a0, rfl⟩, ⟨[iv a1], _, rfl, ⟨a1, rfl⟩, rfl⟩⟩ ⟨[iv b0], _, rfl, ⟨b0, rfl⟩, ⟨[iv b1], _, rfl, ⟨b1, rfl⟩, rfl⟩⟩ _ (by simp)
theorem typ23 {cs : List SV} (h : Typ Try.prog 23 cs) : ∃ a0 a1, cs = [i64 a0, i64 a1] ∧ R64 a0 ∧ R64 a1 := by
  have hl : cs.length = 2 := (Typ.inv_str rfl h).1
  match cs, hl, h with
  | [c0, c1], _, h =>
    obtain ⟨a0, e0, ha0⟩ := Typ.inv_i64 rfl (h.field rfl 0 0 1 3 rfl)
    cases (show [c0] = [i64 a0] from e0)
    obtain ⟨a1, e1, ha1⟩ := Typ.inv_i64 rfl (h.field rfl 1 1 1 3 rfl)
    cases (show [c1] = [i64 a1] from e1)
    exact ⟨a0, a1, rfl, ha0, ha1⟩
abbrev C24 : List Value → Prop := fun xs => ∃ a b, xs = a ++ b ∧ C23 a ∧ (fun xs => ∃ a b, xs = a ++ b ∧ C23 a ∧ (fun xs => xs = []) b) b
theorem eqin24 : EqIn Try.prog 3 24 T24 C24 := EqIn.str rfl rfl (by kernel_rfl) (.cons (TF := T23) (by decide) rfl tok23 (by decide) (EqIn.mono eqin23 (Nat.le_of_ble_eq_true rfl)) (.cons (TF := T23) (by decide) rfl tok23 (by decide) (EqIn.mono eqin23 (Nat.le_of_ble_eq_true rfl)) (.nil _)))
theorem eq24 (a0 : Int) (a1 : Int) (a2 : Int) (a3 : Int) (b0 : Int) (b1 : Int) (b2 : Int) (b3 : Int) : EqFact Try.prog 24 [i64 a0, i64 a1, i64 a2, i64 a3] [i64 b0, i64 b1, i64 b2, i64 b3] (decide ([a0, a1, a2, a3] = [b0, b1, b2, b3])) := eqin24.fact (Nat.le_of_ble_eq_true rfl) rfl (by kernel_rfl) [iv a0, iv a1, iv a2, iv a3] [iv b0, iv b1, iv b2, iv b3] ⟨[iv a0, iv a1], _, rfl, ⟨[iv a0], _, rfl, ⟨a0, rfl⟩, ⟨[iv a1], _, rfl, ⟨a1, rfl⟩, rfl⟩⟩, ⟨[iv a2, iv a3], _, rfl, ⟨[iv a2], _, rfl, ⟨a2, rfl⟩, ⟨[iv a3], _, rfl, ⟨a3, rfl⟩, rfl⟩⟩, rfl⟩⟩ ⟨[iv b0, iv b1], _, rfl, ⟨[iv b0], _, rfl, ⟨b0, rfl⟩, ⟨[iv b1], _, rfl, ⟨b1, rfl⟩, rfl⟩⟩, ⟨[iv b2, iv b3], _, rfl, ⟨[iv b2], _, rfl, ⟨b2, rfl⟩, ⟨[iv b3], _, rfl, ⟨b3, rfl⟩, rfl⟩⟩, rfl⟩⟩ _ (by simp)
theorem typ24 {cs : List SV} (h : Typ Try.prog 24 cs) : ∃ a0 a1 a2 a3, cs = [i64 a0, i64 a1, i64 a2, i64 a3] ∧ R64 a0 ∧ R64 a1 ∧ R64 a2 ∧ R64 a3 := by
  have hl : cs.length = 4 := (Typ.inv_str rfl h).1
  match cs, hl, h with
  | [c0, c1, c2, c3], _, h =>
    obtain ⟨a0, a1, e0, ha0, ha1⟩ := typ23 (h.field rfl 0 0 2 23 rfl)
    cases (show [c0, c1] = [i64 a0, i64 a1] from e0)
    obtain ⟨a2, a3, e1, ha2, ha3⟩ := typ23 (h.field rfl 1 2 2 23 rfl)
    cases (show [c2, c3] = [i64 a2, i64 a3] from e1)
    exact ⟨a0, a1, a2, a3, rfl, ha0, ha1, ha2, ha3⟩
abbrev C25 : List Value → Prop := fun xs => ∃ a b, xs = a ++ b ∧ C23 a ∧ (fun xs => ∃ a b, xs = a ++ b ∧ C23 a ∧ (fun xs => xs = []) b) b
theorem eqin25 : EqIn Try.prog 3 25 T25 C25 := EqIn.str rfl rfl (by kernel_rfl) (.cons (TF := T23) (by decide) rfl tok23 (by decide) (EqIn.mono eqin23 (Nat.le_of_ble_eq_true rfl)) (.cons (TF := T23) (by decide) rfl tok23 (by decide) (EqIn.mono eqin23 (Nat.le_of_ble_eq_true rfl)) (.nil _)))
theorem eq25 (a0 : Int) (a1 : Int) (a2 : Int) (a3 : Int) (b0 : Int) (b1 : Int) (b2 : Int) (b3 : Int) : EqFact Try.prog 25 [i64 a0, i64 a1, i64 a2, i64 a3] [i64 b0, i64 b1, i64 b2, i64 b3] (decide ([a0, a1, a2, a3] = [b0, b1, b2, b3])) := eqin25.fact (Nat.le_of_ble_eq_true rfl) rfl (by kernel_rfl) [iv a0, iv a1, iv a2, iv a3] [iv b0, iv b1, iv b2, iv b3] ⟨[iv a0, iv a1], _, rfl, ⟨[iv a0], _, rfl, ⟨a0, rfl⟩, ⟨[iv a1], _, rfl, ⟨a1, rfl⟩, rfl⟩⟩, ⟨[iv a2, iv a3], _, rfl, ⟨[iv a2], _, rfl, ⟨a2, rfl⟩, ⟨[iv a3], _, rfl, ⟨a3, rfl⟩, rfl⟩⟩, rfl⟩⟩ ⟨[iv b0, iv b1], _, rfl, ⟨[iv b0], _, rfl, ⟨b0, rfl⟩, ⟨[iv b1], _, rfl, ⟨b1, rfl⟩, rfl⟩⟩, ⟨[iv b2, iv b3], _, rfl, ⟨[iv b2], _, rfl, ⟨b2, rfl⟩, ⟨[iv b3], _, rfl, ⟨b3, rfl⟩, rfl⟩⟩, rfl⟩⟩ _ (by simp)
theorem typ25 {cs : List SV} (h : Typ Try.prog 25 cs) : ∃ a0 a1 a2 a3, cs = [i64 a0, i64 a1, i64 a2, i64 a3] ∧ R64 a0 ∧ R64 a1 ∧ R64 a2 ∧ R64 a3 := by
  have hl : cs.length = 4 := (Typ.inv_str rfl h).1
  match cs, hl, h with
  | [c0, c1, c2, c3], _, h =>
    obtain ⟨a0, a1, e0, ha0, ha1⟩ := typ23 (h.field rfl 0 0 2 23 rfl)
    cases (show [c0, c1] = [i64 a0, i64 a1] from e0)
    obtain ⟨a2, a3, e1, ha2, ha3⟩ := typ23 (h.field rfl 1 2 2 23 rfl)
    cases (show [c2, c3] = [i64 a2, i64 a3] from e1)
    exact ⟨a0, a1, a2, a3, rfl, ha0, ha1, ha2, ha3⟩
abbrev C27 : List Value → Prop := fun xs => ∃ a b, xs = a ++ b ∧ CInt a ∧ (fun xs => ∃ a b, xs = a ++ b ∧ CInt a ∧ (fun xs => ∃ a b, xs = a ++ b ∧ CInt a ∧ (fun xs => xs = []) b) b) b
theorem eqin27 : EqIn Try.prog 2 27 T27 C27 := EqIn.str rfl rfl (by kernel_rfl) (.cons (TF := T3) (by decide) rfl tok3 (by decide) (EqIn.mono (EqIn.int rfl rfl rfl) (Nat.le_of_ble_eq_true rfl)) (.cons (TF := T3) (by decide) rfl tok3 (by decide) (EqIn.mono (EqIn.int rfl rfl rfl) (Nat.le_of_ble_eq_true rfl)) (.cons (TF := T3) (by decide) rfl tok3 (by decide) (EqIn.mono (EqIn.int rfl rfl rfl) (Nat.le_of_ble_eq_true rfl)) (.nil _))))
theorem eq27 (a0 : Int) (a1 : Int) (a2 : Int) (b0 : Int) (b1 : Int) (b2 : Int) : EqFact Try.prog 27 [i64 a0, i64 a1, i64 a2] [i64 b0, i64 b1, i64 b2] (decide ([a0, a1, a2] = [b0, b1, b2])) := eqin27.fact (Nat.le_of_ble_eq_true rfl) rfl (by kernel_rfl) [iv a0, iv a1, iv a2] [iv b0, iv b1, iv b2] ⟨[iv a0], _, rfl, ⟨a0, rfl⟩, ⟨[iv a1], _, rfl, ⟨a1, rfl⟩, ⟨[iv a2], _, rfl, ⟨a2, rfl⟩, rfl⟩⟩⟩ ⟨[iv b0], _, rfl, ⟨b0, rfl⟩, ⟨[iv b1], _, rfl, ⟨b1, rfl⟩, ⟨[iv b2], _, rfl, ⟨b2, rfl⟩, rfl⟩⟩⟩ _ (by simp)
theorem typ27 {cs : List SV} (h : Typ Try.prog 27 cs) : ∃ a0 a1 a2, cs = [i64 a0, i64 a1, i64 a2] ∧ R64 a0 ∧ R64 a1 ∧ R64 a2 := by
  have hl : cs.length = 3 := (Typ.inv_str rfl h).1
  match cs, hl, h with
  | [c0, c1, c2], _, h =>
    obtain ⟨a0, e0, ha0⟩ := Typ.inv_i64 rfl (h.field rfl 0 0 1 3 rfl)
    cases (show [c0] = [i64 a0] from e0)
    obtain ⟨a1, e1, ha1⟩ := Typ.inv_i64 rfl (h.field rfl 1 1 1 3 rfl)
    cases (show [c1] = [i64 a1] from e1)
    obtain ⟨a2, e2, ha2⟩ := Typ.inv_i64 rfl (h.field rfl 2 2 1 3 rfl)
    cases (show [c2] = [i64 a2] from e2)
    exact ⟨a0, a1, a2, rfl, ha0, ha1, ha2⟩
abbrev C28 : List Value → Prop := fun xs => ∃ a b, xs = a ++ b ∧ CInt a ∧ (fun xs => ∃ a b, xs = a ++ b ∧ CInt a ∧ (fun xs => ∃ a b, xs = a ++ b ∧ CInt a ∧ (fun xs => xs = []) b) b) b
theorem eqin28 : EqIn Try.prog 2 28 T28 C28 := EqIn.str rfl rfl (by kernel_rfl) (.cons (TF := T3) (by decide) rfl tok3 (by decide) (EqIn.mono (EqIn.int rfl rfl rfl) (Nat.le_of_ble_eq_true rfl)) (.cons (TF := T3) (by decide) rfl tok3 (by decide) (EqIn.mono (EqIn.int rfl rfl rfl) (Nat.le_of_ble_eq_true rfl)) (.cons (TF := T3) (by decide) rfl tok3 (by decide) (EqIn.mono (EqIn.int rfl rfl rfl) (Nat.le_of_ble_eq_true rfl)) (.nil _))))
theorem eq28 (a0 : Int) (a1 : Int) (a2 : Int) (b0 : Int) (b1 : Int) (b2 : Int) : EqFact Try.prog 28 [i64 a0, i64 a1, i64 a2] [i64 b0, i64 b1, i64 b2] (decide ([a0, a1, a2] = [b0, b1, b2])) := eqin28.fact (Nat.le_of_ble_eq_true rfl) rfl (by kernel_rfl) [iv a0, iv a1, iv a2] [iv b0, iv b1, iv b2] ⟨[iv a0], _, rfl, ⟨a0, rfl⟩, ⟨[iv a1], _, rfl, ⟨a1, rfl⟩, ⟨[iv a2], _, rfl, ⟨a2, rfl⟩, rfl⟩⟩⟩ ⟨[iv b0], _, rfl, ⟨b0, rfl⟩, ⟨[iv b1], _, rfl, ⟨b1, rfl⟩, ⟨[iv b2], _, rfl, ⟨b2, rfl⟩, rfl⟩⟩⟩ _ (by simp)
theorem typ28 {cs : List SV} (h : Typ Try.prog 28 cs) : ∃ a0 a1 a2, cs = [i64 a0, i64 a1, i64 a2] ∧ R64 a0 ∧ R64 a1 ∧ R64 a2 := by
  have hl : cs.length = 3 := (Typ.inv_str rfl h).1
  match cs, hl, h with
  | [c0, c1, c2], _, h =>
    obtain ⟨a0, e0, ha0⟩ := Typ.inv_i64 rfl (h.field rfl 0 0 1 3 rfl)
    cases (show [c0] = [i64 a0] from e0)
    obtain ⟨a1, e1, ha1⟩ := Typ.inv_i64 rfl (h.field rfl 1 1 1 3 rfl)
    cases (show [c1] = [i64 a1] from e1)
    obtain ⟨a2, e2, ha2⟩ := Typ.inv_i64 rfl (h.field rfl 2 2 1 3 rfl)
    cases (show [c2] = [i64 a2] from e2)
    exact ⟨a0, a1, a2, rfl, ha0, ha1, ha2⟩
abbrev C55 : List Value → Prop := fun xs => ∃ a b, xs = a ++ b ∧ CInt a ∧ (fun xs => ∃ a b, xs = a ++ b ∧ C28 a ∧ (fun xs => ∃ a b, xs = a ++ b ∧ C25 a ∧ (fun xs => xs = []) b) b) b
theorem eqin55 : EqIn Try.prog 4 55 T55 C55 := EqIn.str rfl rfl (by kernel_rfl) (.cons (TF := T3) (by decide) rfl tok3 (by decide) (EqIn.mono (EqIn.int rfl rfl rfl) (Nat.le_of_ble_eq_true rfl)) (.cons (TF := T28) (by decide) rfl tok28 (by decide) (EqIn.mono eqin28 (Nat.le_of_ble_eq_true rfl)) (.cons (TF := T25) (by decide) rfl tok25 (by decide) (EqIn.mono eqin25 (Nat.le_of_ble_eq_true rfl)) (.nil _))))
theorem eq55 (a0 : Int) (a1 : Int) (a2 : Int) (a3 : Int) (a4 : Int) (a5 : Int) (a6 : Int) (a7 : Int) (b0 : Int) (b1 : Int) (b2 : Int) (b3 : Int) (b4 : Int) (b5 : Int) (b6 : Int) (b7 : Int) : EqFact Try.prog 55 [i64 a0, i64 a1, i64 a2, i64 a3, i64 a4, i64 a5, i64 a6, i64 a7] [i64 b0, i64 b1, i64 b2, i64 b3, i64 b4, i64 b5, i64 b6, i64 b7] (decide ([a0, a1, a2, a3, a4, a5, a6, a7] = [b0, b1, b2, b3, b4, b5, b6, b7])) := eqin55.fact (Nat.le_of_ble_eq_true rfl) rfl (by kernel_rfl) [iv a0, iv a1, iv a2, iv a3, iv a4, iv a5, iv a6, iv a7] [iv b0, iv b1, iv b2, iv b3, iv b4, iv b5, iv b6, iv b7] ⟨[iv a0], _, rfl, ⟨a0, rfl⟩, ⟨[iv a1, iv a2, iv a3], _, rfl, ⟨[iv a1], _, rfl, ⟨a1, rfl⟩, ⟨[iv a2], _, rfl, ⟨a2, rfl⟩, ⟨[iv a3], _, rfl, ⟨a3, rfl⟩, rfl⟩⟩⟩, ⟨[iv a4, iv a5, iv a6, iv a7], _, rfl, ⟨[iv a4, iv a5], _, rfl, ⟨[iv a4], _, rfl, ⟨a4, rfl⟩, ⟨[iv a5], _, rfl, ⟨a5, rfl⟩, rfl⟩⟩, ⟨[iv a6, iv a7], _, rfl, ⟨[iv a6], _, rfl, ⟨a6, rfl⟩, ⟨[iv a7], _, rfl, ⟨a7, rfl⟩, rfl⟩⟩, rfl⟩⟩, rfl⟩⟩⟩ ⟨[iv b0], _, rfl, ⟨b0, rfl⟩, ⟨[iv b1, iv b2, iv b3], _, rfl, ⟨[iv b1], _, rfl, ⟨b1, rfl⟩, ⟨[iv b2], _, rfl, ⟨b2, rfl⟩, ⟨[iv b3], _, rfl, ⟨b3, rfl⟩, rfl⟩⟩⟩, ⟨[iv b4, iv b5, iv b6, iv b7], _, rfl, ⟨[iv b4, iv b5], _, rfl, ⟨[iv b4], _, rfl, ⟨b4, rfl⟩, ⟨[iv b5], _, rfl, ⟨b5, rfl⟩, rfl⟩⟩, ⟨[iv b6, iv b7], _, rfl, ⟨[iv b6], _, rfl, ⟨b6, rfl⟩, ⟨[iv b7], _, rfl, ⟨b7, rfl⟩, rfl⟩⟩, rfl⟩⟩, rfl⟩⟩⟩ _ (by simp)
theorem typ55 {cs : List SV} (h : Typ Try.prog 55 cs) : ∃ a0 a1 a2 a3 a4 a5 a6 a7, cs = [i64 a0, i64 a1, i64 a2, i64 a3, i64 a4, i64 a5, i64 a6, i64 a7] ∧ R64 a0 ∧ R64 a1 ∧ R64 a2 ∧ R64 a3 ∧ R64 a4 ∧ R64 a5 ∧ R64 a6 ∧ R64 a7 := by
  have hl : cs.length = 8 := (Typ.inv_str rfl h).1
  match cs, hl, h with
  | [c0, c1, c2, c3, c4, c5, c6, c7], _, h =>
    obtain ⟨a0, e0, ha0⟩ := Typ.inv_i64 rfl (h.field rfl 0 0 1 3 rfl)
    cases (show [c0] = [i64 a0] from e0)
    obtain ⟨a1, a2, a3, e1, ha1, ha2, ha3⟩ := typ28 (h.field rfl 1 1 3 28 rfl)
    cases (show [c1, c2, c3] = [i64 a1, i64 a2, i64 a3] from e1)
    obtain ⟨a4, a5, a6, a7, e2, ha4, ha5, ha6, ha7⟩ := typ25 (h.field rfl 2 4 4 25 rfl)
    cases (show [c4, c5, c6, c7] = [i64 a4, i64 a5, i64 a6, i64 a7] from e2)
    exact ⟨a0, a1, a2, a3, a4, a5, a6, a7, rfl, ha0, ha1, ha2, ha3, ha4, ha5, ha6, ha7⟩
abbrev C56 : List Value → Prop := fun xs => ∃ a b, xs = a ++ b ∧ CInt a ∧ (fun xs => ∃ a b, xs = a ++ b ∧ C28 a ∧ (fun xs => ∃ a b, xs = a ++ b ∧ C25 a ∧ (fun xs => xs = []) b) b) b
theorem eqin56 : EqIn Try.prog 4 56 T56 C56 := EqIn.str rfl rfl (by kernel_rfl) (.cons (TF := T3) (by decide) rfl tok3 (by decide) (EqIn.mono (EqIn.int rfl rfl rfl) (Nat.le_of_ble_eq_true rfl)) (.cons (TF := T28) (by decide) rfl tok28 (by decide) (EqIn.mono eqin28 (Nat.le_of_ble_eq_true rfl)) (.cons (TF := T25) (by decide) rfl tok25 (by decide) (EqIn.mono eqin25 (Nat.le_of_ble_eq_true rfl)) (.nil _))))
theorem eq56 (a0 : Int) (a1 : Int) (a2 : Int) (a3 : Int) (a4 : Int) (a5 : Int) (a6 : Int) (a7 : Int) (b0 : Int) (b1 : Int) (b2 : Int) (b3 : Int) (b4 : Int) (b5 : Int) (b6 : Int) (b7 : Int) : EqFact Try.prog 56 [i64 a0, i64 a1, i64 a2, i64 a3, i64 a4, i64 a5, i64 a6, i64 a7] [i64 b0, i64 b1, i64 b2, i64 b3, i64 b4, i64 b5, i64 b6, i64 b7] (decide ([a0, a1, a2, a3, a4, a5, a6, a7] = [b0, b1, b2, b3, b4, b5, b6, b7])) := eqin56.fact (Nat.le_of_ble_eq_true rfl) rfl (by kernel_rfl) [iv a0, iv a1, iv a2, iv a3, iv a4, iv a5, iv a6, iv a7] [iv b0, iv b1, iv b2, iv b3, iv b4, iv b5, iv b6, iv b7] ⟨[iv a0], _, rfl, ⟨a0, rfl⟩, ⟨[iv a1, iv a2, iv a3], _, rfl, ⟨[iv a1], _, rfl, ⟨a1, rfl⟩, ⟨[iv a2], _, rfl, ⟨a2, rfl⟩, ⟨[iv a3], _, rfl, ⟨a3, rfl⟩, rfl⟩⟩⟩, ⟨[iv a4, iv a5, iv a6, iv a7], _, rfl, ⟨[iv a4, iv a5], _, rfl, ⟨[iv a4], _, rfl, ⟨a4, rfl⟩, ⟨[iv a5], _, rfl, ⟨a5, rfl⟩, rfl⟩⟩, ⟨[iv a6, iv a7], _, rfl, ⟨[iv a6], _, rfl, ⟨a6, rfl⟩, ⟨[iv a7], _, rfl, ⟨a7, rfl⟩, rfl⟩⟩, rfl⟩⟩, rfl⟩⟩⟩ ⟨[iv b0], _, rfl, ⟨b0, rfl⟩, ⟨[iv b1, iv b2, iv b3], _, rfl, ⟨[iv b1], _, rfl, ⟨b1, rfl⟩, ⟨[iv b2], _, rfl, ⟨b2, rfl⟩, ⟨[iv b3], _, rfl, ⟨b3, rfl⟩, rfl⟩⟩⟩, ⟨[iv b4, iv b5, iv b6, iv b7], _, rfl, ⟨[iv b4, iv b5], _, rfl, ⟨[iv b4], _, rfl, ⟨b4, rfl⟩, ⟨[iv b5], _, rfl, ⟨b5, rfl⟩, rfl⟩⟩, ⟨[iv b6, iv b7], _, rfl, ⟨[iv b6], _, rfl, ⟨b6, rfl⟩, ⟨[iv b7], _, rfl, ⟨b7, rfl⟩, rfl⟩⟩, rfl⟩⟩, rfl⟩⟩⟩ _ (by simp)
theorem typ56 {cs : List SV} (h : Typ Try.prog 56 cs) : ∃ a0 a1 a2 a3 a4 a5 a6 a7, cs = [i64 a0, i64 a1, i64 a2, i64 a3, i64 a4, i64 a5, i64 a6, i64 a7] ∧ R64 a0 ∧ R64 a1 ∧ R64 a2 ∧ R64 a3 ∧ R64 a4 ∧ R64 a5 ∧ R64 a6 ∧ R64 a7 := by
  have hl : cs.length = 8 := (Typ.inv_str rfl h).1
  match cs, hl, h with
  | [c0, c1, c2, c3, c4, c5, c6, c7], _, h =>
    obtain ⟨a0, e0, ha0⟩ := Typ.inv_i64 rfl (h.field rfl 0 0 1 3 rfl)
    cases (show [c0] = [i64 a0] from e0)
    obtain ⟨a1, a2, a3, e1, ha1, ha2, ha3⟩ := typ28 (h.field rfl 1 1 3 28 rfl)
    cases (show [c1, c2, c3] = [i64 a1, i64 a2, i64 a3] from e1)
    obtain ⟨a4, a5, a6, a7, e2, ha4, ha5, ha6, ha7⟩ := typ25 (h.field rfl 2 4 4 25 rfl)
    cases (show [c4, c5, c6, c7] = [i64 a4, i64 a5, i64 a6, i64 a7] from e2)
    exact ⟨a0, a1, a2, a3, a4, a5, a6, a7, rfl, ha0, ha1, ha2, ha3, ha4, ha5, ha6, ha7⟩
abbrev C64 : List Value → Prop := fun xs => ∃ a b, xs = a ++ b ∧ C23 a ∧ (fun xs => ∃ a b, xs = a ++ b ∧ C23 a ∧ (fun xs => xs = []) b) b
theorem eqin64 : EqIn Try.prog 3 64 T64 C64 := EqIn.str rfl rfl (by kernel_rfl) (.cons (TF := T23) (by decide) rfl tok23 (by decide) (EqIn.mono eqin23 (Nat.le_of_ble_eq_true rfl)) (.cons (TF := T23) (by decide) rfl tok23 (by decide) (EqIn.mono eqin23 (Nat.le_of_ble_eq_true rfl)) (.nil _)))
theorem eq64 (a0 : Int) (a1 : Int) (a2 : Int) (a3 : Int) (b0 : Int) (b1 : Int) (b2 : Int) (b3 : Int) : EqFact Try.prog 64 [i64 a0, i64 a1, i64 a2, i64 a3] [i64 b0, i64 b1, i64 b2, i64 b3] (decide ([a0, a1, a2, a3] = [b0, b1, b2, b3])) := eqin64.fact (Nat.le_of_ble_eq_true rfl) rfl (by kernel_rfl) [iv a0, iv a1, iv a2, iv a3] [iv b0, iv b1, iv b2, iv b3] ⟨[iv a0, iv a1], _, rfl, ⟨[iv a0], _, rfl, ⟨a0, rfl⟩, ⟨[iv a1], _, rfl, ⟨a1, rfl⟩, rfl⟩⟩, ⟨[iv a2, iv a3], _, rfl, ⟨[iv a2], _, rfl, ⟨a2, rfl⟩, ⟨[iv a3], _, rfl, ⟨a3, rfl⟩, rfl⟩⟩, rfl⟩⟩ ⟨[iv b0, iv b1], _, rfl, ⟨[iv b0], _, rfl, ⟨b0, rfl⟩, ⟨[iv b1], _, rfl, ⟨b1, rfl⟩, rfl⟩⟩, ⟨[iv b2, iv b3], _, rfl, ⟨[iv b2], _, rfl, ⟨b2, rfl⟩, ⟨[iv b3], _, rfl, ⟨b3, rfl⟩, rfl⟩⟩, rfl⟩⟩ _ (by simp)
theorem typ64 {cs : List SV} (h : Typ Try.prog 64 cs) : ∃ a0 a1 a2 a3, cs = [i64 a0, i64 a1, i64 a2, i64 a3] ∧ R64 a0 ∧ R64 a1 ∧ R64 a2 ∧ R64 a3 := by
  have hl : cs.length = 4 := (Typ.inv_str rfl h).1
  match cs, hl, h with
  | [c0, c1, c2, c3], _, h =>
    obtain ⟨a0, a1, e0, ha0, ha1⟩ := typ23 (h.field rfl 0 0 2 23 rfl)
    cases (show [c0, c1] = [i64 a0, i64 a1] from e0)
    obtain ⟨a2, a3, e1, ha2, ha3⟩ := typ23 (h.field rfl 1 2 2 23 rfl)
    cases (show [c2, c3] = [i64 a2, i64 a3] from e1)
    exact ⟨a0, a1, a2, a3, rfl, ha0, ha1, ha2, ha3⟩
abbrev C65 : List Value → Prop := fun xs => ∃ a b, xs = a ++ b ∧ C23 a ∧ (fun xs => ∃ a b, xs = a ++ b ∧ C23 a ∧ (fun xs => xs = []) b) b
theorem eqin65 : EqIn Try.prog 3 65 T65 C65 := EqIn.str rfl rfl (by kernel_rfl) (.cons (TF := T23) (by decide) rfl tok23 (by decide) (EqIn.mono eqin23 (Nat.le_of_ble_eq_true rfl)) (.cons (TF := T23) (by decide) rfl tok23 (by decide) (EqIn.mono eqin23 (Nat.le_of_ble_eq_true rfl)) (.nil _)))
theorem eq65 (a0 : Int) (a1 : Int) (a2 : Int) (a3 : Int) (b0 : Int) (b1 : Int) (b2 : Int) (b3 : Int) : EqFact Try.prog 65 [i64 a0, i64 a1, i64 a2, i64 a3] [i64 b0, i64 b1, i64 b2, i64 b3] (decide ([a0, a1, a2, a3] = [b0, b1, b2, b3])) := eqin65.fact (Nat.le_of_ble_eq_true rfl) rfl (by kernel_rfl) [iv a0, iv a1, iv a2, iv a3] [iv b0, iv b1, iv b2, iv b3] ⟨[iv a0, iv a1], _, rfl, ⟨[iv a0], _, rfl, ⟨a0, rfl⟩, ⟨[iv a1], _, rfl, ⟨a1, rfl⟩, rfl⟩⟩, ⟨[iv a2, iv a3], _, rfl, ⟨[iv a2], _, rfl, ⟨a2, rfl⟩, ⟨[iv a3], _, rfl, ⟨a3, rfl⟩, rfl⟩⟩, rfl⟩⟩ ⟨[iv b0, iv b1], _, rfl, ⟨[iv b0], _, rfl, ⟨b0, rfl⟩, ⟨[iv b1], _, rfl, ⟨b1, rfl⟩, rfl⟩⟩, ⟨[iv b2, iv b3], _, rfl, ⟨[iv b2], _, rfl, ⟨b2, rfl⟩, ⟨[iv b3], _, rfl, ⟨b3, rfl⟩, rfl⟩⟩, rfl⟩⟩ _ (by simp)
theorem typ65 {cs : List SV} (h : Typ Try.prog 65 cs) : ∃ a0 a1 a2 a3, cs = [i64 a0, i64 a1, i64 a2, i64 a3] ∧ R64 a0 ∧ R64 a1 ∧ R64 a2 ∧ R64 a3 := by
  have hl : cs.length = 4 := (Typ.inv_str rfl h).1
  match cs, hl, h with
  | [c0, c1, c2, c3], _, h =>
    obtain ⟨a0, a1, e0, ha0, ha1⟩ := typ23 (h.field rfl 0 0 2 23 rfl)
    cases (show [c0, c1] = [i64 a0, i64 a1] from e0)
    obtain ⟨a2, a3, e1, ha2, ha3⟩ := typ23 (h.field rfl 1 2 2 23 rfl)
    cases (show [c2, c3] = [i64 a2, i64 a3] from e1)
    exact ⟨a0, a1, a2, a3, rfl, ha0, ha1, ha2, ha3⟩
theorem mixed : Try.prog.follows .mixedOrders = true := by kernel_rfl
end Go.Vm
