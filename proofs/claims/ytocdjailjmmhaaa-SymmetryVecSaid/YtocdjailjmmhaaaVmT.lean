/-
  The table of this program's types.
-/
import Derived.Test.YtocdjailjmmhaaaVmQ
import Derived.Test.YtocdjailjmmhaaaProg
namespace Go.Vm
open Go Go.RowKit Go.Proofs
def T2 : Ty := ⟨1, 8, .int .i64, [.v (.int .i64 0)]⟩
theorem tok2 : TyOk Try.prog 2 T2 := ⟨⟨_, _, rfl, rfl, rfl, rfl, rfl, rfl, rfl⟩, rfl⟩
def T3 : Ty := ⟨1, 8, .int .i64, [.v (.int .i64 0)]⟩
theorem tok3 : TyOk Try.prog 3 T3 := ⟨⟨_, _, rfl, rfl, rfl, rfl, rfl, rfl, rfl⟩, rfl⟩
def T4 : Ty := ⟨1, 1, .cell, [.v (.bool false)]⟩
theorem tok4 : TyOk Try.prog 4 T4 := ⟨⟨_, _, rfl, rfl, rfl, rfl, rfl, rfl, rfl⟩, _, rfl, rfl⟩
def T5 : Ty := ⟨1, 1, .int .u8, [.v (.int .u8 0)]⟩
theorem tok5 : TyOk Try.prog 5 T5 := ⟨⟨_, _, rfl, rfl, rfl, rfl, rfl, rfl, rfl⟩, rfl⟩
def T9 : Ty := ⟨1, 16, .cell, [.v (.string ⟨#[]⟩)]⟩
theorem tok9 : TyOk Try.prog 9 T9 := ⟨⟨_, _, rfl, rfl, rfl, rfl, rfl, rfl, rfl⟩, _, rfl, rfl⟩
def T12 : Ty := ⟨1, 8, .int .u64, [.v (.int .u64 0)]⟩
theorem tok12 : TyOk Try.prog 12 T12 := ⟨⟨_, _, rfl, rfl, rfl, rfl, rfl, rfl, rfl⟩, rfl⟩
def T21 : Ty := ⟨1, 4, .int .i32, [.v (.int .i32 0)]⟩
theorem tok21 : TyOk Try.prog 21 T21 := ⟨⟨_, _, rfl, rfl, rfl, rfl, rfl, rfl, rfl⟩, rfl⟩
def T22 : Ty := ⟨2, 16, .str [(0, 3, 1), (1, 3, 1)], [.v (.int .i64 0), .v (.int .i64 0)]⟩
theorem tok22 : TyOk Try.prog 22 T22 := ⟨⟨_, _, rfl, rfl, rfl, rfl, rfl, rfl, rfl⟩, _, rfl, rfl, rfl⟩
def T23 : Ty := ⟨2, 16, .str [(0, 3, 1), (1, 3, 1)], [.v (.int .i64 0), .v (.int .i64 0)]⟩
theorem tok23 : TyOk Try.prog 23 T23 := ⟨⟨_, _, rfl, rfl, rfl, rfl, rfl, rfl, rfl⟩, _, rfl, rfl, rfl⟩
def T35 : Ty := ⟨3, 3, .arr 3 5, [.v (.int .u8 0), .v (.int .u8 0), .v (.int .u8 0)]⟩
theorem tok35 : TyOk Try.prog 35 T35 := ⟨⟨_, _, rfl, rfl, rfl, rfl, rfl, rfl, rfl⟩, rfl⟩
def T37 : Ty := ⟨4, 32, .str [(0, 23, 2), (2, 23, 2)], [.v (.int .i64 0), .v (.int .i64 0), .v (.int .i64 0), .v (.int .i64 0)]⟩
theorem tok37 : TyOk Try.prog 37 T37 := ⟨⟨_, _, rfl, rfl, rfl, rfl, rfl, rfl, rfl⟩, _, rfl, rfl, rfl⟩
def T38 : Ty := ⟨4, 32, .str [(0, 23, 2), (2, 23, 2)], [.v (.int .i64 0), .v (.int .i64 0), .v (.int .i64 0), .v (.int .i64 0)]⟩
theorem tok38 : TyOk Try.prog 38 T38 := ⟨⟨_, _, rfl, rfl, rfl, rfl, rfl, rfl, rfl⟩, _, rfl, rfl, rfl⟩
def T41 : Ty := ⟨4, 32, .arr 4 3, [.v (.int .i64 0), .v (.int .i64 0), .v (.int .i64 0), .v (.int .i64 0)]⟩
theorem tok41 : TyOk Try.prog 41 T41 := ⟨⟨_, _, rfl, rfl, rfl, rfl, rfl, rfl, rfl⟩, rfl⟩
def T45 : Ty := ⟨1, 24, .slc 23, [.v (.slice none 0 0)]⟩
theorem tok45 : TyOk Try.prog 45 T45 := ⟨⟨_, _, rfl, rfl, rfl, rfl, rfl, rfl, rfl⟩, rfl⟩
def T46 : Ty := ⟨32, 256, .arr 8 41, [.v (.int .i64 0), .v (.int .i64 0), .v (.int .i64 0), .v (.int .i64 0), .v (.int .i64 0), .v (.int .i64 0), .v (.int .i64 0), .v (.int .i64 0), .v (.int .i64 0), .v (.int .i64 0), .v (.int .i64 0), .v (.int .i64 0), .v (.int .i64 0), .v (.int .i64 0), .v (.int .i64 0), .v (.int .i64 0), .v (.int .i64 0), .v (.int .i64 0), .v (.int .i64 0), .v (.int .i64 0), .v (.int .i64 0), .v (.int .i64 0), .v (.int .i64 0), .v (.int .i64 0), .v (.int .i64 0), .v (.int .i64 0), .v (.int .i64 0), .v (.int .i64 0), .v (.int .i64 0), .v (.int .i64 0), .v (.int .i64 0), .v (.int .i64 0)]⟩
theorem tok46 : TyOk Try.prog 46 T46 := ⟨⟨_, _, rfl, rfl, rfl, rfl, rfl, rfl, rfl⟩, rfl⟩
def T54 : Ty := ⟨1, 4, .int .u32, [.v (.int .u32 0)]⟩
theorem tok54 : TyOk Try.prog 54 T54 := ⟨⟨_, _, rfl, rfl, rfl, rfl, rfl, rfl, rfl⟩, rfl⟩
abbrev TT : Tab := tabL [(2, T2), (3, T3), (4, T4), (5, T5), (9, T9), (12, T12), (21, T21), (22, T22), (23, T23), (35, T35), (37, T37), (38, T38), (41, T41), (45, T45), (46, T46), (54, T54)]
theorem TTok : TabOk Try.prog TT := tabL_ok (.cons tok2 ( .cons tok3 ( .cons tok4 ( .cons tok5 ( .cons tok9 ( .cons tok12 ( .cons tok21 ( .cons tok22 ( .cons tok23 ( .cons tok35 ( .cons tok37 ( .cons tok38 ( .cons tok41 ( .cons tok45 ( .cons tok46 ( .cons tok54 (.nil)))))))))))))))))
theorem eqin22 : EqIn Try.prog 2 22 T22 := EqIn.str rfl rfl (by kernel_rfl) (.cons (TF := T3) (by decide) rfl tok3 (by decide) (fun d hd => (EqIn.int rfl rfl rfl) d (Nat.le_trans (Nat.le_of_ble_eq_true rfl) hd)) (.cons (TF := T3) (by decide) rfl tok3 (by decide) (fun d hd => (EqIn.int rfl rfl rfl) d (Nat.le_trans (Nat.le_of_ble_eq_true rfl) hd)) (.nil _)))
theorem eq22 (a0 a1 b0 b1 : Int) : EqFact Try.prog 22 [i64 a0, i64 a1] [i64 b0, i64 b1] (decide ([a0, a1] = [b0, b1])) := eqin22.fact (Nat.le_of_ble_eq_true rfl) rfl (by kernel_rfl) [a0, a1] [b0, b1] rfl rfl
theorem typ22 {cs : List SV} (h : Typ Try.prog 22 cs) : ∃ a0 a1, cs = [i64 a0, i64 a1] ∧ R64 a0 ∧ R64 a1 := by
  have hl : cs.length = 2 := (Typ.inv_str rfl h).1
  match cs, hl, h with
  | [c0, c1], _, h =>
    obtain ⟨a0, e0, ha0⟩ := Typ.inv_i64 rfl (h.field rfl 0 0 1 3 rfl)
    cases (show [c0] = [i64 a0] from e0)
    obtain ⟨a1, e1, ha1⟩ := Typ.inv_i64 rfl (h.field rfl 1 1 1 3 rfl)
    cases (show [c1] = [i64 a1] from e1)
    exact ⟨a0, a1, rfl, ha0, ha1⟩
theorem eqin23 : EqIn Try.prog 2 23 T23 := EqIn.str rfl rfl (by kernel_rfl) (.cons (TF := T3) (by decide) rfl tok3 (by decide) (fun d hd => (EqIn.int rfl rfl rfl) d (Nat.le_trans (Nat.le_of_ble_eq_true rfl) hd)) (.cons (TF := T3) (by decide) rfl tok3 (by decide) (fun d hd => (EqIn.int rfl rfl rfl) d (Nat.le_trans (Nat.le_of_ble_eq_true rfl) hd)) (.nil _)))
theorem eq23 (a0 a1 b0 b1 : Int) : EqFact Try.prog 23 [i64 a0, i64 a1] [i64 b0, i64 b1] (decide ([a0, a1] = [b0, b1])) := eqin23.fact (Nat.le_of_ble_eq_true rfl) rfl (by kernel_rfl) [a0, a1] [b0, b1] rfl rfl
theorem typ23 {cs : List SV} (h : Typ Try.prog 23 cs) : ∃ a0 a1, cs = [i64 a0, i64 a1] ∧ R64 a0 ∧ R64 a1 := by
  have hl : cs.length = 2 := (Typ.inv_str rfl h).1
  match cs, hl, h with
  | [c0, c1], _, h =>
    obtain ⟨a0, e0, ha0⟩ := Typ.inv_i64 rfl (h.field rfl 0 0 1 3 rfl)
    cases (show [c0] = [i64 a0] from e0)
    obtain ⟨a1, e1, ha1⟩ := Typ.inv_i64 rfl (h.field rfl 1 1 1 3 rfl)
    cases (show [c1] = [i64 a1] from e1)
    exact ⟨a0, a1, rfl, ha0, ha1⟩
theorem eqin37 : EqIn Try.prog 3 37 T37 := EqIn.str rfl rfl (by kernel_rfl) (.cons (TF := T23) (by decide) rfl tok23 (by decide) (fun d hd => eqin23 d (Nat.le_trans (Nat.le_of_ble_eq_true rfl) hd)) (.cons (TF := T23) (by decide) rfl tok23 (by decide) (fun d hd => eqin23 d (Nat.le_trans (Nat.le_of_ble_eq_true rfl) hd)) (.nil _)))
theorem eq37 (a0 a1 a2 a3 b0 b1 b2 b3 : Int) : EqFact Try.prog 37 [i64 a0, i64 a1, i64 a2, i64 a3] [i64 b0, i64 b1, i64 b2, i64 b3] (decide ([a0, a1, a2, a3] = [b0, b1, b2, b3])) := eqin37.fact (Nat.le_of_ble_eq_true rfl) rfl (by kernel_rfl) [a0, a1, a2, a3] [b0, b1, b2, b3] rfl rfl
theorem typ37 {cs : List SV} (h : Typ Try.prog 37 cs) : ∃ a0 a1 a2 a3, cs = [i64 a0, i64 a1, i64 a2, i64 a3] ∧ R64 a0 ∧ R64 a1 ∧ R64 a2 ∧ R64 a3 := by
  have hl : cs.length = 4 := (Typ.inv_str rfl h).1
  match cs, hl, h with
  | [c0, c1, c2, c3], _, h =>
    obtain ⟨a0, a1, e0, ha0, ha1⟩ := typ23 (h.field rfl 0 0 2 23 rfl)
    cases (show [c0, c1] = [i64 a0, i64 a1] from e0)
    obtain ⟨a2, a3, e1, ha2, ha3⟩ := typ23 (h.field rfl 1 2 2 23 rfl)
    cases (show [c2, c3] = [i64 a2, i64 a3] from e1)
    exact ⟨a0, a1, a2, a3, rfl, ha0, ha1, ha2, ha3⟩
theorem eqin38 : EqIn Try.prog 3 38 T38 := EqIn.str rfl rfl (by kernel_rfl) (.cons (TF := T23) (by decide) rfl tok23 (by decide) (fun d hd => eqin23 d (Nat.le_trans (Nat.le_of_ble_eq_true rfl) hd)) (.cons (TF := T23) (by decide) rfl tok23 (by decide) (fun d hd => eqin23 d (Nat.le_trans (Nat.le_of_ble_eq_true rfl) hd)) (.nil _)))
theorem eq38 (a0 a1 a2 a3 b0 b1 b2 b3 : Int) : EqFact Try.prog 38 [i64 a0, i64 a1, i64 a2, i64 a3] [i64 b0, i64 b1, i64 b2, i64 b3] (decide ([a0, a1, a2, a3] = [b0, b1, b2, b3])) := eqin38.fact (Nat.le_of_ble_eq_true rfl) rfl (by kernel_rfl) [a0, a1, a2, a3] [b0, b1, b2, b3] rfl rfl
theorem typ38 {cs : List SV} (h : Typ Try.prog 38 cs) : ∃ a0 a1 a2 a3, cs = [i64 a0, i64 a1, i64 a2, i64 a3] ∧ R64 a0 ∧ R64 a1 ∧ R64 a2 ∧ R64 a3 := by
  have hl : cs.length = 4 := (Typ.inv_str rfl h).1
  match cs, hl, h with
  | [c0, c1, c2, c3], _, h =>
    obtain ⟨a0, a1, e0, ha0, ha1⟩ := typ23 (h.field rfl 0 0 2 23 rfl)
    cases (show [c0, c1] = [i64 a0, i64 a1] from e0)
    obtain ⟨a2, a3, e1, ha2, ha3⟩ := typ23 (h.field rfl 1 2 2 23 rfl)
    cases (show [c2, c3] = [i64 a2, i64 a3] from e1)
    exact ⟨a0, a1, a2, a3, rfl, ha0, ha1, ha2, ha3⟩
theorem mixed : Try.prog.follows .mixedOrders = true := by kernel_rfl
end Go.Vm
