/-
  The table of this program's types.
-/
import Derived.Test.YtlgnghcflnkhcaaVmQ
import Derived.Test.YtlgnghcflnkhcaaProg
namespace Go.Vm
open Go Go.RowKit Go.Proofs
def T2 : Ty := ⟨1, 8, .int .i64, [.v (.int .i64 0)]⟩
theorem tok2 : TyOk Try.prog 2 T2 := ⟨⟨_, _, rfl, rfl, rfl, rfl, rfl, rfl, rfl⟩, rfl⟩
def T3 : Ty := ⟨1, 8, .int .i64, [.v (.int .i64 0)]⟩
theorem tok3 : TyOk Try.prog 3 T3 := ⟨⟨_, _, rfl, rfl, rfl, rfl, rfl, rfl, rfl⟩, rfl⟩
def T4 : Ty := ⟨1, 1, .cell, [.v (.bool false)]⟩
theorem tok4 : TyOk Try.prog 4 T4 := ⟨⟨_, _, rfl, rfl, rfl, rfl, rfl, rfl, rfl⟩, _, rfl, rfl⟩
def T5 : Ty := ⟨1, 1, .int .u8, [.v (.int .u8 0)]⟩
theorem tok5 : TyOk Try.prog 5 T5 := ⟨⟨_, _, rfl, rfl, rfl, rfl, rfl, rfl, rfl⟩, rfl⟩
def T9 : Ty := ⟨1, 16, .cell, [.v (.string ⟨#[]⟩)]⟩
theorem tok9 : TyOk Try.prog 9 T9 := ⟨⟨_, _, rfl, rfl, rfl, rfl, rfl, rfl, rfl⟩, _, rfl, rfl⟩
def T12 : Ty := ⟨1, 8, .int .u64, [.v (.int .u64 0)]⟩
theorem tok12 : TyOk Try.prog 12 T12 := ⟨⟨_, _, rfl, rfl, rfl, rfl, rfl, rfl, rfl⟩, rfl⟩
def T21 : Ty := ⟨1, 4, .int .i32, [.v (.int .i32 0)]⟩
theorem tok21 : TyOk Try.prog 21 T21 := ⟨⟨_, _, rfl, rfl, rfl, rfl, rfl, rfl, rfl⟩, rfl⟩
def T22 : Ty := ⟨1, 24, .slc 30, [.v (.slice none 0 0)]⟩
theorem tok22 : TyOk Try.prog 22 T22 := ⟨⟨_, _, rfl, rfl, rfl, rfl, rfl, rfl, rfl⟩, rfl⟩
def T25 : Ty := ⟨1, 8, .int .i64, [.v (.int .i64 0)]⟩
theorem tok25 : TyOk Try.prog 25 T25 := ⟨⟨_, _, rfl, rfl, rfl, rfl, rfl, rfl, rfl⟩, rfl⟩
def T29 : Ty := ⟨5, 56, .str [(0, 9, 1), (1, 9, 1), (2, 3, 1), (3, 3, 1), (4, 3, 1)], [.v (.string ⟨#[]⟩), .v (.string ⟨#[]⟩), .v (.int .i64 0), .v (.int .i64 0), .v (.int .i64 0)]⟩
theorem tok29 : TyOk Try.prog 29 T29 := ⟨⟨_, _, rfl, rfl, rfl, rfl, rfl, rfl, rfl⟩, _, rfl, rfl, rfl⟩
def T30 : Ty := ⟨5, 56, .str [(0, 9, 1), (1, 9, 1), (2, 3, 1), (3, 3, 1), (4, 3, 1)], [.v (.string ⟨#[]⟩), .v (.string ⟨#[]⟩), .v (.int .i64 0), .v (.int .i64 0), .v (.int .i64 0)]⟩
theorem tok30 : TyOk Try.prog 30 T30 := ⟨⟨_, _, rfl, rfl, rfl, rfl, rfl, rfl, rfl⟩, _, rfl, rfl, rfl⟩
def T37 : Ty := ⟨1, 24, .slc 3, [.v (.slice none 0 0)]⟩
theorem tok37 : TyOk Try.prog 37 T37 := ⟨⟨_, _, rfl, rfl, rfl, rfl, rfl, rfl, rfl⟩, rfl⟩
def T41 : Ty := ⟨1, 24, .slc 57, [.v (.slice none 0 0)]⟩
theorem tok41 : TyOk Try.prog 41 T41 := ⟨⟨_, _, rfl, rfl, rfl, rfl, rfl, rfl, rfl⟩, rfl⟩
def T42 : Ty := ⟨5, 72, .str [(0, 3, 1), (1, 9, 1), (2, 9, 1), (3, 3, 1), (4, 41, 1)], [.v (.int .i64 0), .v (.string ⟨#[]⟩), .v (.string ⟨#[]⟩), .v (.int .i64 0), .v (.slice none 0 0)]⟩
theorem tok42 : TyOk Try.prog 42 T42 := ⟨⟨_, _, rfl, rfl, rfl, rfl, rfl, rfl, rfl⟩, _, rfl, rfl, rfl⟩
def T43 : Ty := ⟨5, 72, .str [(0, 3, 1), (1, 9, 1), (2, 9, 1), (3, 3, 1), (4, 41, 1)], [.v (.int .i64 0), .v (.string ⟨#[]⟩), .v (.string ⟨#[]⟩), .v (.int .i64 0), .v (.slice none 0 0)]⟩
theorem tok43 : TyOk Try.prog 43 T43 := ⟨⟨_, _, rfl, rfl, rfl, rfl, rfl, rfl, rfl⟩, _, rfl, rfl, rfl⟩
def T47 : Ty := ⟨1, 24, .slc 66, [.v (.slice none 0 0)]⟩
theorem tok47 : TyOk Try.prog 47 T47 := ⟨⟨_, _, rfl, rfl, rfl, rfl, rfl, rfl, rfl⟩, rfl⟩
def T51 : Ty := ⟨1, 24, .slc 80, [.v (.slice none 0 0)]⟩
theorem tok51 : TyOk Try.prog 51 T51 := ⟨⟨_, _, rfl, rfl, rfl, rfl, rfl, rfl, rfl⟩, rfl⟩
def T57 : Ty := ⟨2, 16, .arr 2 3, [.v (.int .i64 0), .v (.int .i64 0)]⟩
theorem tok57 : TyOk Try.prog 57 T57 := ⟨⟨_, _, rfl, rfl, rfl, rfl, rfl, rfl, rfl⟩, rfl⟩
def T64 : Ty := ⟨1, 24, .slc 4, [.v (.slice none 0 0)]⟩
theorem tok64 : TyOk Try.prog 64 T64 := ⟨⟨_, _, rfl, rfl, rfl, rfl, rfl, rfl, rfl⟩, rfl⟩
def T65 : Ty := ⟨2, 16, .str [(0, 3, 1), (1, 4, 1)], [.v (.int .i64 0), .v (.bool false)]⟩
theorem tok65 : TyOk Try.prog 65 T65 := ⟨⟨_, _, rfl, rfl, rfl, rfl, rfl, rfl, rfl⟩, _, rfl, rfl, rfl⟩
def T66 : Ty := ⟨2, 16, .str [(0, 3, 1), (1, 4, 1)], [.v (.int .i64 0), .v (.bool false)]⟩
theorem tok66 : TyOk Try.prog 66 T66 := ⟨⟨_, _, rfl, rfl, rfl, rfl, rfl, rfl, rfl⟩, _, rfl, rfl, rfl⟩
def T80 : Ty := ⟨2, 16, .str [(0, 3, 1), (1, 4, 1)], [.v (.int .i64 0), .v (.bool false)]⟩
theorem tok80 : TyOk Try.prog 80 T80 := ⟨⟨_, _, rfl, rfl, rfl, rfl, rfl, rfl, rfl⟩, _, rfl, rfl, rfl⟩
def T94 : Ty := ⟨1, 4, .int .u32, [.v (.int .u32 0)]⟩
theorem tok94 : TyOk Try.prog 94 T94 := ⟨⟨_, _, rfl, rfl, rfl, rfl, rfl, rfl, rfl⟩, rfl⟩
abbrev TT : Tab := tabL [(2, T2), (3, T3), (4, T4), (5, T5), (9, T9), (12, T12), (21, T21), (22, T22), (25, T25), (29, T29), (30, T30), (37, T37), (41, T41), (42, T42), (43, T43), (47, T47), (51, T51), (57, T57), (64, T64), (65, T65), (66, T66), (80, T80), (94, T94)]
theorem TTok : TabOk Try.prog TT := tabL_ok (.cons tok2 ( .cons tok3 ( .cons tok4 ( .cons tok5 ( .cons tok9 ( .cons tok12 ( .cons tok21 ( .cons tok22 ( .cons tok25 ( .cons tok29 ( .cons tok30 ( .cons tok37 ( .cons tok41 ( .cons tok42 ( .cons tok43 ( .cons tok47 ( .cons tok51 ( .cons tok57 ( .cons tok64 ( .cons tok65 ( .cons tok66 ( .cons tok80 ( .cons tok94 (.nil))))))))))))))))))))))))
abbrev C29 : List Value → Prop := fun xs => ∃ a b, xs = a ++ b ∧ CStr a ∧ (fun xs => ∃ a b, xs = a ++ b ∧ CStr a ∧ (fun xs => ∃ a b, xs = a ++ b ∧ CInt a ∧ (fun xs => ∃ a b, xs = a ++ b ∧ CInt a ∧ (fun xs => ∃ a b, xs = a ++ b ∧ CInt a ∧ (fun xs => xs = []) b) b) b) b) b
theorem eqin29 : EqIn Try.prog 2 29 T29 C29 := EqIn.str rfl rfl (by kernel_rfl) (.cons (TF := T9) (by decide) rfl tok9 (by decide) (EqIn.mono (EqIn.string rfl rfl rfl) (Nat.le_of_ble_eq_true rfl)) (.cons (TF := T9) (by decide) rfl tok9 (by decide) (EqIn.mono (EqIn.string rfl rfl rfl) (Nat.le_of_ble_eq_true rfl)) (.cons (TF := T3) (by decide) rfl tok3 (by decide) (EqIn.mono (EqIn.int rfl rfl rfl) (Nat.le_of_ble_eq_true rfl)) (.cons (TF := T3) (by decide) rfl tok3 (by decide) (EqIn.mono (EqIn.int rfl rfl rfl) (Nat.le_of_ble_eq_true rfl)) (.cons (TF := T3) (by decide) rfl tok3 (by decide) (EqIn.mono (EqIn.int rfl rfl rfl) (Nat.le_of_ble_eq_true rfl)) (.nil _))))))
theorem eq29 (a0 : ByteArray) (a1 : ByteArray) (a2 : Int) (a3 : Int) (a4 : Int) (b0 : ByteArray) (b1 : ByteArray) (b2 : Int) (b3 : Int) (b4 : Int) : EqFact Try.prog 29 [.v (.string a0), .v (.string a1), i64 a2, i64 a3, i64 a4] [.v (.string b0), .v (.string b1), i64 b2, i64 b3, i64 b4] (decide (a0 = b0 ∧ a1 = b1 ∧ a2 = b2 ∧ a3 = b3 ∧ a4 = b4)) := eqin29.fact (Nat.le_of_ble_eq_true rfl) rfl (by kernel_rfl) [.string a0, .string a1, iv a2, iv a3, iv a4] [.string b0, .string b1, iv b2, iv b3, iv b4] ⟨[.string a0], _, rfl, ⟨a0, rfl⟩, ⟨[.string a1], _, rfl, ⟨a1, rfl⟩, ⟨[iv a2], _, rfl, ⟨a2, rfl⟩, ⟨[iv a3], _, rfl, ⟨a3, rfl⟩, ⟨[iv a4], _, rfl, ⟨a4, rfl⟩, rfl⟩⟩⟩⟩⟩ ⟨[.string b0], _, rfl, ⟨b0, rfl⟩, ⟨[.string b1], _, rfl, ⟨b1, rfl⟩, ⟨[iv b2], _, rfl, ⟨b2, rfl⟩, ⟨[iv b3], _, rfl, ⟨b3, rfl⟩, ⟨[iv b4], _, rfl, ⟨b4, rfl⟩, rfl⟩⟩⟩⟩⟩ _ (by simp)
theorem typ29 {cs : List SV} (h : Typ Try.prog 29 cs) : ∃ a0 a1 a2 a3 a4, cs = [.v (.string a0), .v (.string a1), i64 a2, i64 a3, i64 a4] ∧ a0.size ≤ maxLen ∧ a1.size ≤ maxLen ∧ R64 a2 ∧ R64 a3 ∧ R64 a4 := by
  have hl : cs.length = 5 := (Typ.inv_str rfl h).1
  match cs, hl, h with
  | [c0, c1, c2, c3, c4], _, h =>
    obtain ⟨a0, e0, ha0⟩ := Typ.inv_string rfl (h.field rfl 0 0 1 9 rfl)
    cases (show [c0] = [.v (.string a0)] from e0)
    obtain ⟨a1, e1, ha1⟩ := Typ.inv_string rfl (h.field rfl 1 1 1 9 rfl)
    cases (show [c1] = [.v (.string a1)] from e1)
    obtain ⟨a2, e2, ha2⟩ := Typ.inv_i64 rfl (h.field rfl 2 2 1 3 rfl)
    cases (show [c2] = [i64 a2] from e2)
    obtain ⟨a3, e3, ha3⟩ := Typ.inv_i64 rfl (h.field rfl 3 3 1 3 rfl)
    cases (show [c3] = [i64 a3] from e3)
    obtain ⟨a4, e4, ha4⟩ := Typ.inv_i64 rfl (h.field rfl 4 4 1 3 rfl)
    cases (show [c4] = [i64 a4] from e4)
    exact ⟨a0, a1, a2, a3, a4, rfl, ha0, ha1, ha2, ha3, ha4⟩
abbrev C30 : List Value → Prop := fun xs => ∃ a b, xs = a ++ b ∧ CStr a ∧ (fun xs => ∃ a b, xs = a ++ b ∧ CStr a ∧ (fun xs => ∃ a b, xs = a ++ b ∧ CInt a ∧ (fun xs => ∃ a b, xs = a ++ b ∧ CInt a ∧ (fun xs => ∃ a b, xs = a ++ b ∧ CInt a ∧ (fun xs => xs = []) b) b) b) b) b
theorem eqin30 : EqIn Try.prog 2 30 T30 C30 := EqIn.str rfl rfl (by kernel_rfl) (.cons (TF := T9) (by decide) rfl tok9 (by decide) (EqIn.mono (EqIn.string rfl rfl rfl) (Nat.le_of_ble_eq_true rfl)) (.cons (TF := T9) (by decide) rfl tok9 (by decide) (EqIn.mono (EqIn.string rfl rfl rfl) (Nat.le_of_ble_eq_true rfl)) (.cons (TF := T3) (by decide) rfl tok3 (by decide) (EqIn.mono (EqIn.int rfl rfl rfl) (Nat.le_of_ble_eq_true rfl)) (.cons (TF := T3) (by decide) rfl tok3 (by decide) (EqIn.mono (EqIn.int rfl rfl rfl) (Nat.le_of_ble_eq_true rfl)) (.cons (TF := T3) (by decide) rfl tok3 (by decide) (EqIn.mono (EqIn.int rfl rfl rfl) (Nat.le_of_ble_eq_true rfl)) (.nil _))))))
theorem eq30 (a0 : ByteArray) (a1 : ByteArray) (a2 : Int) (a3 : Int) (a4 : Int) (b0 : ByteArray) (b1 : ByteArray) (b2 : Int) (b3 : Int) (b4 : Int) : EqFact Try.prog 30 [.v (.string a0), .v (.string a1), i64 a2, i64 a3, i64 a4] [.v (.string b0), .v (.string b1), i64 b2, i64 b3, i64 b4] (decide (a0 = b0 ∧ a1 = b1 ∧ a2 = b2 ∧ a3 = b3 ∧ a4 = b4)) := eqin30.fact (Nat.le_of_ble_eq_true rfl) rfl (by kernel_rfl) [.string a0, .string a1, iv a2, iv a3, iv a4] [.string b0, .string b1, iv b2, iv b3, iv b4] ⟨[.string a0], _, rfl, ⟨a0, rfl⟩, ⟨[.string a1], _, rfl, ⟨a1, rfl⟩, ⟨[iv a2], _, rfl, ⟨a2, rfl⟩, ⟨[iv a3], _, rfl, ⟨a3, rfl⟩, ⟨[iv a4], _, rfl, ⟨a4, rfl⟩, rfl⟩⟩⟩⟩⟩ ⟨[.string b0], _, rfl, ⟨b0, rfl⟩, ⟨[.string b1], _, rfl, ⟨b1, rfl⟩, ⟨[iv b2], _, rfl, ⟨b2, rfl⟩, ⟨[iv b3], _, rfl, ⟨b3, rfl⟩, ⟨[iv b4], _, rfl, ⟨b4, rfl⟩, rfl⟩⟩⟩⟩⟩ _ (by simp)
theorem typ30 {cs : List SV} (h : Typ Try.prog 30 cs) : ∃ a0 a1 a2 a3 a4, cs = [.v (.string a0), .v (.string a1), i64 a2, i64 a3, i64 a4] ∧ a0.size ≤ maxLen ∧ a1.size ≤ maxLen ∧ R64 a2 ∧ R64 a3 ∧ R64 a4 := by
  have hl : cs.length = 5 := (Typ.inv_str rfl h).1
  match cs, hl, h with
  | [c0, c1, c2, c3, c4], _, h =>
    obtain ⟨a0, e0, ha0⟩ := Typ.inv_string rfl (h.field rfl 0 0 1 9 rfl)
    cases (show [c0] = [.v (.string a0)] from e0)
    obtain ⟨a1, e1, ha1⟩ := Typ.inv_string rfl (h.field rfl 1 1 1 9 rfl)
    cases (show [c1] = [.v (.string a1)] from e1)
    obtain ⟨a2, e2, ha2⟩ := Typ.inv_i64 rfl (h.field rfl 2 2 1 3 rfl)
    cases (show [c2] = [i64 a2] from e2)
    obtain ⟨a3, e3, ha3⟩ := Typ.inv_i64 rfl (h.field rfl 3 3 1 3 rfl)
    cases (show [c3] = [i64 a3] from e3)
    obtain ⟨a4, e4, ha4⟩ := Typ.inv_i64 rfl (h.field rfl 4 4 1 3 rfl)
    cases (show [c4] = [i64 a4] from e4)
    exact ⟨a0, a1, a2, a3, a4, rfl, ha0, ha1, ha2, ha3, ha4⟩
abbrev C65 : List Value → Prop := fun xs => ∃ a b, xs = a ++ b ∧ CInt a ∧ (fun xs => ∃ a b, xs = a ++ b ∧ CBool a ∧ (fun xs => xs = []) b) b
theorem eqin65 : EqIn Try.prog 2 65 T65 C65 := EqIn.str rfl rfl (by kernel_rfl) (.cons (TF := T3) (by decide) rfl tok3 (by decide) (EqIn.mono (EqIn.int rfl rfl rfl) (Nat.le_of_ble_eq_true rfl)) (.cons (TF := T4) (by decide) rfl tok4 (by decide) (EqIn.mono (EqIn.bool rfl rfl rfl) (Nat.le_of_ble_eq_true rfl)) (.nil _)))
theorem eq65 (a0 : Int) (a1 : Bool) (b0 : Int) (b1 : Bool) : EqFact Try.prog 65 [i64 a0, .v (.bool a1)] [i64 b0, .v (.bool b1)] (decide (a0 = b0 ∧ a1 = b1)) := eqin65.fact (Nat.le_of_ble_eq_true rfl) rfl (by kernel_rfl) [iv a0, .bool a1] [iv b0, .bool b1] ⟨[iv a0], _, rfl, ⟨a0, rfl⟩, ⟨[.bool a1], _, rfl, ⟨a1, rfl⟩, rfl⟩⟩ ⟨[iv b0], _, rfl, ⟨b0, rfl⟩, ⟨[.bool b1], _, rfl, ⟨b1, rfl⟩, rfl⟩⟩ _ (by simp)
theorem typ65 {cs : List SV} (h : Typ Try.prog 65 cs) : ∃ a0 a1, cs = [i64 a0, .v (.bool a1)] ∧ R64 a0 ∧ a1 = a1 := by
  have hl : cs.length = 2 := (Typ.inv_str rfl h).1
  match cs, hl, h with
  | [c0, c1], _, h =>
    obtain ⟨a0, e0, ha0⟩ := Typ.inv_i64 rfl (h.field rfl 0 0 1 3 rfl)
    cases (show [c0] = [i64 a0] from e0)
    obtain ⟨a1, e1, ha1⟩ := Typ.inv_bool' rfl (h.field rfl 1 1 1 4 rfl)
    cases (show [c1] = [.v (.bool a1)] from e1)
    exact ⟨a0, a1, rfl, ha0, ha1⟩
abbrev C66 : List Value → Prop := fun xs => ∃ a b, xs = a ++ b ∧ CInt a ∧ (fun xs => ∃ a b, xs = a ++ b ∧ CBool a ∧ (fun xs => xs = []) b) b
theorem eqin66 : EqIn Try.prog 2 66 T66 C66 := EqIn.str rfl rfl (by kernel_rfl) (.cons (TF := T3) (by decide) rfl tok3 (by decide) (EqIn.mono (EqIn.int rfl rfl rfl) (Nat.le_of_ble_eq_true rfl)) (.cons (TF := T4) (by decide) rfl tok4 (by decide) (EqIn.mono (EqIn.bool rfl rfl rfl) (Nat.le_of_ble_eq_true rfl)) (.nil _)))
theorem eq66 (a0 : Int) (a1 : Bool) (b0 : Int) (b1 : Bool) : EqFact Try.prog 66 [i64 a0, .v (.bool a1)] [i64 b0, .v (.bool b1)] (decide (a0 = b0 ∧ a1 = b1)) := eqin66.fact (Nat.le_of_ble_eq_true rfl) rfl (by kernel_rfl) [iv a0, .bool a1] [iv b0, .bool b1] ⟨[iv a0], _, rfl, ⟨a0, rfl⟩, ⟨[.bool a1], _, rfl, ⟨a1, rfl⟩, rfl⟩⟩ ⟨[iv b0], _, rfl, ⟨b0, rfl⟩, ⟨[.bool b1], _, rfl, ⟨b1, rfl⟩, rfl⟩⟩ _ (by simp)
theorem typ66 {cs : List SV} (h : Typ Try.prog 66 cs) : ∃ a0 a1, cs = [i64 a0, .v (.bool a1)] ∧ R64 a0 ∧ a1 = a1 := by
  have hl : cs.length = 2 := (Typ.inv_str rfl h).1
  match cs, hl, h with
  | [c0, c1], _, h =>
    obtain ⟨a0, e0, ha0⟩ := Typ.inv_i64 rfl (h.field rfl 0 0 1 3 rfl)
    cases (show [c0] = [i64 a0] from e0)
    obtain ⟨a1, e1, ha1⟩ := Typ.inv_bool' rfl (h.field rfl 1 1 1 4 rfl)
    cases (show [c1] = [.v (.bool a1)] from e1)
    exact ⟨a0, a1, rfl, ha0, ha1⟩
abbrev C80 : List Value → Prop := fun xs => ∃ a b, xs = a ++ b ∧ CInt a ∧ (fun xs => ∃ a b, xs = a ++ b ∧ CBool a ∧ (fun xs => xs = []) b) b
theorem eqin80 : EqIn Try.prog 2 80 T80 C80 := EqIn.str rfl rfl (by kernel_rfl) (.cons (TF := T3) (by decide) rfl tok3 (by decide) (EqIn.mono (EqIn.int rfl rfl rfl) (Nat.le_of_ble_eq_true rfl)) (.cons (TF := T4) (by decide) rfl tok4 (by decide) (EqIn.mono (EqIn.bool rfl rfl rfl) (Nat.le_of_ble_eq_true rfl)) (.nil _)))
theorem eq80 (a0 : Int) (a1 : Bool) (b0 : Int) (b1 : Bool) : EqFact Try.prog 80 [i64 a0, .v (.bool a1)] [i64 b0, .v (.bool b1)] (decide (a0 = b0 ∧ a1 = b1)) := eqin80.fact (Nat.le_of_ble_eq_true rfl) rfl (by kernel_rfl) [iv a0, .bool a1] [iv b0, .bool b1] ⟨[iv a0], _, rfl, ⟨a0, rfl⟩, ⟨[.bool a1], _, rfl, ⟨a1, rfl⟩, rfl⟩⟩ ⟨[iv b0], _, rfl, ⟨b0, rfl⟩, ⟨[.bool b1], _, rfl, ⟨b1, rfl⟩, rfl⟩⟩ _ (by simp)
theorem typ80 {cs : List SV} (h : Typ Try.prog 80 cs) : ∃ a0 a1, cs = [i64 a0, .v (.bool a1)] ∧ R64 a0 ∧ a1 = a1 := by
  have hl : cs.length = 2 := (Typ.inv_str rfl h).1
  match cs, hl, h with
  | [c0, c1], _, h =>
    obtain ⟨a0, e0, ha0⟩ := Typ.inv_i64 rfl (h.field rfl 0 0 1 3 rfl)
    cases (show [c0] = [i64 a0] from e0)
    obtain ⟨a1, e1, ha1⟩ := Typ.inv_bool' rfl (h.field rfl 1 1 1 4 rfl)
    cases (show [c1] = [.v (.bool a1)] from e1)
    exact ⟨a0, a1, rfl, ha0, ha1⟩
theorem mixed : Try.prog.follows .mixedOrders = true := by kernel_rfl
end Go.Vm
