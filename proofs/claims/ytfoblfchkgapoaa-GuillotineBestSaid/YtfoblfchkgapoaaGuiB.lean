/-
  Layer 38: contracts of the solver's value, of the closure try and of solve.
  Layer 38: the solver as an object; contract of its leaf.
-/
import Derived.Test.YtfoblfchkgapoaaStpZ
namespace Go.Vm
set_option maxRecDepth 20000
set_option linter.unusedVariables false
set_option linter.unusedSimpArgs false
open Go Go.RowKit Go.Proofs
namespace St

structure Pn where
  v : Int
  k : Int
  a : Int
  d : Bool
abbrev pnL (p : Pn) : List SV := [i64 p.v, i64 p.k, i64 p.a, .v (.bool p.d)]
abbrev pn0 : Pn := ⟨0, 0, 0, false⟩
abbrev pnS (l : List Pn) : SV := .sl l.length 4 (lG pnL pn0 l)
abbrev pnget (l : List Pn) (i : Nat) : Pn := l.getD i pn0
abbrev rwget (l : List (List Pn)) (i : Nat) : List Pn := l.getD i []
def slC (ks : List Knd) (kerf : Int) (rows : List (List Pn)) (T : SV) : Nat → SV
  | 0 => kS ks
  | 1 => i64 kerf
  | n + 2 => if n < 201 then pnS (rwget rows n) else T
theorem slC_row (ks : List Knd) (kerf : Int) (rows : List (List Pn)) (T : SV) (n : Nat) (hn : n < 201) : slC ks kerf rows T (2 + n) = pnS (rwget rows n) := by
  rw [Nat.add_comm]
  show (if n < 201 then _ else _) = _
  rw [if_pos hn]
abbrev slA (ks : List Knd) (kerf : Int) (rows : List (List Pn)) (T : SV) : SV := .ad 204 (slC ks kerf rows T)
def valI (rows : List (List Pn)) (w h : Int) : Int := if w < 1 ∨ h < 1 then 0 else (pnget (rwget rows h.toNat) w.toNat).v
theorem gvalue_det (ks : List Knd) (kerf : Int) (rows : List (List Pn)) (T : SV) (w h : Int) (hh : 1 ≤ w → 1 ≤ h → h < 201 ∧ w < (rwget rows h.toNat).length) : Det Try.prog 64 [.one (slA ks kerf rows T), .one (i64 w), .one (i64 h)] (tint (valI rows w h)) := by
  refine det_of_awp TTok mixed Try.func64 rfl rfl [18 + 3000000] (Nat.le_of_ble_eq_true rfl) ?_
  refine Split.mk (fun c1 => ?_) (fun c1 => ?_)
  · repeat' first | refine Split.isT c1 ?_ | refine Split.t ?_ | refine Split.f ?_ | fail
    refine Fin.int ?_
    rw [valI, if_pos (.inl (of_decide_eq_true c1))]
  repeat' first | refine Split.isF c1 ?_ | refine Split.t ?_ | refine Split.f ?_ | fail
  refine Split.mk (fun c2 => ?_) (fun c2 => ?_)
  · refine Fin.int ?_
    rw [valI, if_pos (.inr (of_decide_eq_true c2))]
  have c1' : ¬ w < 1 := of_decide_eq_false c1
  have c2' : ¬ h < 1 := of_decide_eq_false c2
  obtain ⟨h1, h2⟩ := hh (by omega) (by omega)
  refine Need.mk (by omega) ?_
  refine ⟨⟨pnS (rwget rows h.toNat), ?_, rfl, rfl, ?_⟩⟩
  · show slC ks kerf rows T (2 + (h.toNat * 1 + 0)) = _
    rw [Nat.mul_one, Nat.add_zero, slC_row _ _ _ _ _ (by omega)]
  refine Need.mk (by omega) ?_
  refine Fin.int ?_
  rw [valI, if_neg (by omega)]
def tryP (p : Pn) (a b x : Int) (d : Bool) : Pn := if 0 < a ∧ 0 < b ∧ a + b > p.v then ⟨a + b, 0, x, d⟩ else p
theorem try_detM (p : Pn) (a b x : Int) (d : Bool) (ha : 0 ≤ a) (ha1 : a ≤ 1000000000000) (hb : 0 ≤ b) (hb1 : b ≤ 1000000000000) : DetM Try.prog 85 [tint a, tint b, tint x, .d (.one (.v (.bool d))), .ptr (.n 2000) 0] [.box (pnL p)] (.tup []) [.box (pnL (tryP p a b x d))] .none := by
  refine detM_of_awp TTok mixed Try.func85 rfl rfl [] (Nat.le_of_ble_eq_true rfl) (Nat.le_of_ble_eq_true rfl) (sigM_of rfl) ?_
  have e : IntKind.i64.wrap (a + b) = a + b := wid (by omega) (by omega)
  have no : ¬ (0 < a ∧ 0 < b ∧ a + b > p.v) → LLe (pnL p) (pnL (tryP p a b x d)) := fun q => LLe.of_eq (by rw [tryP, if_neg q])
  refine Split.mk (fun c1 => ?_) (fun c1 => ?_)
  rotate_left
  · repeat' first | refine Split.isF c1 ?_ | refine Split.t ?_ | refine Split.f ?_ | fail
    have c1' : ¬ a > 0 := of_decide_eq_false c1
    exact EndM.mk ⟨.n 0, .none, .cons (.box (no (fun q => by omega))) (.nil _), .inl rfl⟩
  have c1' : a > 0 := of_decide_eq_true c1
  repeat' first | refine Split.isT c1 ?_ | refine Split.t ?_ | refine Split.f ?_ | fail
  refine Split.mk (fun c2 => ?_) (fun c2 => ?_)
  rotate_left
  · repeat' first | refine Split.isF c2 ?_ | refine Split.isT c1 ?_ | refine Split.t ?_ | refine Split.f ?_ | fail
    have c2' : ¬ b > 0 := of_decide_eq_false c2
    exact EndM.mk ⟨.n 0, .none, .cons (.box (no (fun q => by omega))) (.nil _), .inl rfl⟩
  have c2' : b > 0 := of_decide_eq_true c2
  repeat' first | refine Split.isT c2 ?_ | refine Split.isT c1 ?_ | refine Split.t ?_ | refine Split.f ?_ | fail
  show Split (decide (IntKind.i64.wrap (a + b) > p.v)) _
  rw [e]
  refine Split.mk (fun c3 => ?_) (fun c3 => ?_)
  · have c3' : a + b > p.v := of_decide_eq_true c3
    exact EndM.mk ⟨.n 0, .none, .cons (.box (LLe.of_eq (by rw [tryP, if_pos ⟨by omega, by omega, c3'⟩, e]))) (.nil _), .inl rfl⟩
  · have c3' : ¬ a + b > p.v := of_decide_eq_false c3
    exact EndM.mk ⟨.n 0, .none, .cons (.box (no (fun q => c3' q.2.2))) (.nil _), .inl rfl⟩
/-! ### solve -/
def solK (ks : List Knd) (w h : Int) : Nat → Pn
  | 0 => pn0
  | i + 1 => if (kget ks i).w ≤ w ∧ (kget ks i).h ≤ h ∧ (kget ks i).v > (solK ks w h i).v then ⟨(kget ks i).v, ((i + 1 : Nat) : Int), 0, false⟩ else solK ks w h i
def solX (rows : List (List Pn)) (kerf w h : Int) (p : Pn) : Nat → Pn
  | 0 => p
  | n + 1 => tryP (solX rows kerf w h p n) (valI rows ((n + 1 : Nat) : Int) h) (valI rows (w - ((n + 1 : Nat) : Int) - kerf) h) ((n + 1 : Nat) : Int) true
def solY (rows : List (List Pn)) (kerf w h : Int) (p : Pn) : Nat → Pn
  | 0 => p
  | n + 1 => tryP (solY rows kerf w h p n) (valI rows w ((n + 1 : Nat) : Int)) (valI rows w (h - ((n + 1 : Nat) : Int) - kerf)) ((n + 1 : Nat) : Int) false
def solP (rows : List (List Pn)) (ks : List Knd) (kerf w h : Int) : Pn := solY rows kerf w h (solX rows kerf w h (solK ks w h ks.length) (w - 1).toNat) (h - 1).toNat
theorem solve_det (ks : List Knd) (kerf : Int) (rows : List (List Pn)) (T : SV) (w h : Int) (hk : ks.length ≤ 100000000) (w0 : 1 ≤ w) (w1 : w ≤ 200) (h0 : 1 ≤ h) (h1 : h ≤ 200) (k0 : 0 ≤ kerf) (k1 : kerf ≤ 50)
    (hb : ∀ a b, 0 ≤ valI rows a b ∧ valI rows a b ≤ 1000000000000) (hr : ∀ y : Nat, 1 ≤ y → (y : Int) < h → w < (rwget rows y).length) (hc : w ≤ (rwget rows h.toNat).length) :
    Det Try.prog 62 [.one (slA ks kerf rows T), .one (i64 w), .one (i64 h)] (.d (.agg (pnL (solP rows ks kerf w h)))) := by
  refine det_of_awp TTok mixed Try.func62 rfl rfl [85 + 1000000, 85 + 2000000] (Nat.le_of_ble_eq_true rfl) ?_
  refine Loop.by (α := Nat) (fun i => [(0, .d (.one (slA ks kerf rows T))), (1, tint w), (2, tint h), (6, .ptr 6 0), (7, .ptr 7 0), (16, .d (.one (kS ks))), (17, tint ks.length), (18, tint i)]) (fun i => [(6, .box (pnL pn0)), (7, .box (pnL (solK ks w h i)))]) (fun i => i ≤ ks.length) (fun i => ks.length - i)
    (Adj.at 0 (Nat.zero_le _) (.cons (.box (LLe.of_eq rfl)) (.cons (.box (LLe.of_eq rfl)) .nil)) (.cons .same (.cons .same (.cons .same (.cons (.box rfl rfl) (.cons (.box rfl rfl) (.cons .same (.cons .same (.cons .same .nil))))))))) (fun i hi => ?_)
  refine Split.mk (fun hlo => ?_) (fun hlo => ?_)
  · have hil : i < ks.length := by have := of_decide_eq_true hlo; omega
    have hn : solK ks w h (i + 1) = if (kget ks i).w ≤ w ∧ (kget ks i).h ≤ h ∧ (kget ks i).v > (solK ks w h i).v then ⟨(kget ks i).v, ((i + 1 : Nat) : Int), 0, false⟩ else solK ks w h i := rfl
    refine Need.mk (by omega) ?_
    show Split (decide ((kget ks i).w ≤ w)) _
    refine Split.mk (fun c1 => ?_) (fun c1 => ?_)
    rotate_left
    · rw [if_neg (fun q => of_decide_eq_false c1 q.1)] at hn
      repeat' first | refine Split.isF c1 ?_ | refine Split.t ?_ | refine Split.f ?_ | fail
      exact Adj.back (x := i) (i + 1) (by omega) (by omega) (.cons (.box (LLe.of_eq rfl)) (.cons (.box (LLe.of_eq (by rw [hn]))) .nil)) (.cons .same (.cons .same (.cons .same (.cons (.box rfl rfl) (.cons (.box rfl rfl) (.cons .same (.cons .same (.cons (SlotLe.int (hS i (by omega))) .nil))))))))
    repeat' first | refine Split.isT c1 ?_ | refine Split.t ?_ | refine Split.f ?_ | fail
    show Split (decide ((kget ks i).h ≤ h)) _
    refine Split.mk (fun c2 => ?_) (fun c2 => ?_)
    rotate_left
    · rw [if_neg (fun q => of_decide_eq_false c2 q.2.1)] at hn
      repeat' first | refine Split.isT c1 ?_ | refine Split.isF c2 ?_ | refine Split.t ?_ | refine Split.f ?_ | fail
      exact Adj.back (x := i) (i + 1) (by omega) (by omega) (.cons (.box (LLe.of_eq rfl)) (.cons (.box (LLe.of_eq (by rw [hn]))) .nil)) (.cons .same (.cons .same (.cons .same (.cons (.box rfl rfl) (.cons (.box rfl rfl) (.cons .same (.cons .same (.cons (SlotLe.int (hS i (by omega))) .nil))))))))
    repeat' first | refine Split.isT c1 ?_ | refine Split.isT c2 ?_ | refine Split.t ?_ | refine Split.f ?_ | fail
    show Split (decide ((kget ks i).v > (solK ks w h i).v)) _
    refine Split.mk (fun c3 => ?_) (fun c3 => ?_)
    · rw [if_pos ⟨of_decide_eq_true c1, of_decide_eq_true c2, of_decide_eq_true c3⟩] at hn
      exact Adj.back (x := i) (i + 1) (by omega) (by omega) (.cons (.box (LLe.of_eq rfl)) (.cons (.box (LLe.of_eq (by rw [hn, hS i (by omega)]; rfl))) .nil)) (.cons .same (.cons .same (.cons .same (.cons (.box rfl rfl) (.cons (.box rfl rfl) (.cons .same (.cons .same (.cons (SlotLe.int (hS i (by omega))) .nil))))))))
    · rw [if_neg (fun q => of_decide_eq_false c3 q.2.2)] at hn
      exact Adj.back (x := i) (i + 1) (by omega) (by omega) (.cons (.box (LLe.of_eq rfl)) (.cons (.box (LLe.of_eq (by rw [hn]))) .nil)) (.cons .same (.cons .same (.cons .same (.cons (.box rfl rfl) (.cons (.box rfl rfl) (.cons .same (.cons .same (.cons (SlotLe.int (hS i (by omega))) .nil))))))))
  have he : i = ks.length := by have := of_decide_eq_false hlo; omega
  subst he
  have hP : solP rows ks kerf w h = solY rows kerf w h (solX rows kerf w h (solK ks w h ks.length) (w - 1).toNat) (h - 1).toNat := rfl
  generalize solK ks w h ks.length = pK at *
  refine Loop.by (α := Nat) (fun n => [(0, .d (.one (slA ks kerf rows T))), (1, tint w), (2, tint h), (6, .ptr 6 0), (7, .ptr 7 0), (10, .clo 85 [.ptr 7 0]), (11, tint ((n + 1 : Nat) : Int))]) (fun n => [(6, .box (pnL pn0)), (7, .box (pnL (solX rows kerf w h pK n)))]) (fun n => (n : Int) + 1 ≤ w) (fun n => (w - n).toNat)
    (Adj.at 0 (by show ((0 : Nat) : Int) + 1 ≤ w; omega) (.cons (.box (LLe.of_eq rfl)) (.cons (.box (LLe.of_eq rfl)) .nil)) (.cons .same (.cons .same (.cons .same (.cons (.box rfl rfl) (.cons (.box rfl rfl) (.cons (.clo (.cons (.ptr (by intro q; cases q)) .nil)) (.cons (SlotLe.int rfl) .nil)))))))) (fun n hn => ?_)
  refine Split.mk (fun hlo => ?_) (fun hlo => ?_)
  · have hnl : ((n + 1 : Nat) : Int) < w := of_decide_eq_true hlo
    have e1 : IntKind.i64.wrap (IntKind.i64.wrap (w - ((n + 1 : Nat) : Int)) - kerf) = w - ((n + 1 : Nat) : Int) - kerf := by rw [hw (w - ((n + 1 : Nat) : Int)) (by omega) (by omega), hw _ (by omega) (by omega)]
    have hnx : solX rows kerf w h pK (n + 1) = tryP (solX rows kerf w h pK n) (valI rows ((n + 1 : Nat) : Int) h) (valI rows (w - ((n + 1 : Nat) : Int) - kerf) h) ((n + 1 : Nat) : Int) true := rfl
    obtain ⟨a0, a1⟩ := hb ((n + 1 : Nat) : Int) h
    obtain ⟨b0, b1⟩ := hb (w - ((n + 1 : Nat) : Int) - kerf) h
    refine CallW.int (gvalue_det ks kerf rows T ((n + 1 : Nat) : Int) h (fun _ _ => ⟨by omega, by omega⟩)) (fun a ha => ?_)
    refine CallW.int ((gvalue_det ks kerf rows T (w - ((n + 1 : Nat) : Int) - kerf) h (fun _ _ => ⟨by omega, by omega⟩)).le (.cons (DLe.refl _) (.cons (DLe.of_eq (by rw [← e1])) (.cons (DLe.refl _) .nil)))) (fun b hb' => ?_)
    rw [← ha] at a0 a1 hnx
    rw [← hb'] at b0 b1 hnx
    refine CallM.mk' [7] (try_detM (solX rows kerf w h pK n) a b ((n + 1 : Nat) : Int) true a0 a1 b0 b1) ⟨.cons (.box (LLe.refl _)) .nil, .cons (.d (DLe.refl _)) (.cons (.d (DLe.refl _)) (.cons (.d (DLe.refl _)) (.cons (.d (DLe.refl _)) (.cons (.ptr rfl) .nil)))), rfl, rfl, fun h => absurd rfl h⟩ ?_
    refine Need.mk (by kernel_rfl) ?_
    exact Adj.back (x := n) (n + 1) (by omega) (by omega) (.cons (.box (LLe.of_eq rfl)) (.cons (.box (LLe.of_eq (by rw [hnx]))) .nil)) (.cons .same (.cons .same (.cons .same (.cons (.box rfl rfl) (.cons (.box rfl rfl) (.cons (.clo (.cons (.ptr (by intro q; cases q)) .nil)) (.cons (SlotLe.int (hS (n + 1) (by omega))) .nil)))))))
  have he : (w - 1).toNat = n := by
    have : ¬ ((n + 1 : Nat) : Int) < w := of_decide_eq_false hlo
    omega
  rw [he] at hP
  generalize solX rows kerf w h pK n = pX at *
  refine Loop.by (α := Nat) (fun n => [(0, .d (.one (slA ks kerf rows T))), (1, tint w), (2, tint h), (6, .ptr 6 0), (7, .ptr 7 0), (10, .clo 85 [.ptr 7 0]), (12, tint ((n + 1 : Nat) : Int))]) (fun n => [(6, .box (pnL pn0)), (7, .box (pnL (solY rows kerf w h pX n)))]) (fun n => (n : Int) + 1 ≤ h) (fun n => (h - n).toNat)
    (Adj.at 0 (by show ((0 : Nat) : Int) + 1 ≤ h; omega) (.cons (.box (LLe.of_eq rfl)) (.cons (.box (LLe.of_eq rfl)) .nil)) (.cons .same (.cons .same (.cons .same (.cons (.box rfl rfl) (.cons (.box rfl rfl) (.cons (.clo (.cons (.ptr (by intro q; cases q)) .nil)) (.cons (SlotLe.int rfl) .nil)))))))) (fun n hn => ?_)
  refine Split.mk (fun hlo => ?_) (fun hlo => ?_)
  · have hnl : ((n + 1 : Nat) : Int) < h := of_decide_eq_true hlo
    have e1 : IntKind.i64.wrap (IntKind.i64.wrap (h - ((n + 1 : Nat) : Int)) - kerf) = h - ((n + 1 : Nat) : Int) - kerf := by rw [hw (h - ((n + 1 : Nat) : Int)) (by omega) (by omega), hw _ (by omega) (by omega)]
    have hnx : solY rows kerf w h pX (n + 1) = tryP (solY rows kerf w h pX n) (valI rows w ((n + 1 : Nat) : Int)) (valI rows w (h - ((n + 1 : Nat) : Int) - kerf)) ((n + 1 : Nat) : Int) false := rfl
    obtain ⟨a0, a1⟩ := hb w ((n + 1 : Nat) : Int)
    obtain ⟨b0, b1⟩ := hb w (h - ((n + 1 : Nat) : Int) - kerf)
    refine CallW.int (gvalue_det ks kerf rows T w ((n + 1 : Nat) : Int) (fun _ _ => ⟨by omega, by have := hr (n + 1) (by omega) hnl; rw [Int.toNat_natCast]; exact this⟩)) (fun a ha => ?_)
    refine CallW.int ((gvalue_det ks kerf rows T w (h - ((n + 1 : Nat) : Int) - kerf) (fun _ q => ⟨by omega, hr _ (by omega) (by omega)⟩)).le (.cons (DLe.refl _) (.cons (DLe.refl _) (.cons (DLe.of_eq (by rw [← e1])) .nil)))) (fun b hb' => ?_)
    rw [← ha] at a0 a1 hnx
    rw [← hb'] at b0 b1 hnx
    refine CallM.mk' [7] (try_detM (solY rows kerf w h pX n) a b ((n + 1 : Nat) : Int) false a0 a1 b0 b1) ⟨.cons (.box (LLe.refl _)) .nil, .cons (.d (DLe.refl _)) (.cons (.d (DLe.refl _)) (.cons (.d (DLe.refl _)) (.cons (.d (DLe.refl _)) (.cons (.ptr rfl) .nil)))), rfl, rfl, fun h => absurd rfl h⟩ ?_
    refine Need.mk (by kernel_rfl) ?_
    exact Adj.back (x := n) (n + 1) (by omega) (by omega) (.cons (.box (LLe.of_eq rfl)) (.cons (.box (LLe.of_eq (by rw [hnx]))) .nil)) (.cons .same (.cons .same (.cons .same (.cons (.box rfl rfl) (.cons (.box rfl rfl) (.cons (.clo (.cons (.ptr (by intro q; cases q)) .nil)) (.cons (SlotLe.int (hS (n + 1) (by omega))) .nil)))))))
  have he : (h - 1).toNat = n := by
    have : ¬ ((n + 1 : Nat) : Int) < h := of_decide_eq_false hlo
    omega
  rw [he] at hP
  rw [hP]
  exact Fin.rfl'
end St
end Go.Vm
namespace Go.Vm
set_option maxRecDepth 20000
set_option linter.unusedVariables false
set_option linter.unusedSimpArgs false
open Go Go.RowKit Go.Proofs
namespace St

def rwL (rows : List (List Pn)) (n : Nat) : List CV := (List.range n).map fun i => CV.s (pnS (rwget rows i))
def slL (ks : List Knd) (kerf : Int) (rows : List (List Pn)) (x : CV) : List CV := .s (kS ks) :: .s (i64 kerf) :: (rwL rows 201 ++ [x])
theorem rwL_len (rows : List (List Pn)) (n : Nat) : (rwL rows n).length = n := by simp [rwL]
theorem slL_len (ks : List Knd) (kerf : Int) (rows : List (List Pn)) (x : CV) : (slL ks kerf rows x).length = 204 := by
  rw [slL, List.length_cons, List.length_cons, List.length_append, rwL_len]; rfl
theorem slL_t (ks : List Knd) (kerf : Int) (rows : List (List Pn)) (x : CV) : (slL ks kerf rows x)[203]? = some x := by
  show (rwL rows 201 ++ [x])[201]? = some x
  rw [List.getElem?_append_right (by rw [rwL_len]; exact Nat.le_refl _), rwL_len]; rfl
theorem slL_row (ks : List Knd) (kerf : Int) (rows : List (List Pn)) (x : CV) (i : Nat) (hi : i < 201) : (slL ks kerf rows x)[2 + i]? = some (.s (pnS (rwget rows i))) := by
  rw [Nat.add_comm]
  show (rwL rows 201 ++ [x])[i]? = _
  rw [List.getElem?_append_left (by rw [rwL_len]; exact hi)]
  simp [rwL, hi]
theorem setC_one {α : Type} : ∀ (l : List α) (n : Nat) (x : α), setC l n [x] = l.set n x
  | [], 0, _ => rfl
  | [], _ + 1, _ => rfl
  | _ :: l, 0, _ => by cases l <;> rfl
  | a :: l, n + 1, x => by
    show a :: setC l n [x] = _
    rw [setC_one l n x]; rfl
theorem slL_set (ks : List Knd) (kerf : Int) (rows : List (List Pn)) (x y : CV) : setC (slL ks kerf rows x) 203 [y] = slL ks kerf rows y := by
  rw [setC_one]
  show CV.s (kS ks) :: CV.s (i64 kerf) :: ((rwL rows 201 ++ [x]).set 201 y) = _
  have := rwL_len rows 201
  rw [List.set_append_right _ _ (by omega), this]
  rfl
theorem slL_fit {m : Id → Mem} {os : List Id} {d : Id} (ks : List Knd) (kerf : Int) (rows : List (List Pn)) {x y : CV} (h : CVFit m os d x y) : CVFits m os d (slL ks kerf rows x) (slL ks kerf rows y) := by
  have key : ∀ l : List Nat, CVFits m os d ((l.map fun i => CV.s (pnS (rwget rows i))) ++ [x]) ((l.map fun i => CV.s (pnS (rwget rows i))) ++ [y]) := fun l => by
    induction l with
    | nil => exact .cons h .nil
    | cons a l ih => exact .cons (.s (SLe.refl _)) ih
  exact .cons (.s (SLe.refl _)) (.cons (.s (SLe.refl _)) (key _))
theorem slL_end {m m2 : Id → Mem} {d : Id} (ks : List Knd) (kerf : Int) (rows : List (List Pn)) {x y : CV} (h : CVEnd m m2 d x y) : CVEnds m m2 d (slL ks kerf rows x) (slL ks kerf rows y) := by
  have key : ∀ l : List Nat, CVEnds m m2 d ((l.map fun i => CV.s (pnS (rwget rows i))) ++ [x]) ((l.map fun i => CV.s (pnS (rwget rows i))) ++ [y]) := fun l => by
    induction l with
    | nil => exact .cons h .nil
    | cons a l ih => exact .cons (.s (SLe.refl _)) ih
  exact .cons (.s (SLe.refl _)) (.cons (.s (SLe.refl _)) (key _))
theorem slL_le {m m' : Id → Mem} (ks : List Knd) (kerf : Int) (rows : List (List Pn)) {x y : CV} (h : CVLe m m' x y) : CVsLe m m' (slL ks kerf rows x) (slL ks kerf rows y) := by
  have key : ∀ l : List Nat, CVsLe m m' ((l.map fun i => CV.s (pnS (rwget rows i))) ++ [x]) ((l.map fun i => CV.s (pnS (rwget rows i))) ++ [y]) := fun l => by
    induction l with
    | nil => exact .cons h .nil
    | cons a l ih => exact .cons (.s (SLe.refl _)) ih
  exact .cons (.s (SLe.refl _)) (.cons (.s (SLe.refl _)) (key _))
theorem sl_lend {m : Id → Mem} {o d : Id} {g n : Nat} {e : TypeId} {get : Nat → Nat → SV} (ks : List Knd) (kerf : Int) (rows : List (List Pn)) (ho : m o = .obj (slL ks kerf rows (.hdl d g))) (hd : m d = .bld g n 5 e get) : Lend m [o.key, d.key] (.ptr o 0) (slA ks kerf rows (.sl n 5 get)) := by
  refine .obj (by simp) ho (by rw [slL_len]; exact Nat.le_refl _) (fun j hj => ?_)
  rw [Nat.zero_add]
  match j, hj with
  | 0, _ => exact .s _
  | 1, _ => exact .s _
  | q + 2, hj =>
    by_cases h : q < 201
    · have e1 := slL_row ks kerf rows (.hdl d g) q h
      have e2 := slC_row ks kerf rows (.sl n 5 get) q h
      rw [Nat.add_comm] at e1 e2
      rw [List.getD, e1, e2]
      exact .s _
    · obtain rfl : q = 201 := by omega
      rw [List.getD, slL_t]
      exact .bld (by simp) hd
abbrev mkS (ks : List Knd) (kerf : Int) (rows : List (List Pn)) (g : Nat) (L : List Nd) : List Mem := [.obj (slL ks kerf rows (.hdl (.n 2001) g)), .bld g L.length 5 96 (lG ndL nd0 L)]
theorem gleaf_detM (ks : List Knd) (kerf : Int) (rows : List (List Pn)) (L : List Nd) (k : Int) (hL : L.length ≤ 100000000) : DetM Try.prog 86 [.ptr (.n 2000) 0, tint k] (mkS ks kerf rows 1 L) (.tup []) (mkS ks kerf rows 3 (L ++ [leafN k])) .none := by
  refine detM_of_awp TTok mixed Try.func86 rfl rfl [8 + 3000000, 14 + 4000000] (Nat.le_of_ble_eq_true rfl) (Nat.le_of_ble_eq_true rfl) (sigM_of rfl) ?_
  refine ⟨⟨.hdl (.n 2001) 1, slL_t _ _ _ _, rfl, rfl, ?_⟩⟩
  refine Need.mk (needApp (n := L.length + 1) (by omega) (by decide)) ?_
  refine ⟨⟨_, slL_set _ _ _ _ _, by rw [slL_len]; exact Nat.le_of_ble_eq_true rfl, ?_⟩⟩
  exact EndM.mk ⟨.n 0, .none, .cons (.obj (slL_end _ _ _ (.hdl rfl rfl rfl))) (.cons (.bldN (by simp only [List.length_append, List.length_singleton]) (fun h => absurd h (by decide)) (fun i hi j hj => lG_snoc ndL nd0 L (leafN k) 5 L.length i j _ rfl rfl hi hj)) (.nil _)), .inl rfl⟩
end St
end Go.Vm
