/-
  An evaluator for closed runs: what it is told of this program.
  Layers 6 and 7: contracts of the functions on vectors.
  Layer 12: the iterator over a shape's rings.
  Layer 7: contracts of Valid, On, Side, PointOf, and of the greatest common divisor.
  Layer 7: contracts of the functions on rational points.
  Layer 7: contracts of the comparison of rational points.
  Layer 7: contracts of the reference's sorted list of common ends.
  Layer 7: contracts of the reference's Meet, At and Share.
  Layer 7: numbers stay small; contracts of the program's lines and meet.
  Layer 7: contracts of the program's meet, Meet, At and Share.
  Layer 7: contracts of the reference's At and Share.
  Layer 7: the laws SegOn, SegPoints and SegOrder.
  Layer 7: the order of vectors, sorted lists, points on segments, in plain numbers.
  Layer 7: what the program finds two segments to have in common is what the reference finds.
  Layer 7: segments on parallel lines, and the law SegMeet.
-/
import Derived.Test.YtobmlkopbmakcaaGreatCvR
import Derived.Test.YtobmlkopbmakcaaGreatBarK
import Derived.RangeFuncBox
import Derived.RangeFuncLeaves
import Derived.Shelf.Abstract
import Derived.WalkKit
import Derived.OwnWalkIn
import Derived.TacticsInMore
import Derived.LoopNIn
import Derived.LoopIn
namespace Go.Cv
open Go Go.RowKit Go.Vm Go.Proofs

theorem u83 : Tryz.prog.underlying 83 = some (.array 2 3) := by kernel_rfl
theorem u3 : Tryz.prog.underlying 3 = some (.int .i64) := by kernel_rfl
theorem size3 (w : World) : (sizeOf 3).run Tryz.prog w = .ok 1 w := by
  obtain ⟨i, z, h1, h2, _⟩ := tok3.info
  simp [sizeOf, typeInfo, h1]
  exact h2
theorem check3 (b : Bool) (n : Nat) (x : Int) (w : World) : (Instr.checkKey b (n + 1) 3 (.int .i64 x)).run Tryz.prog w = .ok () w := by
  simp [Instr.checkKey, underlying, u3]
theorem part3 (cs : Array Value) (i : Nat) (v : Value) (h : cs[i]? = some v) (w : World) : (part 3 cs i).run Tryz.prog w = .ok v w := by
  simp [part, isAgg, underlying, u3, h]
theorem part3a (x y : Int) (w : World) : (part 3 #[.int .i64 x, .int .i64 y] 0).run Tryz.prog w = .ok (.int .i64 x) w := part3 _ 0 _ rfl w
theorem part3b (x y : Int) (w : World) : (part 3 #[.int .i64 x, .int .i64 y] 1).run Tryz.prog w = .ok (.int .i64 y) w := part3 _ 1 _ rfl w
theorem eq3 (n : Nat) (x y : Int) (w : World) : (Op.equalIn (n + 1) 3 (.int .i64 x) (.int .i64 y)).run Tryz.prog w = .ok (x == y) w := by
  rw [Op.equalIn]
  simp [underlying, u3]
theorem check83 (b : Bool) (n : Nat) (x y : Int) (w : World) : (Instr.checkKey b (n + 2) 83 (keyV [x, y])).run Tryz.prog w = .ok () w := by
  rw [show n + 2 = (n + 1) + 1 from rfl, Instr.checkKey]
  simp [underlying, u83, List.range', size3, part3a, part3b, check3]
theorem eq83 (x y x' y' : Int) (w : World) : (Op.equal 83 (keyV [x, y]) (keyV [x', y'])).run Tryz.prog w = .ok (decide ([x, y] = [x', y'])) w := by
  show (Op.equalIn (9998 + 2) 83 _ _).run _ _ = _
  generalize 9998 = n
  rw [show n + 2 = (n + 1) + 1 from rfl, Op.equalIn]
  by_cases h1 : x = x' <;> by_cases h2 : y = y' <;>
  simp [underlying, u83, List.range', size3, part3a, part3b, eq3, h1, h2]
theorem map103 : MapTy Tryz.prog 103 83 4 2 (.bool false) where
  zero := fun w => by
    obtain ⟨i, z, h1, _⟩ := tok4.info
    have h2 : (Tryz.prog.info? 4).bind (·.zero) = some (.bool false) := by kernel_rfl
    rw [h1] at h2
    have h2 : i.zero = some (.bool false) := h2
    simp [zeroValue, typeInfo, h1, h2]
  one := rfl
  map := by kernel_rfl
  arr := ⟨2, 3, u83⟩
  check := fun xs hx b w => by
    match xs, hx with
    | [x, y], _ => exact check83 b 9998 x y w
  eq := fun xs ys hx hy w => by
    match xs, ys, hx, hy with
    | [x, y], [x', y'], _, _ => exact eq83 x y x' y' w

inductive BT where
  | nil
  | node (k : Nat) (fn : Func) (l r : BT)
noncomputable def BT.get (t : BT) (f : Nat) : Option Func := BT.rec (motive := fun _ => Option Func) none (fun k fn _ _ ihl ihr => bif Nat.beq f k then some fn else bif Nat.blt f k then ihl else ihr) t
def BT.All (P : Program) : BT → Prop
  | .nil => True
  | .node k fn l r => P.funcs[k]? = some fn ∧ l.All P ∧ r.All P
noncomputable def BT.names (t : BT) : Bool := BT.rec (motive := fun _ => Bool) true (fun _ fn _ _ l r => (!(fn.name == "runtime.NumGoroutine")) && (l && r)) t
theorem BT.get_ok {P : Program} : ∀ {t : BT}, t.All P → t.names = true → ∀ {f : Nat} {fn : Func}, t.get f = some fn → P.funcs[f]? = some fn ∧ (fn.name == "runtime.NumGoroutine") = false
  | .nil, _, _, _, _, h => by cases h
  | .node k fn l r, ha, hn, f, fn', h => by
    have h : (bif Nat.beq f k then some fn else bif Nat.blt f k then l.get f else r.get f) = some fn' := h
    have hn : ((!(fn.name == "runtime.NumGoroutine")) && (l.names && r.names)) = true := hn
    simp only [Bool.and_eq_true, Bool.not_eq_true'] at hn
    cases hb : Nat.beq f k with
    | true =>
      rw [hb] at h
      cases h
      rw [Nat.eq_of_beq_eq_true hb]
      exact ⟨ha.1, hn.1⟩
    | false =>
      rw [hb] at h
      cases hc : Nat.blt f k with
      | true => rw [hc] at h; exact BT.get_ok ha.2.1 hn.2.1 h
      | false => rw [hc] at h; exact BT.get_ok ha.2.2 hn.2.2 h
noncomputable def table : BT := (.node 146 Tryz.f146 (.node 92 Tryz.f92 (.node 56 Tryz.f56 (.node 41 Tryz.f41 (.node 22 Tryz.f22 (.node 16 Tryz.f16 (.node 13 Tryz.f13 (.node 6 Tryz.f6 .nil .nil) .nil) (.node 19 Tryz.f19 .nil .nil)) (.node 25 Tryz.f25 (.node 24 Tryz.f24 (.node 23 Tryz.f23 .nil .nil) .nil) (.node 38 Tryz.f38 .nil .nil))) (.node 47 Tryz.f47 (.node 45 Tryz.f45 (.node 44 Tryz.f44 (.node 43 Tryz.f43 .nil .nil) .nil) (.node 46 Tryz.f46 .nil .nil)) (.node 54 Tryz.f54 (.node 49 Tryz.f49 (.node 48 Tryz.f48 .nil .nil) .nil) (.node 55 Tryz.f55 .nil .nil)))) (.node 78 Tryz.f78 (.node 61 Tryz.f61 (.node 59 Tryz.f59 (.node 58 Tryz.f58 (.node 57 Tryz.f57 .nil .nil) .nil) (.node 60 Tryz.f60 .nil .nil)) (.node 76 Tryz.f76 (.node 75 Tryz.f75 (.node 62 Tryz.f62 .nil .nil) .nil) (.node 77 Tryz.f77 .nil .nil))) (.node 87 Tryz.f87 (.node 83 Tryz.f83 (.node 81 Tryz.f81 (.node 79 Tryz.f79 .nil .nil) .nil) (.node 86 Tryz.f86 .nil .nil)) (.node 90 Tryz.f90 (.node 89 Tryz.f89 (.node 88 Tryz.f88 .nil .nil) .nil) (.node 91 Tryz.f91 .nil .nil))))) (.node 118 Tryz.f118 (.node 108 Tryz.f108 (.node 97 Tryz.f97 (.node 95 Tryz.f95 (.node 94 Tryz.f94 (.node 93 Tryz.f93 .nil .nil) .nil) (.node 96 Tryz.f96 .nil .nil)) (.node 106 Tryz.f106 (.node 105 Tryz.f105 (.node 104 Tryz.f104 .nil .nil) .nil) (.node 107 Tryz.f107 .nil .nil))) (.node 113 Tryz.f113 (.node 111 Tryz.f111 (.node 110 Tryz.f110 (.node 109 Tryz.f109 .nil .nil) .nil) (.node 112 Tryz.f112 .nil .nil)) (.node 116 Tryz.f116 (.node 115 Tryz.f115 (.node 114 Tryz.f114 .nil .nil) .nil) (.node 117 Tryz.f117 .nil .nil)))) (.node 137 Tryz.f137 (.node 132 Tryz.f132 (.node 130 Tryz.f130 (.node 129 Tryz.f129 (.node 128 Tryz.f128 .nil .nil) .nil) (.node 131 Tryz.f131 .nil .nil)) (.node 135 Tryz.f135 (.node 134 Tryz.f134 (.node 133 Tryz.f133 .nil .nil) .nil) (.node 136 Tryz.f136 .nil .nil))) (.node 142 Tryz.f142 (.node 140 Tryz.f140 (.node 139 Tryz.f139 (.node 138 Tryz.f138 .nil .nil) .nil) (.node 141 Tryz.f141 .nil .nil)) (.node 144 Tryz.f144 (.node 143 Tryz.f143 .nil .nil) (.node 145 Tryz.f145 .nil .nil)))))) (.node 206 Tryz.f206 (.node 179 Tryz.f179 (.node 156 Tryz.f156 (.node 151 Tryz.f151 (.node 149 Tryz.f149 (.node 148 Tryz.f148 (.node 147 Tryz.f147 .nil .nil) .nil) (.node 150 Tryz.f150 .nil .nil)) (.node 154 Tryz.f154 (.node 153 Tryz.f153 (.node 152 Tryz.f152 .nil .nil) .nil) (.node 155 Tryz.f155 .nil .nil))) (.node 172 Tryz.f172 (.node 159 Tryz.f159 (.node 158 Tryz.f158 (.node 157 Tryz.f157 .nil .nil) .nil) (.node 160 Tryz.f160 .nil .nil)) (.node 177 Tryz.f177 (.node 176 Tryz.f176 (.node 175 Tryz.f175 .nil .nil) .nil) (.node 178 Tryz.f178 .nil .nil)))) (.node 197 Tryz.f197 (.node 184 Tryz.f184 (.node 182 Tryz.f182 (.node 181 Tryz.f181 (.node 180 Tryz.f180 .nil .nil) .nil) (.node 183 Tryz.f183 .nil .nil)) (.node 195 Tryz.f195 (.node 194 Tryz.f194 (.node 185 Tryz.f185 .nil .nil) .nil) (.node 196 Tryz.f196 .nil .nil))) (.node 202 Tryz.f202 (.node 200 Tryz.f200 (.node 199 Tryz.f199 (.node 198 Tryz.f198 .nil .nil) .nil) (.node 201 Tryz.f201 .nil .nil)) (.node 204 Tryz.f204 (.node 203 Tryz.f203 .nil .nil) (.node 205 Tryz.f205 .nil .nil))))) (.node 234 Tryz.f234 (.node 218 Tryz.f218 (.node 213 Tryz.f213 (.node 209 Tryz.f209 (.node 208 Tryz.f208 (.node 207 Tryz.f207 .nil .nil) .nil) (.node 210 Tryz.f210 .nil .nil)) (.node 216 Tryz.f216 (.node 215 Tryz.f215 (.node 214 Tryz.f214 .nil .nil) .nil) (.node 217 Tryz.f217 .nil .nil))) (.node 228 Tryz.f228 (.node 221 Tryz.f221 (.node 220 Tryz.f220 (.node 219 Tryz.f219 .nil .nil) .nil) (.node 222 Tryz.f222 .nil .nil)) (.node 231 Tryz.f231 (.node 230 Tryz.f230 (.node 229 Tryz.f229 .nil .nil) .nil) (.node 232 Tryz.f232 .nil .nil)))) (.node 247 Tryz.f247 (.node 242 Tryz.f242 (.node 237 Tryz.f237 (.node 236 Tryz.f236 (.node 235 Tryz.f235 .nil .nil) .nil) (.node 241 Tryz.f241 .nil .nil)) (.node 245 Tryz.f245 (.node 244 Tryz.f244 (.node 243 Tryz.f243 .nil .nil) .nil) (.node 246 Tryz.f246 .nil .nil))) (.node 259 Tryz.f259 (.node 257 Tryz.f257 (.node 249 Tryz.f249 (.node 248 Tryz.f248 .nil .nil) .nil) (.node 258 Tryz.f258 .nil .nil)) (.node 264 Tryz.f264 (.node 260 Tryz.f260 .nil .nil) (.node 265 Tryz.f265 .nil .nil)))))))
theorem table_ok : table.All Tryz.prog := ⟨Tryz.func146, ⟨Tryz.func92, ⟨Tryz.func56, ⟨Tryz.func41, ⟨Tryz.func22, ⟨Tryz.func16, ⟨Tryz.func13, ⟨Tryz.func6, trivial, trivial⟩, trivial⟩, ⟨Tryz.func19, trivial, trivial⟩⟩, ⟨Tryz.func25, ⟨Tryz.func24, ⟨Tryz.func23, trivial, trivial⟩, trivial⟩, ⟨Tryz.func38, trivial, trivial⟩⟩⟩, ⟨Tryz.func47, ⟨Tryz.func45, ⟨Tryz.func44, ⟨Tryz.func43, trivial, trivial⟩, trivial⟩, ⟨Tryz.func46, trivial, trivial⟩⟩, ⟨Tryz.func54, ⟨Tryz.func49, ⟨Tryz.func48, trivial, trivial⟩, trivial⟩, ⟨Tryz.func55, trivial, trivial⟩⟩⟩⟩, ⟨Tryz.func78, ⟨Tryz.func61, ⟨Tryz.func59, ⟨Tryz.func58, ⟨Tryz.func57, trivial, trivial⟩, trivial⟩, ⟨Tryz.func60, trivial, trivial⟩⟩, ⟨Tryz.func76, ⟨Tryz.func75, ⟨Tryz.func62, trivial, trivial⟩, trivial⟩, ⟨Tryz.func77, trivial, trivial⟩⟩⟩, ⟨Tryz.func87, ⟨Tryz.func83, ⟨Tryz.func81, ⟨Tryz.func79, trivial, trivial⟩, trivial⟩, ⟨Tryz.func86, trivial, trivial⟩⟩, ⟨Tryz.func90, ⟨Tryz.func89, ⟨Tryz.func88, trivial, trivial⟩, trivial⟩, ⟨Tryz.func91, trivial, trivial⟩⟩⟩⟩⟩, ⟨Tryz.func118, ⟨Tryz.func108, ⟨Tryz.func97, ⟨Tryz.func95, ⟨Tryz.func94, ⟨Tryz.func93, trivial, trivial⟩, trivial⟩, ⟨Tryz.func96, trivial, trivial⟩⟩, ⟨Tryz.func106, ⟨Tryz.func105, ⟨Tryz.func104, trivial, trivial⟩, trivial⟩, ⟨Tryz.func107, trivial, trivial⟩⟩⟩, ⟨Tryz.func113, ⟨Tryz.func111, ⟨Tryz.func110, ⟨Tryz.func109, trivial, trivial⟩, trivial⟩, ⟨Tryz.func112, trivial, trivial⟩⟩, ⟨Tryz.func116, ⟨Tryz.func115, ⟨Tryz.func114, trivial, trivial⟩, trivial⟩, ⟨Tryz.func117, trivial, trivial⟩⟩⟩⟩, ⟨Tryz.func137, ⟨Tryz.func132, ⟨Tryz.func130, ⟨Tryz.func129, ⟨Tryz.func128, trivial, trivial⟩, trivial⟩, ⟨Tryz.func131, trivial, trivial⟩⟩, ⟨Tryz.func135, ⟨Tryz.func134, ⟨Tryz.func133, trivial, trivial⟩, trivial⟩, ⟨Tryz.func136, trivial, trivial⟩⟩⟩, ⟨Tryz.func142, ⟨Tryz.func140, ⟨Tryz.func139, ⟨Tryz.func138, trivial, trivial⟩, trivial⟩, ⟨Tryz.func141, trivial, trivial⟩⟩, ⟨Tryz.func144, ⟨Tryz.func143, trivial, trivial⟩, ⟨Tryz.func145, trivial, trivial⟩⟩⟩⟩⟩⟩, ⟨Tryz.func206, ⟨Tryz.func179, ⟨Tryz.func156, ⟨Tryz.func151, ⟨Tryz.func149, ⟨Tryz.func148, ⟨Tryz.func147, trivial, trivial⟩, trivial⟩, ⟨Tryz.func150, trivial, trivial⟩⟩, ⟨Tryz.func154, ⟨Tryz.func153, ⟨Tryz.func152, trivial, trivial⟩, trivial⟩, ⟨Tryz.func155, trivial, trivial⟩⟩⟩, ⟨Tryz.func172, ⟨Tryz.func159, ⟨Tryz.func158, ⟨Tryz.func157, trivial, trivial⟩, trivial⟩, ⟨Tryz.func160, trivial, trivial⟩⟩, ⟨Tryz.func177, ⟨Tryz.func176, ⟨Tryz.func175, trivial, trivial⟩, trivial⟩, ⟨Tryz.func178, trivial, trivial⟩⟩⟩⟩, ⟨Tryz.func197, ⟨Tryz.func184, ⟨Tryz.func182, ⟨Tryz.func181, ⟨Tryz.func180, trivial, trivial⟩, trivial⟩, ⟨Tryz.func183, trivial, trivial⟩⟩, ⟨Tryz.func195, ⟨Tryz.func194, ⟨Tryz.func185, trivial, trivial⟩, trivial⟩, ⟨Tryz.func196, trivial, trivial⟩⟩⟩, ⟨Tryz.func202, ⟨Tryz.func200, ⟨Tryz.func199, ⟨Tryz.func198, trivial, trivial⟩, trivial⟩, ⟨Tryz.func201, trivial, trivial⟩⟩, ⟨Tryz.func204, ⟨Tryz.func203, trivial, trivial⟩, ⟨Tryz.func205, trivial, trivial⟩⟩⟩⟩⟩, ⟨Tryz.func234, ⟨Tryz.func218, ⟨Tryz.func213, ⟨Tryz.func209, ⟨Tryz.func208, ⟨Tryz.func207, trivial, trivial⟩, trivial⟩, ⟨Tryz.func210, trivial, trivial⟩⟩, ⟨Tryz.func216, ⟨Tryz.func215, ⟨Tryz.func214, trivial, trivial⟩, trivial⟩, ⟨Tryz.func217, trivial, trivial⟩⟩⟩, ⟨Tryz.func228, ⟨Tryz.func221, ⟨Tryz.func220, ⟨Tryz.func219, trivial, trivial⟩, trivial⟩, ⟨Tryz.func222, trivial, trivial⟩⟩, ⟨Tryz.func231, ⟨Tryz.func230, ⟨Tryz.func229, trivial, trivial⟩, trivial⟩, ⟨Tryz.func232, trivial, trivial⟩⟩⟩⟩, ⟨Tryz.func247, ⟨Tryz.func242, ⟨Tryz.func237, ⟨Tryz.func236, ⟨Tryz.func235, trivial, trivial⟩, trivial⟩, ⟨Tryz.func241, trivial, trivial⟩⟩, ⟨Tryz.func245, ⟨Tryz.func244, ⟨Tryz.func243, trivial, trivial⟩, trivial⟩, ⟨Tryz.func246, trivial, trivial⟩⟩⟩, ⟨Tryz.func259, ⟨Tryz.func257, ⟨Tryz.func249, ⟨Tryz.func248, trivial, trivial⟩, trivial⟩, ⟨Tryz.func258, trivial, trivial⟩⟩, ⟨Tryz.func264, ⟨Tryz.func260, trivial, trivial⟩, ⟨Tryz.func265, trivial, trivial⟩⟩⟩⟩⟩⟩⟩
theorem table_names : table.names = true := by kernel_rfl
noncomputable def bodies (f : FuncId) : Option (Func × Code) := match table.get f with
  | some fn => match fn.body with
    | some b => some (fn, b)
    | none => none
  | none => none
theorem bodies_ok (f : FuncId) (fn : Func) (b : Code) (h : bodies f = some (fn, b)) : Tryz.prog.funcs[f]? = some fn ∧ fn.body = some b ∧ (fn.name == "runtime.NumGoroutine") = false := by
  unfold bodies at h
  split at h
  · rename_i fn' hg
    split at h
    · rename_i b' hb
      cases h
      obtain ⟨h1, h2⟩ := BT.get_ok table_ok table_names hg
      exact ⟨h1, hb, h2⟩
    · cases h
  · cases h
noncomputable def eqT (ty : TypeId) : Option Nat := bif Nat.beq ty 50 then some 2 else bif Nat.beq ty 163 then some 4 else none
theorem eqT_ok (ty : TypeId) (n : Nat) (h : eqT ty = some n) (xs ys : List Int) (hx : xs.length = n) (hy : ys.length = n) : EqFact Tryz.prog ty (xs.map i64) (ys.map i64) (decide (xs = ys)) := by
  unfold eqT at h
  cases h1 : Nat.beq ty 50 with
  | true =>
    rw [h1] at h
    cases h
    rw [Nat.eq_of_beq_eq_true h1]
    match xs, ys, hx, hy with
    | [a, b], [c, d], _, _ => exact eq50 a b c d
  | false =>
    rw [h1] at h
    cases h2 : Nat.beq ty 163 with
    | true =>
      rw [h2] at h
      cases h
      rw [Nat.eq_of_beq_eq_true h2]
      match xs, ys, hx, hy with
      | [a, b, c, d], [a', b', c', d'], _, _ => exact eq163 a b c d a' b' c' d'
    | false => rw [h2] at h; cases h
noncomputable def mapsT (ty : TypeId) : Option (TypeId × TypeId × Nat × Value) := bif Nat.beq ty 103 then some (83, 4, 2, .bool false) else none
theorem mapsT_ok (ty : TypeId) (k e : TypeId) (n : Nat) (z : Value) (h : mapsT ty = some (k, e, n, z)) : MapTy Tryz.prog ty k e n z := by
  unfold mapsT at h
  cases h1 : Nat.beq ty 103 with
  | true =>
    rw [h1] at h
    cases h
    rw [Nat.eq_of_beq_eq_true h1]
    exact map103
  | false => rw [h1] at h; cases h
noncomputable def cfg : Cfg := { P := Tryz.prog, TT := Go.Vm.TT, hT := Go.Vm.TTok, eqn := eqT, hE := eqT_ok, maps := mapsT, hM := mapsT_ok }
end Go.Cv
namespace Go.Vm
set_option maxRecDepth 20000
set_option linter.unusedVariables false
set_option linter.unusedSimpArgs false
namespace Sg
open Go Go.RowKit Go.Proofs

structure V2 where
  x : Int
  y : Int
structure Seg where
  a : V2
  b : V2
structure P3 where
  x : Int
  y : Int
  d : Int
theorem V2.ext {a b : V2} (h : a.x = b.x) (k : a.y = b.y) : a = b := by
  cases a; cases b; simp only at h k; rw [h, k]
theorem V2.eq_iff {a b : V2} : a = b ↔ a.x = b.x ∧ a.y = b.y := ⟨fun h => by rw [h]; exact ⟨rfl, rfl⟩, fun h => V2.ext h.1 h.2⟩
instance : DecidableEq V2 := fun _ _ => decidable_of_iff _ V2.eq_iff.symm
theorem P3.ext {a b : P3} (h : a.x = b.x) (k : a.y = b.y) (l : a.d = b.d) : a = b := by
  cases a; cases b; simp only at h k l; rw [h, k, l]
theorem Seg.ext {a b : Seg} (h : a.a = b.a) (k : a.b = b.b) : a = b := by
  cases a; cases b; simp only at h k; rw [h, k]

abbrev vL (v : V2) : List SV := [i64 v.x, i64 v.y]
abbrev vD (v : V2) : DV := .agg (vL v)
abbrev sL (s : Seg) : List SV := [i64 s.a.x, i64 s.a.y, i64 s.b.x, i64 s.b.y]
abbrev sD (s : Seg) : DV := .agg (sL s)
abbrev pL (p : P3) : List SV := [i64 p.x, i64 p.y, i64 p.d]
abbrev pD (p : P3) : DV := .agg (pL p)
abbrev boxL (a b c d : Int) : List SV := [i64 a, i64 b, i64 c, i64 d]
abbrev vlS (l : List V2) : SV := .sl l.length 2 fun i j => match j with
  | 0 => i64 (l.getD i ⟨0, 0⟩).x
  | _ => i64 (l.getD i ⟨0, 0⟩).y

abbrev ng (x : Int) : Int := w64 (0 - x)
def sgnI (n : Int) : Int := if n > 0 then 1 else if n < 0 then -1 else 0
def maxI (x y : Int) : Int := if y > x then y else x
def minI (x y : Int) : Int := if y < x then y else x
def absI (n : Int) : Int := if n ≥ 0 then n else ng n
def subW (a b : V2) : V2 := ⟨w64 (a.x - b.x), w64 (a.y - b.y)⟩
def addW (a b : V2) : V2 := ⟨w64 (a.x + b.x), w64 (a.y + b.y)⟩
def crossW (a b : V2) : Int := w64 (w64 (a.x * b.y) - w64 (a.y * b.x))
def turnW (a b c : V2) : Int := sgnI (crossW (subW b a) (subW c a))
def lessB (a b : V2) : Bool := decide (a.y < b.y) || (decide (a.y = b.y) && decide (a.x < b.x))
def cmpI (a b : Int) : Int := if a < b then -1 else if a > b then 1 else 0
def cmpV (a b : V2) : Int := if lessB a b = true then -1 else if a = b then 0 else 1
def withinV (v : V2) (m : Int) : Bool := decide (v.x ≥ ng m) && decide (v.x ≤ m) && decide (v.y ≥ ng m) && decide (v.y ≤ m)

theorem EqW.v {K : Bool → Prop} (a b : V2) (k : ∀ q, (q = true ↔ a = b) → K q) : EqW Tryz.prog 50 (vL a) (vL b) K := by
  refine EqW.b (eq50 _ _ _ _) (fun q hq => k q ?_)
  subst hq
  rw [decide_eq_true_eq, V2.eq_iff]
  simp
theorem CallW.v {P : Program} {f : FuncId} {args : List DV} {K : TV → Prop} {e : V2} (h : Det P f args (.d (vD e))) (kk : ∀ v, v = e → K (.d (vD v))) : CallW P f args K := ⟨_, h, kk e rfl⟩

theorem nan_det (n : Int) : Det Tryz.prog 205 [.one (i64 n)] (tbool false) := by
  refine det_of_awp TTok mixed Tryz.func205 rfl rfl [] (Nat.le_of_ble_eq_true rfl) ?_
  refine Fin.bool ?_
  simp
theorem cmp_det (a b : Int) : Det Tryz.prog 148 [.one (i64 a), .one (i64 b)] (tint (cmpI a b)) := by
  refine det_of_awp TTok mixed Tryz.func148 rfl rfl [] (Nat.le_of_ble_eq_true rfl) ?_
  repeat' first | refine CallW.mk' (nan_det _) ?_ | refine Split.t ?_ | refine Split.f ?_ | refine Split.mk (fun _ => ?_) (fun _ => ?_) | refine Fin.int ?_ | fail
  all_goals simp_all [cmpI]
  all_goals try (intros; omega)
theorem cmp_zero (n : Int) : cmpI n 0 = sgnI n := by
  unfold cmpI sgnI
  split <;> split <;> omega
def orI (a b : Int) : Int := if a ≠ 0 then a else b
theorem or_det (a b : Int) (get : Nat → Nat → SV) (h0 : get 0 0 = i64 a) (h1 : get 1 0 = i64 b) : Det Tryz.prog 150 [.one (.sl 2 1 get)] (tint (orI a b)) := by
  refine Det.le (args' := [.one (.sl 2 1 fun i _ => match i with | 0 => i64 a | _ => i64 b)]) (.cons (DLe.one (SLe.sl ?_)) .nil) ?_
  · intro i hi j hj
    obtain rfl : j = 0 := by omega
    rcases i with _ | _ | i
    · exact SLe.of_eq h0
    · exact SLe.of_eq h1
    · omega
  refine det_of_awp TTok mixed Tryz.func150 rfl rfl [] (Nat.le_of_ble_eq_true rfl) ?_
  refine Loop.unroll 3 ?_
  repeat' first | refine Split.t ?_ | refine Split.f ?_ | refine Need.mk (by decide) ?_ | refine Split.mk (fun _ => ?_) (fun _ => ?_) | refine Fin.int ?_ | fail
  all_goals simp_all [orI]

theorem within_det (v : V2) (m : Int) : Det Tryz.prog 13 [vD v, .one (i64 m)] (tbool (withinV v m)) := by
  refine det_of_awp TTok mixed Tryz.func13 rfl rfl [] (Nat.le_of_ble_eq_true rfl) ?_
  repeat' first | refine Split.t ?_ | refine Split.f ?_ | refine Split.mk (fun _ => ?_) (fun _ => ?_) | refine Need.mk (by kernel_rfl) ?_ | refine Fin.bool ?_ | fail
  all_goals
    simp_all [withinV, ng, w64]
    try (intros; omega)
theorem vwithin_det (v : V2) (m : Int) : Det Tryz.prog 41 [vD v, .one (i64 m)] (tbool (withinV v m)) := by
  refine det_of_awp TTok mixed Tryz.func41 rfl rfl [] (Nat.le_of_ble_eq_true rfl) ?_
  repeat' first | refine Split.t ?_ | refine Split.f ?_ | refine Split.mk (fun _ => ?_) (fun _ => ?_) | refine Need.mk (by kernel_rfl) ?_ | refine Fin.bool ?_ | fail
  all_goals
    simp_all [withinV, ng, w64]
    try (intros; omega)
theorem vsub_det (a b : V2) : Det Tryz.prog 43 [vD a, vD b] (.d (vD (subW a b))) := by
  refine det_of_awp TTok mixed Tryz.func43 rfl rfl [] (Nat.le_of_ble_eq_true rfl) ?_
  repeat' first | refine Need.mk (by kernel_rfl) ?_ | fail
  exact Fin.rfl'
theorem vcross_det (a b : V2) : Det Tryz.prog 149 [vD a, vD b] (tint (crossW a b)) := by
  refine det_of_awp TTok mixed Tryz.func149 rfl rfl [] (Nat.le_of_ble_eq_true rfl) ?_
  repeat' first | refine Need.mk (by kernel_rfl) ?_ | fail
  exact Fin.rfl'
theorem vturn_det (a b c : V2) : Det Tryz.prog 89 [vD a, vD b, vD c] (tint (turnW a b c)) := by
  refine det_of_awp TTok mixed Tryz.func89 rfl rfl [] (Nat.le_of_ble_eq_true rfl) ?_
  refine CallW.v (vsub_det b a) (fun p hp => ?_)
  refine CallW.v (vsub_det c a) (fun q hq => ?_)
  refine CallW.int (vcross_det p q) (fun n hn => ?_)
  refine CallW.int (cmp_det n 0) (fun s hs => ?_)
  repeat' first | refine Need.mk (by kernel_rfl) ?_ | fail
  refine Fin.int ?_
  rw [cmp_zero] at hs
  subst hs hn hp hq
  rfl
theorem orI_cmp (a b : V2) : orI (cmpI a.y b.y) (cmpI a.x b.x) = cmpV a b := by
  unfold orI cmpV cmpI lessB
  by_cases h : a = b
  · subst h; simp
  · rw [if_neg h]
    rw [V2.eq_iff] at h
    simp only [Bool.or_eq_true, Bool.and_eq_true, decide_eq_true_eq]
    repeat' split
    all_goals omega
theorem vcmp_det (a b : V2) : Det Tryz.prog 92 [vD a, vD b] (tint (cmpV a b)) := by
  refine det_of_awp TTok mixed Tryz.func92 rfl rfl [] (Nat.le_of_ble_eq_true rfl) ?_
  refine CallW.int (cmp_det _ _) (fun p hp => ?_)
  refine CallW.int (cmp_det _ _) (fun q hq => ?_)
  refine CallW.int (or_det p q _ rfl rfl) (fun r hr => ?_)
  refine Need.mk (by kernel_rfl) ?_
  refine Fin.int ?_
  rw [hr, hp, hq]
  exact orI_cmp a b
theorem cmpV_neg (a b : V2) : decide (cmpV a b < 0) = lessB a b := by
  unfold cmpV
  cases h : lessB a b with
  | true => simp
  | false =>
    simp only [Bool.false_eq_true, if_false]
    split <;> rfl
theorem vless_det (a b : V2) : Det Tryz.prog 213 [vD a, vD b] (tbool (lessB a b)) := by
  refine det_of_awp TTok mixed Tryz.func213 rfl rfl [] (Nat.le_of_ble_eq_true rfl) ?_
  refine CallW.int (vcmp_det a b) (fun p hp => ?_)
  refine Fin.bool ?_
  rw [hp]
  exact cmpV_neg a b
end Sg
end Go.Vm
namespace Go.Vm
set_option maxRecDepth 20000
set_option linter.unusedVariables false
set_option linter.unusedSimpArgs false
open Go Go.RowKit Go.Proofs Go.Shelf
namespace Sg
attribute [local go_sem] Oper.semAt_some

abbrev hS (l : List (List V2)) : SV := .sl l.length 1 fun i _ => vlS (l.getD i [])
abbrev shapeC (o : List V2) (h : List (List V2)) : Nat → SV := fun i => match i with
  | 0 => vlS o
  | _ => hS h
set_option maxRecDepth 100000 in
set_option maxHeartbeats 2000000 in
theorem rings1_in (Bs off n : Nat) (o : Value) (b hoff cap : Nat) (hv : Nat → Value) (Sx : Nat → Prop) (hSb : Sx b) (hSB : Sx Bs) (hn : n ≤ maxLen) (w : World)
    (ho : w.cell? ⟨Bs, off, none⟩ = some o) (hh : w.cell? ⟨Bs, off + 1, none⟩ = some (.slice (some ⟨b, hoff, none⟩) n cap)) (hc : ∀ j, j < n → w.cell? ⟨b, hoff + j, none⟩ = some (hv j))
    (ho1 : o.oneCell' = true) (hv1 : ∀ j, j < n → (hv j).oneCell' = true) :
    IterAt Tryz.prog 110 [.pointer (some ⟨Bs, off, none⟩)] (o :: (List.range n).map hv) Sx w := by
  intro l J Jx W hW hJ hY h0
  refine callsIn_of_wp Tryz.func110 rfl trivial ?_ rfl
  have hcell : ∀ {W' : World} {a : Addr} {v : Value}, (∀ b, Sx b → W'.heap[b]? = w.heap[b]?) → Sx a.block → w.cell? a = some v → W'.cell? a = some v := fun hk hS h => by
    rw [World.cell?_of_block (w := w) (hk _ hS)]; exact h
  have ho' := hcell (a := ⟨Bs, off, none⟩) hW hSB ho
  obtain ⟨fn, tmps, assign, body, hy, hR⟩ := hY 0 o W rfl h0
  have nt : Tryz.f110.ntmps = 22 := by kernel_rfl
  simp only [nt, List.size_toArray, List.length_cons, List.length_nil, Nat.reduceAdd, Nat.reduceSub, Array.replicate_succ, Array.replicate_zero, List.push_toArray, List.append_toArray, List.nil_append, List.cons_append]
  gi_wp2
  refine ⟨rfl, hR.mono ?_⟩
  rintro e W3 (⟨rfl, hJ3, hk3⟩ | ⟨rfl, hJx3⟩)
  · have hW3 : ∀ b, Sx b → W3.heap[b]? = w.heap[b]? := fun b hb => (hk3 b hb).trans (hW b hb)
    have hh' := hcell (a := ⟨Bs, off + 1, none⟩) hW3 hSB hh
    gi_wp2
    gi_loopw [13] (fun i wr => ∃ k : Nat, k ≤ n ∧ i = .int .i64 k ∧ J (k + 1) wr ∧ ∀ b, Sx b → wr.heap[b]? = w.heap[b]?)
      (fun i _ => n - (intOf i).toNat)
    case atStart => exact ⟨0, Nat.zero_le _, rfl, hJ3, hW3⟩
    case round =>
      obtain ⟨k, hk, rfl, hJs, hnx⟩ := hrel
      by_cases hlt : k < n
      · have hcx := hcell (a := ⟨b, hoff + k, none⟩) hnx hSb (hc k hlt)
        obtain ⟨fn, tmps, assign, body, hy, hR⟩ := hY (k + 1) (hv k) wr (by simp [hlt]) hJs
        gi_wp2
        refine ⟨rfl, hR.mono ?_⟩
        rintro e W4 (⟨rfl, hJ4, hk4⟩ | ⟨rfl, hJx4⟩)
        · gi_wp2
          go_roundw
          case rel =>
            refine ⟨k + 1, by omega, ?_, hJ4, fun b hb => (hk4 b hb).trans (hnx b hb)⟩
            have hwr : wrap64 ((k : Int) + 1) = ((k + 1 : Nat) : Int) := by unfold maxLen at hn; unfold wrap64; omega
            rw [hwr]
          case measure =>
            have hwr : wrap64 ((k : Int) + 1) = ((k + 1 : Nat) : Int) := by unfold maxLen at hn; unfold wrap64; omega
            rw [hwr]
            simp only [intOf]; omega
        · gi_wp2
          refine bodyPost_ret (results_none rfl _ _ _) rfl ?_
          exact ⟨⟨_, rfl⟩, .inr hJx4⟩
      · obtain rfl : k = n := by omega
        gi_wp2
        go_end0
        exact ⟨⟨_, rfl⟩, .inl (by simpa using hJs)⟩
  · gi_wp2
    refine bodyPost_ret (results_none rfl _ _ _) rfl ?_
    exact ⟨⟨_, rfl⟩, .inr hJx3⟩
set_option maxRecDepth 100000 in
set_option maxHeartbeats 2000000 in
theorem rings0_in (Bs off : Nat) (o : Value) (ad : Option Addr) (cap : Nat) (Sx : Nat → Prop) (hSB : Sx Bs) (w : World)
    (ho : w.cell? ⟨Bs, off, none⟩ = some o) (hh : w.cell? ⟨Bs, off + 1, none⟩ = some (.slice ad 0 cap)) (ho1 : o.oneCell' = true) :
    IterAt Tryz.prog 110 [.pointer (some ⟨Bs, off, none⟩)] [o] Sx w := by
  intro l J Jx W hW hJ hY h0
  refine callsIn_of_wp Tryz.func110 rfl trivial ?_ rfl
  have hcell : ∀ {W' : World} {a : Addr} {v : Value}, (∀ b, Sx b → W'.heap[b]? = w.heap[b]?) → Sx a.block → w.cell? a = some v → W'.cell? a = some v := fun hk hS h => by
    rw [World.cell?_of_block (w := w) (hk _ hS)]; exact h
  have ho' := hcell (a := ⟨Bs, off, none⟩) hW hSB ho
  obtain ⟨fn, tmps, assign, body, hy, hR⟩ := hY 0 o W rfl h0
  have nt : Tryz.f110.ntmps = 22 := by kernel_rfl
  simp only [nt, List.size_toArray, List.length_cons, List.length_nil, Nat.reduceAdd, Nat.reduceSub, Array.replicate_succ, Array.replicate_zero, List.push_toArray, List.append_toArray, List.nil_append, List.cons_append]
  gi_wp2
  refine ⟨rfl, hR.mono ?_⟩
  rintro e W3 (⟨rfl, hJ3, hk3⟩ | ⟨rfl, hJx3⟩)
  · have hW3 : ∀ b, Sx b → W3.heap[b]? = w.heap[b]? := fun b hb => (hk3 b hb).trans (hW b hb)
    have hh' := hcell (a := ⟨Bs, off + 1, none⟩) hW3 hSB hh
    gi_wp2
    gi_loopw [13] (fun i wr => i = .int .i64 0 ∧ J 1 wr) (fun _ _ => 0)
    case atStart => exact ⟨rfl, hJ3⟩
    case round =>
      obtain ⟨rfl, hJs⟩ := hrel
      gi_wp2
      go_end0
      exact ⟨⟨_, rfl⟩, .inl hJs⟩
  · gi_wp2
    refine bodyPost_ret (results_none rfl _ _ _) rfl ?_
    exact ⟨⟨_, rfl⟩, .inr hJx3⟩
theorem DRdL_map {S : Nat → Prop} {w : World} {α : Type} (f : α → Value) (g : α → DV) : ∀ l : List α, (∀ x ∈ l, DRd S w (f x) (g x)) → DRdL S w (l.map f) (l.map g)
  | [], _ => .nil
  | x :: l, h => .cons (h x (by simp)) (DRdL_map f g l (fun y hy => h y (by simp [hy])))
theorem rings_iter (o : List V2) (h : List (List V2)) : Iter Tryz.prog 110 (cells 1 fun _ => .ad 2 (shapeC o h)) (.one (vlS o) :: h.map (fun r => .one (vlS r))) := by
  refine ⟨⟨_, Tryz.func110, rfl, rfl⟩, fun w S lb hSw hlb => ?_⟩
  cases hlb with
  | cons hx ht =>
    cases ht
    obtain ⟨Bs, off, xs, rfl, hSB, hc, hr⟩ := Rd.inv_ad hx
    have c0 := hc 0 (by omega)
    have c1 := hc 1 (by omega)
    have r0 := hr 0 (by omega)
    have r1 : Rd S w (xs 1) (hS h) := hr 1 (by omega)
    rw [Nat.add_zero] at c0
    have emp : ∀ (ad : Option Addr) (cap : Nat), xs 1 = .slice ad 0 cap → h.length = 0 → ∃ vs, DRdL S w vs (.one (vlS o) :: h.map (fun r => .one (vlS r))) ∧ IterAt Tryz.prog 110 [.pointer (some ⟨Bs, off, none⟩)] vs S w := by
      intro ad cap e e0
      have : h = [] := List.eq_nil_of_length_eq_zero e0
      subst this
      exact ⟨[xs 0], .cons r0 .nil, rings0_in Bs off (xs 0) ad cap S hSB w c0 (by rw [← e]; exact c1) r0.oneCell⟩
    rcases Rd.inv_sl r1 with ⟨e, e0⟩ | ⟨a, cap, e, e0⟩ | ⟨b, hoff, cap, ys, e, hb, hn, hcap, hcs, hrs⟩
    · exact emp _ _ e e0
    · exact emp _ _ e e0
    · refine ⟨xs 0 :: (List.range h.length).map (fun i => ys i 0), .cons r0 ?_, rings1_in Bs off h.length (xs 0) b hoff cap (fun i => ys i 0) S hb hSB (Nat.le_trans hn hcap) w c0 (by rw [← e]; exact c1) (fun j hj => ?_) r0.oneCell (fun j hj => ?_)⟩
      · have e2 : h.map (fun r => DV.one (vlS r)) = (List.range h.length).map (fun i => DV.one (vlS (h.getD i []))) := by
          apply List.ext_getElem
          · simp
          · intro i h1 h2
            simp only [List.getElem_map, List.getElem_range]
            have : i < h.length := by simpa using h1
            simp [List.getD, this]
        rw [e2]
        exact DRdL_map _ _ _ (fun i hi => hrs i (by simpa using hi) 0 (by omega))
      · have := hcs j hj 0 (by omega)
        rw [Nat.mul_one, Nat.add_zero] at this
        exact this
      · exact (hrs j hj 0 (by omega)).oneCell
end Sg
end Go.Vm
namespace Go.Vm
set_option maxRecDepth 20000
set_option linter.unusedVariables false
set_option linter.unusedSimpArgs false
namespace Sg
open Go Go.RowKit Go.Proofs

def validS (s : Seg) : Bool := withinV s.a 4000 && withinV s.b 4000
def inBoxB (s : Seg) (p : V2) : Bool := decide (p.x ≥ minI s.a.x s.b.x) && decide (p.x ≤ maxI s.a.x s.b.x) && decide (p.y ≥ minI s.a.y s.b.y) && decide (p.y ≤ maxI s.a.y s.b.y)
def onB (s : Seg) (p : V2) : Bool := validS s && inBoxB s p && (turnW s.a s.b p == 0)
def sideI (s : Seg) (p : V2) : Int := bif validS s && withinV p 4000 then turnW s.a s.b p else 0

theorem valid_det (s : Seg) : Det Tryz.prog 218 [sD s] (tbool (validS s)) := by
  refine det_of_awp TTok mixed Tryz.func218 rfl rfl [] (Nat.le_of_ble_eq_true rfl) ?_
  repeat' first | refine CallW.bool (vwithin_det s.a _) (fun _ _ => ?_) | refine CallW.bool (vwithin_det s.b _) (fun _ _ => ?_) | refine Split.t ?_ | refine Split.f ?_ | refine Split.mk (fun _ => ?_) (fun _ => ?_) | refine Need.mk (by kernel_rfl) ?_ | refine Fin.bool ?_ | fail
  all_goals simp_all [validS]
theorem min_self (a : Int) : minI a a = a := by simp [minI]
theorem max_self (a : Int) : maxI a a = a := by simp [maxI]
abbrev boxT (a b c d : Int) : TV := .tup [.agg (boxL a b c d), .one (.v (.bool true))]
theorem box2_det (a b : V2) (get : Nat → Nat → SV) (h0 : get 0 0 = i64 a.x) (h1 : get 0 1 = i64 a.y) (h2 : get 1 0 = i64 b.x) (h3 : get 1 1 = i64 b.y) :
    Det Tryz.prog 138 [.one (.sl 2 2 get)] (boxT (minI a.x b.x) (minI a.y b.y) (maxI a.x b.x) (maxI a.y b.y)) := by
  refine Det.le (args' := [.one (.sl 2 2 fun i j => match i with | 0 => (match j with | 0 => i64 a.x | _ => i64 a.y) | _ => (match j with | 0 => i64 b.x | _ => i64 b.y))]) (.cons (DLe.one (SLe.sl ?_)) .nil) ?_
  · intro i hi j hj
    rcases i with _ | _ | i <;> rcases j with _ | _ | j <;> first | exact SLe.of_eq (by assumption) | omega
  have e1 := min_self a.x
  have e2 := min_self a.y
  have e3 := max_self a.x
  have e4 := max_self a.y
  refine det_of_awp TTok mixed Tryz.func138 rfl rfl [] (Nat.le_of_ble_eq_true rfl) ?_
  refine Split.f ?_
  repeat' first | refine Need.mk (by kernel_rfl) ?_ | refine Need.mk (by decide) ?_ | fail
  refine Loop.unroll 3 ?_
  repeat' first | refine Split.t ?_ | refine Split.f ?_ | refine Split.isT (by decide) ?_ | refine Split.isF (by decide) ?_ | refine Need.mk (by kernel_rfl) ?_ | refine Need.mk (by decide) ?_ | fail
  refine Fin.eq ?_
  show boxT (minI (minI a.x a.x) b.x) (minI (minI a.y a.y) b.y) (maxI (maxI a.x a.x) b.x) (maxI (maxI a.y a.y) b.y) = _
  rw [e1, e2, e3, e4]
theorem inbox_det (s : Seg) (p : V2) : Det Tryz.prog 44 [.agg (boxL (minI s.a.x s.b.x) (minI s.a.y s.b.y) (maxI s.a.x s.b.x) (maxI s.a.y s.b.y)), vD p] (tbool (inBoxB s p)) := by
  refine det_of_awp TTok mixed Tryz.func44 rfl rfl [] (Nat.le_of_ble_eq_true rfl) ?_
  unfold inBoxB
  generalize minI s.a.x s.b.x = a
  generalize minI s.a.y s.b.y = b
  generalize maxI s.a.x s.b.x = c
  generalize maxI s.a.y s.b.y = d
  repeat' first | refine Split.t ?_ | refine Split.f ?_ | refine Split.mk (fun _ => ?_) (fun _ => ?_) | refine Need.mk (by kernel_rfl) ?_ | refine Fin.bool ?_ | fail
  all_goals simp_all
  all_goals try (intros; omega)
theorem on_det (s : Seg) (p : V2) : Det Tryz.prog 196 [sD s, vD p] (tbool (onB s p)) := by
  refine det_of_awp TTok mixed Tryz.func196 rfl rfl [] (Nat.le_of_ble_eq_true rfl) ?_
  refine CallW.mk' (box2_det s.a s.b _ rfl rfl rfl rfl) ?_
  repeat' first | refine CallW.bool (valid_det s) (fun _ _ => ?_) | refine CallW.bool (inbox_det s p) (fun _ _ => ?_) | refine CallW.int (vturn_det s.a s.b p) (fun _ _ => ?_) | refine Split.t ?_ | refine Split.f ?_ | refine Split.mk (fun _ => ?_) (fun _ => ?_) | refine Need.mk (by kernel_rfl) ?_ | refine Fin.bool ?_ | fail
  all_goals simp_all [onB]
abbrev ptOf (p : V2) : P3 := ⟨p.x, p.y, 1⟩
theorem pointof_det (p : V2) : Det Tryz.prog 185 [vD p] (.d (pD (ptOf p))) := by
  refine det_of_awp TTok mixed Tryz.func185 rfl rfl [] (Nat.le_of_ble_eq_true rfl) ?_
  repeat' first | refine Need.mk (by kernel_rfl) ?_ | fail
  exact Fin.rfl'
/-! ### the greatest common divisor -/
theorem gcd_step (a b : Int) : Int.gcd b (a.tmod b) = Int.gcd a b := by
  simp only [Int.gcd, Int.natAbs_tmod]
  rw [Nat.gcd_comm b.natAbs, ← Nat.gcd_rec, Nat.gcd_comm]
theorem tmod_lt {a b : Int} (h : b ≠ 0) : (a.tmod b).natAbs < b.natAbs := by
  rw [Int.natAbs_tmod]
  exact Nat.mod_lt _ (by omega)
abbrev Big (n : Int) : Prop := -4611686018427387904 ≤ n ∧ n ≤ 4611686018427387904
theorem tmod_big {a b : Int} (hb : Big b) (ha : Big a) : Big (a.tmod b) := by
  have h : (a.tmod b).natAbs ≤ a.natAbs := by
    rw [Int.natAbs_tmod]
    exact Nat.mod_le _ _
  obtain ⟨h1, h2⟩ := ha
  constructor <;> omega
theorem gcd_loop {a b : Int} (ha : Big a) (h : b = 0) : maxI a (ng a) = (Int.gcd a b : Int) := by
  subst h
  obtain ⟨h1, h2⟩ := ha
  have e : ng a = -a := (w64_id (n := 0 - a) ⟨by omega, by omega⟩).trans (by omega)
  rw [e, Int.gcd_zero_right]
  unfold maxI
  split <;> omega
theorem gcd_det (a b : Int) (ha : Big a) (hb : Big b) : Det Tryz.prog 236 [.one (i64 a), .one (i64 b)] (tint (Int.gcd a b : Nat)) := by
  refine det_of_awp TTok mixed Tryz.func236 rfl rfl [] (Nat.le_of_ble_eq_true rfl) ?_
  refine Loop.by (α := Int × Int) (fun x => [(0, tint x.1), (1, tint x.2)]) (fun _ => []) (fun x => Int.gcd x.1 x.2 = Int.gcd a b ∧ Big x.1 ∧ Big x.2) (fun x => x.2.natAbs)
    (Adj.at (a, b) ⟨rfl, ha, hb⟩ .nil (.cons .same (.cons .same .nil))) (fun x hi => ?_)
  obtain ⟨p, q⟩ := x
  obtain ⟨hg, hp, hq⟩ := hi
  refine Split.mk (fun h => ?_) (fun h => ?_)
  · have hne : q ≠ 0 := by simpa using h
    refine Need.mk hne ?_
    refine Need.mk (by kernel_rfl) ?_
    exact Adj.back (x := (p, q)) (q, p.tmod q) ⟨(gcd_step p q).trans hg, hq, tmod_big hq hp⟩ (tmod_lt hne) .nil (.cons .same (.cons .same .nil))
  · have h0 : q = 0 := by simpa using h
    refine Fin.int ?_
    rw [← hg]
    exact gcd_loop hp h0
end Sg
end Go.Vm
namespace Go.Vm
set_option maxRecDepth 20000
set_option linter.unusedVariables false
set_option linter.unusedSimpArgs false
namespace Sg
open Go Go.RowKit Go.Proofs

theorem wid {n : Int} (h1 : -9223372036854775808 ≤ n) (h2 : n < 9223372036854775808) : IntKind.i64.wrap n = n := w64_id ⟨h1, h2⟩
theorem wid' {n : Int} (h1 : -9223372036854775808 ≤ n) (h2 : n < 9223372036854775808) : w64 n = n := w64_id ⟨h1, h2⟩

theorem withinV_iff {v : V2} {m : Int} (h0 : 0 ≤ m) (h1 : m ≤ 4611686018427387904) : withinV v m = true ↔ -m ≤ v.x ∧ v.x ≤ m ∧ -m ≤ v.y ∧ v.y ≤ m := by
  have e : ng m = -m := by
    unfold ng
    simp (disch := omega) only [wid']
    omega
  simp only [withinV, e, Bool.and_eq_true, decide_eq_true_eq]
  omega
def boundB (p : P3) (m : Int) : Bool := decide (1 ≤ p.d) && decide (p.d ≤ 134217728) && decide (-(m * p.d) ≤ p.x) && decide (p.x ≤ m * p.d) && decide (-(m * p.d) ≤ p.y) && decide (p.y ≤ m * p.d)
def validP (p : P3) : Bool := boundB p 4000 && decide (Int.gcd (Int.gcd p.x p.y) p.d = 1)
theorem boundB_iff {p : P3} {m : Int} : boundB p m = true ↔ 1 ≤ p.d ∧ p.d ≤ 134217728 ∧ -(m * p.d) ≤ p.x ∧ p.x ≤ m * p.d ∧ -(m * p.d) ≤ p.y ∧ p.y ≤ m * p.d := by
  simp only [boundB, Bool.and_eq_true, decide_eq_true_eq]
  omega

theorem bounded_det (p : P3) (m : Int) (h0 : 0 ≤ m) (h1 : m ≤ 4000) : Det Tryz.prog 237 [pD p, .one (i64 m)] (tbool (boundB p m)) := by
  refine det_of_awp TTok mixed Tryz.func237 rfl rfl [] (Nat.le_of_ble_eq_true rfl) ?_
  have hf : ¬ (1 ≤ p.d ∧ p.d ≤ 134217728) → boundB p m = false := fun h => by
    rw [Bool.eq_false_iff]
    intro hb
    have := boundB_iff.1 hb
    exact h ⟨this.1, this.2.1⟩
  refine Split.mk (fun h => ?_) (fun h => ?_)
  · replace h : decide (p.d < 1) = true := h
    repeat' first | refine Split.t ?_ | refine Fin.bool ?_ | fail
    rw [hf]
    have := of_decide_eq_true h
    omega
  · replace h : decide (p.d < 1) = false := h
    repeat' first | refine Split.f ?_ | fail
    refine Split.mk (fun h2 => ?_) (fun h2 => ?_)
    · replace h2 : decide (p.d > 134217728) = true := h2
      refine Fin.bool ?_
      rw [hf]
      have := of_decide_eq_true h2
      omega
    · replace h2 : decide (p.d > 134217728) = false := h2
      have k1 := of_decide_eq_false h
      have k2 := of_decide_eq_false h2
      refine CallW.bool (vwithin_det ⟨p.x, p.y⟩ (w64 (m * p.d))) (fun q hq => ?_)
      refine Fin.bool ?_
      rw [hq, Bool.eq_iff_iff, boundB_iff]
      have h3 : 0 ≤ m * p.d := Int.mul_nonneg h0 (by omega)
      have h4 : m * p.d ≤ 4000 * 134217728 := Int.mul_le_mul h1 (by omega) (by omega) (by omega)
      rw [wid' (by omega) (by omega), withinV_iff h3 (by omega)]
      show -(m * p.d) ≤ p.x ∧ p.x ≤ m * p.d ∧ -(m * p.d) ≤ p.y ∧ p.y ≤ m * p.d ↔ _
      omega
theorem bound_big {p : P3} {m : Int} (h0 : 0 ≤ m) (h1 : m ≤ 4000) (h : boundB p m = true) : Big p.x ∧ Big p.y ∧ Big p.d ∧ m * p.d ≤ 536870912000 ∧ 0 ≤ m * p.d := by
  obtain ⟨k1, k2, k3, k4, k5, k6⟩ := boundB_iff.1 h
  have h3 : 0 ≤ m * p.d := Int.mul_nonneg h0 (by omega)
  have h4 : m * p.d ≤ 4000 * 134217728 := Int.mul_le_mul h1 (by omega) (by omega) (by omega)
  exact ⟨⟨by omega, by omega⟩, ⟨by omega, by omega⟩, ⟨by omega, by omega⟩, by omega, h3⟩
theorem gcd_le_of {a b : Int} (m : Int) (ha : -m ≤ a ∧ a ≤ m) (hb : -m ≤ b ∧ b ≤ m) (_h0 : 0 ≤ m) : ((Int.gcd a b : Nat) : Int) ≤ m := by
  by_cases h : a = 0
  · subst h
    rw [Int.gcd_zero_left]
    omega
  · have := Nat.le_of_dvd (by omega) (Nat.gcd_dvd_left a.natAbs b.natAbs)
    have e : Int.gcd a b = Nat.gcd a.natAbs b.natAbs := rfl
    omega
theorem gcd_big {p : P3} {m : Int} (h0 : 0 ≤ m) (h1 : m ≤ 4000) (h : boundB p m = true) : Big (Int.gcd p.x p.y : Nat) := by
  obtain ⟨k1, k2, k3, k4, k5⟩ := bound_big h0 h1 h
  have := gcd_le_of 4611686018427387904 k1 k2 (by omega)
  constructor <;> omega
theorem validp_det (p : P3) : Det Tryz.prog 221 [pD p] (tbool (validP p)) := by
  refine det_of_awp TTok mixed Tryz.func221 rfl rfl [] (Nat.le_of_ble_eq_true rfl) ?_
  refine CallW.bool (bounded_det p 4000 (by decide) (by decide)) (fun q hq => ?_)
  refine Split.mk (fun h => ?_) (fun h => ?_)
  · have hb : boundB p 4000 = true := by rw [← hq, h]
    obtain ⟨k1, k2, k3, _⟩ := bound_big (by decide) (by decide) hb
    have k4 := gcd_big (by decide) (by decide) hb
    repeat' first | refine CallW.mk' (gcd_det p.x p.y k1 k2) ?_ | refine CallW.mk' (gcd_det _ p.d k4 k3) ?_ | refine Split.t ?_ | refine Need.mk (by kernel_rfl) ?_ | fail
    subst h
    repeat' first | refine Split.t ?_ | refine Need.mk (by kernel_rfl) ?_ | refine Fin.bool ?_ | fail
    rw [validP, hb, Bool.true_and, Bool.eq_iff_iff]
    simp only [beq_iff_eq, decide_eq_true_eq]
    omega
  · subst h
    repeat' first | refine Split.f ?_ | refine Need.mk (by kernel_rfl) ?_ | refine Fin.bool ?_ | fail
    rw [validP, ← hq]
    rfl
abbrev vecOk (v : V2) (b : Bool) : TV := .tup [vD v, .one (.v (.bool b))]
def wholeB (p : P3) : Bool := validP p && decide (p.d = 1)
abbrev wholeT (p : P3) : TV := vecOk (if wholeB p = true then ⟨p.x, p.y⟩ else ⟨0, 0⟩) (wholeB p)
end Sg
end Go.Vm
namespace Go.Vm
set_option maxRecDepth 20000
set_option linter.unusedVariables false
set_option linter.unusedSimpArgs false
namespace Sg
open Go Go.RowKit Go.Proofs

def cmpQ (a m b n : Int) : Int := cmpI (a * n) (b * m)
structure Fr (a m : Int) : Prop where
  m1 : 1 ≤ m
  m2 : m ≤ 134217728
  a1 : -(2000 * m) ≤ a
  a2 : a ≤ 2000 * m
abbrev twoT (a b : Int) : TV := .tup [.one (i64 a), .one (i64 b)]
theorem CallW.tup2 {P : Program} {f : FuncId} {args : List DV} {K : TV → Prop} {a b : Int} (h : Det P f args (twoT a b)) (kk : ∀ x y, x = a → y = b → K (twoT x y)) : CallW P f args K := ⟨_, h, kk _ _ rfl rfl⟩
def nearB (p : P3) : Bool := validP p && boundB p 2000
def cmpP (p q : P3) : Int := if nearB p = true ∧ nearB q = true then orI (cmpQ p.y p.d q.y q.d) (cmpQ p.x p.d q.x q.d) else 0
end Sg
end Go.Vm
namespace Go.Vm
set_option maxRecDepth 20000
set_option linter.unusedVariables false
set_option linter.unusedSimpArgs false
open Go Go.RowKit Go.Proofs

theorem SLe.slN {n n' k : Nat} {g g' : Nat → Nat → SV} (hn : n = n') (h : ∀ i, i < n → ∀ j, j < k → SLe (g i j) (g' i j)) : SLe (.sl n k g) (.sl n' k g') := by
  subst hn; exact SLe.sl h
theorem SLe.bif {k i : Nat} {x y z : SV} (h1 : i < k → SLe x z) (h2 : k ≤ i → SLe y z) : SLe (bif Nat.blt i k then x else y) z := by
  cases h : Nat.blt i k with
  | true => exact h1 (lt_of_blt h)
  | false =>
    refine h2 (Nat.le_of_not_lt fun hl => ?_)
    have : Nat.blt i k = true := blt_t hl
    rw [h] at this; cases this

theorem needApp {n B : Nat} (h : n ≤ 100000) (hB : B ≤ 1000) : n * B ≤ 140737488355328 ∧ n ≤ maxLen := by
  have := Nat.mul_le_mul h hB
  simp only [maxLen]
  omega

namespace Sg

def insV : List V2 → V2 → List V2
  | [], v => [v]
  | x :: r, v => if lessB x v = true then x :: insV r v else if x = v then x :: r else v :: x :: r
def sortV (l : List V2) : List V2 := l.foldl insV []
abbrev vG (l : List V2) : Nat → Nat → SV := fun i j => match j with
  | 0 => i64 (l.getD i ⟨0, 0⟩).x
  | _ => i64 (l.getD i ⟨0, 0⟩).y
theorem vG_eq {l l' : List V2} {i i' : Nat} (h : l.getD i ⟨0, 0⟩ = l'.getD i' ⟨0, 0⟩) (j : Nat) : vG l i j = vG l' i' j := by
  unfold vG
  rw [h]
end Sg
end Go.Vm
namespace Go.Vm
set_option maxRecDepth 20000
set_option linter.unusedVariables false
set_option linter.unusedSimpArgs false
open Go Go.RowKit Go.Proofs
namespace Sg

def endsL (s t : Seg) : List V2 := [s.a, s.b, t.a, t.b]
def bothB (s t : Seg) (e : V2) : Bool := onB s e && onB t e
def commonL (s t : Seg) : List V2 := sortV ((endsL s t).filter (bothB s t))
def crossB (s t : Seg) : Bool := decide (sideI s t.a * sideI s t.b < 0) && decide (sideI t s.a * sideI t s.b < 0)
def rmeetI (s t : Seg) : Int := if validS s = false ∨ validS t = false then 0 else if (commonL s t).length > 1 then 3 else if (commonL s t).length = 1 then 1 else if crossB s t = true then 2 else 0
end Sg
end Go.Vm
namespace Go.Vm
set_option maxRecDepth 20000
set_option linter.unusedVariables false
set_option linter.unusedSimpArgs false
namespace Sg
open Go Go.RowKit Go.Proofs

def subP (a b : V2) : V2 := ⟨a.x - b.x, a.y - b.y⟩
def crossP (a b : V2) : Int := a.x * b.y - a.y * b.x
structure In (m : Int) (v : V2) : Prop where
  x0 : -m ≤ v.x
  x1 : v.x ≤ m
  y0 : -m ≤ v.y
  y1 : v.y ≤ m
theorem In.of {v : V2} {m : Int} (h0 : 0 ≤ m) (h1 : m ≤ 4611686018427387904) (h : withinV v m = true) : In m v := by
  have := (withinV_iff h0 h1).1 h
  exact ⟨by omega, by omega, by omega, by omega⟩
theorem In.within {v : V2} {m : Int} (h0 : 0 ≤ m) (h1 : m ≤ 4611686018427387904) (h : In m v) : withinV v m = true := (withinV_iff h0 h1).2 ⟨h.x0, h.x1, h.y0, h.y1⟩
theorem valid_in {s : Seg} (h : validS s = true) : In 4000 s.a ∧ In 4000 s.b := by
  simp only [validS, Bool.and_eq_true] at h
  exact ⟨In.of (by decide) (by decide) h.1, In.of (by decide) (by decide) h.2⟩
theorem mul_abs {x y X Y : Int} (hx : -X ≤ x ∧ x ≤ X) (hy : -Y ≤ y ∧ y ≤ Y) : -(X * Y) ≤ x * y ∧ x * y ≤ X * Y := by
  have h1 : (x * y).natAbs ≤ X.natAbs * Y.natAbs := by
    rw [Int.natAbs_mul]
    exact Nat.mul_le_mul (by omega) (by omega)
  have h2 : ((X.natAbs * Y.natAbs : Nat) : Int) = X * Y := by
    rw [Int.natCast_mul, Int.natAbs_of_nonneg (by omega), Int.natAbs_of_nonneg (by omega)]
  omega
theorem subW_eq {m : Int} {a b : V2} (hm : m ≤ 1000000000) (ha : In m a) (hb : In m b) : subW a b = subP a b ∧ In (2 * m) (subP a b) := by
  obtain ⟨a1, a2, a3, a4⟩ := ha
  obtain ⟨b1, b2, b3, b4⟩ := hb
  refine ⟨?_, ⟨?_, ?_, ?_, ?_⟩⟩
  · unfold subW subP
    simp (disch := omega) only [wid']
  all_goals (simp only [subP]; omega)
theorem crossW_eq {m : Int} {a b : V2} (h0 : 0 ≤ m) (hm : m ≤ 1000000000) (ha : In m a) (hb : In m b) : crossW a b = crossP a b ∧ -(2 * (m * m)) ≤ crossP a b ∧ crossP a b ≤ 2 * (m * m) := by
  obtain ⟨a1, a2, a3, a4⟩ := ha
  obtain ⟨b1, b2, b3, b4⟩ := hb
  have k1 := mul_abs (x := a.x) (y := b.y) (X := m) (Y := m) ⟨a1, a2⟩ ⟨b3, b4⟩
  have k2 := mul_abs (x := a.y) (y := b.x) (X := m) (Y := m) ⟨a3, a4⟩ ⟨b1, b2⟩
  have k3 : m * m ≤ 1000000000 * 1000000000 := Int.mul_le_mul hm hm h0 (by omega)
  refine ⟨?_, ?_⟩
  · unfold crossW crossP
    simp (disch := omega) only [wid']
  · unfold crossP
    omega
def turnP (a b c : V2) : Int := sgnI (crossP (subP b a) (subP c a))
theorem turnW_eq {m : Int} {a b c : V2} (h0 : 0 ≤ m) (hm : m ≤ 100000000) (ha : In m a) (hb : In m b) (hc : In m c) : turnW a b c = turnP a b c := by
  unfold turnW turnP
  obtain ⟨e1, i1⟩ := subW_eq (by omega) hb ha
  obtain ⟨e2, i2⟩ := subW_eq (by omega) hc ha
  rw [e1, e2, (crossW_eq (by omega) (by omega) i1 i2).1]

/-! ### points in lowest terms -/
def low (x y d : Int) : P3 := ⟨x.tdiv (Int.gcd (Int.gcd x y) d), y.tdiv (Int.gcd (Int.gcd x y) d), d.tdiv (Int.gcd (Int.gcd x y) d)⟩
def lowP (x y d : Int) : P3 := if d < 0 then low (-x) (-y) (-d) else low x y d
theorem gcd_pos {g d : Int} (h : d ≠ 0) : ((Int.gcd g d : Nat) : Int) ≠ 0 := by
  have : Int.gcd g d ≠ 0 := fun h' => h (Int.gcd_eq_zero_iff.1 h').2
  omega
theorem tdiv_big {x g : Int} (hx : Big x) : Big (x.tdiv g) := by
  have h : (x.tdiv g).natAbs ≤ x.natAbs := by
    rw [Int.natAbs_tdiv]
    exact Nat.div_le_self _ _
  obtain ⟨h1, h2⟩ := hx
  constructor <;> omega
theorem big_w {x : Int} (h : Big x) : w64 x = x := wid' (by have := h.1; omega) (by have := h.2; omega)
abbrev Small (n : Int) : Prop := -1000000000000000 ≤ n ∧ n ≤ 1000000000000000
theorem small_big {n : Int} (h : Small n) : Big n := ⟨by omega, by omega⟩
theorem gcd_small {a b : Int} (ha : Small a) (hb : Small b) : Small (Int.gcd a b : Nat) := by
  have := gcd_le_of 1000000000000000 ha hb (by omega)
  constructor <;> omega
/-! ### what two segments have in common -/
structure Com where
  kind : Int
  p : P3
  s : Seg
abbrev comL (c : Com) : List SV := [i64 c.kind, i64 c.p.x, i64 c.p.y, i64 c.p.d, i64 c.s.a.x, i64 c.s.a.y, i64 c.s.b.x, i64 c.s.b.y]
abbrev comD (c : Com) : DV := .agg (comL c)
abbrev p0 : P3 := ⟨0, 0, 0⟩
abbrev v0 : V2 := ⟨0, 0⟩
abbrev s0 : Seg := ⟨v0, v0⟩
abbrev noneC : Com := ⟨0, p0, s0⟩
abbrev singleC (p : V2) : Com := ⟨1, ptOf p, s0⟩
theorem single_det (p : V2) : Det Tryz.prog 220 [vD p] (.d (comD (singleC p))) := by
  refine det_of_awp TTok mixed Tryz.func220 rfl rfl [] (Nat.le_of_ble_eq_true rfl) ?_
  refine CallW.mk' (pointof_det p) ?_
  repeat' first | refine Need.mk (by kernel_rfl) ?_ | fail
  exact Fin.rfl'

def outB (a b d : Int) : Prop := a < 0 ∨ a > d ∨ b < 0 ∨ b > d
instance (a b d : Int) : Decidable (outB a b d) := by unfold outB; exact inferInstance
def endB (a b d : Int) : Prop := a = 0 ∨ a = d ∨ b = 0 ∨ b = d
instance (a b d : Int) : Decidable (endB a b d) := by unfold endB; exact inferInstance
def lineC (s : Seg) (u : V2) (a b d : Int) : Com := if outB a b d then noneC else ⟨if endB a b d then 1 else 2, low (s.a.x * d + a * u.x) (s.a.y * d + a * u.y) d, s0⟩
def linesC (s t : Seg) : Com :=
  let u := subP s.b s.a
  let v := subP t.b t.a
  let g := subP t.a s.a
  if crossP u v < 0 then lineC s u (-crossP g v) (-crossP g u) (-crossP u v) else lineC s u (crossP g v) (crossP g u) (crossP u v)

theorem lines_det (s t : Seg) (hs : validS s = true) (ht : validS t = true) (hd : crossP (subP s.b s.a) (subP t.b t.a) ≠ 0) :
    Det Tryz.prog 219 [sD s, sD t, .one (i64 (crossP (subP s.b s.a) (subP t.b t.a)))] (.d (comD (linesC s t))) := by
  obtain ⟨sa, sb⟩ := valid_in hs
  obtain ⟨ta, tb⟩ := valid_in ht
  obtain ⟨eu, iu⟩ := subW_eq (by decide) sb sa
  obtain ⟨ev, iv⟩ := subW_eq (by decide) tb ta
  obtain ⟨eg, ig⟩ := subW_eq (by decide) ta sa
  obtain ⟨ea, ba1, ba2⟩ := crossW_eq (by decide) (by decide) ig iv
  obtain ⟨eb, bb1, bb2⟩ := crossW_eq (by decide) (by decide) ig iu
  obtain ⟨ed, bd1, bd2⟩ := crossW_eq (by decide) (by decide) iu iv
  have nrm : ∀ D A B : Int, linesC s t = lineC s (subP s.b s.a) A B D → 0 < D → D ≤ 128000000 → -128000000 ≤ A → A ≤ 128000000 →
      ¬ outB A B D → (Small (s.a.x * D + A * (subP s.b s.a).x) ∧ Small (s.a.y * D + A * (subP s.b s.a).y) ∧ w64 (w64 (s.a.x * D) + w64 (A * (subP s.b s.a).x)) = s.a.x * D + A * (subP s.b s.a).x ∧ w64 (w64 (s.a.y * D) + w64 (A * (subP s.b s.a).y)) = s.a.y * D + A * (subP s.b s.a).y) := fun D A B _ h1 h2 h3 h4 _ => by
    have k1 := mul_abs (x := s.a.x) (y := D) (X := 4000) (Y := 128000000) ⟨sa.x0, sa.x1⟩ ⟨by omega, h2⟩
    have k2 := mul_abs (x := s.a.y) (y := D) (X := 4000) (Y := 128000000) ⟨sa.y0, sa.y1⟩ ⟨by omega, h2⟩
    have k3 := mul_abs (x := A) (y := (subP s.b s.a).x) (X := 128000000) (Y := 8000) ⟨h3, h4⟩ ⟨iu.x0, iu.x1⟩
    have k4 := mul_abs (x := A) (y := (subP s.b s.a).y) (X := 128000000) (Y := 8000) ⟨h3, h4⟩ ⟨iu.y0, iu.y1⟩
    refine ⟨⟨by omega, by omega⟩, ⟨by omega, by omega⟩, ?_, ?_⟩
    · simp (disch := omega) only [wid']
    · simp (disch := omega) only [wid']
  have hcross : crossP (subP s.b s.a) (subP t.b t.a) = crossP (subP s.b s.a) (subP t.b t.a) := rfl
  generalize hD : crossP (subP s.b s.a) (subP t.b t.a) = d at *
  refine det_of_awp TTok mixed Tryz.func219 rfl rfl [] (Nat.le_of_ble_eq_true rfl) ?_
  refine CallW.v (eu ▸ vsub_det s.b s.a) (fun u hu => ?_)
  refine CallW.v (ev ▸ vsub_det t.b t.a) (fun v hv => ?_)
  refine Need.mk (by kernel_rfl) ?_
  refine CallW.v (eg ▸ vsub_det t.a s.a) (fun g0 hg0 => ?_)
  simp only [← hu] at iu eb bb1 bb2 nrm
  simp only [← hv] at iv ea ba1 ba2
  simp only [← hg0] at ea ba1 ba2 eb bb1 bb2
  refine CallW.int (ea ▸ vcross_det g0 v) (fun a ha => ?_)
  refine CallW.int (eb ▸ vcross_det g0 u) (fun b hb => ?_)
  refine Need.mk (by kernel_rfl) ?_
  rw [← ha] at ba1 ba2
  rw [← hb] at bb1 bb2
  have hlc : linesC s t = if d < 0 then lineC s u (-a) (-b) (-d) else lineC s u a b d := by
    rw [ha, hb, ← hD, hg0, hv, hu]
    rfl
  have hna : IntKind.i64.wrap (0 - a) = -a := (wid (by omega) (by omega)).trans (by omega)
  have hnb : IntKind.i64.wrap (0 - b) = -b := (wid (by omega) (by omega)).trans (by omega)
  have hnd : IntKind.i64.wrap (0 - d) = -d := (wid (by omega) (by omega)).trans (by omega)
  have hra : a = a := rfl
  have hrb : b = b := rfl
  have hrd : d = d := rfl
  refine Split.mk (fun h => ?_) (fun h => ?_)
  · replace h := of_decide_eq_true (show decide (d < 0) = true from h)
    have hline : linesC s t = lineC s u (-a) (-b) (-d) := by rw [hlc, if_pos h]
    have hout : outB (-a) (-b) (-d) → linesC s t = noneC := fun h => by rw [hline, lineC, if_pos h]
    refine Split.mk (fun k1 => ?_) (fun k1 => ?_)
    · replace k1 := of_decide_eq_true k1
      repeat' first | refine Split.t ?_ | refine Need.mk (by kernel_rfl) ?_ | fail
      rw [hout (.inl (hna ▸ k1))]
      exact Fin.rfl'
    replace k1 := of_decide_eq_false k1
    repeat' first | refine Split.f ?_ | fail
    refine Split.mk (fun k2 => ?_) (fun k2 => ?_)
    · replace k2 := of_decide_eq_true k2
      repeat' first | refine Split.t ?_ | refine Need.mk (by kernel_rfl) ?_ | fail
      rw [hout (.inr (.inl (hna ▸ hnd ▸ k2)))]
      exact Fin.rfl'
    replace k2 := of_decide_eq_false k2
    repeat' first | refine Split.f ?_ | fail
    refine Split.mk (fun k3 => ?_) (fun k3 => ?_)
    · replace k3 := of_decide_eq_true k3
      repeat' first | refine Split.t ?_ | refine Need.mk (by kernel_rfl) ?_ | fail
      rw [hout (.inr (.inr (.inl (hnb ▸ k3))))]
      exact Fin.rfl'
    replace k3 := of_decide_eq_false k3
    repeat' first | refine Split.f ?_ | fail
    refine Split.mk (fun k4 => ?_) (fun k4 => ?_)
    · replace k4 := of_decide_eq_true k4
      repeat' first | refine Split.t ?_ | refine Need.mk (by kernel_rfl) ?_ | fail
      rw [hout (.inr (.inr (.inr (hnb ▸ hnd ▸ k4))))]
      exact Fin.rfl'
    replace k4 := of_decide_eq_false k4
    rw [hna] at k1 k2
    rw [hnd] at k2 k4
    rw [hnb] at k3 k4
    have hno : ¬ outB (-a) (-b) (-d) := by unfold outB; omega
    obtain ⟨n1, n2, n3, n4⟩ := nrm (-d) (-a) (-b) hline (by omega) (by omega) (by omega) (by omega) hno
    have res : linesC s t = ⟨if endB (-a) (-b) (-d) then 1 else 2, low (s.a.x * (-d) + (-a) * u.x) (s.a.y * (-d) + (-a) * u.y) (-d), s0⟩ := by rw [hline, lineC, if_neg hno]
    rw [← hna, ← hnd] at n3 n4
    rw [← hna, ← hnd] at n1 n2
    have m1 : Small (w64 (w64 (s.a.x * (IntKind.i64.wrap (0 - d))) + w64 ((IntKind.i64.wrap (0 - a)) * u.x))) := by rw [n3]; exact n1
    have m2 : Small (w64 (w64 (s.a.y * (IntKind.i64.wrap (0 - d))) + w64 ((IntKind.i64.wrap (0 - a)) * u.y))) := by rw [n4]; exact n2
    have m3 : Small (IntKind.i64.wrap (0 - d)) := by rw [hnd]; constructor <;> omega
    refine Need.mk (by kernel_rfl) ?_
    refine CallW.int (gcd_det _ _ (small_big m1) (small_big m2)) (fun g1 hg1 => ?_)
    have m4 : Small g1 := by rw [hg1]; exact gcd_small m1 m2
    refine CallW.int (gcd_det g1 (IntKind.i64.wrap (0 - d)) (small_big m4) (small_big m3)) (fun g hg => ?_)
    have hgne : g ≠ 0 := by rw [hg]; exact gcd_pos (by rw [hnd]; omega)
    refine Need.mk hgne ?_
    refine Need.mk hgne ?_
    refine Need.mk hgne ?_
    refine Need.mk (by kernel_rfl) ?_
    have hg1' : g1 = (Int.gcd (w64 (w64 (s.a.x * (IntKind.i64.wrap (0 - d))) + w64 ((IntKind.i64.wrap (0 - a)) * u.x))) (w64 (w64 (s.a.y * (IntKind.i64.wrap (0 - d))) + w64 ((IntKind.i64.wrap (0 - a)) * u.y))) : Nat) := hg1
    rw [n3, n4] at hg1'
    have low_e : (⟨w64 ((w64 (w64 (s.a.x * (IntKind.i64.wrap (0 - d))) + w64 ((IntKind.i64.wrap (0 - a)) * u.x))).tdiv g), w64 ((w64 (w64 (s.a.y * (IntKind.i64.wrap (0 - d))) + w64 ((IntKind.i64.wrap (0 - a)) * u.y))).tdiv g), w64 ((IntKind.i64.wrap (0 - d)).tdiv g)⟩ : P3) = low (s.a.x * (-d) + (-a) * u.x) (s.a.y * (-d) + (-a) * u.y) (-d) := by
      rw [big_w (tdiv_big (small_big m1)), big_w (tdiv_big (small_big m2)), big_w (tdiv_big (small_big m3)), hg, hg1', n3, n4, hna, hnd]
      rfl
    have leaf : ∀ k : Int, k = (if endB (-a) (-b) (-d) then 1 else 2) → Fin (.d (comD ⟨k, ⟨w64 ((w64 (w64 (s.a.x * (IntKind.i64.wrap (0 - d))) + w64 ((IntKind.i64.wrap (0 - a)) * u.x))).tdiv g), w64 ((w64 (w64 (s.a.y * (IntKind.i64.wrap (0 - d))) + w64 ((IntKind.i64.wrap (0 - a)) * u.y))).tdiv g), w64 ((IntKind.i64.wrap (0 - d)).tdiv g)⟩, s0⟩)) (.d (comD (linesC s t))) := fun k hk => by
      rw [res, low_e, hk]
      exact Fin.rfl'
    refine Split.mk (fun j1 => ?_) (fun j1 => ?_)
    · have j1' : (IntKind.i64.wrap (0 - a)) = 0 := by simpa using j1
      repeat' first | refine Split.t ?_ | refine Need.mk (by kernel_rfl) ?_ | fail
      exact leaf 1 (by rw [if_pos (.inl (hna ▸ j1'))])
    have j1' : (IntKind.i64.wrap (0 - a)) ≠ 0 := by simpa using j1
    repeat' first | refine Split.f ?_ | fail
    refine Split.mk (fun j2 => ?_) (fun j2 => ?_)
    · have j2' : (IntKind.i64.wrap (0 - a)) = (IntKind.i64.wrap (0 - d)) := by simpa using j2
      repeat' first | refine Split.t ?_ | refine Need.mk (by kernel_rfl) ?_ | fail
      exact leaf 1 (by rw [if_pos (.inr (.inl (hna ▸ hnd ▸ j2')))])
    have j2' : (IntKind.i64.wrap (0 - a)) ≠ (IntKind.i64.wrap (0 - d)) := by simpa using j2
    repeat' first | refine Split.f ?_ | fail
    refine Split.mk (fun j3 => ?_) (fun j3 => ?_)
    · have j3' : (IntKind.i64.wrap (0 - b)) = 0 := by simpa using j3
      repeat' first | refine Split.t ?_ | refine Need.mk (by kernel_rfl) ?_ | fail
      exact leaf 1 (by rw [if_pos (.inr (.inr (.inl (hnb ▸ j3'))))])
    have j3' : (IntKind.i64.wrap (0 - b)) ≠ 0 := by simpa using j3
    repeat' first | refine Split.f ?_ | fail
    refine Split.mk (fun j4 => ?_) (fun j4 => ?_)
    · have j4' : (IntKind.i64.wrap (0 - b)) = (IntKind.i64.wrap (0 - d)) := by simpa using j4
      repeat' first | refine Split.t ?_ | refine Need.mk (by kernel_rfl) ?_ | fail
      exact leaf 1 (by rw [if_pos (.inr (.inr (.inr (hnb ▸ hnd ▸ j4'))))])
    have j4' : (IntKind.i64.wrap (0 - b)) ≠ (IntKind.i64.wrap (0 - d)) := by simpa using j4
    refine leaf 2 ?_
    rw [if_neg]
    rw [hna] at j1' j2'
    rw [hnb] at j3' j4'
    rw [hnd] at j2' j4'
    unfold endB
    omega
  · replace h := of_decide_eq_false (show decide (d < 0) = false from h)
    have hline : linesC s t = lineC s u a b d := by rw [hlc, if_neg h]
    have hout : outB a b d → linesC s t = noneC := fun h => by rw [hline, lineC, if_pos h]
    refine Split.mk (fun k1 => ?_) (fun k1 => ?_)
    · replace k1 := of_decide_eq_true k1
      repeat' first | refine Split.t ?_ | refine Need.mk (by kernel_rfl) ?_ | fail
      rw [hout (.inl (k1))]
      exact Fin.rfl'
    replace k1 := of_decide_eq_false k1
    repeat' first | refine Split.f ?_ | fail
    refine Split.mk (fun k2 => ?_) (fun k2 => ?_)
    · replace k2 := of_decide_eq_true k2
      repeat' first | refine Split.t ?_ | refine Need.mk (by kernel_rfl) ?_ | fail
      rw [hout (.inr (.inl (k2)))]
      exact Fin.rfl'
    replace k2 := of_decide_eq_false k2
    repeat' first | refine Split.f ?_ | fail
    refine Split.mk (fun k3 => ?_) (fun k3 => ?_)
    · replace k3 := of_decide_eq_true k3
      repeat' first | refine Split.t ?_ | refine Need.mk (by kernel_rfl) ?_ | fail
      rw [hout (.inr (.inr (.inl (k3))))]
      exact Fin.rfl'
    replace k3 := of_decide_eq_false k3
    repeat' first | refine Split.f ?_ | fail
    refine Split.mk (fun k4 => ?_) (fun k4 => ?_)
    · replace k4 := of_decide_eq_true k4
      repeat' first | refine Split.t ?_ | refine Need.mk (by kernel_rfl) ?_ | fail
      rw [hout (.inr (.inr (.inr (k4))))]
      exact Fin.rfl'
    replace k4 := of_decide_eq_false k4
    have hno : ¬ outB a b d := by unfold outB; omega
    obtain ⟨n1, n2, n3, n4⟩ := nrm d a b hline (by omega) (by omega) (by omega) (by omega) hno
    have res : linesC s t = ⟨if endB a b d then 1 else 2, low (s.a.x * d + a * u.x) (s.a.y * d + a * u.y) d, s0⟩ := by rw [hline, lineC, if_neg hno]
    have m1 : Small (w64 (w64 (s.a.x * d) + w64 (a * u.x))) := by rw [n3]; exact n1
    have m2 : Small (w64 (w64 (s.a.y * d) + w64 (a * u.y))) := by rw [n4]; exact n2
    have m3 : Small d := by constructor <;> omega
    refine Need.mk (by kernel_rfl) ?_
    refine CallW.int (gcd_det _ _ (small_big m1) (small_big m2)) (fun g1 hg1 => ?_)
    have m4 : Small g1 := by rw [hg1]; exact gcd_small m1 m2
    refine CallW.int (gcd_det g1 d (small_big m4) (small_big m3)) (fun g hg => ?_)
    have hgne : g ≠ 0 := by rw [hg]; exact gcd_pos (by omega)
    refine Need.mk hgne ?_
    refine Need.mk hgne ?_
    refine Need.mk hgne ?_
    refine Need.mk (by kernel_rfl) ?_
    have hg1' : g1 = (Int.gcd (w64 (w64 (s.a.x * d) + w64 (a * u.x))) (w64 (w64 (s.a.y * d) + w64 (a * u.y))) : Nat) := hg1
    rw [n3, n4] at hg1'
    have low_e : (⟨w64 ((w64 (w64 (s.a.x * d) + w64 (a * u.x))).tdiv g), w64 ((w64 (w64 (s.a.y * d) + w64 (a * u.y))).tdiv g), w64 (d.tdiv g)⟩ : P3) = low (s.a.x * d + a * u.x) (s.a.y * d + a * u.y) d := by
      rw [big_w (tdiv_big (small_big m1)), big_w (tdiv_big (small_big m2)), big_w (tdiv_big (small_big m3)), hg, hg1', n3, n4]
      rfl
    have leaf : ∀ k : Int, k = (if endB a b d then 1 else 2) → Fin (.d (comD ⟨k, ⟨w64 ((w64 (w64 (s.a.x * d) + w64 (a * u.x))).tdiv g), w64 ((w64 (w64 (s.a.y * d) + w64 (a * u.y))).tdiv g), w64 (d.tdiv g)⟩, s0⟩)) (.d (comD (linesC s t))) := fun k hk => by
      rw [res, low_e, hk]
      exact Fin.rfl'
    refine Split.mk (fun j1 => ?_) (fun j1 => ?_)
    · have j1' : a = 0 := by simpa using j1
      repeat' first | refine Split.t ?_ | refine Need.mk (by kernel_rfl) ?_ | fail
      exact leaf 1 (by rw [if_pos (.inl (j1'))])
    have j1' : a ≠ 0 := by simpa using j1
    repeat' first | refine Split.f ?_ | fail
    refine Split.mk (fun j2 => ?_) (fun j2 => ?_)
    · have j2' : a = d := by simpa using j2
      repeat' first | refine Split.t ?_ | refine Need.mk (by kernel_rfl) ?_ | fail
      exact leaf 1 (by rw [if_pos (.inr (.inl (j2')))])
    have j2' : a ≠ d := by simpa using j2
    repeat' first | refine Split.f ?_ | fail
    refine Split.mk (fun j3 => ?_) (fun j3 => ?_)
    · have j3' : b = 0 := by simpa using j3
      repeat' first | refine Split.t ?_ | refine Need.mk (by kernel_rfl) ?_ | fail
      exact leaf 1 (by rw [if_pos (.inr (.inr (.inl (j3'))))])
    have j3' : b ≠ 0 := by simpa using j3
    repeat' first | refine Split.f ?_ | fail
    refine Split.mk (fun j4 => ?_) (fun j4 => ?_)
    · have j4' : b = d := by simpa using j4
      repeat' first | refine Split.t ?_ | refine Need.mk (by kernel_rfl) ?_ | fail
      exact leaf 1 (by rw [if_pos (.inr (.inr (.inr (j4'))))])
    have j4' : b ≠ d := by simpa using j4
    refine leaf 2 ?_
    rw [if_neg]
    unfold endB
    omega
end Sg
end Go.Vm
namespace Go.Vm
set_option maxRecDepth 20000
set_option linter.unusedVariables false
set_option linter.unusedSimpArgs false
namespace Sg
open Go Go.RowKit Go.Proofs

def loV (s : Seg) : V2 := if lessB s.b s.a = true then s.b else s.a
def hiV (s : Seg) : V2 := if lessB s.b s.a = true then s.a else s.b
def maxV (a b : V2) : V2 := if lessB a b = true then b else a
def minV (a b : V2) : V2 := if lessB b a = true then b else a
def overC (s t : Seg) : Com :=
  if cmpV (maxV (loV s) (loV t)) (minV (hiV s) (hiV t)) = 0 then singleC (maxV (loV s) (loV t))
  else if cmpV (maxV (loV s) (loV t)) (minV (hiV s) (hiV t)) = -1 then ⟨3, p0, ⟨maxV (loV s) (loV t), minV (hiV s) (hiV t)⟩⟩ else noneC
def flatC (s t : Seg) : Com :=
  if s.a = s.b ∧ onB t s.a = true then singleC s.a
  else if t.a = t.b ∧ onB s t.a = true then singleC t.a
  else if s.a = s.b ∨ t.a = t.b ∨ turnW s.a s.b t.a ≠ 0 then noneC
  else overC s t
def meetC (s t : Seg) : Com :=
  if validS s = false ∨ validS t = false then noneC
  else if crossP (subP s.b s.a) (subP t.b t.a) ≠ 0 then linesC s t
  else flatC s t

theorem meet_det (s t : Seg) : Det Tryz.prog 182 [sD s, sD t] (.d (comD (meetC s t))) := by
  refine det_of_awp TTok mixed Tryz.func182 rfl rfl [] (Nat.le_of_ble_eq_true rfl) ?_
  refine CallW.bool (valid_det s) (fun va hva => ?_)
  refine Split.mk (fun h => ?_) (fun h => ?_)
  · rw [show meetC s t = noneC by rw [meetC, if_pos (.inl (by rw [← hva]; simpa using h))]]
    repeat' first | refine Split.t ?_ | refine Need.mk (by kernel_rfl) ?_ | fail
    exact Fin.rfl'
  repeat' first | refine Split.f ?_ | fail
  refine CallW.bool (valid_det t) (fun vb hvb => ?_)
  repeat' first | refine Split.f ?_ | fail
  refine Split.mk (fun h2 => ?_) (fun h2 => ?_)
  · rw [show meetC s t = noneC by rw [meetC, if_pos (.inr (by rw [← hvb]; simpa using h2))]]
    exact Fin.rfl'
  have hs : validS s = true := by rw [← hva]; simpa using h
  have ht : validS t = true := by rw [← hvb]; simpa using h2
  have hv : ¬ (validS s = false ∨ validS t = false) := by simp [hs, ht]
  obtain ⟨sa, sb⟩ := valid_in hs
  obtain ⟨ta, tb⟩ := valid_in ht
  obtain ⟨eu, iu⟩ := subW_eq (by decide) sb sa
  obtain ⟨ev, iv⟩ := subW_eq (by decide) tb ta
  obtain ⟨ed, _⟩ := crossW_eq (by decide) (by decide) iu iv
  refine CallW.mk' (eu ▸ vsub_det s.b s.a) ?_
  refine CallW.mk' (ev ▸ vsub_det t.b t.a) ?_
  refine CallW.int (ed ▸ vcross_det (subP s.b s.a) (subP t.b t.a)) (fun d hd => ?_)
  refine Need.mk (by kernel_rfl) ?_
  refine Split.mk (fun h3 => ?_) (fun h3 => ?_)
  · have h3' : d ≠ 0 := by simpa using h3
    subst hd
    rw [show meetC s t = linesC s t by rw [meetC, if_neg hv, if_pos h3']]
    refine CallW.mk' (lines_det s t hs ht h3') ?_
    exact Fin.rfl'
  have h3' : d = 0 := by simpa using h3
  rw [show meetC s t = flatC s t by rw [meetC, if_neg hv, if_neg (by rw [← hd, h3']; simp)]]
  refine EqW.v s.a s.b (fun e1 he1 => ?_)
  -- behind the two single points
  have ten : (¬ (s.a = s.b ∧ onB t s.a = true)) → (¬ (t.a = t.b ∧ onB s t.a = true)) → flatC s t = if s.a = s.b ∨ t.a = t.b ∨ turnW s.a s.b t.a ≠ 0 then noneC else overC s t := fun h k => by rw [flatC, if_neg h, if_neg k]
  refine Split.mk (fun k1 => ?_) (fun k1 => ?_)
  · have j1 : s.a = s.b := he1.1 k1
    subst k1
    repeat' first | refine Split.t ?_ | fail
    refine CallW.bool (on_det t s.a) (fun q1 hq1 => ?_)
    repeat' first | refine Split.t ?_ | fail
    refine Split.mk (fun k2 => ?_) (fun k2 => ?_)
    · rw [show flatC s t = singleC s.a by rw [flatC, if_pos ⟨j1, by rw [← hq1, k2]⟩]]
      refine CallW.mk' (single_det s.a) ?_
      exact Fin.rfl'
    have n1 : ¬ (s.a = s.b ∧ onB t s.a = true) := fun h => by rw [← hq1, k2] at h; exact absurd h.2 (by decide)
    refine EqW.v t.a t.b (fun e2 he2 => ?_)
    refine Split.mk (fun k3 => ?_) (fun k3 => ?_)
    · have j2 : t.a = t.b := he2.1 k3
      subst k3
      repeat' first | refine Split.t ?_ | fail
      refine CallW.bool (on_det s t.a) (fun q2 hq2 => ?_)
      repeat' first | refine Split.t ?_ | fail
      refine Split.mk (fun k4 => ?_) (fun k4 => ?_)
      · rw [show flatC s t = singleC t.a by rw [flatC, if_neg n1, if_pos ⟨j2, by rw [← hq2, k4]⟩]]
        refine CallW.mk' (single_det t.a) ?_
        exact Fin.rfl'
      have n2 : ¬ (t.a = t.b ∧ onB s t.a = true) := fun h => by rw [← hq2, k4] at h; exact absurd h.2 (by decide)
      rw [show flatC s t = noneC by rw [ten n1 n2, if_pos (.inl j1)]]
      refine EqW.v s.a s.b (fun e3 he3 => ?_)
      obtain rfl : e3 = true := he3.2 j1
      repeat' first | refine Split.t ?_ | fail
      exact Fin.rfl'
    · have j2 : ¬ t.a = t.b := fun h => by rw [he2.2 h] at k3; cases k3
      subst k3
      have n2 : ¬ (t.a = t.b ∧ onB s t.a = true) := fun h => j2 h.1
      rw [show flatC s t = noneC by rw [ten n1 n2, if_pos (.inl j1)]]
      repeat' first | refine Split.f ?_ | fail
      refine EqW.v s.a s.b (fun e3 he3 => ?_)
      obtain rfl : e3 = true := he3.2 j1
      repeat' first | refine Split.t ?_ | fail
      exact Fin.rfl'
  have j1 : ¬ s.a = s.b := fun h => by rw [he1.2 h] at k1; cases k1
  subst k1
  have n1 : ¬ (s.a = s.b ∧ onB t s.a = true) := fun h => j1 h.1
  repeat' first | refine Split.f ?_ | fail
  refine EqW.v t.a t.b (fun e2 he2 => ?_)
  refine Split.mk (fun k3 => ?_) (fun k3 => ?_)
  · have j2 : t.a = t.b := he2.1 k3
    subst k3
    repeat' first | refine Split.t ?_ | fail
    refine CallW.bool (on_det s t.a) (fun q2 hq2 => ?_)
    repeat' first | refine Split.t ?_ | fail
    refine Split.mk (fun k4 => ?_) (fun k4 => ?_)
    · rw [show flatC s t = singleC t.a by rw [flatC, if_neg n1, if_pos ⟨j2, by rw [← hq2, k4]⟩]]
      refine CallW.mk' (single_det t.a) ?_
      exact Fin.rfl'
    have n2 : ¬ (t.a = t.b ∧ onB s t.a = true) := fun h => by rw [← hq2, k4] at h; exact absurd h.2 (by decide)
    rw [show flatC s t = noneC by rw [ten n1 n2, if_pos (.inr (.inl j2))]]
    refine EqW.v s.a s.b (fun e3 he3 => ?_)
    obtain rfl : e3 = false := by rw [Bool.eq_false_iff]; exact fun h => j1 (he3.1 h)
    repeat' first | refine Split.f ?_ | fail
    refine EqW.v t.a t.b (fun e4 he4 => ?_)
    obtain rfl : e4 = true := he4.2 j2
    repeat' first | refine Split.t ?_ | refine Split.f ?_ | fail
    exact Fin.rfl'
  have j2 : ¬ t.a = t.b := fun h => by rw [he2.2 h] at k3; cases k3
  subst k3
  have n2 : ¬ (t.a = t.b ∧ onB s t.a = true) := fun h => j2 h.1
  repeat' first | refine Split.f ?_ | fail
  refine EqW.v s.a s.b (fun e3 he3 => ?_)
  obtain rfl : e3 = false := by rw [Bool.eq_false_iff]; exact fun h => j1 (he3.1 h)
  repeat' first | refine Split.f ?_ | fail
  refine EqW.v t.a t.b (fun e4 he4 => ?_)
  obtain rfl : e4 = false := by rw [Bool.eq_false_iff]; exact fun h => j2 (he4.1 h)
  repeat' first | refine Split.f ?_ | fail
  refine CallW.int (vturn_det s.a s.b t.a) (fun w hw => ?_)
  repeat' first | refine Split.f ?_ | fail
  refine Split.mk (fun k5 => ?_) (fun k5 => ?_)
  · have k5' : w ≠ 0 := by simpa using k5
    rw [show flatC s t = noneC by rw [ten n1 n2, if_pos (.inr (.inr (by rw [← hw]; exact k5')))]]
    exact Fin.rfl'
  have k5' : w = 0 := by simpa using k5
  rw [show flatC s t = overC s t by rw [ten n1 n2, if_neg (by rw [← hw]; simp [j1, j2, k5'])]]
  -- the ends in order
  refine Loop.by (α := Nat) (fun k => [(2, .ptr 2 0), (3, .ptr 3 0), (4, .ptr 4 0), (6, .ptr 6 0), (7, tint (2 * k : Nat))])
    (fun k => [(2, .box (sL s)), (3, .box (sL t)), (4, .box (comL noneC)), (6, .box (match k with
      | 0 => vL s.a ++ vL s.b ++ vL t.a ++ vL t.b
      | 1 => vL (loV s) ++ vL (hiV s) ++ vL t.a ++ vL t.b
      | _ => vL (loV s) ++ vL (hiV s) ++ vL (loV t) ++ vL (hiV t)))]) (fun k => k ≤ 2) (fun k => 2 - k)
    (Adj.at 0 (Nat.zero_le _) (.cons (.box (LLe.refl _)) (.cons (.box (LLe.refl _)) (.cons (.box (LLe.of_eq rfl)) (.cons (.box (LLe.of_eq rfl)) .nil)))) (.cons (.box rfl rfl) (.cons (.box rfl rfl) (.cons (.box rfl rfl) (.cons (.box rfl rfl) (.cons .same .nil)))))) (fun k hk => ?_)
  rcases k with _ | _ | k
  · refine Split.t ?_
    repeat' first | refine Need.mk (by decide) ?_ | fail
    refine CallW.bool (vless_det s.b s.a) (fun q hq => ?_)
    refine Need.mk (by kernel_rfl) ?_
    refine Split.mk (fun m1 => ?_) (fun m1 => ?_)
    · repeat' first | refine Need.mk (by decide) ?_ | refine Need.mk (by kernel_rfl) ?_ | fail
      have e1 : loV s = s.b := by rw [loV, if_pos (by rw [← hq, m1])]
      have e2 : hiV s = s.a := by rw [hiV, if_pos (by rw [← hq, m1])]
      refine Adj.back (x := 0) 1 (by decide) (by decide) (.cons (.box (LLe.refl _)) (.cons (.box (LLe.refl _)) (.cons (.box (LLe.of_eq rfl)) (.cons (.box (LLe.of_eq ?_)) .nil)))) (.cons (.box rfl rfl) (.cons (.box rfl rfl) (.cons (.box rfl rfl) (.cons (.box rfl rfl) (.cons (SlotLe.int (by decide)) .nil)))))
      rw [e1, e2]
      rfl
    · have e1 : loV s = s.a := by rw [loV, if_neg (by rw [← hq, m1]; decide)]
      have e2 : hiV s = s.b := by rw [hiV, if_neg (by rw [← hq, m1]; decide)]
      refine Adj.back (x := 0) 1 (by decide) (by decide) (.cons (.box (LLe.refl _)) (.cons (.box (LLe.refl _)) (.cons (.box (LLe.of_eq rfl)) (.cons (.box (LLe.of_eq ?_)) .nil)))) (.cons (.box rfl rfl) (.cons (.box rfl rfl) (.cons (.box rfl rfl) (.cons (.box rfl rfl) (.cons (SlotLe.int (by decide)) .nil)))))
      rw [e1, e2]
      rfl
  · refine Split.t ?_
    repeat' first | refine Need.mk (by decide) ?_ | fail
    refine CallW.bool (vless_det t.b t.a) (fun q hq => ?_)
    refine Need.mk (by kernel_rfl) ?_
    refine Split.mk (fun m1 => ?_) (fun m1 => ?_)
    · repeat' first | refine Need.mk (by decide) ?_ | refine Need.mk (by kernel_rfl) ?_ | fail
      have e1 : loV t = t.b := by rw [loV, if_pos (by rw [← hq, m1])]
      have e2 : hiV t = t.a := by rw [hiV, if_pos (by rw [← hq, m1])]
      refine Adj.back (x := 1) 2 (by decide) (by decide) (.cons (.box (LLe.refl _)) (.cons (.box (LLe.refl _)) (.cons (.box (LLe.of_eq rfl)) (.cons (.box (LLe.of_eq ?_)) .nil)))) (.cons (.box rfl rfl) (.cons (.box rfl rfl) (.cons (.box rfl rfl) (.cons (.box rfl rfl) (.cons (SlotLe.int (by decide)) .nil)))))
      show _ = vL (loV s) ++ vL (hiV s) ++ vL (loV t) ++ vL (hiV t)
      rw [e1, e2]
      rfl
    · have e1 : loV t = t.a := by rw [loV, if_neg (by rw [← hq, m1]; decide)]
      have e2 : hiV t = t.b := by rw [hiV, if_neg (by rw [← hq, m1]; decide)]
      refine Adj.back (x := 1) 2 (by decide) (by decide) (.cons (.box (LLe.refl _)) (.cons (.box (LLe.refl _)) (.cons (.box (LLe.of_eq rfl)) (.cons (.box (LLe.of_eq ?_)) .nil)))) (.cons (.box rfl rfl) (.cons (.box rfl rfl) (.cons (.box rfl rfl) (.cons (.box rfl rfl) (.cons (SlotLe.int (by decide)) .nil)))))
      show _ = vL (loV s) ++ vL (hiV s) ++ vL (loV t) ++ vL (hiV t)
      rw [e1, e2]
      rfl
  · obtain rfl : k = 0 := by omega
    refine Split.isF (by decide) ?_
    repeat' first | refine Need.mk (by decide) ?_ | refine Need.mk (by kernel_rfl) ?_ | fail
    have last : ∀ lo hi : V2, lo = maxV (loV s) (loV t) → hi = minV (hiV s) (hiV t) → overC s t = if cmpV lo hi = 0 then singleC lo else if cmpV lo hi = -1 then ⟨3, p0, ⟨lo, hi⟩⟩ else noneC := fun lo hi h k => by subst h k; rfl
    refine CallW.bool (vless_det (loV s) (loV t)) (fun q1 hq1 => ?_)
    refine Split.mk (fun y1 => ?_) (fun y1 => ?_)
    · have e1 : loV t = maxV (loV s) (loV t) := by rw [maxV, if_pos (by rw [← hq1, y1])]
      repeat' first | refine Need.mk (by decide) ?_ | refine Need.mk (by kernel_rfl) ?_ | fail
      refine CallW.bool (vless_det (hiV t) (hiV s)) (fun q2 hq2 => ?_)
      refine Split.mk (fun y2 => ?_) (fun y2 => ?_)
      · have e2 : hiV t = minV (hiV s) (hiV t) := by rw [minV, if_pos (by rw [← hq2, y2])]
        repeat' first | refine Need.mk (by decide) ?_ | refine Need.mk (by kernel_rfl) ?_ | fail
        refine CallW.int (vcmp_det (loV t) (hiV t)) (fun c hc => ?_)
        have hl := last (loV t) (hiV t) e1 e2
        rw [← hc] at hl
        rw [hl]
        refine Split.mk (fun x1 => ?_) (fun x1 => ?_)
        · have x1' : c = 0 := by simpa using x1
          rw [if_pos x1']
          refine CallW.mk' (single_det (loV t)) ?_
          exact Fin.rfl'
        have x1' : c ≠ 0 := by simpa using x1
        rw [if_neg x1']
        refine Split.mk (fun x2 => ?_) (fun x2 => ?_)
        · have x2' : c = -1 := by simpa using x2
          rw [if_pos x2']
          repeat' first | refine Need.mk (by kernel_rfl) ?_ | fail
          exact Fin.rfl'
        have x2' : c ≠ -1 := by simpa using x2
        rw [if_neg x2']
        repeat' first | refine Need.mk (by kernel_rfl) ?_ | fail
        exact Fin.rfl'
      · have e2 : hiV s = minV (hiV s) (hiV t) := by rw [minV, if_neg (by rw [← hq2, y2]; decide)]
        repeat' first | refine Need.mk (by decide) ?_ | refine Need.mk (by kernel_rfl) ?_ | fail
        refine CallW.int (vcmp_det (loV t) (hiV s)) (fun c hc => ?_)
        have hl := last (loV t) (hiV s) e1 e2
        rw [← hc] at hl
        rw [hl]
        refine Split.mk (fun x1 => ?_) (fun x1 => ?_)
        · have x1' : c = 0 := by simpa using x1
          rw [if_pos x1']
          refine CallW.mk' (single_det (loV t)) ?_
          exact Fin.rfl'
        have x1' : c ≠ 0 := by simpa using x1
        rw [if_neg x1']
        refine Split.mk (fun x2 => ?_) (fun x2 => ?_)
        · have x2' : c = -1 := by simpa using x2
          rw [if_pos x2']
          repeat' first | refine Need.mk (by kernel_rfl) ?_ | fail
          exact Fin.rfl'
        have x2' : c ≠ -1 := by simpa using x2
        rw [if_neg x2']
        repeat' first | refine Need.mk (by kernel_rfl) ?_ | fail
        exact Fin.rfl'
    · have e1 : loV s = maxV (loV s) (loV t) := by rw [maxV, if_neg (by rw [← hq1, y1]; decide)]
      repeat' first | refine Need.mk (by decide) ?_ | refine Need.mk (by kernel_rfl) ?_ | fail
      refine CallW.bool (vless_det (hiV t) (hiV s)) (fun q2 hq2 => ?_)
      refine Split.mk (fun y2 => ?_) (fun y2 => ?_)
      · have e2 : hiV t = minV (hiV s) (hiV t) := by rw [minV, if_pos (by rw [← hq2, y2])]
        repeat' first | refine Need.mk (by decide) ?_ | refine Need.mk (by kernel_rfl) ?_ | fail
        refine CallW.int (vcmp_det (loV s) (hiV t)) (fun c hc => ?_)
        have hl := last (loV s) (hiV t) e1 e2
        rw [← hc] at hl
        rw [hl]
        refine Split.mk (fun x1 => ?_) (fun x1 => ?_)
        · have x1' : c = 0 := by simpa using x1
          rw [if_pos x1']
          refine CallW.mk' (single_det (loV s)) ?_
          exact Fin.rfl'
        have x1' : c ≠ 0 := by simpa using x1
        rw [if_neg x1']
        refine Split.mk (fun x2 => ?_) (fun x2 => ?_)
        · have x2' : c = -1 := by simpa using x2
          rw [if_pos x2']
          repeat' first | refine Need.mk (by kernel_rfl) ?_ | fail
          exact Fin.rfl'
        have x2' : c ≠ -1 := by simpa using x2
        rw [if_neg x2']
        repeat' first | refine Need.mk (by kernel_rfl) ?_ | fail
        exact Fin.rfl'
      · have e2 : hiV s = minV (hiV s) (hiV t) := by rw [minV, if_neg (by rw [← hq2, y2]; decide)]
        repeat' first | refine Need.mk (by decide) ?_ | refine Need.mk (by kernel_rfl) ?_ | fail
        refine CallW.int (vcmp_det (loV s) (hiV s)) (fun c hc => ?_)
        have hl := last (loV s) (hiV s) e1 e2
        rw [← hc] at hl
        rw [hl]
        refine Split.mk (fun x1 => ?_) (fun x1 => ?_)
        · have x1' : c = 0 := by simpa using x1
          rw [if_pos x1']
          refine CallW.mk' (single_det (loV s)) ?_
          exact Fin.rfl'
        have x1' : c ≠ 0 := by simpa using x1
        rw [if_neg x1']
        refine Split.mk (fun x2 => ?_) (fun x2 => ?_)
        · have x2' : c = -1 := by simpa using x2
          rw [if_pos x2']
          repeat' first | refine Need.mk (by kernel_rfl) ?_ | fail
          exact Fin.rfl'
        have x2' : c ≠ -1 := by simpa using x2
        rw [if_neg x2']
        repeat' first | refine Need.mk (by kernel_rfl) ?_ | fail
        exact Fin.rfl'

theorem vmeet_det (s t : Seg) : Det Tryz.prog 115 [sD s, sD t] (tint (meetC s t).kind) := by
  refine det_of_awp TTok mixed Tryz.func115 rfl rfl [] (Nat.le_of_ble_eq_true rfl) ?_
  refine CallW.mk' (meet_det s t) ?_
  repeat' first | refine Need.mk (by kernel_rfl) ?_ | fail
  exact Fin.rfl'
abbrev ptOk (p : P3) (b : Bool) : TV := .tup [pD p, .one (.v (.bool b))]
abbrev segOk (s : Seg) (b : Bool) : TV := .tup [sD s, .one (.v (.bool b))]
def atB (c : Com) : Bool := decide (c.kind = 1) || decide (c.kind = 2)
end Sg
end Go.Vm
namespace Go.Vm
set_option maxRecDepth 20000
set_option linter.unusedVariables false
set_option linter.unusedSimpArgs false
namespace Sg
open Go Go.RowKit Go.Proofs

def sideP (s : Seg) (p : V2) : Int := crossP (subP s.b s.a) (subP p s.a)
theorem side_eq {s : Seg} {p : V2} (hs : validS s = true) (hp : In 4000 p) : sideI s p = sgnI (sideP s p) := by
  obtain ⟨sa, sb⟩ := valid_in hs
  rw [sideI, hs, hp.within (by decide) (by decide)]
  simp only [Bool.and_self, cond_true]
  exact turnW_eq (m := 4000) (by decide) (by decide) sa sb hp
theorem turn_side {s : Seg} {p : V2} (hs : validS s = true) (hp : In 4000 p) : turnW s.a s.b p = sgnI (sideP s p) := by
  obtain ⟨sa, sb⟩ := valid_in hs
  exact turnW_eq (m := 4000) (by decide) (by decide) sa sb hp
theorem sgn_mul {x y : Int} : sgnI x * sgnI y < 0 ↔ (x < 0 ∧ 0 < y) ∨ (0 < x ∧ y < 0) := by
  unfold sgnI
  repeat' split
  all_goals omega
theorem sgn_zero {x : Int} : sgnI x = 0 ↔ x = 0 := by
  unfold sgnI
  repeat' split
  all_goals omega
abbrev dirC (s t : Seg) : Int := crossP (subP s.b s.a) (subP t.b t.a)
theorem side_diff (s t : Seg) : sideP s t.b - sideP s t.a = dirC s t := by
  simp only [sideP, dirC, crossP, subP]
  grind
theorem cross_dir {s t : Seg} (hs : validS s = true) (ht : validS t = true) (h : crossB s t = true) : dirC s t ≠ 0 := by
  obtain ⟨ta, tb⟩ := valid_in ht
  simp only [crossB, Bool.and_eq_true, decide_eq_true_eq] at h
  have h1 := h.1
  rw [side_eq hs ta, side_eq hs tb, sgn_mul] at h1
  have := side_diff s t
  omega
theorem rmeet_two {s t : Seg} (h : rmeetI s t = 2) : validS s = true ∧ validS t = true ∧ crossB s t = true := by
  unfold rmeetI at h
  split at h
  · omega
  · rename_i hv
    have h1 : validS s = true := by
      cases hq : validS s with
      | true => rfl
      | false => exact absurd (.inl hq) hv
    have h2 : validS t = true := by
      cases hq : validS t with
      | true => rfl
      | false => exact absurd (.inr hq) hv
    split at h
    · omega
    · split at h
      · omega
      · split at h
        · rename_i hc
          exact ⟨h1, h2, hc⟩
        · omega
def ratP (s t : Seg) : P3 := if rmeetI s t = 1 then ptOf ((commonL s t).getD 0 v0) else if rmeetI s t = 2 then
  lowP (s.a.x * dirC s t + (subP s.b s.a).x * crossP (subP t.a s.a) (subP t.b t.a)) (s.a.y * dirC s t + (subP s.b s.a).y * crossP (subP t.a s.a) (subP t.b t.a)) (dirC s t) else p0
def ratB (s t : Seg) : Bool := decide (rmeetI s t = 1) || decide (rmeetI s t = 2)
def rshareS (s t : Seg) : Seg := if rmeetI s t = 3 then ⟨(commonL s t).getD 0 v0, (commonL s t).getD ((commonL s t).length - 1) v0⟩ else s0
instance : DecidableEq P3 := fun a b => decidable_of_iff (a.x = b.x ∧ a.y = b.y ∧ a.d = b.d) ⟨fun h => P3.ext h.1 h.2.1 h.2.2, fun h => by rw [h]; exact ⟨rfl, rfl, rfl⟩⟩
instance : DecidableEq Seg := fun a b => decidable_of_iff (a.a = b.a ∧ a.b = b.b) ⟨fun h => Seg.ext h.1 h.2, fun h => by rw [h]; exact ⟨rfl, rfl⟩⟩
end Sg
end Go.Vm
namespace Go.Vm
set_option maxRecDepth 20000
set_option linter.unusedVariables false
set_option linter.unusedSimpArgs false
namespace Sg
open Go Go.RowKit Go.Proofs

end Sg
end Go.Vm
namespace Go.Vm
set_option maxRecDepth 20000
set_option linter.unusedVariables false
set_option linter.unusedSimpArgs false
namespace Sg
open Go Go.RowKit Go.Proofs

theorem less_iff {a b : V2} : lessB a b = true ↔ a.y < b.y ∨ (a.y = b.y ∧ a.x < b.x) := by
  simp [lessB]
theorem less_tri (a b : V2) : lessB a b = true ∨ a = b ∨ lessB b a = true := by
  rw [less_iff, less_iff, V2.eq_iff]
  omega
theorem less_irr (a : V2) : lessB a a = false := by
  rw [Bool.eq_false_iff, Ne, less_iff]
  omega
theorem less_trans {a b c : V2} (h : lessB a b = true) (k : lessB b c = true) : lessB a c = true := by
  rw [less_iff] at *
  omega
theorem less_asymm {a b : V2} (h : lessB a b = true) : lessB b a = false := by
  rw [less_iff] at h
  rw [Bool.eq_false_iff, Ne, less_iff]
  omega
/-! ### sorted lists -/
def Asc : List V2 → Prop
  | [] => True
  | x :: r => (∀ y ∈ r, lessB x y = true) ∧ Asc r
theorem mem_insV {v e : V2} : ∀ {l : List V2}, e ∈ insV l v ↔ e = v ∨ e ∈ l
  | [] => by simp [insV]
  | x :: r => by
    simp only [insV]
    split
    · rw [List.mem_cons, mem_insV, List.mem_cons]
      constructor
      · rintro (h | h | h)
        · exact .inr (.inl h)
        · exact .inl h
        · exact .inr (.inr h)
      · rintro (h | h | h)
        · exact .inr (.inl h)
        · exact .inl h
        · exact .inr (.inr h)
    · split
      · rename_i hxv
        subst hxv
        simp
      · simp
theorem asc_insV {v : V2} : ∀ {l : List V2}, Asc l → Asc (insV l v)
  | [], _ => by simp [insV, Asc]
  | x :: r, h => by
    simp only [insV]
    split
    · rename_i hlt
      refine ⟨fun y hy => ?_, asc_insV h.2⟩
      rcases mem_insV.1 hy with rfl | hy
      · exact hlt
      · exact h.1 y hy
    · rename_i hnl
      split
      · exact h
      · rename_i hne
        have hvx : lessB v x = true := by
          rcases less_tri x v with k | k | k
          · exact absurd k hnl
          · exact absurd k hne
          · exact k
        refine ⟨fun y hy => ?_, h⟩
        rcases List.mem_cons.1 hy with rfl | hy
        · exact hvx
        · exact less_trans hvx (h.1 y hy)
theorem sort_facts (l : List V2) : Asc (sortV l) ∧ ∀ e, e ∈ sortV l ↔ e ∈ l := by
  have : ∀ (l o : List V2), Asc o → Asc (l.foldl insV o) ∧ ∀ e, e ∈ l.foldl insV o ↔ e ∈ l ∨ e ∈ o := by
    intro l
    induction l with
    | nil => intro o h; exact ⟨h, fun e => by simp⟩
    | cons x l ih =>
      intro o h
      obtain ⟨h1, h2⟩ := ih (insV o x) (asc_insV h)
      refine ⟨h1, fun e => ?_⟩
      rw [List.foldl_cons, h2 e, mem_insV, List.mem_cons]
      constructor
      · rintro (h | h | h)
        · exact .inl (.inr h)
        · exact .inl (.inl h)
        · exact .inr h
      · rintro ((h | h) | h)
        · exact .inr (.inl h)
        · exact .inl h
        · exact .inr (.inr h)
  obtain ⟨h1, h2⟩ := this l [] trivial
  exact ⟨h1, fun e => by rw [show sortV l = l.foldl insV [] from rfl, h2 e]; simp⟩
theorem sort_one {l : List V2} {p : V2} (h : ∀ e, e ∈ l ↔ e = p) : sortV l = [p] := by
  obtain ⟨h1, h2⟩ := sort_facts l
  generalize sortV l = m at h1 h2
  have hm : ∀ e, e ∈ m ↔ e = p := fun e => (h2 e).trans (h e)
  match m, h1, hm with
  | [], _, hm => exact absurd ((hm p).2 rfl) (by simp)
  | [x], _, hm => rw [(hm x).1 (by simp)]
  | x :: y :: r, h1, hm =>
    have e1 := (hm x).1 (by simp)
    have e2 := (hm y).1 (by simp)
    have := h1.1 y (by simp)
    rw [e1, e2, less_irr] at this
    cases this
theorem sort_none {l : List V2} (h : ∀ e, e ∉ l) : sortV l = [] := by
  obtain ⟨_, h2⟩ := sort_facts l
  exact List.eq_nil_iff_forall_not_mem.2 fun e he => h e ((h2 e).1 he)
theorem asc_first : ∀ {l : List V2} {p : V2}, Asc l → p ∈ l → (∀ e ∈ l, lessB e p = false) → l.getD 0 v0 = p
  | [], _, _, h, _ => by simp at h
  | x :: r, p, ha, h, hm => by
    simp only [List.getD_cons_zero]
    rcases List.mem_cons.1 h with h | h
    · exact h.symm
    · have := ha.1 p h
      rw [hm x (by simp)] at this
      cases this
theorem asc_last : ∀ {l : List V2} {p : V2}, Asc l → p ∈ l → (∀ e ∈ l, lessB p e = false) → l.getD (l.length - 1) v0 = p
  | [], _, _, h, _ => by simp at h
  | [x], p, _, h, _ => by simp at h; simp [h]
  | x :: y :: r, p, ha, h, hm => by
    have hp : p ∈ y :: r := by
      rcases List.mem_cons.1 h with h | h
      · subst h
        have := ha.1 y (by simp)
        rw [hm y (by simp)] at this
        cases this
      · exact h
    have := asc_last (l := y :: r) ha.2 hp (fun e he => hm e (by simp [he]))
    simpa using this
theorem sort_two {l : List V2} {p q : V2} (hp : p ∈ l) (hq : q ∈ l) (hlt : lessB p q = true) (h : ∀ e ∈ l, lessB e p = false ∧ lessB q e = false) :
    (sortV l).length > 1 ∧ (sortV l).getD 0 v0 = p ∧ (sortV l).getD ((sortV l).length - 1) v0 = q := by
  obtain ⟨h1, h2⟩ := sort_facts l
  have hp' := (h2 p).2 hp
  have hq' := (h2 q).2 hq
  refine ⟨?_, asc_first h1 hp' (fun e he => (h e ((h2 e).1 he)).1), asc_last h1 hq' (fun e he => (h e ((h2 e).1 he)).2)⟩
  generalize sortV l = m at hp' hq'
  match m, hp', hq' with
  | [], hp', _ => simp at hp'
  | [x], hp', hq' =>
    simp at hp' hq'
    rw [hp', hq', less_irr] at hlt
    cases hlt
  | x :: y :: r, _, _ => simp

/-! ### on a segment -/
theorem minI_le (a b c : Int) : c ≥ minI a b ↔ a ≤ c ∨ b ≤ c := by
  unfold minI
  split <;> omega
theorem le_maxI (a b c : Int) : c ≤ maxI a b ↔ c ≤ a ∨ c ≤ b := by
  unfold maxI
  split <;> omega
theorem inBox_iff {s : Seg} {p : V2} : inBoxB s p = true ↔ (s.a.x ≤ p.x ∨ s.b.x ≤ p.x) ∧ (p.x ≤ s.a.x ∨ p.x ≤ s.b.x) ∧ (s.a.y ≤ p.y ∨ s.b.y ≤ p.y) ∧ (p.y ≤ s.a.y ∨ p.y ≤ s.b.y) := by
  simp only [inBoxB, Bool.and_eq_true, decide_eq_true_eq, minI_le, le_maxI]
  omega
theorem inBox_in {s : Seg} {p : V2} {m : Int} (ha : In m s.a) (hb : In m s.b) (h : inBoxB s p = true) : In m p := by
  obtain ⟨h1, h2, h3, h4⟩ := inBox_iff.1 h
  obtain ⟨a1, a2, a3, a4⟩ := ha
  obtain ⟨b1, b2, b3, b4⟩ := hb
  exact ⟨by omega, by omega, by omega, by omega⟩
theorem on_iff {s : Seg} {p : V2} (hs : validS s = true) : onB s p = true ↔ inBoxB s p = true ∧ sideP s p = 0 := by
  obtain ⟨sa, sb⟩ := valid_in hs
  simp only [onB, hs, Bool.true_and, Bool.and_eq_true, beq_iff_eq]
  constructor
  · rintro ⟨h1, h2⟩
    refine ⟨h1, ?_⟩
    rw [turn_side hs (inBox_in sa sb h1)] at h2
    exact sgn_zero.1 h2
  · rintro ⟨h1, h2⟩
    refine ⟨h1, ?_⟩
    rw [turn_side hs (inBox_in sa sb h1), h2]
    rfl
theorem on_a {s : Seg} (hs : validS s = true) : onB s s.a = true := by
  rw [on_iff hs, inBox_iff]
  refine ⟨by omega, ?_⟩
  simp only [sideP, crossP, subP]
  simp
theorem on_b {s : Seg} (hs : validS s = true) : onB s s.b = true := by
  rw [on_iff hs, inBox_iff]
  refine ⟨by omega, ?_⟩
  simp only [sideP, crossP, subP]
  grind
theorem coord {D k e v : Int} (hD : 0 < D) (h : D * e = k * v) : (v ≠ 0 → ((0 ≤ e ∨ v ≤ e) ∧ (e ≤ 0 ∨ e ≤ v) ↔ 0 ≤ k ∧ k ≤ D)) ∧ (v = 0 → e = 0) := by
  refine ⟨fun hv => ?_, fun hv => ?_⟩
  · have l1 : ∀ {x y z : Int}, 0 < z → (x * z ≤ y * z ↔ x ≤ y) := fun hz => ⟨fun h => Int.le_of_mul_le_mul_right h hz, fun h => Int.mul_le_mul_of_nonneg_right h (by omega)⟩
    have l2 : ∀ {x y z : Int}, 0 < z → (z * x ≤ z * y ↔ x ≤ y) := fun hz => ⟨fun h => Int.le_of_mul_le_mul_left h hz, fun h => Int.mul_le_mul_of_nonneg_left h (by omega)⟩
    rcases Int.lt_or_gt_of_ne hv with hn | hp
    · have e1 : (e ≤ 0) ↔ 0 ≤ k := by
        rw [← l2 (z := D) hD, h, Int.mul_zero]
        have := l1 (x := -k) (y := 0) (z := -v) (by omega)
        rw [Int.neg_mul_neg, Int.zero_mul] at this
        omega
      have e2 : (v ≤ e) ↔ k ≤ D := by
        rw [← l2 (z := D) hD, h]
        have := l1 (x := k) (y := D) (z := -v) (by omega)
        rw [Int.mul_neg, Int.mul_neg] at this
        omega
      omega
    · have e1 : (0 ≤ e) ↔ 0 ≤ k := by
        rw [← l2 (z := D) hD, h, Int.mul_zero]
        have := l1 (x := 0) (y := k) (z := v) hp
        rw [Int.zero_mul] at this
        exact this
      have e2 : (e ≤ v) ↔ k ≤ D := by
        rw [← l2 (z := D) hD, h]
        exact l1 hp
      omega
  · subst hv
    rw [Int.mul_zero] at h
    rcases Int.mul_eq_zero.1 h with h | h
    · omega
    · exact h
theorem box_place {t : Seg} {e : V2} {D k : Int} (hD : 0 < D) (hx : D * (e.x - t.a.x) = k * (t.b.x - t.a.x)) (hy : D * (e.y - t.a.y) = k * (t.b.y - t.a.y)) (hne : t.a ≠ t.b) : inBoxB t e = true ↔ 0 ≤ k ∧ k ≤ D := by
  rw [inBox_iff]
  obtain ⟨x1, x2⟩ := coord hD hx
  obtain ⟨y1, y2⟩ := coord hD hy
  rw [Ne, V2.eq_iff] at hne
  by_cases hvx : t.b.x - t.a.x = 0
  · have := x2 hvx
    have hvy : t.b.y - t.a.y ≠ 0 := by omega
    have := y1 hvy
    omega
  · have := x1 hvx
    by_cases hvy : t.b.y - t.a.y = 0
    · have := y2 hvy
      omega
    · have := y1 hvy
      omega
end Sg
end Go.Vm
namespace Go.Vm
set_option maxRecDepth 20000
set_option linter.unusedVariables false
set_option linter.unusedSimpArgs false
namespace Sg
open Go Go.RowKit Go.Proofs

theorem mem_ends {s t : Seg} {e : V2} : e ∈ endsL s t ↔ e = s.a ∨ e = s.b ∨ e = t.a ∨ e = t.b := by simp [endsL]
theorem mem_common {s t : Seg} {e : V2} : e ∈ (endsL s t).filter (bothB s t) ↔ (e = s.a ∨ e = s.b ∨ e = t.a ∨ e = t.b) ∧ onB s e = true ∧ onB t e = true := by
  rw [List.mem_filter, mem_ends, bothB, Bool.and_eq_true]

structure Lines (s t : Seg) (A B D : Int) : Prop where
  pos : 0 < D
  gx : D * (t.a.x - s.a.x) = A * (s.b.x - s.a.x) - B * (t.b.x - t.a.x)
  gy : D * (t.a.y - s.a.y) = A * (s.b.y - s.a.y) - B * (t.b.y - t.a.y)
  ta : ∃ k, k ≠ 0 ∧ sideP s t.a = -B * k ∧ sideP s t.b = (D - B) * k ∧ sideP t s.a = A * k ∧ sideP t s.b = (A - D) * k
  sne : s.a ≠ s.b
  tne : t.a ≠ t.b
theorem ne_of_dir {s t : Seg} (h : dirC s t ≠ 0) : s.a ≠ s.b ∧ t.a ≠ t.b := by
  refine ⟨fun e => h ?_, fun e => h ?_⟩
  · simp only [dirC, crossP, subP, e]; grind
  · simp only [dirC, crossP, subP, e]; grind
theorem lines_pos {s t : Seg} (h : 0 < dirC s t) : Lines s t (crossP (subP t.a s.a) (subP t.b t.a)) (crossP (subP t.a s.a) (subP s.b s.a)) (dirC s t) := by
  obtain ⟨n1, n2⟩ := ne_of_dir (s := s) (t := t) (by omega)
  refine ⟨h, ?_, ?_, ⟨1, by decide, ?_, ?_, ?_, ?_⟩, n1, n2⟩
  all_goals simp only [dirC, crossP, subP, sideP]
  all_goals grind
theorem lines_neg {s t : Seg} (h : dirC s t < 0) : Lines s t (-crossP (subP t.a s.a) (subP t.b t.a)) (-crossP (subP t.a s.a) (subP s.b s.a)) (-dirC s t) := by
  obtain ⟨n1, n2⟩ := ne_of_dir (s := s) (t := t) (by omega)
  refine ⟨by omega, ?_, ?_, ⟨-1, by decide, ?_, ?_, ?_, ?_⟩, n1, n2⟩
  all_goals simp only [dirC, crossP, subP, sideP]
  all_goals grind
theorem mul_zero_iff {a k : Int} (hk : k ≠ 0) : a * k = 0 ↔ a = 0 := by
  constructor
  · intro h
    rcases Int.mul_eq_zero.1 h with h | h
    · exact h
    · exact absurd h hk
  · intro h; rw [h, Int.zero_mul]
theorem mul_sgn (x k : Int) : (x * k < 0 ↔ (x < 0 ∧ 0 < k) ∨ (0 < x ∧ k < 0)) ∧ (0 < x * k ↔ (0 < x ∧ 0 < k) ∨ (x < 0 ∧ k < 0)) := by
  rcases Int.lt_trichotomy x 0 with hx | hx | hx <;> rcases Int.lt_trichotomy k 0 with hk | hk | hk
  · have := Int.mul_pos_of_neg_of_neg hx hk; omega
  · subst hk; rw [Int.mul_zero]; omega
  · have := Int.mul_neg_of_neg_of_pos hx hk; omega
  · subst hx; rw [Int.zero_mul]; omega
  · subst hx; rw [Int.zero_mul]; omega
  · subst hx; rw [Int.zero_mul]; omega
  · have := Int.mul_neg_of_pos_of_neg hx hk; omega
  · subst hk; rw [Int.mul_zero]; omega
  · have := Int.mul_pos hx hk; omega
section
variable {s t : Seg} {A B D : Int}
theorem Lines.ends (L : Lines s t A B D) (hs : validS s = true) (ht : validS t = true) :
    (onB t s.a = true ↔ A = 0 ∧ 0 ≤ B ∧ B ≤ D) ∧ (onB t s.b = true ↔ A = D ∧ 0 ≤ B ∧ B ≤ D) ∧ (onB s t.a = true ↔ B = 0 ∧ 0 ≤ A ∧ A ≤ D) ∧ (onB s t.b = true ↔ B = D ∧ 0 ≤ A ∧ A ≤ D) := by
  obtain ⟨hD, gx, gy, ⟨k, hk, k1, k2, k3, k4⟩, n1, n2⟩ := L
  refine ⟨?_, ?_, ?_, ?_⟩
  · rw [on_iff ht, k3, mul_zero_iff hk]
    constructor
    · rintro ⟨h1, h2⟩
      exact ⟨h2, (box_place (k := B) hD (by subst h2; grind) (by subst h2; grind) n2).1 h1⟩
    · rintro ⟨h2, h1⟩
      exact ⟨(box_place (k := B) hD (by subst h2; grind) (by subst h2; grind) n2).2 h1, h2⟩
  · rw [on_iff ht, k4, mul_zero_iff hk]
    constructor
    · rintro ⟨h1, h2⟩
      have h2 : A = D := by omega
      exact ⟨h2, (box_place (k := B) hD (by subst h2; grind) (by subst h2; grind) n2).1 h1⟩
    · rintro ⟨h2, h1⟩
      exact ⟨(box_place (k := B) hD (by subst h2; grind) (by subst h2; grind) n2).2 h1, by omega⟩
  · rw [on_iff hs, k1, Int.neg_mul, Int.neg_eq_zero, mul_zero_iff hk]
    constructor
    · rintro ⟨h1, h2⟩
      exact ⟨h2, (box_place (k := A) hD (by subst h2; grind) (by subst h2; grind) n1).1 h1⟩
    · rintro ⟨h2, h1⟩
      exact ⟨(box_place (k := A) hD (by subst h2; grind) (by subst h2; grind) n1).2 h1, h2⟩
  · rw [on_iff hs, k2, mul_zero_iff hk]
    constructor
    · rintro ⟨h1, h2⟩
      have h2 : B = D := by omega
      exact ⟨h2, (box_place (k := A) hD (by subst h2; grind) (by subst h2; grind) n1).1 h1⟩
    · rintro ⟨h2, h1⟩
      exact ⟨(box_place (k := A) hD (by subst h2; grind) (by subst h2; grind) n1).2 h1, by omega⟩
theorem Lines.point (L : Lines s t A B D) {e : V2} (he : (e = s.a ∧ A = 0) ∨ (e = s.b ∧ A = D) ∨ (e = t.a ∧ B = 0) ∨ (e = t.b ∧ B = D)) : D * e.x = s.a.x * D + A * (s.b.x - s.a.x) ∧ D * e.y = s.a.y * D + A * (s.b.y - s.a.y) := by
  obtain ⟨hD, gx, gy, _⟩ := L
  rcases he with ⟨h1, h2⟩ | ⟨h1, h2⟩ | ⟨h1, h2⟩ | ⟨h1, h2⟩
  · subst h1 h2; constructor <;> grind
  · subst h1 h2; constructor <;> grind
  · subst h1 h2; constructor <;> grind
  · subst h1 h2; constructor <;> grind
theorem Lines.cross (L : Lines s t A B D) (hs : validS s = true) (ht : validS t = true) : crossB s t = true ↔ 0 < A ∧ A < D ∧ 0 < B ∧ B < D := by
  obtain ⟨sa, sb⟩ := valid_in hs
  obtain ⟨ta, tb⟩ := valid_in ht
  obtain ⟨hD, gx, gy, ⟨k, hk, k1, k2, k3, k4⟩, n1, n2⟩ := L
  simp only [crossB, Bool.and_eq_true, decide_eq_true_eq, side_eq hs ta, side_eq hs tb, side_eq ht sa, side_eq ht sb, sgn_mul, k1, k2, k3, k4]
  have pm := fun x : Int => mul_sgn x k
  rw [(pm (-B)).1, (pm (-B)).2, (pm (D - B)).1, (pm (D - B)).2, (pm A).1, (pm A).2, (pm (A - D)).1, (pm (A - D)).2]
  omega
end
theorem gcd_mul3 (x y : Int) {D : Int} (h : 0 < D) : Int.gcd (Int.gcd (D * x) (D * y) : Nat) D = D.natAbs := by
  refine Nat.dvd_antisymm ?_ ?_
  · exact Nat.gcd_dvd_right _ _
  · refine Nat.dvd_gcd ?_ (Nat.dvd_refl _)
    show D.natAbs ∣ (Int.natAbs (Int.gcd (D * x) (D * y) : Nat))
    rw [Int.natAbs_natCast]
    refine Nat.dvd_gcd ?_ ?_
    · rw [Int.natAbs_mul]; exact Nat.dvd_mul_right _ _
    · rw [Int.natAbs_mul]; exact Nat.dvd_mul_right _ _
theorem low_int (p : V2) {D X Y : Int} (h : 0 < D) (hx : D * p.x = X) (hy : D * p.y = Y) : low X Y D = ptOf p := by
  subst hx hy
  unfold low
  rw [gcd_mul3 p.x p.y h, Int.natAbs_of_nonneg (by omega), Int.mul_tdiv_cancel_left _ (by omega), Int.mul_tdiv_cancel_left _ (by omega), Int.tdiv_self (by omega)]

theorem lines_agree {s t : Seg} {A B D : Int} (L : Lines s t A B D) (hs : validS s = true) (ht : validS t = true) :
    (lineC s (subP s.b s.a) A B D).kind = rmeetI s t ∧ (rmeetI s t = 1 → (lineC s (subP s.b s.a) A B D).p = ptOf ((commonL s t).getD 0 v0)) ∧
      (rmeetI s t = 2 → (lineC s (subP s.b s.a) A B D).p = low (s.a.x * D + A * (subP s.b s.a).x) (s.a.y * D + A * (subP s.b s.a).y) D) ∧ (rmeetI s t = 0 → (lineC s (subP s.b s.a) A B D).p = p0) ∧ rmeetI s t ≠ 3 := by
  obtain ⟨e1, e2, e3, e4⟩ := L.ends hs ht
  have hc := L.cross hs ht
  have oa := on_a hs
  have ob := on_b hs
  have oc := on_a ht
  have od := on_b ht
  have hD := L.pos
  have hv : ¬ (validS s = false ∨ validS t = false) := by simp [hs, ht]
  have hr : rmeetI s t = if (commonL s t).length > 1 then 3 else if (commonL s t).length = 1 then 1 else if crossB s t = true then 2 else 0 := by rw [rmeetI, if_neg hv]
  by_cases hout : outB A B D
  · have hn : commonL s t = [] := by
      refine sort_none fun e he => ?_
      obtain ⟨h1, h2, h3⟩ := mem_common.1 he
      unfold outB at hout
      rcases h1 with rfl | rfl | rfl | rfl
      · have := e1.1 h3; omega
      · have := e2.1 h3; omega
      · have := e3.1 h2; omega
      · have := e4.1 h2; omega
    have hcf : ¬ crossB s t = true := fun h => by have := hc.1 h; unfold outB at hout; omega
    have h0 : rmeetI s t = 0 := by rw [hr, hn]; simp [hcf]
    have hl : lineC s (subP s.b s.a) A B D = noneC := by rw [lineC, if_pos hout]
    rw [hl, h0]
    exact ⟨rfl, fun h => by omega, fun h => by omega, fun _ => rfl, by omega⟩
  · by_cases hend : endB A B D
    · have hin : 0 ≤ A ∧ A ≤ D ∧ 0 ≤ B ∧ B ≤ D := by unfold outB at hout; omega
      have hex : ∃ e : V2, ((e = s.a ∧ A = 0) ∨ (e = s.b ∧ A = D) ∨ (e = t.a ∧ B = 0) ∨ (e = t.b ∧ B = D)) := by
        unfold endB at hend
        rcases hend with h | h | h | h
        · exact ⟨s.a, .inl ⟨rfl, h⟩⟩
        · exact ⟨s.b, .inr (.inl ⟨rfl, h⟩)⟩
        · exact ⟨t.a, .inr (.inr (.inl ⟨rfl, h⟩))⟩
        · exact ⟨t.b, .inr (.inr (.inr ⟨rfl, h⟩))⟩
      obtain ⟨p, hp⟩ := hex
      obtain ⟨px, py⟩ := L.point hp
      have hone : commonL s t = [p] := by
        refine sort_one fun e => ?_
        rw [mem_common]
        constructor
        · rintro ⟨h1, h2, h3⟩
          have he : (e = s.a ∧ A = 0) ∨ (e = s.b ∧ A = D) ∨ (e = t.a ∧ B = 0) ∨ (e = t.b ∧ B = D) := by
            rcases h1 with rfl | rfl | rfl | rfl
            · exact .inl ⟨rfl, (e1.1 h3).1⟩
            · exact .inr (.inl ⟨rfl, (e2.1 h3).1⟩)
            · exact .inr (.inr (.inl ⟨rfl, (e3.1 h2).1⟩))
            · exact .inr (.inr (.inr ⟨rfl, (e4.1 h2).1⟩))
          obtain ⟨ex, ey⟩ := L.point he
          exact V2.ext (Int.eq_of_mul_eq_mul_left (show D ≠ 0 by omega) (by rw [ex, px])) (Int.eq_of_mul_eq_mul_left (show D ≠ 0 by omega) (by rw [ey, py]))
        · rintro rfl
          rcases hp with ⟨rfl, h⟩ | ⟨rfl, h⟩ | ⟨rfl, h⟩ | ⟨rfl, h⟩
          · exact ⟨.inl rfl, oa, e1.2 (by omega)⟩
          · exact ⟨.inr (.inl rfl), ob, e2.2 (by omega)⟩
          · exact ⟨.inr (.inr (.inl rfl)), e3.2 (by omega), oc⟩
          · exact ⟨.inr (.inr (.inr rfl)), e4.2 (by omega), od⟩
      have h1 : rmeetI s t = 1 := by rw [hr, hone]; simp
      have hl : lineC s (subP s.b s.a) A B D = ⟨1, ptOf p, s0⟩ := by
        rw [lineC, if_neg hout, if_pos hend, low_int p hD (X := s.a.x * D + A * (subP s.b s.a).x) (Y := s.a.y * D + A * (subP s.b s.a).y) px py]
      rw [hl, h1, hone]
      exact ⟨rfl, fun _ => rfl, fun h => by omega, fun h => by omega, by omega⟩
    · have hin : 0 < A ∧ A < D ∧ 0 < B ∧ B < D := by unfold outB at hout; unfold endB at hend; omega
      have hn : commonL s t = [] := by
        refine sort_none fun e he => ?_
        obtain ⟨h1, h2, h3⟩ := mem_common.1 he
        rcases h1 with rfl | rfl | rfl | rfl
        · have := e1.1 h3; omega
        · have := e2.1 h3; omega
        · have := e3.1 h2; omega
        · have := e4.1 h2; omega
      have h2 : rmeetI s t = 2 := by rw [hr, hn]; simp [hc.2 hin]
      have hl : lineC s (subP s.b s.a) A B D = ⟨2, low (s.a.x * D + A * (subP s.b s.a).x) (s.a.y * D + A * (subP s.b s.a).y) D, s0⟩ := by rw [lineC, if_neg hout, if_neg hend]
      rw [hl, h2]
      exact ⟨rfl, fun h => by omega, fun _ => rfl, fun h => by omega, by omega⟩
end Sg
end Go.Vm
namespace Go.Vm
set_option maxRecDepth 20000
set_option linter.unusedVariables false
set_option linter.unusedSimpArgs false
namespace Sg
open Go Go.RowKit Go.Proofs

theorem cross_par {u v w : V2} (h : crossP u v = 0) (k : crossP v w = 0) (hv : v ≠ v0) : crossP u w = 0 := by
  have e1 : v.x * crossP u w = u.x * crossP v w + w.x * crossP u v := by simp only [crossP]; grind
  have e2 : v.y * crossP u w = u.y * crossP v w + w.y * crossP u v := by simp only [crossP]; grind
  rw [h, k] at e1 e2
  rw [Ne, V2.eq_iff] at hv
  by_cases hx : v.x = 0
  · have hy : v.y ≠ 0 := fun h => hv ⟨hx, h⟩
    rcases Int.mul_eq_zero.1 (show v.y * crossP u w = 0 by omega) with h | h
    · exact absurd h hy
    · exact h
  · rcases Int.mul_eq_zero.1 (show v.x * crossP u w = 0 by omega) with h | h
    · exact absurd h hx
    · exact h
theorem sub_ne {a b : V2} (h : a ≠ b) : subP b a ≠ v0 := by
  rw [Ne, V2.eq_iff] at *
  simp only [subP]
  omega
section
variable {s t : Seg}
theorem flat_cross (hs : validS s = true) (ht : validS t = true) (hd : dirC s t = 0) : crossB s t = false := by
  obtain ⟨ta, tb⟩ := valid_in ht
  rw [Bool.eq_false_iff]
  intro h
  simp only [crossB, Bool.and_eq_true, decide_eq_true_eq] at h
  have h1 := h.1
  rw [side_eq hs ta, side_eq hs tb, sgn_mul] at h1
  have := side_diff s t
  omega
theorem agree_none (hs : validS s = true) (ht : validS t = true) (hd : dirC s t = 0) (h : commonL s t = []) : rmeetI s t = 0 ∧ ratP s t = p0 ∧ rshareS s t = s0 := by
  have hc := flat_cross hs ht hd
  have h0 : rmeetI s t = 0 := by rw [rmeetI, h, hc, hs, ht]; rfl
  exact ⟨h0, by rw [ratP, h0]; rfl, by rw [rshareS, h0]; rfl⟩
theorem agree_one (hs : validS s = true) (ht : validS t = true) {p : V2} (h : commonL s t = [p]) : rmeetI s t = 1 ∧ ratP s t = ptOf p ∧ rshareS s t = s0 := by
  have h0 : rmeetI s t = 1 := by rw [rmeetI, h, hs, ht]; rfl
  exact ⟨h0, by rw [ratP, h0, h]; rfl, by rw [rshareS, h0]; rfl⟩
theorem agree_two (hs : validS s = true) (ht : validS t = true) {p q : V2} (h : (commonL s t).length > 1) (hp : (commonL s t).getD 0 v0 = p) (hq : (commonL s t).getD ((commonL s t).length - 1) v0 = q) : rmeetI s t = 3 ∧ ratP s t = p0 ∧ rshareS s t = ⟨p, q⟩ := by
  have h0 : rmeetI s t = 3 := by rw [rmeetI, if_neg (by simp [hs, ht]), if_pos h]
  exact ⟨h0, by rw [ratP, h0]; rfl, by rw [rshareS, h0, hp, hq]; rfl⟩
theorem on_point {p : V2} (hs : validS s = true) (h : s.a = s.b) : onB s p = true ↔ p = s.a := by
  rw [on_iff hs, inBox_iff, ← h, V2.eq_iff]
  constructor
  · rintro ⟨h1, _⟩; omega
  · rintro ⟨h1, h2⟩
    refine ⟨by omega, ?_⟩
    simp only [sideP, crossP, subP, h1, h2]
    grind
theorem lo_hi (s : Seg) : (loV s = s.a ∧ hiV s = s.b ∧ lessB s.b s.a = false) ∨ (loV s = s.b ∧ hiV s = s.a ∧ lessB s.b s.a = true) := by
  unfold loV hiV
  cases h : lessB s.b s.a with
  | true => exact .inr ⟨rfl, rfl, rfl⟩
  | false => exact .inl ⟨rfl, rfl, rfl⟩
theorem on_between {p : V2} (hs : validS s = true) (h : s.a ≠ s.b) (hp : sideP s p = 0) : onB s p = true ↔ lessB p (loV s) = false ∧ lessB (hiV s) p = false := by
  rw [on_iff hs]
  have hside : (s.b.x - s.a.x) * (p.y - s.a.y) = (s.b.y - s.a.y) * (p.x - s.a.x) := by
    simp only [sideP, crossP, subP] at hp
    omega
  have key : inBoxB s p = true ↔ lessB p (loV s) = false ∧ lessB (hiV s) p = false := by
    rw [inBox_iff]
    rw [Ne, V2.eq_iff] at h
    have coordY : s.b.y - s.a.y ≠ 0 → ((p.y - s.a.y = 0 → p.x - s.a.x = 0) ∧ (p.y = s.b.y → p.x = s.b.x) ∧ ((0 ≤ p.y - s.a.y ∨ s.b.y - s.a.y ≤ p.y - s.a.y) ∧ (p.y - s.a.y ≤ 0 ∨ p.y - s.a.y ≤ s.b.y - s.a.y) → (0 ≤ p.x - s.a.x ∨ s.b.x - s.a.x ≤ p.x - s.a.x) ∧ (p.x - s.a.x ≤ 0 ∨ p.x - s.a.x ≤ s.b.x - s.a.x))) := fun hne => by
      refine ⟨fun h0 => ?_, fun h0 => ?_, fun hb => ?_⟩
      · rw [h0, Int.mul_zero] at hside
        rcases Int.mul_eq_zero.1 hside.symm with h | h
        · exact absurd h hne
        · exact h
      · rw [h0, Int.mul_comm] at hside
        have := Int.eq_of_mul_eq_mul_left hne hside
        omega
      · -- by the place on the line
        rcases Int.lt_or_gt_of_ne hne with hn | hpos
        · by_cases hx : s.b.x - s.a.x = 0
          · rw [hx, Int.zero_mul] at hside
            rcases Int.mul_eq_zero.1 hside.symm with h | h
            · exact absurd h hne
            · omega
          · have c := (coord (D := -(s.b.y - s.a.y)) (k := -(p.y - s.a.y)) (e := p.x - s.a.x) (v := s.b.x - s.a.x) (by omega) (by rw [Int.neg_mul, Int.neg_mul, ← hside, Int.mul_comm])).1 hx
            exact c.2 (by omega)
        · by_cases hx : s.b.x - s.a.x = 0
          · rw [hx, Int.zero_mul] at hside
            rcases Int.mul_eq_zero.1 hside.symm with h | h
            · exact absurd h hne
            · omega
          · have c := (coord (D := s.b.y - s.a.y) (k := p.y - s.a.y) (e := p.x - s.a.x) (v := s.b.x - s.a.x) hpos (by rw [← hside, Int.mul_comm])).1 hx
            exact c.2 (by omega)
    have flatY : s.b.y - s.a.y = 0 → p.y = s.a.y := fun h0 => by
      rw [h0, Int.zero_mul] at hside
      rcases Int.mul_eq_zero.1 hside with h' | h'
      · exact absurd ⟨by omega, by omega⟩ h
      · omega
    rw [Bool.eq_false_iff, Bool.eq_false_iff, Ne, Ne, less_iff, less_iff]
    rcases lo_hi s with ⟨e1, e2, e3⟩ | ⟨e1, e2, e3⟩
    · rw [e1, e2]
      rw [Bool.eq_false_iff, Ne, less_iff] at e3
      by_cases hy : s.b.y - s.a.y = 0
      · have := flatY hy
        omega
      · have := coordY hy
        omega
    · rw [e1, e2]
      rw [less_iff] at e3
      by_cases hy : s.b.y - s.a.y = 0
      · have := flatY hy
        omega
      · have := coordY hy
        omega
  rw [key]
  exact ⟨fun h => h.1, fun h => ⟨h, hp⟩⟩
end
end Sg
end Go.Vm
