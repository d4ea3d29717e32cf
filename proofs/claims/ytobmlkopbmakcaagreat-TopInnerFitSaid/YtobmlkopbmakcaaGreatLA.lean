import Derived.Orders
import Derived.Below
import Derived.KernelRfl
import Derived.Laws.Cells
import Derived.Laws.Rows
import Derived.Laws.Tables
import Derived.Laws.MakeOwn
import Derived.Laws.IdiomCopy
import Derived.Laws.StructEq
import Derived.IntWalk
import Derived.OwnWalk
set_option linter.unusedVariables false
set_option linter.unusedSimpArgs false
set_option maxRecDepth 20000
namespace Go
theorem iN {c:Prop} [h:Decidable c] {α:Sort _} {t e:α} (k:¬c:=by omega):ite c t e=e:=if_neg k
theorem iP {c:Prop} [h:Decidable c] {α:Sort _} {t e:α} (k:c:=by omega):ite c t e=t:=if_pos k
theorem mOf {a b:Nat} (h:a<b:=by omega):a%b=a:=Nat.mod_eq_of_lt h
theorem mLt {a b:Nat} (h:0<b:=by omega):a%b<b:=Nat.mod_lt a h
theorem dF {p:Prop} [Decidable p] (h:¬p:=by omega):decide p=false:=decide_eq_false h
abbrev Xz:=@Classical.byContradiction
abbrev XA:=@of_decide_eq_false
abbrev XB:=@of_decide_eq_true
abbrev XC:=@Int.mul_pos
abbrev XD:=@if_neg
abbrev XE:=@Nat.eq_of_beq_eq_true
abbrev XF:=@List.mem_cons
abbrev XG:=@if_pos
abbrev XH:=@Bool.and_eq_true
abbrev XI:=@Int.mul_nonpos_of_nonneg_of_nonpos
abbrev XJ:=@Nat.le_of_ble_eq_true
abbrev XK:=@List.mem_cons_of_mem
abbrev XL:=@Nat.not_lt_zero
abbrev XM:=@Int.mul_nonneg
abbrev XN:=@List.mem_append
abbrev XO:=@Int.le_of_lt
abbrev XP:=@Nat.le_refl
abbrev XQ:=@List.mem_map
abbrev XR:=@List.length_append
abbrev XS:=@Nat.zero_le
abbrev XT:=@Int.mul_le_mul_of_nonneg_left
abbrev XU:=@decide_eq_true_eq
abbrev XV:=@List.getElem?_eq_getElem
abbrev XW:=@List.mem_cons_self
abbrev XX:=@Nat.mul_le_mul_right
abbrev XY:=@List.mem_append_right
abbrev XZ:=@List.length_cons
abbrev X0:=@List.mem_append_left
abbrev X1:=@decide_eq_false
abbrev X2:=@Int.mul_neg_of_neg_of_pos
abbrev X3:=@Nat.mod_eq_of_lt
abbrev X4:=@List.mem_range
abbrev X5:=@congrArg
abbrev X6:=@Nat.zero_add
abbrev X7:=@Int.mul_nonneg_of_nonpos_of_nonpos
abbrev X8:=@decide_eq_true
abbrev X9:=@List.length_map
abbrev Ya:=@Int.mul_neg_of_pos_of_neg
abbrev Yb:=@Int.zero_mul
abbrev Yc:=@Int.le_refl
abbrev Yd:=@Int.mul_comm
abbrev Ye:=@List.getElem?_eq_some_iff
abbrev Yf:=@Nat.le_trans
abbrev Yg:=@List.map_cons
abbrev Yh:=@Int.mul_zero
abbrev Yi:=@Int.lt_or_gt_of_ne
abbrev Yj:=@decide_eq_decide
abbrev Yk:=@List.append_assoc
abbrev Yl:=@Nat.lt_of_lt_of_le
abbrev Ym:=@Nat.add_mul
abbrev Yo:=@List.getElem?_append
abbrev Yp:=@Int.mul_le_mul_of_nonneg_right
abbrev Yq:=@List.map_map
abbrev Yr:=@Array.toArray_toList
abbrev Ys:=@List.map_append
abbrev Yt:=@Option.getD_some
abbrev Yu:=@List.length_take
abbrev Yv:=@Int.mul_lt_mul_of_pos_left
abbrev Yw:=@Int.toNat_natCast
abbrev Yx:=@List.map_congr_left
abbrev Yy:=@List.nodup_cons
abbrev Yz:=@Array.getD_eq_getD_getElem?
abbrev YA:=@List.getD_eq_getElem?_getD
abbrev YB:=@List.mem_singleton
abbrev YC:=@List.take_add_one
abbrev YD:=@Int.mul_nonpos_of_nonpos_of_nonneg
abbrev YE:=@Nat.add_mod_right
abbrev YF:=@Int.lt_trichotomy
abbrev YG:=@List.cons_append
abbrev YH:=@Int.mul_neg
abbrev YI:=@Int.le_total
abbrev YJ:=@List.pairwise_cons
abbrev YK:=@Bool.not_eq_true'
abbrev YL:=@Bool.eq_false_iff
abbrev YM:=@Nat.sub_self
abbrev YN:=@List.getElem?_toArray
abbrev YO:=@List.append_nil
abbrev YP:=@Nat.lt_succ_iff_lt_or_eq
abbrev YQ:=@Nat.add_assoc
abbrev YR:=@Nat.add_zero
abbrev YS:=@List.getElem?_append_right
abbrev YT:=@List.take_length
abbrev YU:=@List.getElem_mem
abbrev YV:=@List.mem_iff_getElem
abbrev YW:=@List.getElem?_append_left
abbrev YX:=@Int.le_of_mul_le_mul_left
abbrev YY:=@List.getElem?_eq_none
abbrev YZ:=@Array.getElem?_append
abbrev Y0:=@List.nodup_append
abbrev Y1:=@List.eq_nil_of_length_eq_zero
abbrev Y2:=@List.getElem?_take
abbrev Y3:=@Int.not_le
abbrev Y4:=@Bool.false_eq_true
abbrev Y5:=@List.pairwise_iff_getElem
abbrev Y6:=@List.drop_eq_getElem_cons
abbrev Y7:=@Int.eq_of_mul_eq_mul_left
abbrev Y8:=@Array.length_toList
abbrev Y9:=@Option.some.injEq
abbrev Za:=@List.flatten_cons
abbrev Zb:=@Array.getElem?_eq_some_iff
abbrev Zc:=@Int.mul_assoc
abbrev Zd:=@Bool.eq_iff_iff
abbrev Ze:=@List.mem_of_getElem?
abbrev Zf:=@Int.zero_add
abbrev Zg:=@Nat.lt_irrefl
abbrev Zh:=@Bool.true_and
abbrev Zi:=@List.mem_flatten
abbrev Zj:=@List.all_eq_true
abbrev Zk:=@List.getLast_cons
abbrev Zl:=@Int.mul_pos_of_neg_of_neg
abbrev Zm:=@Nat.add_comm
abbrev Zn:=@List.getElem?_drop
abbrev Zo:=@Bool.or_eq_true
abbrev Zp:=@Bool.false_and
abbrev Zq:=@Prod.mk.injEq
abbrev Zr:=@Ne.symm
abbrev Zs:=@Nat.beq_refl
abbrev Zt:=@List.getElem?_map
abbrev Zu:=@decide_eq_false_iff_not
abbrev Zv:=@Nat.eq_zero_or_pos
abbrev Zw:=@List.pairwise_append
abbrev Zx:=@Int.not_lt
abbrev Zy:=@Int.mul_eq_zero
abbrev Zz:=@Nat.mod_self
abbrev ZA:=@List.not_mem_nil
abbrev ZB:=@List.length_drop
abbrev ZC:=@Iff.rfl
abbrev ZD:=@List.getElem_of_mem
abbrev ZE:=@List.pairwise_map
abbrev ZF:=@Int.neg_mul
abbrev ZG:=@cond_true
abbrev ZH:=@List.take_append_drop
abbrev ZI:=@List.length_filter_le
abbrev ZJ:=@Nat.mod_lt
abbrev ZK:=@List.mem_flatMap
abbrev ZL:=@Int.mul_sub
abbrev ZM:=@cond_false
abbrev ZN:=@Nat.le_of_lt
abbrev ZO:=@List.range_succ_eq_map
abbrev ZP:=@List.foldl_cons
abbrev ZQ:=@Bool.and_eq_false_iff
abbrev ZR:=@Int.le_of_eq
abbrev ZS:=@Nat.mul_le_mul
abbrev ZT:=@List.getElem?_of_mem
abbrev ZU:=@List.range_succ
abbrev ZV:=@Array.getElem?_setIfInBounds
abbrev ZW:=@List.take_of_length_le
abbrev ZX:=@Array.getElem?_eq_none
abbrev ZY:=@Int.mul_one
abbrev ZZ:=@Int.lt_of_mul_lt_mul_left
abbrev Z0:=@Array.getElem?_eq_getElem
abbrev Z1:=@and_congr_right
abbrev Z2:=@Nat.mod_add_mod
abbrev Z3:=@if_false
abbrev Z4:=@Nat.lt_trichotomy
abbrev Z5:=@List.size_toArray
abbrev Z6:=@List.idxOf_lt_length_iff
abbrev Z7:=@List.length_pos_iff
abbrev Z8:=@Nat.testBit_or
abbrev Z9:=@List.take_zero
abbrev Wn:=@List.nodup_range
abbrev Wo:=@List.ext_getElem
abbrev Wp:=@List.eq_nil_iff_forall_not_mem
abbrev Wq:=@Classical.axiomOfChoice
abbrev Wr:=@Bool.not_eq_true
abbrev Ws:=@Nat.mul_comm
abbrev Wt:=@Nat.mod_eq_sub_mod
abbrev Wu:=@Nat.lt_or_ge
abbrev Wv:=@Bool.not_eq_false'
abbrev Ww:=@List.nil_append
abbrev Wx:=@List.mem_filter
abbrev Wy:=@List.length_nil
abbrev Wz:=@List.perm_cons_erase
abbrev WA:=@List.forall_mem_cons
abbrev WB:=@List.erase_cons_tail
abbrev WC:=@Int.mul_add
abbrev WD:=@Bool.and_false
abbrev WE:=@Prod.ext
abbrev WG:=@List.sum_cons
abbrev WH:=@if_true
abbrev WI:=@Option.map_some
abbrev WJ:=@Int.neg_mul_neg
abbrev WK:=@Nat.add_sub_cancel
abbrev WM:=@List.getElem_range
abbrev WN:=@List.append_of_mem
abbrev WO:=@exists_congr
abbrev WQ:=@List.nodup_nil
abbrev WR:=@List.flatMap_cons
abbrev WS:=@List.drop_of_length_le
abbrev WT:=@Int.add_zero
abbrev WU:=@Bool.xor_false
abbrev WV:=@Int.mul_tdiv_add_tmod
abbrev WW:=@List.perm_middle
abbrev WX:=@List.getElem_map
abbrev WY:=@List.Nodup.length_le_of_subset
abbrev WZ:=@or_false
abbrev W0:=@Nat.add_mod_mod
abbrev W1:=@List.take_succ_cons
abbrev W2:=@List.getD_cons_zero
abbrev W5:=@List.flatMap_append
abbrev W6:=@Nat.zero_mul
abbrev W7:=@List.map_nil
abbrev W8:=@List.findSome?_eq_none_iff
abbrev W9:=@List.drop_zero
abbrev Xa:=@Int.mul_right_comm
abbrev Xb:=@Array.getElem?_append_left
abbrev Xc:=@Array.ext'
abbrev Xd:=@Nat.mul_one
abbrev Xe:=@List.ext_getElem?
abbrev Xf:=@List.find?_range_eq_some
abbrev Xg:=@List.find?_range_eq_none
abbrev Xh:=@Bool.xor_true
abbrev Xi:=@Nat.le_of_not_lt
abbrev Xj:=@List.getElem_inj
abbrev Xk:=@List.filter_cons
abbrev Xl:=@decide_not
abbrev Xm:=@Nat.not_lt
abbrev Xo:=@Nat.mul_add_mod
abbrev Xp:=@Nat.min_eq_left
abbrev Xq:=@List.length_set
abbrev Xr:=@List.cons.injEq
abbrev Xs:=@Int.natCast_mul
abbrev Xt:=@List.perm_append_comm
abbrev Xu:=@Array.getElem?_modify
abbrev Xv:=@Nat.mul_add
abbrev Xw:=@List.mem_erase_of_ne
abbrev Xx:=@List.mapM_cons
abbrev Xy:=@List.erase_cons_head
abbrev aaa:=@Int.natAbs_of_nonneg
abbrev aab:=@Array.mem_toList_iff
abbrev aac:=@beq_iff_eq
abbrev aad:=@List.filter_append
abbrev aae:=@Array.ext_getElem?
abbrev aaf:=@Array.empty_append
abbrev aag:=@iff_not_self
abbrev aah:=@Nat.succ_mul
abbrev aai:=@Nat.sub_zero
abbrev aaj:=@List.foldl_append
abbrev aak:=@List.Pairwise.nil
abbrev aal:=@Int.zero_sub
abbrev aam:=@Bool.not_eq_false
abbrev aan:=@Array.size_append
abbrev aao:=@Array.all_eq_true_iff_forall_mem
abbrev aap:=@false_iff
abbrev aaq:=@List.drop_length
abbrev aar:=@List.Perm.append
abbrev aas:=@List.map_id
abbrev aat:=@List.getLast_append_of_ne_nil
abbrev aau:=@Int.one_mul
abbrev aav:=@Int.add_mul
abbrev aaw:=@Classical.or_iff_not_imp_left
abbrev aax:=@List.filter_nil
abbrev aay:=@List.dropLast_concat_getLast
abbrev aaz:=@List.Perm.trans
abbrev aaA:=@List.Perm.of_eq
abbrev aaB:=@Int.natCast_add
abbrev aaC:=@Int.natAbs_tmod
abbrev aaD:=@true_and
abbrev aaE:=@List.take_left
abbrev aaF:=@List.perm_append_singleton
abbrev aaG:=@List.drop_drop
abbrev aaH:=@Int.ofNat_tmod
abbrev aaI:=@Int.natAbs_mul
abbrev aaJ:=@Int.mul_le_mul
abbrev aaK:=@Bool.and_assoc
abbrev aaL:=@Nat.add_mul_mod_self_left
abbrev aaM:=@List.mem_or_eq_of_mem_set
abbrev aaN:=@List.getElem?_eq_none_iff
end Go
namespace Go.Vm
open Go Go.RowKit
inductive Id where
 |n (k:Nat)
 |s (k i:Nat)
 deriving DecidableEq
instance (k:Nat):OfNat Id k:=⟨.n k⟩
instance:Coe Nat Id:=⟨.n⟩
def Id.key:Id->Nat
 | .n k=>k
 | .s k _=>k
def Id.beq:Id->Id->Bool
 | .n a,.n b=>Nat.beq a b
 | .s a i,.s b j=>Nat.beq a b&&Nat.beq i j
 |_,_=>false
theorem Id.beq_iff:∀(a b:Id),Id.beq a b=true↔a=b
 | .n a,.n b=>⟨λh=>X5 _ (XE h),λh=>by cases h;exact Zs a⟩
 | .s a i,.s b j=>⟨λh=>by simp only[Id.beq,XH]at h;rw[XE h.1,XE h.2],λh=>by cases h;simp[Id.beq]⟩
 | .n _,.s _ _=>⟨λh=>by simp[Id.beq]at h,λh=>by cases h⟩
 | .s _ _,.n _=>⟨λh=>by simp[Id.beq]at h,λh=>by cases h⟩
class Key (κ:Type) where
 beq:κ->κ->Bool
 iff:∀a b,beq a b=true↔a=b
instance:Key Nat:=⟨Nat.beq,λ_ _=>⟨XE,λh=>h▸Zs _⟩⟩
instance:Key Id:=⟨Id.beq,Id.beq_iff⟩
inductive SV where
 |v (x:Value)
 |sl (n k:Nat) (get:Nat->Nat->SV)
 |ad (m:Nat) (cell:Nat->SV)
 |fn (f:FuncId) (n:Nat) (cap:Nat->SV)
inductive DV where
 |one (c:SV)
 |agg (cs:List SV)
inductive CR where
 |s (c:SV)
 |ptr (o:Id) (off:Nat)
inductive CV where
 |s (c:SV)
 |ptr (o:Id) (off:Nat)
 |aL (o:Id) (g:Nat)
 |cV (f:FuncId) (Ni:List CR)
inductive TV where
 |any
 |undef
 |d (x:DV)
 |eG (xs:List DV)
 |ptr (o:Id) (off:Nat)
 |aL (o:Id) (g:Nat)
 |ep (o:Id) (g i off:Nat)
 |sub (o:Id) (g lo n:Nat)
 |nb (n:Nat) (neg:Bool)
 |cV (f:FuncId) (Ni:List CR)
 |jw (o:Id) (xs:List DV)
 |r3 (cs:List CV)
inductive Mem where
 |none
 |dead
 |ro (cs:List SV)
 |box (cs:List SV)
 |aJ (g n k:Nat) (e:TypeId) (get:Nat->Nat->SV)
 |obj (cs:List CV)
 |br (g n k:Nat) (e:TypeId) (get:Nat->Nat->CV)
 |map (ks:List (List Int))
def Mem.live:Mem->Prop
 | .box _=>True
 | .aJ .. =>True
 | .obj _=>True
 | .br .. =>True
 | .map _=>True
 |_=>False
abbrev i64 (n:Int):SV:= .v (.int .i64 n)
abbrev an (n:Int):TV:= .d (.one (.v (.int .i64 n)))
abbrev aD (b:Bool):TV:= .d (.one (.v (.bool b)))
abbrev AX:Value:= .slice none 0 0
def Mem.gen:Mem->Nat
 | .aJ g _ _ _ _=>g
 | .br g _ _ _ _=>g
 |_=>0
def bo {κ α:Type} [Key κ] (f:κ->α) (k:κ) (x:α):κ->α:=λi=>bif Key.beq i k then x else f i
variable {α κ:Type}
theorem ar [Key κ] (f:κ->α) (k:κ) (x:α):bo f k x k=x:=by
 unfold bo;rw[(Key.iff k k).2 rfl];rfl
theorem av [Key κ] (f:κ->α) (k:κ) (x:α) {i:κ} (h:i≠k):bo f k x i=f i:=by
 have a:Key.beq i k=false:=by
  cases a:Key.beq i k with
  |true=>exact absurd ((Key.iff i k).1 a) h
  |false=>rfl
 unfold bo;rw[a];rfl
theorem fw [Key κ] (f:κ->α) (k:κ):bo f k (f k)=f:=by
 funext i;by_cases h:i=k;subst h;exact ar _ _ _;exact av _ _ _ h
variable {a:Nat}
theorem D3 {b:Nat} (h:¬a<=b):Nat.ble a b=false:=by
 cases c:Nat.ble a b with
 |false=>rfl
 |true=>exact absurd (XJ c) h
theorem Ii {b:Nat} (h:a<=b):Nat.ble a b=true:=Nat.ble_eq_true_of_le h
theorem hM {b:Nat} (h:¬a<b:=by omega):Nat.blt a b=false:=D3 h
theorem iI {b:Nat} (h:a<b):Nat.blt a b=true:=Ii h
theorem rV {b:Nat} (h:a≠b:=by omega):Nat.beq a b=false:=by
 cases c:Nat.beq a b with
 |false=>rfl
 |true=>exact absurd (XE c) h
theorem bU {b:Nat} (h:Nat.blt a b=true):a<b:=XJ h
inductive Rd (S:Nat->Prop) (w:World):Value->SV->Prop where
 |v {x:Value} (h:x.oneCell'=true):Rd S w x (.v x)
 |nil (k:Nat) (get:Nat->Nat->SV):Rd S w (.slice none 0 0) (.sl 0 k get)
 |emp (a:Addr) (cap k:Nat) (get:Nat->Nat->SV):Rd S w (.slice (some a) 0 cap) (.sl 0 k get)
 |sl {b off n cap k:Nat} {get:Nat->Nat->SV} (xs:Nat->Nat->Value) (hS:S b) (hn:n<=cap) (hcap:cap<=maxLen)
   (hc:∀i,i<n->∀j,j<k->w.cell? ⟨b,off+(i*k+j),none⟩=some (xs i j)) (hr:∀i,i<n->∀j,j<k->Rd S w (xs i j) (get i j)):
   Rd S w (.slice (some ⟨b,off,none⟩) n cap) (.sl n k get)
 |ad {b off m:Nat} {cell:Nat->SV} (xs:Nat->Value) (hS:S b)
   (hc:∀j,j<m->w.cell? ⟨b,off+j,none⟩=some (xs j)) (hr:∀j,j<m->Rd S w (xs j) (cell j)):
   Rd S w (.pointer (some ⟨b,off,none⟩)) (.ad m cell)
 |fn {f n:Nat} {cap:Nat->SV} (xs:Nat->Value) (hr:∀j,j<n->Rd S w (xs j) (cap j)):
   Rd S w (.func (.func f) #[] ((List.range n).map xs).toArray) (.fn f n cap)
variable {S S':Nat->Prop} {w w':World} {x:Value} {c:SV}
theorem Rd.mono (h:∀b,S b->S' b/\w'.heap[b]? =w.heap[b]?) (o:Rd S w x c):Rd S' w' x c:=by
 induction o with
 |v p=>exact .v p
 |nil k g=>exact .nil k g
 |emp a q k g=>exact .emp a q k g
 |sl xs hS r t l _ f=>exact .sl xs (h _ hS).1 r t (λi u j m=>by rw[World.cell?_of_block (w:=w) (h _ hS).2];exact l i u j m) f
 |ad xs hS l _ f=>exact .ad xs (h _ hS).1 (λj m=>by rw[World.cell?_of_block (w:=w) (h _ hS).2];exact l j m) f
 |fn xs _ f=>exact .fn xs f
theorem Rd.bO (a:Rd S w x c):x.oneCell'=true:=by
 cases a<;>first|assumption|rfl
theorem Rd.cm {y:Value} (h:Rd S w x (.v y)):x=y/\y.oneCell'=true:=by
 cases h with
 |v a=>exact⟨rfl,a⟩
theorem Rd.qJ {m:Nat} {a:Nat->SV} (h:Rd S w x (.ad m a)):
  ∃(b c:Nat) (xs:Nat->Value),x= .pointer (some ⟨b,c,none⟩)/\S b/\(∀j,j<m->w.cell? ⟨b,c+j,none⟩=some (xs j))/\∀j,j<m->Rd S w (xs j) (a j):=by
 cases h with
 |ad xs hS f g=>exact⟨_,_,xs,rfl,hS,f,g⟩
theorem Rd.sY {n k:Nat} {get:Nat->Nat->SV} (h:Rd S w x (.sl n k get)):
  (x= .slice none 0 0/\n=0)\/(∃a c,x= .slice (some a) 0 c/\n=0)\/∃(b f c:Nat) (xs:Nat->Nat->Value),x= .slice (some ⟨b,f,none⟩) n c/\S b/\n<=c/\c<=maxLen/\
   (∀i,i<n->∀j,j<k->w.cell? ⟨b,f+(i*k+j),none⟩=some (xs i j))/\∀i,i<n->∀j,j<k->Rd S w (xs i j) (get i j):=by
 cases h with
 |nil=>exact .inl ⟨rfl,rfl⟩
 |emp a c=>exact .inr (.inl ⟨a,c,rfl,rfl⟩)
 |sl xs hS g l m o=>exact .inr (.inr ⟨_,_,_,xs,rfl,hS,g,l,m,o⟩)
theorem Rd.od {f n:Nat} {cap:Nat->SV} (h:Rd S w x (.fn f n cap)):
  ∃xs:Nat->Value,x= .func (.func f) #[] ((List.range n).map xs).toArray/\∀j,j<n->Rd S w (xs j) (cap j):=by
 cases h with
 |fn xs a=>exact⟨xs,rfl,a⟩
inductive eJ (S:Nat->Prop) (w:World):List Value->List SV->Prop where
 |nil:eJ S w [] []
 |cons {x:Value} {c:SV} {xs:List Value} {cs:List SV} (h:Rd S w x c) (t:eJ S w xs cs):eJ S w (x::xs) (c::cs)
variable {xs:List Value} {cs:List SV}
theorem eJ.mono (h:∀b,S b->S' b/\w'.heap[b]? =w.heap[b]?) (a:eJ S w xs cs):eJ S' w' xs cs:=by
 induction a with
 |nil=>exact .nil
 |cons c _ f=>exact .cons (c.mono h) f
theorem eJ.length (a:eJ S w xs cs):xs.length=cs.length:=by
 induction a with
 |nil=>rfl
 |cons _ _ b=>simp[b]
theorem eJ.bO (b:eJ S w xs cs):∀x∈xs,x.oneCell'=true:=by
 induction b with
 |nil=>simp
 |cons c _ f=>intro y a;rcases XF.1 a with rfl|a;exact c.bO;exact f y a
theorem eJ.get (a:eJ S w xs cs):∀(j:Nat) (c:SV),cs[j]? =some c->∃x,xs[j]? =some x/\Rd S w x c:=by
 induction a with
 |nil=>intro j c h;simp at h
 |@cons x c xs cs b _ f=>
  intro j g h;cases j with
  |zero=>simp at h;subst h;exact⟨x,by simp,b⟩
  |succ j=>simpa using f j g (by simpa using h)
theorem eJ.set (a:eJ S w xs cs) (j:Nat) (h:Rd S w x c):eJ S w (xs.set j x) (cs.set j c):=by
 induction a generalizing j with
 |nil=>simpa using eJ.nil
 |cons b t f=>
  cases j with
  |zero=>exact .cons h t
  |succ j=>exact .cons b (f j)
variable {ys:List Value}
theorem eJ.append {a:List SV} (b:eJ S w xs cs) (hs:eJ S w ys a):eJ S w (xs++ys) (cs++a):=by
 induction b with
 |nil=>exact hs
 |cons c _ f=>exact .cons c f
theorem eJ.take (a:eJ S w xs cs) (n:Nat):eJ S w (xs.take n) (cs.take n):=by
 induction a generalizing n with
 |nil=>simpa using eJ.nil
 |cons b _ c=>
  cases n with
  |zero=>exact .nil
  |succ n=>exact .cons b (c n)
theorem eJ.drop (a:eJ S w xs cs) (n:Nat):eJ S w (xs.drop n) (cs.drop n):=by
 induction a generalizing n with
 |nil=>simpa using eJ.nil
 |cons b t c=>
  cases n with
  |zero=>exact .cons b t
  |succ n=>exact c n
def setCells {α:Type}:List α->Nat->List α->List α
 |cs,_,[]=>cs
 |cs,i,x::xs=>setCells (cs.set i x) (i+1) xs
def ki {α:Type}:List α->List α->List α
 |cs,[]=>cs
 |[],_::_=>[]
 |_::cs,x::l=>x::ki cs l
def Av {α:Type}:List α->Nat->List α->List α
 |cs,0,l=>ki cs l
 |[],_+1,_=>[]
 |c::cs,i+1,l=>c::Av cs i l
theorem mb {α:Type}:∀(l:List α) (i:Nat),setCells ([]:List α) i l=[]
 |[],_=>rfl
 |x::l,i=>by simp only[setCells,List.set_nil];exact mb l (i+1)
theorem kC {α:Type} (c:α):∀(l cs:List α) (i:Nat),setCells (c::cs) (i+1) l=c::setCells cs i l
 |[],_,_=>rfl
 |x::l,cs,i=>by simp only[setCells,List.set_cons_succ];exact kC c l (cs.set i x) (i+1)
theorem CJ {α:Type}:∀(cs l:List α),ki cs l=setCells cs 0 l
 |cs,[]=>by cases cs<;>rfl
 |[],x::l=>(mb (x::l) 0).symm
 |c::cs,x::l=>by simp only[ki,setCells,List.set_cons_zero];rw[kC,CJ cs l]
theorem oQ {α:Type}:∀(cs:List α) (i:Nat) (l:List α),Av cs i l=setCells cs i l
 |cs,0,l=>by cases cs<;>exact CJ _ l
 |[],i+1,l=>(mb l (i+1)).symm
 |c::cs,i+1,l=>by simp only[Av];rw[kC,oQ cs i l]
theorem eJ.setCells {S:Nat->Prop} {w:World} {ys:List Value} {a:List SV} (hs:eJ S w ys a):∀{xs:List Value} {cs:List SV} (i:Nat),eJ S w xs cs->eJ S w (setCells xs i ys) (setCells cs i a):=by
 induction hs with
 |nil=>intro xs cs i h;exact h
 |cons b _ c=>intro xs cs i h;exact c (i+1) (h.set i b)
theorem eU {α:Type}:∀(ys:List α) (xs:List α) (i:Nat),(setCells xs i ys).length=xs.length
 |[],_,_=>rfl
 |y::ys,xs,i=>by simp[setCells,eU ys]
def nf (S:Nat->Prop) (w:World):Value->DV->Prop
 |x,.one c=>Rd S w x c
 |x,.agg cs=>∃xs,x= .agg xs.toArray/\eJ S w xs cs
theorem nf.mono (h:∀b,S b->S' b/\w'.heap[b]? =w.heap[b]?) {c:DV} (a:nf S w x c):nf S' w' x c:=by
 cases c with
 |one c=>exact Rd.mono h a
 |agg cs=>obtain⟨xs,f,g⟩:=a;exact⟨xs,f,g.mono h⟩
inductive dT (S:Nat->Prop) (w:World):List Value->List DV->Prop where
 |nil:dT S w [] []
 |cons {x:Value} {c:DV} {xs:List Value} {cs:List DV} (h:nf S w x c) (t:dT S w xs cs):dT S w (x::xs) (c::cs)
theorem dT.mono (h:∀b,S b->S' b/\w'.heap[b]? =w.heap[b]?) {cs:List DV} (a:dT S w xs cs):dT S' w' xs cs:=by
 induction a with
 |nil=>exact .nil
 |cons c _ f=>exact .cons (c.mono h) f
theorem dT.length {cs:List DV} (a:dT S w xs cs):xs.length=cs.length:=by
 induction a with
 |nil=>rfl
 |cons _ _ b=>simp[b]
theorem dT.get {cs:List DV} (a:dT S w xs cs):∀(j:Nat) (c:DV),cs[j]? =some c->∃x,xs[j]? =some x/\nf S w x c:=by
 induction a with
 |nil=>intro j c h;simp at h
 |@cons x c xs cs b _ f=>
  intro j g h;cases j with
  |zero=>simp at h;subst h;exact⟨x,by simp,b⟩
  |succ j=>simpa using f j g (by simpa using h)
theorem dT.append {cs a:List DV} (b:dT S w xs cs) (hs:dT S w ys a):dT S w (xs++ys) (cs++a):=by
 induction b with
 |nil=>exact hs
 |cons c _ f=>exact .cons c f
structure Env where
 P:Program
 N:Nat
 w0:World
 S0:Nat->Prop
 hS:∀b,S0 b->b<w0.heap.size
 X:Nat->Prop
 hX:∀b,X b->b<w0.heap.size
 m0:Id->Mem
 ρ0:Id->Option (Nat×Nat)
 yj:∀k,k<=N->m0 (.n k)= .none
 Vv:∀k,k<2000->m0 (.n k)= .none
 VV:∀k i,k<2000->m0 (.s k i)= .none
 B:Nat
structure Below (B:Nat) (w w':World):Prop extends Go.RowKit.Below B w w' where
 drawn:w.drawn<=w'.drawn
theorem Below.refl (B:Nat) (w:World):Below B w w:=⟨Go.RowKit.Below.refl B w,XP _⟩
variable {B:Nat}
theorem Below.alloc (h:Below B w w') (a:B<=w'.heap.size) (o:Obj):Below B w (w'.alloc o):=⟨h.toBelow.alloc a o,h.drawn⟩
theorem Below.drew (h:Below B w w'):Below B w w'.drew:=⟨h.toBelow.drew,Nat.le_succ_of_le h.drawn⟩
structure Bx (B:Nat) (X:Nat->Prop) (w w':World):Prop where
 os:w'.os=w.os
 tape:w'.tape=w.tape
 output:w'.output=w.output
 size:w.heap.size<=w'.heap.size
 block:∀k,k<B->¬X k->w'.heap[k]? =w.heap[k]?
 drawn:w.drawn<=w'.drawn
theorem Bx.refl (B:Nat) (X:Nat->Prop) (w:World):Bx B X w w:=⟨rfl,rfl,rfl,XP _,λ_ _ _=>rfl,XP _⟩
variable {X:Nat->Prop}
theorem Bx.trans {a b c:World} (h:Bx B X a b) (k:Bx B X b c):Bx B X a c:=
 ⟨k.os.trans h.os,k.tape.trans h.tape,k.output.trans h.output,Yf h.size k.size,λi f g=>(k.block i f g).trans (h.block i f g),Yf h.drawn k.drawn⟩
variable {B':Nat}
theorem Bx.mono {a:Nat->Prop} (h:Bx B X w w') (f:B'<=B) (g:∀b,b<B'->X b->a b):Bx B' a w w':=
 ⟨h.os,h.tape,h.output,h.size,λk c i=>h.block k (Yl c f) (λh=>i (g k c h)),h.drawn⟩
theorem Bx.of (h:Below B w w') (a:B'<=B):Bx B' X w w':=⟨h.os,h.tape,h.output,h.size,λk b _=>h.block k (Yl b a),h.drawn⟩
theorem Bx.below (h:Bx B X w w') (a:∀b,¬X b):Below B w w':=⟨⟨h.os,h.tape,h.output,h.size,λk c=>h.block k c (a k)⟩,h.drawn⟩
def L (E:Env) (m:Id->Mem) (ρ:Id->Option (Nat×Nat)) (w:World) (b:Nat):Prop:=
 (E.S0 b\/E.X b\/(E.w0.heap.size<=b/\b<w.heap.size))/\∀o c,(m o).live->ρ o≠some (b,c)
def bh (m:Id->Mem) (ρ:Id->Option (Nat×Nat)) (x:Value) (o:Id) (p:Nat):Prop:=
 match m o with
  | .box _=>∃b c,ρ o=some (b,c)/\x= .pointer (some ⟨b,p,none⟩)
  | .ro _=>∃b c,ρ o=some (b,c)/\x= .pointer (some ⟨b,p,none⟩)
  | .obj _=>∃b c,ρ o=some (b,c)/\x= .pointer (some ⟨b,p,none⟩)
  | .aJ .. =>False
  | .br .. =>False
  | .map _=>∃b c,ρ o=some (b,c)/\x= .map (some b)
  |_=>x.oneCell'=true
def cE (ρ:Id->Option (Nat×Nat)) (x:Value) (o:Id) (n:Nat):Prop:=match ρ o with
 |none=>x= .slice none 0 0
 |some (b,a)=>x= .slice (some ⟨b,0,none⟩) n a
def bF (m:Id->Mem) (ρ:Id->Option (Nat×Nat)) (x:Value) (o:Id) (g:Nat):Prop:=
 x.oneCell'=true/\match m o with
  | .aJ a n _ _ _=>g<=a/\(g=a->cE ρ x o n)
  | .br a n _ _ _=>g<=a/\(g=a->cE ρ x o n)
  |_=>True
def hj (ρ:Id->Option (Nat×Nat)) (x:Value) (o:Id) (k lo n:Nat):Prop:=match ρ o with
 |none=>x= .slice none 0 0
 |some (b,c)=>∃a,x= .slice (some a) n (c-lo)/\(lo<c\/lo=0->a=⟨b,lo*k,none⟩)
def fj (m:Id->Mem) (ρ:Id->Option (Nat×Nat)) (x:Value) (o:Id) (g lo n:Nat):Prop:=
 x.oneCell'=true/\match m o with
  | .aJ a b k _ _=>g<=a/\(g=a->lo+n<=b/\hj ρ x o k lo n)
  | .br a b k _ _=>g<=a/\(g=a->lo+n<=b/\hj ρ x o k lo n)
  |_=>True
def UW (S:Nat->Prop) (m:Id->Mem) (ρ:Id->Option (Nat×Nat)) (w:World) (x:Value):CR->Prop
 | .s c=>Rd S w x c
 | .ptr o p=>bh m ρ x o p
inductive qP (S:Nat->Prop) (m:Id->Mem) (ρ:Id->Option (Nat×Nat)) (w:World):List Value->List CR->Prop where
 |nil:qP S m ρ w [] []
 |cons {x:Value} {c:CR} {xs:List Value} {cs:List CR} (h:UW S m ρ w x c) (t:qP S m ρ w xs cs):qP S m ρ w (x::xs) (c::cs)
inductive yu (f:FuncId) (xs:List Value):Value->Prop where
 |plain (h:Nat.blt f 10000000=true):yu f xs (.func (.func f) #[] xs.toArray)
 |bound (g:FuncId) (h:f=g+10000000):yu f xs (.func (.func g) xs.toArray #[])
theorem yu.inv {f:FuncId} (h:yu f xs x) (a:Nat.blt f 10000000=true):x= .func (.func f) #[] xs.toArray:=by
 cases h with
 |plain=>rfl
 |bound g h=>subst h;exact absurd (show g+10000000<10000000 from XJ a) (Xm.2 (Nat.le_add_left _ _))
theorem yu.Vt {f:FuncId} (h:yu f xs x) (a:Nat.blt f 10000000=false):∃g,f=g+10000000/\x= .func (.func g) xs.toArray #[]:=by
 cases h with
 |plain h=>rw[a]at h;cases h
 |bound g h=>exact⟨g,h,rfl⟩
def jZ (S:Nat->Prop) (m:Id->Mem) (ρ:Id->Option (Nat×Nat)) (w:World) (x:Value) (f:FuncId) (a:List CR):Prop:=
 ∃xs:List Value,yu f xs x/\qP S m ρ w xs a
def kR (S:Nat->Prop) (m:Id->Mem) (ρ:Id->Option (Nat×Nat)) (w:World) (x:Value):CV->Prop
 | .s c=>Rd S w x c
 | .ptr o p=>bh m ρ x o p
 | .aL o g=>bF m ρ x o g
 | .cV f a=>jZ S m ρ w x f a
inductive fU (S:Nat->Prop) (m:Id->Mem) (ρ:Id->Option (Nat×Nat)) (w:World):List Value->List CV->Prop where
 |nil:fU S m ρ w [] []
 |cons {x:Value} {c:CV} {xs:List Value} {cs:List CV} (h:kR S m ρ w x c) (t:fU S m ρ w xs cs):fU S m ρ w (x::xs) (c::cs)
def CR.refs:CR->Id->Prop
 | .ptr o _,a=>o=a
 |_,_=>False
def CV.refs:CV->Id->Prop
 | .ptr o _,a=>o=a
 | .aL o _,a=>o=a
 | .cV _ b,a=>∃c∈b,c.refs a
 |_,_=>False
def Mem.refs:Mem->Id->Prop
 | .obj cs,a=>∃c∈cs,c.refs a
 | .br _ n k _ b,a=>∃i j,i<n/\j<k/\(b i j).refs a
 |_,_=>False
def qI (l:List Int):Value:= .agg (l.map (Value.int .i64)).toArray
def zT (a:List MapEntry) (ks:List (List Int)):Prop:=a.map (λe=>(e.key,e.val))=ks.map (λl=>(qI l,.bool true))
def iJ (E:Env) (m:Id->Mem) (ρ:Id->Option (Nat×Nat)) (w:World) (o:Id):Mem->Prop
 | .none=>True
 | .dead=>True
 | .ro cs=>∃b c xs e,ρ o=some (b,c)/\L E m ρ w b/\w.heap[b]? =some (.cells xs.toArray e (0,0))/\eJ (L E m ρ w) w xs cs
 | .box cs=>∃b c xs e,ρ o=some (b,c)/\w.heap[b]? =some (.cells xs.toArray e (0,0))/\eJ (L E m ρ w) w xs cs
 | .aJ _ n k e g=>(ρ o=none/\n=0)\/∃b a f,ρ o=some (b,a)/\w.heap[b]? =some (.cells f e (0,0))/\f.size=a*k/\n<=a/\a<=maxLen/\
   ∀i,i<n->∀j,j<k->∃x,f[i*k+j]? =some x/\Rd (L E m ρ w) w x (g i j)
 | .obj cs=>∃b c xs e,ρ o=some (b,c)/\w.heap[b]? =some (.cells xs.toArray e (0,0))/\fU (L E m ρ w) m ρ w xs cs
 | .br _ n k e g=>(ρ o=none/\n=0)\/∃b a f,ρ o=some (b,a)/\w.heap[b]? =some (.cells f e (0,0))/\f.size=a*k/\n<=a/\a<=maxLen/\
   ∀i,i<n->∀j,j<k->∃x,f[i*k+j]? =some x/\kR (L E m ρ w) m ρ w x (g i j)
 | .map l=>∃b c h p,ρ o=some (b,c)/\w.heap[b]? =some (.map h p)/\zT h.toList l
def dm (E:Env) (m:Id->Mem) (ρ:Id->Option (Nat×Nat)) (w:World) (x:Value):TV->Prop
 | .any=>True
 | .undef=>x=Go.undef
 | .d v=>nf (L E m ρ w) w x v
 | .eG h=>∃xs,x= .tuple xs.toArray/\dT (L E m ρ w) w xs h
 | .ptr o p=>bh m ρ x o p
 | .aL o g=>bF m ρ x o g
 | .ep o g i j=>match m o with
  | .aJ a n k _ _=>g<=a/\(g=a->i<n/\∃b c,ρ o=some (b,c)/\x= .pointer (some ⟨b,i*k+j,none⟩))
  | .br a n k _ _=>g<=a/\(g=a->i<n/\∃b c,ρ o=some (b,c)/\x= .pointer (some ⟨b,i*k+j,none⟩))
  |_=>True
 | .sub o g l n=>fj m ρ x o g l n
 | .nb n q=>∃b:Bool,x= .bool (b !=q)/\(b=true->n=0)
 | .cV f r=>jZ (L E m ρ w) m ρ w x f r
 | .jw o h=>∃y xs,x= .tuple (y::xs).toArray/\bh m ρ y o 0/\dT (L E m ρ w) w xs h
 | .r3 cs=>∃xs:List Value,x= .agg xs.toArray/\fU (L E m ρ w) m ρ w xs cs
def TV.refs:TV->Id->Prop
 | .ptr o _,a=>o=a
 | .aL o _,a=>o=a
 | .jw o _,a=>o=a
 | .r3 cs,a=>∃c∈cs,c.refs a
 | .ep o _ _ _,a=>o=a
 | .sub o _ _ _,a=>o=a
 | .cV _ b,a=>∃c∈b,c.refs a
 |_,_=>False
structure Carry (m m':Id->Mem) (ρ ρ':Id->Option (Nat×Nat)) (o:Id):Prop where
 ptr:∀x p,bh m ρ x o p->bh m' ρ' x o p
 aL:∀x g,bF m ρ x o g->bF m' ρ' x o g
structure SH (m m':Id->Mem) (ρ ρ':Id->Option (Nat×Nat)) (o:Id):Prop where
 ptr:∀x p,bh m ρ x o p->bh m' ρ' x o p
 aL:∀x,(m' o).gen=1->bF m ρ x o 1->bF m' ρ' x o 1
structure Own (E:Env) (ρ:Id->Option (Nat×Nat)) (m:Id->Mem) (w:World):Prop where
 below:Bx E.w0.heap.size E.X E.w0 w
 inj:∀o o' b c c',(m o).live->(m o').live->ρ o=some (b,c)->ρ o'=some (b,c')->o=o'
 lo:∀o b c,(m o).live->ρ o=some (b,c)->(E.X b\/E.w0.heap.size<=b)/\b<w.heap.size
 cleanM:∀o o',(m o).refs o'->m o'≠ .none
 mem:∀o,iJ E m ρ w o (m o)
 carry:∀o,E.m0 o≠ .none->SH E.m0 m E.ρ0 ρ o
inductive Marks (E:Env) (m:Id->Mem) (ρ:Id->Option (Nat×Nat)) (w:World):List Deferred->Prop where
 |nil:Marks E m ρ w []
 |cons {b:Nat} {ds:List Deferred} (h0:E.B<=b) (hL:L E m ρ w b) (h:w.heap[b]? =some (.deferred (some []))) (hn:∀d∈ds,d.target≠ .collected b) (r:Marks E m ρ w ds):
   Marks E m ρ w ({target:= .collected b,args:=#[]}::ds)
variable {E:Env} {m m':Id->Mem} {ρ ρ':Id->Option (Nat×Nat)}
theorem Marks.mono (a:∀b,L E m ρ w b->L E m' ρ' w' b/\w'.heap[b]? =w.heap[b]?) {c:List Deferred} (h:Marks E m ρ w c):Marks E m' ρ' w' c:=by
 induction h with
 |nil=>exact .nil
 |cons g f i j _ k=>exact .cons g (a _ f).1 ((a _ f).2.trans i) j k
structure Rel (E:Env) (ρ:Id->Option (Nat×Nat)) (t:Nat->TV) (m:Id->Mem) (a:Act) (w:World):Prop extends Own E ρ m w where
 defers:Marks E m ρ w a.defers
 size:a.tmps.size=E.N
 clean:∀i o,(t i).refs o->m o≠ .none
 slots:∀i,dm E m ρ w (a.tmps.getD i Go.undef) (t i)
def pM (t:Nat->TV) (d:Option Nat) (x:TV):Nat->TV:=match d with
 |some k=>bo t k x
 |none=>t
def cI (m:Id->Mem):List (Id×Mem)->Id->Mem
 |[]=>m
 |p::r=>cI (bo m p.1 p.2) r
theorem bh.bO {o:Id} {p:Nat} (h:bh m ρ x o p):x.oneCell'=true:=by
 unfold bh at h;split at h<;>first|(obtain⟨b,c,_,rfl⟩:=h;rfl)|exact h.elim|exact h
theorem kR.bO {c:CV} (h:kR S m ρ w x c):x.oneCell'=true:=by
 cases c with
 |s c=>exact Rd.bO h
 |ptr o p=>exact bh.bO h
 |aL o g=>exact h.1
 |cV f a=>obtain⟨xs,h,_⟩:=h;cases h<;>rfl
theorem Carry.same {o:Id} (a:m' o=m o) (h2:ρ' o=ρ o):Carry m m' ρ ρ' o:=by
 refine⟨λx p h=>?_,λx g h=>?_⟩;simp only[bh,a,h2]at h|-;exact h;simp only[bF,cE,a,h2]at h|-;exact h
section
variable {S S':Nat->Prop} {m m':Id->Mem} {ρ ρ':Id->Option (Nat×Nat)} {w w':World}
theorem UW.mono (a:∀b,S b->S' b/\w'.heap[b]? =w.heap[b]?) {c:CR} (f:∀o,c.refs o->Carry m m' ρ ρ' o) (h:UW S m ρ w x c):UW S' m' ρ' w' x c:=by
 cases c with
 |s c=>exact Rd.mono a h
 |ptr o p=>exact(f o rfl).ptr x p h
theorem qP.mono (i:∀b,S b->S' b/\w'.heap[b]? =w.heap[b]?) {cs:List CR} (h:qP S m ρ w xs cs):(∀o,(∃c∈cs,c.refs o)->Carry m m' ρ ρ' o)->qP S' m' ρ' w' xs cs:=by
 induction h with
 |nil=>intro _;exact .nil
 |cons a _ j=>intro g;exact .cons (a.mono i (λo f=>g o ⟨_,by simp,f⟩)) (j (λo ⟨c,k,f⟩=>g o ⟨c,by simp[k],f⟩))
theorem jZ.mono (g:∀b,S b->S' b/\w'.heap[b]? =w.heap[b]?) {f:FuncId} {a:List CR} (i:∀o,(∃c∈a,c.refs o)->Carry m m' ρ ρ' o) (h:jZ S m ρ w x f a):jZ S' m' ρ' w' x f a:=by
 obtain⟨xs,j,k⟩:=h;exact⟨xs,j,k.mono g i⟩
theorem kR.mono (i:∀b,S b->S' b/\w'.heap[b]? =w.heap[b]?) {c:CV} (a:∀o,c.refs o->Carry m m' ρ ρ' o) (h:kR S m ρ w x c):kR S' m' ρ' w' x c:=by
 cases c with
 |s c=>exact Rd.mono i h
 |ptr o p=>exact(a o rfl).ptr x p h
 |aL o g=>exact(a o rfl).aL x g h
 |cV f j=>exact jZ.mono i a h
theorem fU.mono (i:∀b,S b->S' b/\w'.heap[b]? =w.heap[b]?) {cs:List CV} (h:fU S m ρ w xs cs):(∀o,(∃c∈cs,c.refs o)->Carry m m' ρ ρ' o)->fU S' m' ρ' w' xs cs:=by
 induction h with
 |nil=>intro _;exact .nil
 |cons a _ j=>intro g;exact .cons (a.mono i (λo f=>g o ⟨_,by simp,f⟩)) (j (λo ⟨c,k,f⟩=>g o ⟨c,by simp[k],f⟩))
end
theorem dm.mono {v:TV}
  (k:∀b,L E m ρ w b->L E m' ρ' w' b/\w'.heap[b]? =w.heap[b]?)
  (j:∀o,v.refs o->m' o=m o/\ρ' o=ρ o) (h:dm E m ρ w x v):dm E m' ρ' w' x v:=by
 cases v with
 |any=>trivial
 |undef=>exact h
 |d v=>exact nf.mono k h
 |eG q=>obtain⟨xs,a,c⟩:=h;exact⟨xs,a,c.mono k⟩
 |ptr o p=>obtain⟨a,c⟩:=j o rfl;exact(Carry.same a c).ptr x p h
 |aL o g=>obtain⟨a,c⟩:=j o rfl;exact(Carry.same a c).aL x g h
 |sub o g z n=>obtain⟨a,c⟩:=j o rfl;simp only[dm,fj,hj,a,c]at h|-;exact h
 |nb n neg=>exact h
 |ep o g i A=>obtain⟨a,c⟩:=j o rfl;simp only[dm,a,c]at h|-;exact h
 |cV f B=>exact jZ.mono k (λo l=>Carry.same (j o l).1 (j o l).2) h
 |jw o q=>obtain⟨y,xs,a,c,r⟩:=h;obtain⟨t,u⟩:=j o rfl;exact⟨y,xs,a,(Carry.same t u).ptr y 0 c,r.mono k⟩
 |r3 cs=>obtain⟨xs,a,c⟩:=h;exact⟨xs,a,c.mono k (λo l=>Carry.same (j o l).1 (j o l).2)⟩
theorem iJ.mono {o:Id} {v:Mem}
  (q:∀b,L E m ρ w b->L E m' ρ' w' b/\w'.heap[b]? =w.heap[b]?)
  (p:ρ' o=ρ o) (hw:v.live->∀b c,ρ o=some (b,c)->w'.heap[b]? =w.heap[b]?) (G:∀t,v.refs t->Carry m m' ρ ρ' t) (h:iJ E m ρ w o v):iJ E m' ρ' w' o v:=by
 cases v with
 |none=>trivial
 |dead=>trivial
 |ro cs=>obtain⟨b,c,xs,e,a,H,f,l⟩:=h;exact⟨b,c,xs,e,by rw[p,a],(q b H).1,by rw[(q b H).2,f],l.mono q⟩
 |box cs=>obtain⟨b,c,xs,e,a,f,l⟩:=h;exact⟨b,c,xs,e,by rw[p,a],by rw[hw trivial b c a,f],l.mono q⟩
 |aJ g n k e I=>rcases h with⟨a,f⟩|⟨b,r,z,a,f,l,A,B,C⟩;exact .inl ⟨by rw[p,a],f⟩;refine .inr ⟨b,r,z,by rw[p,a],by rw[hw trivial b r a,f],l,A,B,λi u j y=>?_⟩;obtain⟨x,D,F⟩:=C i u j y;exact⟨x,D,F.mono q⟩
 |obj cs=>obtain⟨b,c,xs,e,a,f,l⟩:=h;exact⟨b,c,xs,e,by rw[p,a],by rw[hw trivial b c a,f],l.mono q G⟩
 |br g n k e I=>rcases h with⟨a,f⟩|⟨b,r,z,a,f,l,A,B,C⟩;exact .inl ⟨by rw[p,a],f⟩;refine .inr ⟨b,r,z,by rw[p,a],by rw[hw trivial b r a,f],l,A,B,λi u j y=>?_⟩;obtain⟨x,D,F⟩:=C i u j y;exact⟨x,D,F.mono q (λt J=>G t ⟨i,j,u,y,J⟩)⟩
 |map N=>obtain⟨b,c,K,M,a,f,l⟩:=h;exact⟨b,c,K,M,by rw[p,a],by rw[hw trivial b c a,f],l⟩
theorem My (a:Act) (d:Nat) (v:Value) (b:d<a.tmps.size) (i:Nat):
  (a.put (some d) v).tmps.getD i Go.undef=if i=d then v else a.tmps.getD i Go.undef:=by
 simp only[Act.put,Yz,ZV];by_cases h:d=i;subst h;simp[b];have c:i≠d:=λe=>h e.symm;simp[h,c]
theorem Rel.put {t:Nat->TV} {a:Act} (h:Rel E ρ t m a w) {d:Option Nat} (f:∀k,d=some k->k<E.N) {v:Value} {x:TV}
  (g:dm E m ρ w v x) (j:∀o,x.refs o->m o≠ .none):Rel E ρ (pM t d x) m (a.put d v) w:=by
 cases d with
 |none=>exact h
 |some k=>have l:k<a.tmps.size:=(by rw[h.size];exact f k rfl);refine{below:=h.below,defers:=h.defers,size:=?_,inj:=h.inj,lo:=h.lo,clean:=?_,cleanM:=h.cleanM,mem:=h.mem,slots:=?_,carry:=h.carry};simp[Act.put,h.size];intro i o c;by_cases b:i=k;subst b;simp only[pM,ar]at c;exact j o c;simp only[pM,av _ _ _ b]at c;exact h.clean i o c;intro i;rw[My a k v l];by_cases b:i=k;subst b;simp only[pM,ar,WH];exact g;simp only[pM,av _ _ _ b,b,Z3];exact h.slots i
theorem Rel.one {t:Nat->TV} {a:Act} (h:Rel E ρ t m a w) (o:Id) (nm:Mem) (nr:Option (Nat×Nat))
  (R:Bx E.w0.heap.size E.X w w')
  (F:∀b,L E m ρ w b->L E (bo m o nm) (bo ρ o nr) w' b/\w'.heap[b]? =w.heap[b]?)
  (V:∀q b c,q≠o->(m q).live->ρ q=some (b,c)->w'.heap[b]? =w.heap[b]?)
  (P:nm.live->∀b c,nr=some (b,c)->((E.X b\/E.w0.heap.size<=b)/\b<w'.heap.size)/\∀q M,q≠o->(m q).live->ρ q≠some (b,M))
  (S:nm≠ .none)
  (X:∀q,nm.refs q->q=o\/m q≠ .none)
  (yj:m o= .none->E.m0 o= .none)
  (Y:nm.gen=1->(m o).gen=1)
  (Z:iJ E (bo m o nm) (bo ρ o nr) w' o nm)
  (a0:m o≠ .none->Carry m (bo m o nm) ρ (bo ρ o nr) o)
  (a1:∀x g i N,m o≠ .none->dm E m ρ w x (.ep o g i N)->dm E (bo m o nm) (bo ρ o nr) w' x (.ep o g i N))
  (a2:∀x g lo n,m o≠ .none->fj m ρ x o g lo n->fj (bo m o nm) (bo ρ o nr) x o g lo n):
  Rel E (bo ρ o nr) t (bo m o nm) a w':=by
 have H:∀q,m q≠ .none->Carry m (bo m o nm) ρ (bo ρ o nr) q:=λq O=>by by_cases e:q=o;subst e;exact a0 O;exact Carry.same (av _ _ _ e) (av _ _ _ e)
 refine{below:=h.below.trans R,defers:=h.defers.mono F,size:=h.size,inj:=?inj,lo:=?lo,clean:=?clean,cleanM:=?cleanM,mem:=?mem,slots:=?slots,carry:=?carry}
 case inj=>
  intro j z b c M B J C K;by_cases k:j=o;subst k;rw[ar]at B C;by_cases D:z=j;exact D.symm;rw[av _ _ _ D]at J K;exact absurd K ((P B b c C).2 z M D J);rw[av _ _ _ k]at B C;by_cases D:z=o;subst D;rw[ar]at J K;exact absurd C ((P J b M K).2 j c k B);rw[av _ _ _ D]at J K;exact h.inj j z b c M B J C K
 case lo=>
  intro j b c B C;by_cases k:j=o;subst k;rw[ar]at B C;exact(P B b c C).1;rw[av _ _ _ k]at B C;obtain⟨I,A⟩:=h.lo j b c B C;exact⟨I,Yl A R.size⟩
 case clean=>
  intro i j r;by_cases k:j=o;subst k;rw[ar];exact S;rw[av _ _ _ k];exact h.clean i j r
 case cleanM=>
  intro j z r;by_cases D:z=o;subst D;rw[ar];exact S;rw[av _ _ _ D];by_cases k:j=o;subst k;rw[ar]at r;exact(X z r).resolve_left D;rw[av _ _ _ k]at r;exact h.cleanM j z r
 case mem=>
  intro j;by_cases k:j=o;subst k;rw[ar];exact Z;rw[av m _ _ k];exact(h.mem j).mono F (av _ _ _ k) (λl b c r=>V j b c k l r) (λz r=>H z (h.cleanM j z r))
 case slots=>
  intro i;have u:=h.slots i;have G:=h.clean i;generalize t i=v at u G;cases v with
  |any=>trivial
  |undef=>exact u
  |d v=>exact nf.mono F u
  |eG a3=>obtain⟨xs,I,A⟩:=u;exact⟨xs,I,A.mono F⟩
  |ptr j p=>exact(H j (G j rfl)).ptr _ p u
  |aL j g=>exact(H j (G j rfl)).aL _ g u
  |ep j g i N=>by_cases k:j=o;subst k;exact a1 _ g i N (G _ rfl) u;exact dm.mono F (λz A=>by cases A;exact⟨av _ _ _ k,av _ _ _ k⟩) u
  |sub j g lo n=>by_cases k:j=o;subst k;exact a2 _ g lo n (G _ rfl) u;exact dm.mono F (λz A=>by cases A;exact⟨av _ _ _ k,av _ _ _ k⟩) u
  |nb n neg=>exact u
  |cV f a8=>exact jZ.mono F (λj r=>H j (G j r)) u
  |jw j a3=>obtain⟨y,xs,I,A,a4⟩:=u;exact⟨y,xs,I,(H j (G j rfl)).ptr _ 0 A,a4.mono F⟩
  |r3 cs=>obtain⟨xs,I,A⟩:=u;exact⟨xs,I,A.mono F (λj r=>H j (G j r))⟩
 case carry=>
  intro j O;have T:=h.carry j O;have a5:m j≠ .none\/j≠o:=(by by_cases k:j=o;subst k;exact .inl (λe=>O (yj e));exact .inr k);have U:Carry m (bo m o nm) ρ (bo ρ o nr) j:=(by by_cases k:j=o;exact H j (a5.resolve_right (λh=>h k));exact Carry.same (av _ _ _ k) (av _ _ _ k));refine⟨λx p a6=>U.ptr x p (T.ptr x p a6),λx Q a7=>U.aL x 1 (T.aL x ?_ a7)⟩;by_cases k:j=o;subst k;rw[ar]at Q;exact Y Q
  ·rwa [av _ _ _ k]at Q
theorem Rel.grow {t:Nat->TV} {a:Act} (h:Rel E ρ t m a w) (f:Below w.heap.size w w'):Rel E ρ t m a w':=by
 have k:∀b,L E m ρ w b->b<w.heap.size:=λb f=>by rcases f.1 with h1|h1|h1;exact Yl (E.hS b h1) h.below.size;exact Yl (E.hX b h1) h.below.size;exact h1.2
 have g:∀b,L E m ρ w b->L E m ρ w' b/\w'.heap[b]? =w.heap[b]?:=λb j=>
  ⟨⟨j.1.imp id (λh1=>h1.imp id (λh1=>⟨h1.1,Yl h1.2 f.size⟩)),j.2⟩,f.block b (k b j)⟩
 refine{below:=h.below.trans (Bx.of f h.below.size),defers:=h.defers.mono g,size:=h.size,inj:=h.inj,lo:=?_,clean:=h.clean,cleanM:=h.cleanM,mem:=?_,slots:=?_,carry:=h.carry};intro o b c l r;obtain⟨h1,p⟩:=h.lo o b c l r;exact⟨h1,Yl p f.size⟩;intro o;exact(h.mem o).mono g rfl (λl b c q=>f.block b (h.lo o b c l q).2) (λ_ _=>Carry.same rfl rfl);intro i;exact(h.slots i).mono g (λ_ _=>⟨rfl,rfl⟩)
inductive TK where
 |int (k:IntKind)
 |str (fs:List (Nat×TypeId×Nat))
 |arr (n:Nat) (e:TypeId)
 |ju (e:TypeId)
 |cell
structure Ty where
 size:Nat
 bytes:Nat
 kind:TK
 zero:List SV
def TK.isAgg:TK->Bool
 | .str _=>true
 | .arr _ _=>true
 |_=>false
def zs:TypeDesc->Bool
 | .struct _=>true
 | .array _ _=>true
 |_=>false
structure cW (P:Program) (t:TypeId) (T:Ty):Prop where
 info:∃i z,P.info? t=some i/\i.size=T.size/\i.bytes=T.bytes/\i.zero=some z/\z.cells.toList.map SV.v=T.zero/\z.cells.toList.all (·.oneCell')=true/\z.cells.size=T.size
 kind:match T.kind with
  | .int k=>P.underlying t=some (.int k)
  | .str fs=>∃F,P.underlying t=some (.struct F)/\F.toList.map (λf=>(f.offset,f.type,P.cellsOf f.type))=fs/\F.toList.mapM (λf=>(P.info? f.type).map λi=>(f.offset,i.size))=some (fs.map λx=>(x.1,x.2.2))
  | .arr n e=>P.underlying t=some (.array n e)
  | .ju e=>P.underlying t=some (.slice e)
  | .cell=>∃d,P.underlying t=some d/\zs d=false
abbrev iu:=TypeId->Option Ty
def cC (P:Program) (TT:iu):Prop:=∀t T,TT t=some T->cW P t T
structure aj (p K:Prop):Prop where
 p:p
 k:K
structure ab (b:Bool) (K:Bool->Prop):Prop where
 tt:b=true->K true
 ff:b=false->K false
structure NN {α:Type} (x:α) (K:α->Prop):Prop where
 h:∃y,x=y/\K y
theorem NN.elim {α:Type} {x:α} {K:α->Prop} (h:NN x K):K x:=by obtain⟨y,e,k⟩:=h.h;exact e▸k
structure kv (A B:Prop):Prop where
 h:A\/B
variable {A B:Prop}
theorem kv.l (h:A):kv A B:=⟨.inl h⟩
theorem kv.r (h:B):kv A B:=⟨.inr h⟩
def ea (m:Id->Mem) (o:Id) (K:Mem->Prop):Prop:=
 match o with
 | .n k=>K (m (.n k))
 | .s k i=>NN (m (.s k i)) K
variable {m:Id->Mem} {K:Mem->Prop}
theorem C8 {o:Id} (h:K (m o)):ea m o K:=by
 cases o with
 |n k=>exact h
 |s k i=>exact⟨_,rfl,h⟩
theorem bp {o:Id} (h:ea m o K):K (m o):=by
 cases o with
 |n k=>exact h
 |s k i=>exact NN.elim h
theorem ab.elim {b:Bool} {K:Bool->Prop} (h:ab b K):K b:=by
 cases b with
 |true=>exact h.tt rfl
 |false=>exact h.ff rfl
def U8:Value->TV
 | .int k n=> .d (.one (.v (.int k n)))
 | .bool b=> .d (.one (.v (.bool b)))
 | .string s=> .d (.one (.v (.string s)))
 | .slice none 0 0=> .d (.one (.v (.slice none 0 0)))
 | .pointer none=> .d (.one (.v (.pointer none)))
 | .nilFunc=> .d (.one (.v .nilFunc))
 | .float k b=> .d (.one (.v (.float k b)))
 |_=> .any
def bG (t:Nat->TV):Operand->TV
 | .tmp s=>t s
 | .const v=>U8 v
 | .func f=> .d (.one (.fn f 0 λ_=> .v Go.undef))
 | .global _=> .any
def TV.force (x:TV) (K:TV->Prop):Prop:=
 match x with
 | .any=>K .any
 | .undef=>K .undef
 | .d (.one (.v y))=>K (.d (.one (.v y)))
 | .d (.one (.sl n k g))=>K (.d (.one (.sl n k g)))
 | .d (.one (.ad m c))=>K (.d (.one (.ad m c)))
 | .d (.one (.fn f n c))=>K (.d (.one (.fn f n c)))
 | .d (.agg a)=>K (.d (.agg a))
 | .eG b=>K (.eG b)
 | .ptr o p=>K (.ptr o p)
 | .aL o g=>K (.aL o g)
 | .ep o g i f=>K (.ep o g i f)
 | .sub o g h n=>K (.sub o g h n)
 | .nb n neg=>K (.nb n neg)
 | .cV f c=>K (.cV f c)
 | .jw o b=>K (.jw o b)
 | .r3 a=>K (.r3 a)
theorem TV.pr {x:TV} {K:TV->Prop}:x.force K↔K x:=by
 unfold TV.force;split<;>exact ZC
def cells:Nat->(Nat->SV)->List SV
 |0,_=>[]
 |n+1,f=>f 0::cells n λi=>f (i+1)
abbrev fh:=TV->List (Id×Mem)->List Nat->Prop
def CR.tv:CR->TV
 | .s c=> .d (.one c)
 | .ptr o p=> .ptr o p
def CV.tv:CV->TV
 | .s c=> .d (.one c)
 | .ptr o p=> .ptr o p
 | .aL o g=> .aL o g
 | .cV f a=> .cV f a
def CV.UX (c:CV) (K:TV->Prop):Prop:=
 match c with
 | .s c=>(TV.d (.one c)).force K
 | .ptr o p=>K (.ptr o p)
 | .aL o g=>K (.aL o g)
 | .cV f a=>K (.cV f a)
theorem CV.zX {c:CV} {K:TV->Prop}:c.UX K↔K c.tv:=by
 unfold CV.UX;split;rw[TV.pr];exact ZC;all_goals exact ZC
def GG:List CV->(List SV->Prop)->Prop
 |[],K=>K []
 |c::r,K=>match c with
  | .s c=>GG r λl=>K (c::l)
  |_=>False
def TV.VZ (x:TV) (K:CV->Prop):Prop:=
 match x with
 | .ptr o p=>K (.ptr o p)
 | .aL o g=>K (.aL o g)
 | .cV f a=>K (.cV f a)
 |_=>False
def mZ (T:Ty) (cs:List SV) (K:TV->Prop):Prop:=
 match T.kind.isAgg with
 |true=>K (.d (.agg cs))
 |false=>match cs with
  |[c]=>(TV.d (.one c)).force K
  |_=>False
def TV.xF (x:TV) (K:List SV->Prop):Prop:=
 match x with
 | .d (.one c)=>K [c]
 | .d (.agg a)=>K a
 |_=>False
def Mf:IntKind->Nat
 | .i8=>0
 | .i16=>1
 | .i32=>2
 | .i64=>3
 | .u8=>4
 | .u16=>5
 | .u32=>6
 | .u64=>7
theorem Me {a b:IntKind} (h:Nat.beq (Mf a) (Mf b)=true):a=b:=by
 have:=XE h;cases a<;>cases b<;>first|rfl|(simp[Mf]at this)
def Su (c:BinOp) (a b:TV) (K:TV->Prop):Prop:=
 match a with
 | .d (.one (.v (.int k x)))=>match b with
  | .d (.one (.v (.int f y)))=>bif Nat.beq (Mf k) (Mf f)then(match c with
   | .add=>K (.d (.one (.v (.int k (k.wrap (x+y))))))
   | .sub=>K (.d (.one (.v (.int k (k.wrap (x-y))))))
   | .mul=>K (.d (.one (.v (.int k (k.wrap (x*y))))))
   | .quo=>aj (y≠0) (K (.d (.one (.v (.int k (k.wrap (x.tdiv y)))))))
   | .rem=>aj (y≠0) (K (.d (.one (.v (.int k (x.tmod y))))))
   | .eql=>K (aD (x==y))
   | .neq=>K (aD (x !=y))
   | .lss=>K (aD (decide (x<y)))
   | .leq=>K (aD (decide (x<=y)))
   | .gtr=>K (aD (decide (x>y)))
   | .geq=>K (aD (decide (x>=y)))
   |_=>False)else False
  |_=>False
 | .d (.one (.v (.string x)))=>match b with
  | .d (.one (.v (.string y)))=>match c with
   | .eql=>K (aD (x.toList==y.toList))
   | .neq=>K (aD (!(x.toList==y.toList)))
   |_=>False
  |_=>False
 |_=>False
def xT (P:Program) (T:TypeId) (xs f:List SV) (b:Bool):Prop:=
 P.eqGuardType P.depth T=false/\∀(S:Nat->Prop) (w:World) (a c:List Value),eJ S w a xs->eJ S w c f->(Op.equal T (.agg a.toArray) (.agg c.toArray)).run P w= .ok b w
structure tB (P:Program) (T:TypeId) (xs ys:List SV) (K:Bool->Prop):Prop where
 h:∃b,xT P T xs ys b/\K b
def Ej (S:Nat->Prop) (w:World) (x:Value):TV->Prop
 | .d v=>nf S w x v
 | .eG b=>∃a,x= .tuple a.toArray/\dT S w a b
 |_=>False
def Enters (P:Program) (f:FuncId):Prop:=∃a,P.funcs[f]? =some a/\(a.name== "runtime.NumGoroutine")=false/\a.body.isNone=false
def kM (P:Program) (f:FuncId) (args:List DV) (r:TV):Prop:=
 Enters P f/\∀(w:World) (S:Nat->Prop) (c:List Value),(∀b,S b->b<w.heap.size)->dT S w c args->
  Calls P f c.toArray w λe a=>∃v,e= .returned v/\Below w.heap.size w a/\Ej (λb=>S b\/(w.heap.size<=b/\b<a.heap.size)) a v r
def jF:Nat->List Mem->Id->Mem
 |_,[]=>λ_=> .none
 |k,x::r=>bo (jF (k+1) r) (.n k) x
abbrev fF (a:List Mem) (fr:Mem):Id->Mem:=bo (jF 2000 a) (.n 3000) fr
inductive jV (E:Env) (m:Id->Mem) (ρ:Id->Option (Nat×Nat)) (w:World):List Value->List TV->Prop where
 |nil:jV E m ρ w [] []
 |cons {x:Value} {t:TV} {xs:List Value} {ts:List TV} (h:dm E m ρ w x t) (r:jV E m ρ w xs ts):jV E m ρ w (x::xs) (t::ts)
def Mem.kind:Mem->Nat
 | .box _=>1
 | .ro _=>1
 | .obj _=>1
 | .aJ _ _ k _ _=>k+2
 | .br _ _ k _ _=>k+2
 |_=>0
def Mem.Mg:Mem->Bool
 | .dead=>true
 |_=>false
def Dd:List Mem->List Mem->Bool
 |[],[]=>true
 |x::r,y::a=>(y.Mg||(Nat.beq y.kind x.kind&&Nat.blt 0 x.kind))&&Dd r a
 |_,_=>false
def CV.cur (m:Id->Mem):CV->Prop
 | .aL o g=>g=(m o).gen
 |_=>True
def Mem.cur (m:Id->Mem):Mem->Prop
 | .obj a=>∀c∈a,c.cur m
 | .br _ n k _ b=>∀i,i<n->∀j,j<k->(b i j).cur m
 |_=>True
def TV.cur (m:Id->Mem):TV->Prop
 | .aL o g=>g=(m o).gen
 |_=>True
structure oC (P:Program) (f:FuncId) (args:List TV) (ms:List Mem) (r:TV) (gF:List Mem) (fr:Mem):Prop where
 enters:Enters P f
 De:Dd ms gF=true
 cur:r.cur (fF gF fr)
 th:∀o,(fF gF fr o).cur (fF gF fr)
 closed:∀o o',(jF 2000 ms o).refs o'->jF 2000 ms o'≠ .none
 fS:∀x∈args,∀o',x.refs o'->jF 2000 ms o'≠ .none
 clean:∀o,r.refs o->fF gF fr o≠ .none
 calls:∀(E:Env) (vs:List Value),E.P=P->E.m0=jF 2000 ms->Own E E.ρ0 E.m0 E.w0->jV E E.m0 E.ρ0 E.w0 vs args->
  Calls P f vs.toArray E.w0 λe w'=>∃v ρ',e= .returned v/\Own E ρ' (fF gF fr) w'/\dm E (fF gF fr) ρ' w' v r
def pJ (a:List Id) (d:Id):Id->Id
 | .n k=>bif Nat.beq k 3000 then d else a.getD (k-2000) d
 | .s k i=> .s k i
def wo (m:Id->Mem) (a:List Id) (d:Id) (b:List Mem) (o:Id):Nat:=
 match o with
 | .n k=>bif Nat.beq k 3000 then 0 else bif Nat.beq ((b.getD (k-2000) .none).gen) 1 then(m (a.getD (k-2000) d)).gen else(m (a.getD (k-2000) d)).gen+2
 | .s _ _=>0
section
variable (σ:Id->Id) (G:Id->Nat)
def Qy:CR->CR
 | .s c=> .s c
 | .ptr o p=> .ptr (σ o) p
def nJ:List CR->List CR
 |[]=>[]
 |c::r=>Qy σ c::nJ r
def CD:CV->CV
 | .s c=> .s c
 | .ptr o p=> .ptr (σ o) p
 | .aL o _=> .aL (σ o) (G o)
 | .cV f a=> .cV f (nJ σ a)
def sM:List CV->List CV
 |[]=>[]
 |c::r=>CD σ G c::sM r
def uy (g:Nat):Mem->Mem
 | .none=> .none
 | .dead=> .dead
 | .ro a=> .ro a
 | .box a=> .box a
 | .aJ _ n k e b=> .aJ g n k e b
 | .obj a=> .obj (sM σ G a)
 | .br _ n k e b=> .br g n k e λi j=>CD σ G (b i j)
 | .map c=> .map c
def La:TV->TV
 | .d x=> .d x
 | .eG a=> .eG a
 | .jw o a=> .jw (σ o) a
 | .ptr o p=> .ptr (σ o) p
 | .aL o _=> .aL (σ o) (G o)
 | .cV f b=> .cV f (nJ σ b)
 | .undef=> .undef
 | .nb n c=> .nb n c
 |_=> .any
def yd:Nat->List Id->List Mem->List (Id×Mem)
 |k,o::a,x::r=>(o,uy σ G (G (.n k)) x)::yd (k+1) a r
 |_,_,_=>[]
def I0 (d:Id):Mem->List (Id×Mem)
 | .none=>[]
 |x=>[(d,uy σ G 0 x)]
end
def aC (c a:SV):Prop:=∀(S:Nat->Prop) (w:World) (x:Value),Rd S w x c->Rd S w x a
theorem aC.refl (c:SV):aC c c:=λ_ _ _ h=>h
inductive gO:List SV->List SV->Prop where
 |nil:gO [] []
 |cons {c c':SV} {l l':List SV} (h:aC c c') (r:gO l l'):gO (c::l) (c'::l')
def dV (v a:DV):Prop:=∀(S:Nat->Prop) (w:World) (x:Value),nf S w x v->nf S w x a
inductive uD:List DV->List DV->Prop where
 |nil:uD [] []
 |cons {c c':DV} {l l':List DV} (h:dV c c') (r:uD l l'):uD (c::l) (c'::l')
inductive NQ (σ:Id->Id):CR->CR->Prop where
 |s {c c':SV} (h:aC c c'):NQ σ (.s c) (.s c')
 |ptr {o o':Id} {p:Nat} (h:o=σ o'):NQ σ (.ptr o p) (.ptr o' p)
inductive tD (σ:Id->Id):List CR->List CR->Prop where
 |nil:tD σ [] []
 |cons {c c':CR} {l l':List CR} (h:NQ σ c c') (r:tD σ l l'):tD σ (c::l) (c'::l')
inductive ug (m:Id->Mem) (σ:Id->Id):CV->CV->Prop where
 |s {c c':SV} (h:aC c c'):ug m σ (.s c) (.s c')
 |ptr {o o':Id} {p:Nat} (h:o=σ o'):ug m σ (.ptr o p) (.ptr o' p)
 |aL {o o':Id} {g:Nat} (h:o=σ o') (hg:g=(m o).gen):ug m σ (.aL o g) (.aL o' 1)
 |cV {f:FuncId} {c c':List CR} (h:tD σ c c'):ug m σ (.cV f c) (.cV f c')
inductive iV (m:Id->Mem) (σ:Id->Id):List CV->List CV->Prop where
 |nil:iV m σ [] []
 |cons {c c':CV} {l l':List CV} (h:ug m σ c c') (r:iV m σ l l'):iV m σ (c::l) (c'::l')
inductive kd (m:Id->Mem) (σ:Id->Id):Mem->Mem->Prop where
 |ro {l l':List SV} (h:gO l l'):kd m σ (.ro l) (.ro l')
 |box {l l':List SV} (h:gO l l'):kd m σ (.box l) (.box l')
 |tp {l:List SV} {l':List CV} (h:iV m σ (l.map .s) l'):kd m σ (.box l) (.obj l')
 |obj {l l':List CV} (h:iV m σ l l'):kd m σ (.obj l) (.obj l')
 |aJ {g n k:Nat} {e:TypeId} {get get':Nat->Nat->SV} (h:∀i,i<n->∀j,j<k->aC (get i j) (get' i j)):kd m σ (.aJ g n k e get) (.aJ 1 n k e get')
 |br {g n k:Nat} {e:TypeId} {get get':Nat->Nat->CV} (h:∀i,i<n->∀j,j<k->ug m σ (get i j) (get' i j)):kd m σ (.br g n k e get) (.br 1 n k e get')
inductive zR (m:Id->Mem) (σ:Id->Id):List Id->List Mem->Prop where
 |nil:zR m σ [] []
 |cons {o:Id} {x:Mem} {l:List Id} {r:List Mem} (h:kd m σ (m o) x) (t:zR m σ l r):zR m σ (o::l) (x::r)
inductive Ge (m:Id->Mem) (σ:Id->Id):TV->TV->Prop where
 |d {v v':DV} (h:dV v v'):Ge m σ (.d v) (.d v')
 |ptr {o o':Id} {p:Nat} (h:o=σ o'):Ge m σ (.ptr o p) (.ptr o' p)
 |aL {o o':Id} {g:Nat} (h:o=σ o') (hg:g=(m o).gen):Ge m σ (.aL o g) (.aL o' 1)
 |cV {f:FuncId} {c c':List CR} (h:tD σ c c'):Ge m σ (.cV f c) (.cV f c')
inductive lP (m:Id->Mem) (σ:Id->Id):List TV->List TV->Prop where
 |nil:lP m σ [] []
 |cons {c c':TV} {l l':List TV} (h:Ge m σ c c') (r:lP m σ l l'):lP m σ (c::l) (c'::l')
def AW:List Nat->Bool
 |[]=>true
 |k::r=>!(r.any (Nat.beq k))&&AW r
structure Fits (m:Id->Mem) (os:List Id) (d:Id) (xs args:List TV) (ms:List Mem) (fr:Mem):Prop where
 Vs:zR m (pJ os d) os ms
 args:lP m (pJ os d) xs args
 keys:AW (d.key::os.map Id.key)=true
 zl:Nat.ble os.length 1000=true
 fresh:fr≠ .none->m d= .none
structure eu (P:Program) (f:FuncId) (xs:List TV) (d:Id) (m:Id->Mem) (K:fh):Prop where
 h:∃(os:List Id) (args:List TV) (ms:List Mem) (r:TV) (gF:List Mem) (fr:Mem),
  oC P f args ms r gF fr/\Fits m os d xs args ms fr/\
   K (La (pJ os d) (wo m os d gF) r) (yd (pJ os d) (wo m os d gF) 2000 os gF++I0 (pJ os d) (wo m os d gF) d fr) (d.key::os.map Id.key)
structure ah (P:Program) (f:FuncId) (args:List DV) (K:TV->Prop):Prop where
 h:∃r,kM P f args r/\K r
structure VK (P:Program) (f:FuncId) (args:List DV) (K:Value->Prop):Prop where
 h:∃x:Value,x.oneCell'=true/\(∀(w:World) (S:Nat->Prop) (vs:List Value),dT S w vs args->(callFunc f vs.toArray).run P w= .ok (.value x) w)/\K x
structure UU (k:FloatKind) (b:Nat) (d:IntKind) (K:Int->Prop):Prop where
 h:∃z,(k.decode b).toInt .zero=some z/\d.min<=z/\z<=d.max/\K z
def sw:List SV->Bool
 |[]=>true
 | .v _::r=>sw r
 |_::_=>false
def kB:List DV->Bool
 |[]=>true
 | .one (.v _)::r=>kB r
 | .agg a::r=>sw a&&kB r
 |_::_=>false
def yN:TV->Bool
 | .d x=>kB [x]
 | .eG a=>kB a
 |_=>false
def CR.cv:CR->CV
 | .s c=> .s c
 | .ptr o p=> .ptr o p
inductive mS (m:Id->Mem) (ks:List Nat):CV->SV->Prop where
 |s (c:SV):mS m ks (.s c) c
 |box {o:Id} {p q:Nat} {l:List SV} (hk:o.key∈ks) (h:m o= .box l\/m o= .ro l) (hq:p+q<=l.length):mS m ks (.ptr o p) (.ad q λj=>l.getD (p+j) (.v Go.undef))
 |obj {o:Id} {p q:Nat} {l:List CV} {cell:Nat->SV} (hk:o.key∈ks) (h:m o= .obj l) (hq:p+q<=l.length) (hc:∀j,j<q->mS m ks (l.getD (p+j) (.s (.v Go.undef))) (cell j)):mS m ks (.ptr o p) (.ad q cell)
 |aJ {o:Id} {g n k:Nat} {e:TypeId} {get:Nat->Nat->SV} (hk:o.key∈ks) (h:m o= .aJ g n k e get):mS m ks (.aL o g) (.sl n k get)
 |br {o:Id} {g n k:Nat} {e:TypeId} {get:Nat->Nat->CV} {get':Nat->Nat->SV} (hk:o.key∈ks) (h:m o= .br g n k e get) (hc:∀i,i<n->∀j,j<k->mS m ks (get i j) (get' i j)):mS m ks (.aL o g) (.sl n k get')
 |cV {f:FuncId} {n:Nat} {Ni:List CR} {cell:Nat->SV} (hn:n=Ni.length) (hc:∀j,j<n->mS m ks (Ni.getD j (.s (.v Go.undef))).cv (cell j)) (hf:Nat.blt f 10000000=true:=by rfl):mS m ks (.cV f Ni) (.fn f n cell)
structure Em (m:Id->Mem) (c:CV) (K:SV->List Nat->Prop):Prop where
 h:∃x ks,mS m ks c x/\K x ks
def P4 (m:Id->Mem) (x:TV) (K:DV->List Id->List Nat->Bool->Prop):Prop:=
 match x with
 | .d v=>K v [] [] false
 | .aL o g=>ea m o λa=>match a with
  | .aJ c n k _ h=>bif Nat.beq g c then K (.one (.sl n k h)) [o] [o.key] false else False
  |_=>Em m (.aL o g) λx b=>K (.one x) [] b true
 | .sub o g q n=>ea m o λa=>match a with
  | .aJ c _ k _ h=>bif Nat.beq g c then K (.one (.sl n k λi j=>h (q+i) j)) [o] [o.key] false else False
  |_=>False
 | .ptr o p=>ea m o λa=>match a with
  | .ro l=>K (.one (.ad (l.length-p) λj=>l.getD (p+j) (.v Go.undef))) [] [o.key] false
  |_=>Em m (.ptr o p) λx b=>K (.one x) [] b true
 | .cV f r=>Em m (.cV f r) λx b=>K (.one x) [] b true
 |_=>False
def zL (t:Nat->TV) (m:Id->Mem):List Operand->(List DV->List Id->List Nat->Bool->Prop)->Prop
 |[],K=>K [] [] [] false
 |x::r,K=>P4 m (bG t x) λv a b c=>zL t m r λl f g h=>K (v::l) (a++f) (b++g) (c||h)
def M6 (m:Id->Mem):List CR->(List DV->List Nat->Bool->Prop)->Prop
 |[],K=>K [] [] false
 |c::r,K=>match c with
  | .s c=>M6 m r λl a b=>K (.one c::l) a b
  | .ptr o p=>Em m (.ptr o p) λx f=>M6 m r λl a _=>K (.one x::l) (f++a) true
def gn (n:Nat) (cap:Nat->SV):List DV:=(cells n cap).map .one
def Ih (P:Program) (f:FuncId) (l:List DV) (hs:List Id) (rd:List Nat) (a:Bool) (K:fh):Prop:=
 ah P f l λr=>bif !a||yN r then K r (bif yN r then[]else hs.map λo=>(o,.dead)) rd else False
def dK (a:List Nat) (f:Nat):Bool:=a.any (Nat.beq f)
def Nj (P:Program) (b:List Nat) (t:Nat->TV) (m:Id->Mem) (f:FuncId) (args:List Operand) (n:Nat) (cap:Nat->SV) (d:Option Nat) (K:fh):Prop:=
 bif dK b (f+2000000)then eu P f (args.map (bG t)++(gn n cap).map .d) (.n (d.getD 0)) m K
 else bif dK b (f+5000000)then zL t m args λl _ a _=>VK P f (l++gn n cap) λx=>K (.d (.one (.v x))) [] a
 else zL t m args λl c a g=>Ih P f (l++gn n cap) c a g K
structure NS (P:Program) (f:FuncId) (xs:List TV) (d:Id) (m:Id->Mem) (K:fh):Prop where
 h:∃g,f=g+10000000/\eu P g xs d m K
def FZ (P:Program) (b:List Nat) (t:Nat->TV) (m:Id->Mem) (f:FuncId) (args:List Operand) (a:List CR) (d:Option Nat) (K:fh):Prop:=
 bif Nat.blt f 10000000 then(bif dK b (f+2000000)then eu P f (args.map (bG t)++a.map CR.tv) (.n (d.getD 0)) m K
 else zL t m args λl c g h=>M6 m a λi j k=>Ih P f (l++i) c (g++j) (h||k) K)
 else match args with
 |[]=>NS P f (a.map CR.tv) (.n (d.getD 0)) m K
 |_=>False
def Da (T:Ty) (l:List CV) (K:TV->Prop):Prop:=
 match T.kind.isAgg with
 |true=>GG l λl=>K (.d (.agg l))
 |false=>match l with
  |[c]=>c.UX K
  |_=>False
def pY (T:Ty) (m:Id->Mem) (a:TV) (K:fh):Prop:=
 match a with
 | .d (.one (.ad n q))=>bif Nat.ble T.size n then mZ T (cells T.size q) (λx=>K x [] [])else False
 | .ptr o b=>ea m o λh=>match h with
  | .box f=>bif Nat.ble (b+T.size) f.length then mZ T ((f.drop b).take T.size) (λx=>K x [] [o.key])else False
  | .ro f=>bif Nat.ble (b+T.size) f.length then mZ T ((f.drop b).take T.size) (λx=>K x [] [o.key])else False
  | .obj f=>bif Nat.ble (b+T.size) f.length then Da T ((f.drop b).take T.size) (λx=>K x [] [o.key])else False
  |_=>False
 | .ep o g i b=>ea m o λh=>match h with
  | .aJ l _ k _ p=>bif Nat.beq g l&&Nat.ble (b+T.size) k then mZ T (cells T.size λj=>p i (b+j)) (λx=>K x [] [o.key])else False
  | .br l _ k _ p=>bif Nat.beq g l&&Nat.blt b k&&Nat.beq T.size 1&&!T.kind.isAgg then NN (p i b) (λc=>c.UX λx=>K x [] [o.key])else False
  |_=>False
 |_=>False
def SV.deep (c:SV) (K:SV->Prop):Prop:=
 match c with
 | .v x=>match x with
  | .int k n=>K (.v (.int k n))
  | .bool b=>K (.v (.bool b))
  |x=>K (.v x)
 | .sl n k g=>K (.sl n k g)
 | .ad m c=>K (.ad m c)
 | .fn f n c=>K (.fn f n c)
theorem SV.eW {c:SV} {K:SV->Prop}:c.deep K↔K c:=by
 unfold SV.deep;split;(split<;>exact ZC)
 all_goals exact ZC
def xq:List SV->(List SV->Prop)->Prop
 |[],K=>K []
 |c::r,K=>c.deep λc=>xq r λr=>K (c::r)
theorem lJ:∀{l:List SV} {K:List SV->Prop},xq l K↔K l
 |[],_=>ZC
 |c::r,K=>by simp only[xq];rw[SV.eW,lJ]
def Af (m:Id->Mem) (a:TV) (l:List SV) (K:fh):Prop:=
 match a with
 | .ptr o b=>ea m o λp=>match p with
  | .box c=>bif Nat.ble (b+l.length) c.length then K .any [(o,.box (Av c b l))] [o.key]else False
  | .obj c=>bif Nat.ble (b+l.length) c.length then K .any [(o,.obj (Av c b (l.map .s)))] [o.key]else False
  |_=>False
 | .ep o g i b=>ea m o λp=>match p with
  | .aJ f n k e q=>bif Nat.beq g f&&Nat.ble (b+l.length) k then
    K .any [(o,.aJ f n k e λh j=>bif Nat.beq h i&&Nat.ble b j&&Nat.blt j (b+l.length)then l.getD (j-b) (.v Go.undef)else q h j)] [o.key]else False
  | .br f n k e q=>bif Nat.beq g f&&Nat.ble (b+l.length) k then
    K .any [(o,.br f n k e λh j=>bif Nat.beq h i&&Nat.ble b j&&Nat.blt j (b+l.length)then .s (l.getD (j-b) (.v Go.undef))else q h j)] [o.key]else False
  |_=>False
 |_=>False
def qm (m:Id->Mem) (a:TV) (c:CV) (K:fh):Prop:=
 match a with
 | .ptr o b=>ea m o λp=>match p with
  | .box f=>bif Nat.blt b f.length then K .any [(o,.obj (Av (f.map .s) b [c]))] [o.key]else False
  | .obj f=>bif Nat.blt b f.length then K .any [(o,.obj (Av f b [c]))] [o.key]else False
  |_=>False
 | .ep o g i b=>ea m o λp=>match p with
  | .aJ h n k e q=>bif Nat.beq g h&&Nat.blt b k then
    K .any [(o,.br h n k e λl j=>bif Nat.beq l i&&Nat.beq j b then c else .s (q l j))] [o.key]else False
  | .br h n k e q=>bif Nat.beq g h&&Nat.blt b k then
    K .any [(o,.br h n k e λl j=>bif Nat.beq l i&&Nat.beq j b then c else q l j)] [o.key]else False
  |_=>False
 |_=>False
def Ae (T:Ty) (m:Id->Mem) (a v:TV) (K:fh):Prop:=
 match v with
 | .d (.one c)=>bif Nat.beq 1 T.size then Af m a [c] K else False
 | .d (.agg b)=>bif Nat.beq b.length T.size then Af m a b K else False
 | .ptr o p=>bif Nat.beq 1 T.size then qm m a (.ptr o p) K else False
 | .aL o g=>bif Nat.beq 1 T.size then qm m a (.aL o g) K else False
 | .cV f h=>bif Nat.beq 1 T.size then qm m a (.cV f h) K else False
 |_=>False
structure US (T:Ty) (cs:List CV) (off:Nat) (K:TV->Prop):Prop where
 h:∃c,cs[off]? =some c/\T.kind.isAgg=false/\T.size=1/\K c.tv
structure UT (T:Ty) (cell:Nat->SV) (K:TV->Prop):Prop where
 h:∃c,cell 0=c/\T.kind.isAgg=false/\T.size=1/\K (.d (.one c))
def L4 (T:Ty) (m:Id->Mem) (a:TV) (K:fh):Prop:=
 match a with
 | .ptr o b=>ea m o λc=>match c with
  | .obj f=>US T f b λx=>K x [] [o.key]
  |_=>False
 | .d (.one (.ad n g))=>bif Nat.ble 1 n then UT T g λx=>K x [] []else False
 |_=>False
structure NJ (cs:List CV) (off:Nat) (c:CV) (K:List CV->Prop):Prop where
 h:∃V0,Av cs off [c]=V0/\off<cs.length/\K V0
def EP (T:Ty) (m:Id->Mem) (a v:TV) (K:fh):Prop:=
 match a with
 | .ptr o b=>ea m o λf=>match f with
  | .obj g=>bif Nat.beq 1 T.size then v.VZ λc=>NJ g b c λh=>K .any [(o,.obj h)] [o.key]else False
  |_=>False
 |_=>False
def Kc:Operand->Nat
 | .tmp k=>k
 |_=>0
def oo (t:Nat->TV) (a:Nat->Option Nat):List SV->List (Nat×Operand)->(List SV->Prop)->Prop
 |cs,[],K=>K cs
 |cs,(i,x)::r,K=>match a i with
  |some b=>(bG t x).xF λl=>bif Nat.ble (b+l.length) cs.length then xq (Av cs b l) λcs=>oo t a cs r K else False
  |none=>False
def gi (t:Nat->TV) (size:Nat->Option Nat):List (Nat×Operand)->Bool
 |[]=>true
 |(i,x)::r=>(match size i,bG t x with
  |some n,.d (.one _)=>Nat.beq n 1
  |some n,.d (.agg a)=>Nat.beq n a.length
  |_,_=>false)&&gi t size r
def gU:Nat->List SV->List SV
 |0,_=>[]
 |n+1,l=>l++gU n l
def LN (k:IntKind) (x:Int):List TV->(Int->Prop)->Prop
 |[],K=>K x
 |y::r,K=>match y with
  | .d (.one (.v (.int _ y)))=>LN k (if y<x then y else x) r K
  |_=>False
def LW (k:IntKind) (x:Int):List TV->(Int->Prop)->Prop
 |[],K=>K x
 |y::r,K=>match y with
  | .d (.one (.v (.int _ y)))=>LW k (if y>x then y else x) r K
  |_=>False
def Kw (m:Id->Mem) (k:Nat) (x:TV) (K:Nat->(Nat->Nat->SV)->List Nat->Prop):Prop:=
 match x with
 | .d (.one (.sl n a b))=>bif Nat.beq a k then K n b []else False
 | .d (.one (.v (.slice none 0 0)))=>K 0 (λ_ _=> .v Go.undef) []
 | .aL o g=>ea m o λc=>match c with
  | .aJ f n a _ b=>bif Nat.beq g f&&Nat.beq a k then K n b [o.key]else False
  |_=>False
 | .sub o g h n=>ea m o λc=>match c with
  | .aJ f _ a _ b=>bif Nat.beq g f&&Nat.beq a k then K n (λi j=>b (h+i) j) [o.key]else False
  |_=>False
 |_=>False
def r0 (b:Ty) (e:TypeId) (d:Nat) (m:Id->Mem) (s x:TV) (K:fh):Prop:=
 match s with
 | .d (.one (.v (.slice none 0 0)))=>match m (.n d)with
  | .none=>Kw m b.size x λn c f=>aj (n*b.bytes<=140737488355328/\n<=maxLen) (K (.aL d 0) [(.n d,.aJ 0 n b.size e c)] (d::f))
  |_=>False
 | .aL o g=>ea m o λh=>match h with
  | .aJ l n k p c=>bif Nat.beq g l&&Nat.beq k b.size&&Nat.beq p e then(Kw m k x λa q f=>
    aj ((n+a)*b.bytes<=140737488355328/\n+a<=maxLen) (K (.aL o (g+2)) [(o,.aJ (g+2) (n+a) k e λi j=>bif Nat.blt i n then c i j else q (i-n) j)] (o.key::f)))else False
  |_=>False
 | .sub o g r n=>ea m o λh=>match h with
  | .aJ l N k p c=>bif Nat.beq g l&&Nat.beq k b.size&&Nat.beq p e then(Kw m k x λa q f=>
    aj (r=0/\n+a<=N) (K (.sub o (g+2) 0 (n+a)) [(o,.aJ (g+2) N k e λi j=>bif Nat.blt i n then c i j else bif Nat.blt i (n+a)then q (i-n) j else c i j)] (o.key::f)))else False
  |_=>False
 |_=>False
def vu (a:Ty) (e:TypeId) (d:Nat) (m:Id->Mem) (s x:TV) (K:fh):Prop:=
 match s,x,m (.n d)with
 | .d (.one (.v (.slice none 0 0))),.d (.one (.v (.int .i64 n))),.none=>
  aj (0<n/\n*a.bytes<=140737488355328/\n<=maxLen/\0<a.size) (K (.aL d 0) [(.n d,.aJ 0 n.toNat a.size e λ_ j=>a.zero.getD j (.v Go.undef))] [d])
 |_,_,_=>False
def vv (b:Ty) (e:TypeId) (m:Id->Mem) (s x:TV) (K:fh):Prop:=
 match s,x with
 | .aL o g,.aL c f=>ea m o λh=>match h with
  | .br l n k p q=>ea m c λr=>match r with
   | .br t a u _ w=>bif (Nat.beq g l&&Nat.beq f t)&&((Nat.beq k b.size&&Nat.beq u b.size)&&(Nat.beq p e&&Nat.blt 0 a))then
     aj ((n+a)*b.bytes<=140737488355328/\n+a<=maxLen) (K (.aL o (g+2)) [(o,.br (g+2) (n+a) k e λi j=>bif Nat.blt i n then q i j else w (i-n) j)] [o.key,c.key])else False
   |_=>False
  |_=>False
 |_,_=>False
def F0 (TT:iu) (a:TypeId) (len:Nat) (b:List (Nat×Operand)) (t:Nat->TV) (m:Id->Mem) (c:Option Nat) (K:fh):Prop:=
 match TT a,c with
 |some T,some d=>match T.kind with
  | .ju e=>match TT e with
   |some f=>match b,m (.n d)with
    |[(0,x)],.none=>match bG t x with
     | .aL o g=>bif Nat.beq len 1&&Nat.beq f.size 1 then K (.aL d 0) [(.n d,.br 0 1 1 e λ_ _=> .aL o g)] [d]else False
     |_=>False
    |_,_=>False
   |none=>False
  |_=>False
 |_,_=>False
def mM (x:TV) (K:Nat->Int->Prop):Prop:=
 match x with
 | .d (.one (.v (.int _ n)))=>K n.toNat n
 |_=>False
def uA (t:Nat->TV) (a:Nat):Option Operand->(Nat->Int->Prop)->Prop
 |none,K=>K a a
 |some x,K=>mM (bG t x) K
def EW (c:Nat) (x:TV) (t:Nat->TV) (lo hi:Option Operand) (K:TV->Prop):Prop:=
 match x with
 | .d (.one (.sl n k f))=>bif Nat.beq k c then uA t n hi λh a=>uA t 0 lo λl b=>
   aj (0<=b/\b<=a/\a<=n) (K (.d (.one (.sl (h-l) k λi j=>f (l+i) j))))else False
 | .d (.one (.v (.slice none 0 0)))=>uA t 0 hi λ_ a=>uA t 0 lo λ_ b=>
   aj (b=0/\a=0) (K (.d (.one (.v (.slice none 0 0)))))
 |_=>False
def As (f:Nat) (m:Id->Mem) (o:Id) (g a i:Nat) (t:Nat->TV) (lo hi:Option Operand) (K:fh):Prop:=
 ea m o λj=>match j with
 | .aJ p n k e q=>bif Nat.beq g p&&Nat.beq k f then uA t i hi λh b=>uA t 0 lo λl c=>
   aj (0<=c/\c<=b/\a+b<=n) (kv (K (.sub o g (a+l) (h-l)) [] [o.key]) (a+l=0/\K (.aL o (g+2)) [(o,.aJ (g+2) h k e q)] [o.key]))else False
 |_=>False
def w5 (m:Id->Mem) (x:TV) (K:Nat->List Nat->Prop):Prop:=
 match x with
 | .d (.one (.sl n _ _))=>K n []
 | .d (.one (.v (.slice none 0 0)))=>K 0 []
 | .aL o g=>ea m o λb=>match b with
  | .aJ a n _ _ _=>bif Nat.beq g a then K n [o.key]else False
  | .br a n _ _ _=>bif Nat.beq g a then K n [o.key]else False
  |_=>False
 | .sub o g _ n=>ea m o λb=>match b with
  | .aJ a _ _ _ _=>bif Nat.beq g a then K n [o.key]else False
  | .br a _ _ _ _=>bif Nat.beq g a then K n [o.key]else False
  |_=>False
 |_=>False
def jQ (t:Nat->TV) (m:Id->Mem):List Operand->(List SV->List (Id×Mem)->List Nat->Prop)->Prop
 |[],K=>K [] [] []
 |x::r,K=>match bG t x with
  | .d (.one c)=>jQ t m r λl b f=>K (c::l) b f
  | .ptr o p=>match p with
   |0=>ea m o λg=>match g with
    | .box a=>jQ t m r λl b f=>K (.ad a.length (λj=>a.getD j (.v Go.undef))::l) ((o,.ro a)::b) (o.key::f)
    | .ro a=>jQ t m r λl b f=>K (.ad a.length (λj=>a.getD j (.v Go.undef))::l) b (o.key::f)
    |_=>False
   |_=>False
  |_=>False
def iH (t:Nat->TV):List Operand->(List CR->Prop)->Prop
 |[],K=>K []
 |x::r,K=>match bG t x with
  | .d (.one c)=>iH t r λl=>K (.s c::l)
  | .ptr o p=>iH t r λl=>K (.ptr o p::l)
  |_=>False
def Nk (t:Nat->TV) (m:Id->Mem):List Operand->Bool
 |[]=>false
 |x::r=>(match bG t x with
  | .ptr o _=>(match o with
   | .n k=>(match m (.n k)with
    | .obj _=>true
    |_=>false)
   | .s _ _=>true)
  |_=>false)||Nk t m r
def sW (t:Nat->TV):List Operand->List Nat
 |[]=>[]
 |x::r=>match bG t x with
  | .ptr o _=>o.key::sW t r
  |_=>sW t r
def Vp (P:Program) (TT:iu) (H:List Nat) (o:Oper) (t:Nat->TV) (m:Id->Mem) (K:fh):Prop:=
 match o.op with
 | .move x=>(bG t x).force λx=>K x [] []
 | .assign x=>(bG t x).force λx=>K x [] []
 | .pick c a b=>match bG t c with
  | .d (.one (.v (.bool q)))=>ab q λq=>bif q then(bG t a).force λx=>K x [] []else(bG t b).force λx=>K x [] []
  |_=>False
 | .alloc e=>match TT e,o.dst with
  |some T,some d=>match m (.n d)with
   | .none=>K (.ptr d 0) [(.n d,.box T.zero)] [d]
   |_=>False
  |_,_=>False
 | .box e x=>match TT e,o.dst with
  |some _,some d=>match m (.n d)with
   | .none=>match bG t x with
    | .ptr o p=>K (.ptr d 0) [(.n d,.obj [.ptr o p])] [d]
    | .aL o g=>K (.ptr d 0) [(.n d,.obj [.aL o g])] [d]
    | .cV f M=>K (.ptr d 0) [(.n d,.obj [.cV f M])] [d]
    |x=>x.xF λl=>K (.ptr d 0) [(.n d,.box l)] [d]
   |_=>False
  |_,_=>False
 | .build u E=>match TT u with
  |some T=>match T.kind with
   | .str J=>bif gi t (λi=>(J[i]?).map (·.2.2)) E.toList then oo t (λi=>(J[i]?).map (·.1)) T.zero E.toList λC=>K (.d (.agg C)) [] []else False
   | .arr _ e=>match TT e with
    |some h=>bif gi t (λ_=>some h.size) E.toList then oo t (λi=>some (i*h.size)) T.zero E.toList λC=>K (.d (.agg C)) [] []else False
    |none=>False
   |_=>False
  |none=>False
 | .buildSlice u w E=>bif dK H (o.dst.getD 0+7000000)then F0 TT u w E.toList t m o.dst K else match TT u,o.dst with
  |some T,some d=>match T.kind with
   | .ju e=>match TT e with
    |some h=>bif Nat.ble (w*h.size) 65536&&Nat.blt 0 h.size&&gi t (λ_=>some h.size) E.toList then
      (match w with
      |0=>match E.toList,m (.n d)with
       |[],.none=>K (.aL d 0) [(.n d,.aJ 0 0 h.size e λ_ _=> .v Go.undef)] [d]
       |_,_=>False
      |_=>bif dK H (d+6000000)then(match m (.n d)with
        | .none=>oo t (λi=>some (i*h.size)) (gU w h.zero) E.toList λC=>K (.aL d 0) [(.n d,.aJ 0 w h.size e λi j=>C.getD (i*h.size+j) (.v Go.undef))] [d]
        |_=>False)else
       oo t (λi=>some (i*h.size)) (gU w h.zero) E.toList λC=>K (.d (.one (.sl w h.size λi j=>C.getD (i*h.size+j) (.v Go.undef)))) [] [])
     else False
    |none=>False
   |_=>False
  |_,_=>False
 | .load u a=>match TT u with
  |some T=>bif dK H (o.dst.getD 0+3000000)then L4 T m (bG t a) K else pY T m (bG t a) K
  |none=>False
 | .store u a x=>match TT u with
  |some T=>bif dK H (Kc a+4000000)then EP T m (bG t a) (bG t x) K else Ae T m (bG t a) (bG t x) K
  |none=>False
 | .nilCheck x=>match bG t x with
  | .ptr b p=>ea m b λB=>match B with
   | .box _=>K (.ptr b p) [] [b.key]
   | .ro _=>K (.ptr b p) [] [b.key]
   | .obj _=>K (.ptr b p) [] [b.key]
   |_=>False
  | .cV f M=>K (.cV f M) [] []
  | .d (.one (.fn f n c))=>K (.d (.one (.fn f n c))) [] []
  | .d (.one (.ad n c))=>K (.d (.one (.ad n c))) [] []
  |_=>False
 | .binOp I u x y _=>match bG t x,bG t y with
  | .d (.agg S),.d (.agg Z)=>match I with
   | .eql=>tB P u S Z λb=>K (aD b) [] []
   | .neq=>tB P u S Z λb=>K (aD (!b)) [] []
   |_=>False
  | .d (.one (.v (.bool a))),.d (.one (.v (.bool b)))=>match TT u with
   |some T=>match I,T.kind with
    | .eql,.cell=>aj (P.underlying u=some .bool) (K (aD (a==b)) [] [])
    | .neq,.cell=>aj (P.underlying u=some .bool) (K (aD (!(a==b))) [] [])
    |_,_=>False
   |none=>False
  |a,.d (.one (.v (.slice none 0 0)))=>match TT u with
   |some T=>match I,T.kind with
    | .eql,.ju _=>w5 m a λn G=>K (.nb n false) [] G
    | .neq,.ju _=>w5 m a λn G=>K (.nb n true) [] G
    |_,_=>False
   |none=>False
  |a,b=>Su I a b λx=>K x [] []
 | .unOp I _ x=>match bG t x with
  | .d (.one (.v (.bool b)))=>match I with
   | .not=>K (aD (!b)) [] []
   |_=>False
  | .nb n a5=>match I with
   | .not=>K (.nb n (!a5)) [] []
   |_=>False
  | .d (.one (.v (.int k n)))=>match I with
   | .neg=>K (.d (.one (.v (.int k (k.wrap (0-n)))))) [] []
   |_=>False
  |_=>False
 | .convert V a0 x=>match TT a0 with
  |some T=>match T.kind,bG t x with
   | .int k,.d (.one (.v (.int _ n)))=>aj (∃d,P.underlying V=some d) (K (.d (.one (.v (.int k (k.wrap n))))) [] [])
   | .int k,.d (.one (.v (.float a6 b)))=>UU a6 b k λz=>aj (∃d,P.underlying V=some d) (K (.d (.one (.v (.int k z)))) [] [])
   | .cell,.d (.one (.v (.int _ n)))=>aj ((∃d,P.underlying V=some d)/\P.underlying a0=some (.float .f64)) (K (.d (.one (.v (.float .f64 (FloatKind.f64.nearest n))))) [] [])
   |_,_=>False
  |none=>False
 | .makeSlice u n c=>match TT u,o.dst with
  |some T,some d=>match T.kind,m (.n d)with
   | .ju e,.none=>match TT e,bG t n,bG t c with
    |some h,.d (.one (.v (.int _ n))),.d (.one (.v (.int _ c)))=>aj (0<=n/\n<=c/\(h.bytes:Int)*c<=281474976710656/\c<=9223372036854775807)
      (K (.aL d 0) [(.n d,.aJ 0 n.toNat h.size e λ_ j=>h.zero.getD j (.v Go.undef))] [d])
    |_,_,_=>False
   |_,_=>False
  |_,_=>False
 | .slice u x D O none=>match TT u with
  |some T=>match T.kind with
   | .ju e=>match TT e with
    |some h=>match bG t x with
     | .aL o g=>w5 m (.aL o g) λn _=>As h.size m o g 0 n t D O K
     | .sub o g a7 a8=>As h.size m o g a7 a8 t D O K
     |x=>EW h.size x t D O λx=>K x [] []
    |none=>False
   |_=>False
  |none=>False
 | .slice u x D (some O) (some a9)=>match TT u with
  |some T=>match T.kind with
   | .ju e=>match TT e with
    |some _=>w5 m (bG t x) λn G=>uA t 0 D λ_ a1=>mM (bG t O) λ_ a2=>mM (bG t a9) λ_ a3=>
     aj (0<=a1/\a1<=a2/\a2<=a3/\a3<=n) (K .any [] G)
    |none=>False
   |_=>False
  |none=>False
 | .makeFunc (.func f) first Q=>match first.toList with
  |[]=>bif dK H (f+1000000)||Nk t m Q.toList then bif Nat.blt f 10000000 then iH t Q.toList λl=>K (.cV f l) [] (sW t Q.toList)else False
    else jQ t m Q.toList λl b0 G=>K (.d (.one (.fn f l.length λj=>l.getD j (.v Go.undef)))) b0 G
  |_=>match Q.toList with
   |[]=>iH t first.toList λl=>K (.cV (f+10000000) l) [] (sW t first.toList)
   |_=>False
 | .fieldAddr s x f=>match TT s with
  |some T=>match T.kind with
   | .str J=>match J[f]? with
    |some (F,_,R)=>bif Nat.blt 0 R then
     (match bG t x with
     | .ptr b p=>ea m b λB=>match B with
      | .box _=>K (.ptr b (p+F)) [] [b.key]
      | .ro _=>K (.ptr b (p+F)) [] [b.key]
      | .obj _=>K (.ptr b (p+F)) [] [b.key]
      |_=>False
     | .ep b g i p=>ea m b λB=>match B with
      | .aJ A _ _ _ _=>bif Nat.beq g A then K (.ep b g i (p+F)) [] [b.key]else False
      | .br A _ _ _ _=>bif Nat.beq g A then K (.ep b g i (p+F)) [] [b.key]else False
      |_=>False
     | .d (.one (.ad n U))=>K (.d (.one (.ad (n-F) λj=>U (F+j)))) [] []
     |_=>False)else False
    |none=>False
   |_=>False
  |none=>False
 | .field s x f=>match TT s with
  |some T=>match T.kind with
   | .str J=>match J[f]? with
    |some (F,u,R)=>match TT u,bG t x with
     |some a4,.d (.agg C)=>bif Nat.beq a4.size R&&Nat.ble (F+R) C.length then mZ a4 ((C.drop F).take R) λx=>K x [] []else False
     |_,_=>False
    |none=>False
   |_=>False
  |none=>False
 | .indexAddr u x i=>match TT u with
  |some T=>match T.kind with
   | .arr w e=>match TT e with
    |some h=>match bG t x,bG t i with
     | .ptr b p,.d (.one (.v (.int _ n)))=>ea m b λB=>match B with
      | .box _=>aj (0<=n/\n<w) (K (.ptr b (p+n.toNat*h.size)) [] [b.key])
      | .ro _=>aj (0<=n/\n<w) (K (.ptr b (p+n.toNat*h.size)) [] [b.key])
      | .obj _=>aj (0<=n/\n<w) (K (.ptr b (p+n.toNat*h.size)) [] [b.key])
      |_=>False
     | .d (.one (.ad q U)),.d (.one (.v (.int _ n)))=>aj (0<=n/\n<w) (bif Nat.ble (w*h.size) q then K (.d (.one (.ad h.size λj=>U (n.toNat*h.size+j)))) [] []else K (.d (.one (.ad (q-n.toNat*h.size) λj=>U (n.toNat*h.size+j)))) [] [])
     | .ep b g r p,.d (.one (.v (.int _ n)))=>ea m b λB=>match B with
      | .aJ A _ _ _ _=>bif Nat.beq g A then aj (0<=n/\n<w) (K (.ep b g r (p+n.toNat*h.size)) [] [b.key])else False
      | .br A _ _ _ _=>bif Nat.beq g A then aj (0<=n/\n<w) (K (.ep b g r (p+n.toNat*h.size)) [] [b.key])else False
      |_=>False
     |_,_=>False
    |none=>False
   | .ju e=>match TT e with
    |some h=>match bG t x,bG t i with
     | .d (.one (.sl n k X)),.d (.one (.v (.int _ q)))=>bif Nat.beq k h.size then aj (0<=q/\q<n) (K (.d (.one (.ad k (X q.toNat)))) [] [])else False
     | .aL b g,.d (.one (.v (.int _ q)))=>ea m b λB=>match B with
      | .aJ A n k _ _=>bif Nat.beq g A&&Nat.beq k h.size then aj (0<=q/\q<n) (K (.ep b g q.toNat 0) [] [b.key])else False
      | .br A n k _ _=>bif Nat.beq g A&&Nat.beq k h.size then aj (0<=q/\q<n) (K (.ep b g q.toNat 0) [] [b.key])else False
      |_=>False
     | .sub b g D n,.d (.one (.v (.int _ q)))=>ea m b λB=>match B with
      | .aJ A _ k _ _=>bif Nat.beq g A&&Nat.beq k h.size then aj (0<=q/\q<n) (K (.ep b g (D+q.toNat) 0) [] [b.key])else False
      | .br A _ k _ _=>bif Nat.beq g A&&Nat.beq k h.size then aj (0<=q/\q<n) (K (.ep b g (D+q.toNat) 0) [] [b.key])else False
      |_=>False
     |_,_=>False
    |none=>False
   |_=>False
  |none=>False
 | .index u x i=>match TT u with
  |some T=>match T.kind with
   | .arr w e=>match TT e with
    |some h=>match bG t x,bG t i with
     | .d (.agg C),.d (.one (.v (.int _ n)))=>aj (0<=n/\n<w/\n.toNat*h.size+h.size<=C.length) (mZ h ((C.drop (n.toNat*h.size)).take h.size) λx=>K x [] [])
     |_,_=>False
    |none=>False
   |_=>False
  |none=>False
 | .extract x i=>match bG t x with
  | .eG S=>match S[i]? with
   |some v=>(TV.d v).force λx=>K x [] []
   |none=>False
  |_=>False
 | .call c=>match c.callee with
  | .value f=>match bG t f with
   | .d (.one (.fn f n b1))=>Nj P H t m f c.args.toList n b1 o.dst K
   | .cV f M=>FZ P H t m f c.args.toList M o.dst K
   |_=>False
  | .builtin b=>match b,c.args.toList,c.argTypes.toList with
   | .len,[x],[u]=>match TT u with
    |some T=>match T.kind with
     | .ju _=>w5 m (bG t x) λn G=>K (an n) [] G
     | .arr n _=>K (an n) [] []
     |_=>False
    |none=>False
   | .cap,[x],[u]=>match TT u with
    |some T=>match T.kind,bG t x with
     | .ju _,.d (.one (.v (.slice none 0 0)))=>K (an 0) [] []
     |_,_=>False
    |none=>False
   | .clear,[x],[u]=>match TT u with
    |some T=>match T.kind with
     | .ju e=>match TT e,bG t x with
      |some h,.sub o g D n=>ea m o λB=>match B with
       | .aJ A N k b2 X=>bif Nat.beq g A&&Nat.beq k h.size&&Nat.beq b2 e then K .any [(o,.aJ g N k e λi j=>bif Nat.ble D i&&Nat.blt i (D+n)then h.zero.getD j (.v Go.undef)else X i j)] [o.key]else False
       |_=>False
      |_,_=>False
     |_=>False
    |none=>False
   | .min,x::r,_=>match bG t x with
    | .d (.one (.v (.int k x)))=>LN k x (r.map (bG t)) λn=>K (.d (.one (.v (.int k n)))) [] []
    |_=>False
   | .max,x::r,_=>match bG t x with
    | .d (.one (.v (.int k x)))=>LW k x (r.map (bG t)) λn=>K (.d (.one (.v (.int k n)))) [] []
    |_=>False
   | .append,[s,x],[u,Y]=>match TT u,o.dst with
    |some T,some d=>match T.kind with
     | .ju e=>match TT e with
      |some h=>bif dK H (d+8000000)then(bif Nat.beq Y u then vv h e m (bG t s) (bG t x) K else False)else bif Nat.beq Y u then r0 h e d m (bG t s) (bG t x) K else(match TT Y with
       |some b3=>(match b3.kind with
        | .int .i64=>vu h e d m (bG t s) (bG t x) K
        | .ju _=>r0 h e d m (bG t s) (bG t x) K
        |_=>False)
       |none=>False)
      |none=>False
     |_=>False
    |_,_=>False
   |_,_,_=>False
  |_=>False
 |_=>False
def fe (o:Oper) (t a:Nat->TV):Prop:=∀s,Operand.tmp s∈o.op.operands.toList->a s=t s
def hE (rd:List Nat) (m m':Id->Mem):Prop:=∀b:Id,b.key∈rd->m' b=m b
variable {m m':Id->Mem}
theorem hE.at {rd:List Nat} (h:hE rd m m') (o:Id) (a:o.key∈rd:=by simp):m' o=m o:=h o a
theorem hE.sub {rd a:List Nat} (h:hE rd m m') (hs:∀k∈a,k∈rd):hE a m m':=λb f=>h b (hs _ f)
def aG (P:Program) (o:Oper) (t:Nat->TV) (m:Id->Mem) (x:TV) (g:List (Id×Mem)) (rd:List Nat):Prop:=
 ∀(E:Env) (ρ:Id->Option (Nat×Nat)) (b:Nat->TV) (m':Id->Mem) (a:Act) (w:World),E.P=P->fe o t b->hE rd m m'->(∀k,o.dst=some k->k<E.N)->
  Rel E ρ b m' a w->∀(K:Act->World->Prop) (Q:Exit->Act->World->Prop),
  (∀h c f,Rel E h (pM b o.dst x) (cI m' g) c f->K c f)->o.wp P a w K Q
variable {x:Operand}
theorem aq {o:Oper} {t a:Nat->TV} (h:fe o t a) (b:x∈o.op.operands.toList):bG a x=bG t x:=by
 cases x with
 |tmp s=>exact h s b
 |_=>rfl
variable {E:Env} {ρ:Id->Option (Nat×Nat)} {a:Act} {w:World}
theorem ax {t:Nat->TV} (h:Rel E ρ t m a w) (x:Operand):
  dm E m ρ w (a.eval x) (bG t x)/\∀b,(bG t x).refs b->m b≠ .none:=by
 cases x with
 |tmp s=>exact⟨h.slots s,h.clean s⟩
 |const v=>
  show dm E m ρ w v (U8 v)/\∀b,(U8 v).refs b->m b≠ .none;unfold U8;split<;>first
   |exact⟨Rd.v rfl,λ_ h=>h.elim⟩
   |exact⟨trivial,λ_ h=>h.elim⟩
 |global g=>exact⟨trivial,λ_ h=>h.elim⟩
 |func f=>exact⟨Rd.fn (n:=0) (λ_=>Go.undef) (λj c=>absurd c (XL j)),λ_ h=>h.elim⟩
variable {P:Program}
theorem aB {o:Oper} {t:Nat->TV} {x:TV} {rd:List Nat}
  (h:∀E ρ c m' a w,E.P=P->fe o t c->hE rd m m'->Rel E ρ c m' a w->
   ∃v,(execOp a.eval o).run P w= .ok (.value v) w/\dm E m' ρ w v x/\∀b,x.refs b->m' b≠ .none):aG P o t m x [] rd:=by
 intro E ρ c m' a w g i j k f K Q l;obtain⟨v,p,q,r⟩:=h E ρ c m' a w g i j f;unfold Oper.wp;rw[p];exact l ρ _ w (f.put k q r)
variable {T:Ty}
theorem me {t:TypeId} (c:cW P t T) (w:World):(isAgg t).run P w= .ok T.kind.isAgg w:=by
 have a:=c.kind;cases b:T.kind with
 |int k=>rw[b]at a;simp[isAgg,run_underlying a,TK.isAgg]
 |str g=>rw[b]at a;obtain⟨F,a,_⟩:=a;simp[isAgg,run_underlying a,TK.isAgg]
 |arr n e=>rw[b]at a;simp[isAgg,run_underlying a,TK.isAgg]
 |ju e=>rw[b]at a;simp[isAgg,run_underlying a,TK.isAgg]
 |cell=>rw[b]at a;obtain⟨d,a,f⟩:=a;cases d<;>simp[isAgg,run_underlying a,TK.isAgg,zs]at f|-
theorem bT {t:TypeId} (a:cW P t T) (w:World):(sizeOf t).run P w= .ok T.size w:=by
 obtain⟨i,z,b,c,_⟩:=a.info;simp[sizeOf,typeInfo,b,c]
theorem aM {b:Bool} {p:Prop} (h:bif b then p else False):b=true/\p:=by
 cases b with
 |true=>exact⟨rfl,h⟩
 |false=>exact h.elim
def pack (a:Bool) (xs:List Value):Value:=if a then .agg xs.toArray else xs.headD Go.undef
theorem AA {t:TypeId} (a:cW P t T) (w:World) (b off:Nat) (xs:List Value) (i:xs.length=T.size) (k:T.kind.isAgg=false->xs.length=1)
  (h:∀j v,xs[j]? =some v->w.cell? ⟨b,off+j,none⟩=some v):(loadVar t ⟨b,off,none⟩).run P w= .ok (pack T.kind.isAgg xs) w:=by
 have l:∀j,(⟨b,off,none⟩:Addr).add j=⟨b,off+j,none⟩:=by intro j;unfold Addr.add;split<;>simp_all
 cases c:T.kind.isAgg with
 |true=>have f:=run_loadCells_list (P:=P) w ⟨b,off,none⟩ xs (λj v m=>by rw[l];exact h j v m);rw[i]at f;simp[loadVar,me a,c,bT a,f,pack]
 |false=>
  obtain⟨x,rfl⟩:∃x,xs=[x]:=by
   have:=k c
   match xs,this with
   |[x],_=>exact⟨x,rfl⟩
  have g:=h 0 x rfl;simp only[YR]at g;simp[loadVar,me a,c,pack,g]
variable {K:TV->Prop}
theorem jn {cs:List SV} (h:mZ T cs K):∃x,K (.d x)/\(T.kind.isAgg=false->cs.length=1)/\∀(S:Nat->Prop) (w:World) (xs:List Value),eJ S w xs cs->nf S w (pack T.kind.isAgg xs) x:=by
 unfold mZ at h;split at h;rename_i a;exact⟨.agg cs,h,λe=>by rw[a]at e;exact absurd e (by decide),λS w xs b=>⟨xs,by simp[pack,a],b⟩⟩
 ·rename_i a;split at h
  ·rename_i c;rw[TV.pr]at h;refine⟨.one c,h,λ_=>rfl,λS w xs b=>?_⟩;cases b with
   |cons f t=>cases t;show Rd S w _ c;simpa[pack,a]using f
  ·exact h.elim
theorem mw:∀(n:Nat) (f:Nat->SV),(cells n f).length=n
 |0,_=>rfl
 |n+1,f=>by simp[cells,mw n]
theorem oj:∀(n:Nat) (f:Nat->SV) (j:Nat),(cells n f)[j]? =if j<n then some (f j)else none
 |0,_,_=>by simp[cells]
 |n+1,f,0=>by simp[cells]
 |n+1,f,j+1=>by simp[cells,oj n]
variable {S:Nat->Prop}
theorem pF (n:Nat) (f:Nat->SV) (xs:Nat->Value) (h:∀j,j<n->Rd S w (xs j) (f j)):eJ S w ((List.range n).map xs) (cells n f):=by
 induction n generalizing f xs with
 |zero=>exact .nil
 |succ n a=>rw[ZO,Yg,Yq];exact .cons (h 0 (by omega)) (a (λj=>f (j+1)) (λj=>xs (j+1)) (λj b=>h (j+1) (by omega)))
variable {xs:List Value} {e:TypeId}
theorem kI {b off:Nat} (a:w.heap[b]? =some (.cells xs.toArray e (0,0))) (j:Nat) {v:Value} (c:xs[off+j]? =some v):
  w.cell? ⟨b,off+j,none⟩=some v:=by
 simp[World.cell?,a,c]
theorem xS {t:Nat->TV} (h:Rel E ρ t m a w) {b:Nat} (c:L E m ρ w b):b<w.heap.size:=by
 rcases c.1 with h1|h1|h1;exact Yl (E.hS b h1) h.below.size;exact Yl (E.hX b h1) h.below.size;exact h1.2
theorem fN {o:Id} {cs:List SV} (h:m o= .box cs):(m o).live:=by rw[h];trivial
variable {g k:Nat}
theorem cU {o:Id} {n:Nat} {get:Nat->Nat->SV} (h:m o= .aJ g n k e get):(m o).live:=by rw[h];trivial
variable {cs:List CV}
theorem ru {o:Id} (h:m o= .obj cs):(m o).live:=by rw[h];trivial
theorem pX {o:Id} {n:Nat} {get:Nat->Nat->CV} (h:m o= .br g n k e get):(m o).live:=by rw[h];trivial
theorem fU.length (a:fU S m ρ w xs cs):xs.length=cs.length:=by
 induction a with
 |nil=>rfl
 |cons _ _ b=>simp[b]
theorem fU.take (a:fU S m ρ w xs cs) (n:Nat):fU S m ρ w (xs.take n) (cs.take n):=by
 induction a generalizing n with
 |nil=>simpa using fU.nil
 |cons b _ c=>
  cases n with
  |zero=>exact .nil
  |succ n=>exact .cons b (c n)
theorem fU.drop (a:fU S m ρ w xs cs) (n:Nat):fU S m ρ w (xs.drop n) (cs.drop n):=by
 induction a generalizing n with
 |nil=>simpa using fU.nil
 |cons b t c=>
  cases n with
  |zero=>exact .cons b t
  |succ n=>exact c n
variable {c:CV}
theorem fU.set (a:fU S m ρ w xs cs) (j:Nat) {x:Value} (h:kR S m ρ w x c):fU S m ρ w (xs.set j x) (cs.set j c):=by
 induction a generalizing j with
 |nil=>simpa using fU.nil
 |cons b t f=>
  cases j with
  |zero=>exact .cons h t
  |succ j=>exact .cons b (f j)
theorem fU.setCells {S:Nat->Prop} {m:Id->Mem} {ρ:Id->Option (Nat×Nat)} {w:World} {a:List Value} {b:List CV} (hs:fU S m ρ w a b):∀{xs:List Value} {cs:List CV} (i:Nat),fU S m ρ w xs cs->fU S m ρ w (setCells xs i a) (setCells cs i b):=by
 induction hs with
 |nil=>intro xs cs i h;exact h
 |cons c _ f=>intro xs cs i h;exact f (i+1) (h.set i c)
theorem fU.bO (b:fU S m ρ w xs cs):∀x∈xs,x.oneCell'=true:=by
 induction b with
 |nil=>simp
 |cons c _ f=>intro y a;rcases XF.1 a with rfl|a;exact c.bO;exact f y a
theorem fU.get (a:fU S m ρ w xs cs):∀(j:Nat) (c:CV),cs[j]? =some c->∃x,xs[j]? =some x/\kR S m ρ w x c:=by
 induction a with
 |nil=>intro j c h;simp at h
 |@cons x c xs cs b _ f=>
  intro j g h;cases j with
  |zero=>simp at h;subst h;exact⟨x,by simp,b⟩
  |succ j=>simpa using f j g (by simpa using h)
theorem fU.Lw {cs:List SV} (a:eJ S w xs cs):fU S m ρ w xs (cs.map .s):=by
 induction a with
 |nil=>exact .nil
 |cons b _ c=>exact .cons b c
theorem Ck {K:List SV->Prop}:∀{l:List CV},GG l K->∃a,l=a.map .s/\K a
 |[],h=>⟨[],rfl,h⟩
 |c::r,h=>by simp only[GG]at h;split at h;rename_i c;obtain⟨a,e,b⟩:=Ck h;exact⟨c::a,by rw[e];rfl,b⟩;exact h.elim
theorem fU.Ru:∀{cs:List SV} {xs:List Value},fU S m ρ w xs (cs.map .s)->eJ S w xs cs
 |[],_,h=>by cases h;exact .nil
 |c::cs,_,h=>by cases h with|cons a b=>exact .cons a (fU.Ru b)
theorem kR.tok {x:Value} (h:kR (L E m ρ w) m ρ w x c):dm E m ρ w x c.tv:=by
 cases c<;>exact h
theorem CV.Gq {o:Id} (h:c.tv.refs o):c.refs o:=by
 cases c<;>exact h
theorem Jh (h:Da T cs K):∃x,K x/\(T.kind.isAgg=false->cs.length=1)/\(∀o,x.refs o->∃c∈cs,c.refs o)/\
  ∀(E:Env) (m:Id->Mem) (ρ:Id->Option (Nat×Nat)) (w:World) (xs:List Value),fU (L E m ρ w) m ρ w xs cs->dm E m ρ w (pack T.kind.isAgg xs) x:=by
 unfold Da at h;split at h;rename_i a;obtain⟨l,e,f⟩:=Ck h;refine⟨.d (.agg l),f,λe=>by rw[a]at e;exact absurd e (by decide),λ_ h=>h.elim,λE m ρ w xs b=>?_⟩;rw[e]at b;exact⟨xs,by simp[pack,a],b.Ru⟩
 ·rename_i a;split at h
  ·rename_i c;rw[CV.zX]at h;refine⟨c.tv,h,λ_=>rfl,λo g=>⟨c,by simp,CV.Gq g⟩,λE m ρ w xs b=>?_⟩;cases b with
   |cons i t=>cases t;have:=kR.tok i;simpa[pack,a]using this
  ·exact h.elim
theorem yi {α:Type} {l:List α} {a b:Nat} {c:α} (h:c∈(l.drop a).take b):c∈l:=List.mem_of_mem_drop (List.mem_of_mem_take h)
variable {ty:TypeId}
theorem y4 {o:Oper} {t:Nat->TV} {TT:iu} (b5:cC P TT) (b6:TT ty=some T) (X:o.op= .load ty x) {K:fh}
  (h:pY T m (bG t x) K):∃y b2,K y [] b2/\∀E ρ S m' a w,E.P=P->fe o t S->hE b2 m m'->Rel E ρ S m' a w->
   ∃v,(execOp a.eval o).run P w= .ok (.value v) w/\dm E m' ρ w v y/\∀b,y.refs b->m' b≠ .none:=by
 have b7:=b5 ty T b6;have Y:x∈o.op.operands.toList:=by rw[X];simp[Op.operands]
 have Z:∀(a:Act) (w:World) (b off:Nat) (xs:List Value),a.eval x= .pointer (some ⟨b,off,none⟩)->xs.length=T.size->(T.kind.isAgg=false->xs.length=1)->
   (∀j v,xs[j]? =some v->w.cell? ⟨b,off+j,none⟩=some v)->(execOp a.eval o).run P w= .ok (.value (pack T.kind.isAgg xs)) w:=by
  intro a w b off xs G b8 B a0;have a1:=AA b7 w b off xs b8 B a0;simp[execOp,X,G,Instr.loadAt,Instr.sureAddr,a1]
 unfold pY at h;split at h;rename_i n d1 G;replace h:=aM h;obtain⟨p,h⟩:=h;have a6:T.size<=n:=XJ p;obtain⟨y,H,B,I⟩:=jn h;refine⟨_,_,H,λE ρ S m' a w a2 D _ l=>?_⟩;have f:=(ax l x).1;rw[aq D Y,G]at f;obtain⟨b,off,xs,b9,hS,a0,a1⟩:=Rd.qJ f;refine⟨_,Z a w b off ((List.range T.size).map xs) b9 (by simp) (λe=>by have:=B e;rw[mw]at this;simpa using this) (λj v f=>?_),I _ w _ (pF _ _ _ (λj C=>a1 j (by omega))),λ_ h=>h.elim⟩;simp only[Zt]at f;by_cases C:j<T.size;simp[C]at f;rw[<-f];exact a0 j (by omega);simp[C]at f;rename_i b off G;replace h:=bp h;split at h;rename_i cs J;replace h:=aM h;obtain⟨p,h⟩:=h;have a6:off+T.size<=cs.length:=XJ p;obtain⟨y,H,B,I⟩:=jn h;refine⟨_,_,H,λE ρ S m' a w a2 D M l=>?_⟩;have f:=(ax l x).1;have q:m' b= .box cs:=(by rw[M.at b];exact J);rw[aq D Y,G]at f;simp only[dm,bh,q]at f;obtain⟨r,c,F,N⟩:=f;have z:=l.mem b;rw[q]at z;obtain⟨O,Q,xs,e,A,R,U⟩:=z;rw[F]at A;obtain⟨rfl,rfl⟩:r=O/\c=Q:=(by simpa using A);have V:=(U.drop off).take T.size;have a3:((xs.drop off).take T.size).length=T.size:=(by have:=U.length;simp;omega);refine⟨_,Z a w r off ((xs.drop off).take T.size) N a3 (λe=>by have:=B e;rw[<-V.length]at this;exact this) (λj v f=>?_),I _ w _ V,λ_ h=>h.elim⟩;refine kI R j ?_;rw[Y2,Zn]at f;split at f;exact f;simp at f;rename_i cs J;replace h:=aM h;obtain⟨p,h⟩:=h;have a6:off+T.size<=cs.length:=XJ p;obtain⟨y,H,B,I⟩:=jn h;refine⟨_,_,H,λE ρ S m' a w a2 D M l=>?_⟩;have f:=(ax l x).1;have q:m' b= .ro cs:=(by rw[M.at b];exact J);rw[aq D Y,G]at f;simp only[dm,bh,q]at f;obtain⟨r,c,F,N⟩:=f;have z:=l.mem b;rw[q]at z;obtain⟨O,Q,xs,e,A,_,R,U⟩:=z;rw[F]at A;obtain⟨rfl,rfl⟩:r=O/\c=Q:=(by simpa using A);have V:=(U.drop off).take T.size;have a3:((xs.drop off).take T.size).length=T.size:=(by have:=U.length;simp;omega);refine⟨_,Z a w r off ((xs.drop off).take T.size) N a3 (λe=>by have:=B e;rw[<-V.length]at this;exact this) (λj v f=>?_),I _ w _ V,λ_ h=>h.elim⟩;refine kI R j ?_;rw[Y2,Zn]at f;split at f;exact f;simp at f;rename_i cs J;replace h:=aM h;obtain⟨p,h⟩:=h;have a6:off+T.size<=cs.length:=XJ p;obtain⟨y,H,B,c0,I⟩:=Jh h;refine⟨_,_,H,λE ρ S m' a w a2 D M l=>?_⟩;have f:=(ax l x).1;have q:m' b= .obj cs:=(by rw[M.at b];exact J);rw[aq D Y,G]at f;simp only[dm,bh,q]at f;obtain⟨r,c,F,N⟩:=f;have z:=l.mem b;rw[q]at z;obtain⟨O,Q,xs,e,A,R,U⟩:=z;rw[F]at A;obtain⟨rfl,rfl⟩:r=O/\c=Q:=(by simpa using A);have V:=(U.drop off).take T.size;have a3:((xs.drop off).take T.size).length=T.size:=(by have:=U.length;simp;omega);refine⟨_,Z a w r off ((xs.drop off).take T.size) N a3 (λe=>by have:=B e;rw[<-V.length]at this;exact this) (λj v f=>?_),I E m' ρ w _ V,λo X=>?_⟩;refine kI R j ?_;rw[Y2,Zn]at f;split at f;exact f;simp at f;obtain⟨c,a0,a1⟩:=c0 o X;refine l.cleanM b o ?_;rw[q];exact⟨c,yi a0,a1⟩;exact h.elim
 ·rename_i b g i off G;replace h:=bp h;split at h
  ·rename_i a9 n k e a4 J;replace h:=aM h;obtain⟨p,h⟩:=h;simp only[XH]at p;obtain rfl:g=a9:=XE p.1;have a6:off+T.size<=k:=XJ p.2;obtain⟨y,H,B,I⟩:=jn h;refine⟨_,_,H,λE ρ S m' a w a2 D M l=>?_⟩;have f:=(ax l x).1;have q:m' b= .aJ g n k e a4:=(by rw[M.at b];exact J);rw[aq D Y,G]at f;simp only[dm,bh,q]at f;obtain⟨a7,r,c,F,N⟩:=f.2 trivial;have z:=l.mem b;rw[q]at z;rcases z with⟨a5,_⟩|⟨O,Q,a8,A,R,c1,c2,c3,b0⟩;rw[F]at a5;simp at a5
   ·rw[F]at A;obtain⟨rfl,rfl⟩:r=O/\c=Q:=(by simpa using A);have c4:∀j,j<T.size->∃v,a8[i*k+(off+j)]? =some v/\Rd (L E m' ρ w) w v (a4 i (off+j)):=λj C=>b0 i a7 (off+j) (by omega);have c5:∃xs:Nat->Value,∀j,j<T.size->a8[i*k+(off+j)]? =some (xs j)/\Rd (L E m' ρ w) w (xs j) (a4 i (off+j)):=(by refine⟨λj=>(a8[i*k+(off+j)]?).getD Go.undef,λj C=>?_⟩;obtain⟨v,B,c6⟩:=c4 j C;simp only[B,Yt];exact⟨trivial,c6⟩);obtain⟨xs,b3⟩:=c5;refine⟨_,Z a w r (i*k+off) ((List.range T.size).map xs) N (by simp) (λe=>by have:=B e;rw[mw]at this;simpa using this) (λj v f=>?_),I _ w _ (pF _ _ _ (λj C=>(b3 j C).2)),λ_ h=>h.elim⟩;simp only[Zt]at f;by_cases C:j<T.size;simp[C]at f;have:=(b3 j C).1;rw[<-YQ]at this;simp[World.cell?,R,this,f];simp[C]at f
  ·rename_i a9 n k e a4 J;replace h:=aM h;obtain⟨p,h⟩:=h;simp only[XH,YK]at p;obtain rfl:g=a9:=XE p.1.1.1;have b4:off<k:=bU p.1.1.2;have c7:T.size=1:=XE p.1.2;have c8:=p.2;have h:=h.elim;rw[CV.zX]at h;refine⟨_,_,h,λE ρ S m' a w a2 D M l=>?_⟩;have f:=(ax l x).1;have q:m' b= .br g n k e a4:=(by rw[M.at b];exact J);rw[aq D Y,G]at f;simp only[dm,q]at f;obtain⟨a7,r,c,F,N⟩:=f.2 trivial;have z:=l.mem b;rw[q]at z;rcases z with⟨a5,_⟩|⟨O,Q,a8,A,R,c1,c2,c3,b0⟩;rw[F]at a5;simp at a5
   ·rw[F]at A;obtain⟨rfl,rfl⟩:r=O/\c=Q:=(by simpa using A);obtain⟨v,c9,d0⟩:=b0 i a7 off b4;refine⟨_,Z a w r (i*k+off) [v] N (by simp[c7]) (λ_=>rfl) (λj u b1=>?_),?_,λo X=>?_⟩
    ·cases j with
     |zero=>simp at b1;subst b1;simp[World.cell?,R,c9]
     |succ j=>simp at b1
    ·have:=kR.tok d0;simpa[pack,c8]using this
    ·refine l.cleanM b o ?_;rw[q];exact⟨i,off,a7,b4,CV.Gq X⟩
  ·exact h.elim
 ·exact h.elim
theorem tH {o:Oper} {t:Nat->TV} {TT:iu} (c:cC P TT) (f:TT ty=some T) (g:o.op= .load ty x) {K:fh}
  (h:pY T m (bG t x) K):∃y b a,K y b a/\aG P o t m y b a:=by
 obtain⟨y,a,i,j⟩:=y4 c f g h;exact⟨y,[],a,i,aB j⟩
theorem bX (w:World) (o:Obj):(w.alloc o).heap[w.heap.size]? =some o:=by
 show(w.heap.push o)[w.heap.size]? =some o;simp
theorem iT (w:World) (o:Obj) (k:Nat) (h:k<w.heap.size):(w.alloc o).heap[k]? =w.heap[k]?:=Below.heap_alloc w o k h
theorem ek (w:World) (o:Obj):Below w.heap.size w (w.alloc o):=(Below.refl _ w).alloc (XP _) o
variable {E:Env} {ρ:Id->Option (Nat×Nat)} {m:Id->Mem} {a:Act} {w w':World}
theorem Iu {t:Nat->TV} (h:Rel E ρ t m a w) (o:Id) (nm:Mem) (c:Nat) (q:¬(m o).live)
  (j:Below w.heap.size w w') (u:w.heap.size<w'.heap.size):∀b,L E m ρ w b->L E (bo m o nm) (bo ρ o (some (w.heap.size,c))) w' b/\w'.heap[b]? =w.heap[b]?:=by
 intro b f;have k:=xS h f;refine⟨⟨f.1.imp id (λg=>g.imp id (λg=>⟨g.1,by omega⟩)),λi p l r=>?_⟩,j.block b k⟩;by_cases e:i=o;subst e;rw[ar]at r;simp at r;omega;rw[av _ _ _ e]at l r;exact f.2 i p l r
theorem Rel.r1 {t:Nat->TV} (h:Rel E ρ t m a w) (o:Id) (k:m o= .none) (yj:E.m0 o= .none) (xs:List Value) (nm:Mem) (e:TypeId)
  (p:(∃g,nm= .box g/\eJ (L E m ρ w) w xs g)\/(∃g,nm= .obj g/\fU (L E m ρ w) m ρ w xs g/\∀c∈g,∀f,c.refs f->m f≠ .none)):Rel E (bo ρ o (some (w.heap.size,0))) t (bo m o nm) a (w.alloc (.cells xs.toArray e)):=by
 have z:¬(m o).live:=by rw[k];exact id
 have q:=Iu h o nm 0 z (ek w (.cells xs.toArray e)) (by simp);have A:∀f,m f≠ .none->Carry m (bo m o nm) ρ (bo ρ o (some (w.heap.size,0))) f:=λf j=>by have e:f≠o:=λe=>j (e▸k);exact Carry.same (av _ _ _ e) (av _ _ _ e)
 refine h.one o nm _ (Bx.of (ek w _) h.below.size) q ?_ ?_ ?_ ?_ (λ_=>yj) ?_ ?_ (λj=>absurd k j) (λ_ _ _ _ j=>absurd k j) (λ_ _ _ _ j=>absurd k j);intro f b c _ l r;exact iT w _ b (h.lo f b c l r).2;intro _ b c i;simp only[Y9,Zq]at i;obtain⟨rfl,rfl⟩:=i;refine⟨⟨.inr h.below.size,by simp⟩,λf B _ l r=>?_⟩;exact absurd (h.lo f _ B l r).2 (Zg _);(rcases p with⟨g,rfl,_⟩|⟨g,rfl,_⟩<;>simp)
 ·intro f i;rcases p with⟨g,rfl,_⟩|⟨g,rfl,_,u⟩;exact i.elim;obtain⟨c,x,i⟩:=i;exact .inr (u c x f i)
 ·rcases p with⟨g,rfl,_⟩|⟨g,rfl,_⟩<;>simp[Mem.gen]
 ·rcases p with⟨g,rfl,y⟩|⟨g,rfl,y,u⟩;exact⟨w.heap.size,0,xs,e,ar _ _ _,bX w _,y.mono q⟩;exact⟨w.heap.size,0,xs,e,ar _ _ _,bX w _,y.mono q (λf ⟨c,x,i⟩=>A f (u c x f i))⟩
theorem kg {α:Type}:∀(a xs:List α) (i:Nat),i+a.length<=xs.length->setCells xs i a=xs.take i++a++xs.drop (i+a.length)
 |[],xs,i,_=>by simp[setCells]
 |y::a,xs,i,h=>by simp only[XZ]at h;rw[setCells,kg a (xs.set i y) (i+1) (by simp;omega)];apply Xe;intro k;simp only[XZ,Yo,Yu,Xq,XR,Y2,Zn,List.getElem?_set];have f:min (i+1) xs.length=i+1:=(by omega);have g:min i xs.length=i:=(by omega);rw[f,g];by_cases b:k<i;simp[b,show k<i+1 by omega,show k<i+1+a.length by omega,show k<i+(a.length+1) by omega,show¬i=k by omega];by_cases j:k=i;subst j;simp[show k<k+1+a.length by omega,show k<xs.length by omega];by_cases c:k<i+1+a.length;simp[b,c,show¬k<i+1 by omega,show k<i+(a.length+1) by omega,show k-i=(k-(i+1))+1 by omega];simp[c,show¬k<i+(a.length+1) by omega,show¬i=i+1+a.length+(k-(i+1+a.length)) by omega];congr 1;omega
theorem ko {α:Type} (a xs:List α) (i:Nat) (h:i+a.length<=xs.length) (p:Nat):(setCells xs i a)[p]? =if i<=p/\p<i+a.length then a[p-i]? else xs[p]?:=by
 rw[kg a xs i h];simp only[Yk,Yo,Yu,Y2,Zn];rw[show min i xs.length=i by omega];by_cases b:p<i;simp[b,show¬i<=p by omega];by_cases c:p<i+a.length;simp[b,c,show i<=p by omega,show p-i<a.length by omega];simp[b,c,show¬p-i<a.length by omega];congr 1;omega
theorem xE {x:TV} {K:List SV->Prop} (h:x.xF K):∃l,K l/\∀(E:Env) (m:Id->Mem) (ρ:Id->Option (Nat×Nat)) (w:World) (v:Value),dm E m ρ w v x->∃b:List Value,v.cells=b.toArray/\eJ (L E m ρ w) w b l:=by
 unfold TV.xF at h;split at h;(rename_i c;refine⟨_,h,λE m ρ w v a=>⟨[v],?_,.cons a .nil⟩⟩;have f:=Rd.bO (show Rd _ _ v c from a);cases v<;>first|rfl|(simp[Value.oneCell']at f))
 ·rename_i i;refine⟨_,h,λE m ρ w v a=>?_⟩;obtain⟨xs,rfl,g⟩:=a;exact⟨xs,rfl,g⟩
 ·exact h.elim
variable {P:Program} {nm:Mem}
theorem bW {o:Oper} {t:Nat->TV} {x:TV} {b:Id} {rd:List Nat}
  (h:∀E ρ c m' a w,E.P=P->fe o t c->hE rd m m'->(∀k,o.dst=some k->k<E.N)->Rel E ρ c m' a w->
   ∃n v w' ρ',(execOp a.eval o).run P w= .ok n w'/\(n= .value v\/(n= .skip/\v=Go.undef))/\Rel E ρ' c (bo m' b nm) a w'/\dm E (bo m' b nm) ρ' w' v x/\∀g,x.refs g->bo m' b nm g≠ .none):
  aG P o t m x [(b,nm)] rd:=by
 intro E ρ c m' a w q r u f y K Q i;obtain⟨n,v,w',ρ',z,A,j,l,p⟩:=h E ρ c m' a w q r u f y;unfold Oper.wp;rw[z];rcases A with rfl|⟨rfl,rfl⟩;exact i ρ' _ w' (j.put f l p);exact i ρ' _ w' (j.put f l p)
variable {e:TypeId} {T:Ty}
theorem Am {o:Oper} {t:Nat->TV} {TT:iu} (c:cC P TT) (f:TT e=some T) (g:o.op= .alloc e) {d:Nat} (h:o.dst=some d) (j:m (.n d)= .none):
  aG P o t m (.ptr d 0) [(.n d,.box T.zero)] [d]:=by
 obtain⟨i,z,k,K,M,p,q,r,N⟩:=(c e T f).info;refine bW λE ρ O m' a w Q R u A B=>?_;have C:m' (.n d)= .none:=by rw[u.at (.n d) (by simp[Id.key])];exact j
 have D:eJ (L E m' ρ w) w z.cells.toList T.zero:=by
  rw[<-q];have b:∀x∈z.cells.toList,x.oneCell'=true:=λx F=>Zj.1 r x F;revert b;generalize z.cells.toList=l;intro b;induction l with
  |nil=>exact .nil
  |cons x l G=>exact .cons (.v (b x (by simp))) (G (λy H=>b y (by simp[H])))
 have I:=B.r1 (.n d) C (E.yj d (ZN (A d h))) z.cells.toList (.box T.zero) e (.inl ⟨_,rfl,D⟩);refine⟨_,.pointer (some ⟨w.heap.size,0,none⟩),_,_,?_,.inl rfl,I,?_,?_⟩;simp[execOp,g,Instr.alloc,zeroValue,typeInfo,k,p,newVar,newRow];simp only[dm,bh,ar];exact⟨_,_,rfl,rfl⟩;intro S J;cases J;rw[ar];simp
theorem ES {o:Oper} {t:Nat->TV} {x:Operand} (b:o.op= .box e x) {d:Nat} (g:o.dst=some d) (i:m (.n d)= .none) {K:List SV->Prop}
  (h:(bG t x).xF K):∃l,K l/\aG P o t m (.ptr d 0) [(.n d,.box l)] [d]:=by
 obtain⟨l,j,k⟩:=xE h;refine⟨l,j,bW λE ρ D m' a w F p q r c=>?_⟩;have u:m' (.n d)= .none:=by rw[q.at (.n d) (by simp[Id.key])];exact i
 have f:=(ax c x).1;rw[aq p (by rw[b];simp[Op.operands])]at f;obtain⟨y,z,A⟩:=k E m' ρ w _ f;have B:=c.r1 (.n d) u (E.yj d (ZN (r d g))) y (.box l) e (.inl ⟨_,rfl,A⟩);refine⟨_,.pointer (some ⟨w.heap.size,0,none⟩),_,_,?_,.inl rfl,B,?_,?_⟩;simp[execOp,b,Instr.box,newVar,newRow,z];simp only[dm,bh,ar];exact⟨_,_,rfl,rfl⟩;intro G C;cases C;rw[ar];simp
variable {x:Value}
theorem cells_one (h:x.oneCell'=true):x.cells=#[x]:=by
 cases x<;>first|rfl|(simp[Value.oneCell']at h)
variable {c:CV}
theorem ny {o:Oper} {t:Nat->TV} {x:Operand} (h:o.op= .box e x) {d:Nat} (k:o.dst=some d) (l:m (.n d)= .none) (p:bG t x=c.tv):
  aG P o t m (.ptr d 0) [(.n d,.obj [c])] [d]:=by
 refine bW λE ρ F m' a w G q r u i=>?_;have y:m' (.n d)= .none:=by rw[r.at (.n d) (by simp[Id.key])];exact l
 have f:=ax i x;rw[aq q (by rw[h];simp[Op.operands]),p]at f;have j:kR (L E m' ρ w) m' ρ w (a.eval x) c:=by have:=f.1;cases c<;>exact this
 have z:∀b,c.refs b->m' b≠ .none:=λb A=>f.2 b (by cases c<;>exact A);have B:=cells_one j.bO;have C:=i.r1 (.n d) y (E.yj d (ZN (u d k))) [a.eval x] (.obj [c]) e (.inr ⟨_,rfl,.cons j .nil,λH g=>by
  rcases XF.1 g with rfl|g;exact z
  ·simp at g⟩)
 refine⟨_,.pointer (some ⟨w.heap.size,0,none⟩),_,_,?_,.inl rfl,C,?_,?_⟩;simp[execOp,h,Instr.box,newVar,newRow,B];simp only[dm,bh,ar];exact⟨_,_,rfl,rfl⟩;intro I D;cases D;rw[ar];simp
def _root_.Go.Vm.Mem.dw:Mem->Bool
 | .box _=>true
 | .ro _=>true
 | .obj _=>true
 |_=>false
def _root_.Go.Vm.Mem.bK:Mem->Option (Nat×Nat×Nat)
 | .aJ g n k _ _=>some (g,n,k)
 | .br g n k _ _=>some (g,n,k)
 |_=>none
variable {p:Nat}
theorem bQ {o:Id} (h:(m o).dw=true):bh m ρ x o p↔∃b c,ρ o=some (b,c)/\x= .pointer (some ⟨b,p,none⟩):=by
 unfold bh;revert h;cases m o<;>intro h<;>first|exact ZC|simp[Mem.dw]at h
variable {q:Nat×Nat×Nat}
theorem hV {o:Id} (h:(m o).bK=some q):¬bh m ρ x o p:=by
 unfold bh;revert h;cases m o<;>intro h<;>first|exact id|simp[Mem.bK]at h
variable {g g' k:Nat}
theorem bB {o:Id} {n:Nat} (h:(m o).bK=some (g',n,k)):bF m ρ x o g↔x.oneCell'=true/\g<=g'/\(g=g'->cE ρ x o n):=by
 unfold bF;revert h;cases m o<;>intro h<;>simp[Mem.bK]at h<;>(obtain⟨rfl,rfl,rfl⟩:=h;exact ZC)
theorem fH {o:Id} (h:(m o).dw=true):bF m ρ x o g↔x.oneCell'=true:=by
 unfold bF;revert h;cases m o<;>intro h<;>first|exact⟨λh=>h.1,λh=>⟨h,trivial⟩⟩|simp[Mem.dw]at h
variable {lo n':Nat}
theorem dq {o:Id} {n:Nat} (h:(m o).bK=some (g',n',k)):fj m ρ x o g lo n↔x.oneCell'=true/\g<=g'/\(g=g'->lo+n<=n'/\hj ρ x o k lo n):=by
 unfold fj;revert h;cases m o<;>intro h<;>simp[Mem.bK]at h<;>(obtain⟨rfl,rfl,rfl⟩:=h;exact ZC)
theorem lY {o:Id} {n:Nat} (h:(m o).dw=true):fj m ρ x o g lo n↔x.oneCell'=true:=by
 unfold fj;revert h;cases m o<;>intro h<;>first|exact⟨λh=>h.1,λh=>⟨h,trivial⟩⟩|simp[Mem.dw]at h
variable {i:Nat}
theorem dv {o:Id} {off n:Nat} (h:(m o).bK=some (g',n,k)):
  dm E m ρ w x (.ep o g i off)↔g<=g'/\(g=g'->i<n/\∃b c,ρ o=some (b,c)/\x= .pointer (some ⟨b,i*k+off,none⟩)):=by
 simp only[dm];revert h;cases m o<;>intro h<;>simp[Mem.bK]at h<;>(obtain⟨rfl,rfl,rfl⟩:=h;exact ZC)
theorem zn {o:Id} {off:Nat} (h:(m o).dw=true):dm E m ρ w x (.ep o g i off):=by
 simp only[dm];revert h;cases m o<;>intro h<;>first|trivial|simp[Mem.dw]at h
theorem cO {x:Mem} {n:Nat} (h:x.bK=some (g,n,k)):x.gen=g:=by
 revert h;cases x<;>intro h<;>simp[Mem.bK]at h<;>(obtain⟨rfl,rfl,rfl⟩:=h;rfl)
theorem om {x:Mem} (h:x.dw=true):x.gen=0:=by
 revert h;cases x<;>intro h<;>first|rfl|simp[Mem.dw]at h
theorem jD {o:Id} {x:Mem} {n:Nat} (h:x.bK=some (g,n,k)) (c:iJ E m ρ w o x):
  (ρ o=none/\n=0)\/∃b a f e,ρ o=some (b,a)/\w.heap[b]? =some (.cells f e (0,0))/\f.size=a*k/\n<=a/\a<=maxLen:=by
 revert h c;cases x<;>intro h c<;>simp[Mem.bK]at h
 all_goals
  obtain⟨rfl,rfl,rfl⟩:=h;rcases c with c|⟨b,a,f,i,j,l,p,q,_⟩;exact .inl c;exact .inr ⟨b,a,f,_,i,j,l,p,q⟩
theorem cM {x:Mem} (h:x.bK=some q):x.live/\x≠ .none:=by
 revert h;cases x<;>intro h<;>simp[Mem.bK]at h<;>exact⟨trivial,by simp⟩
inductive Shape:Mem->Mem->Prop where
 |dw {x y:Mem} (h:x.dw=true) (h':y.dw=true):Shape x y
 |bK {x y:Mem} {q:Nat×Nat×Nat} (h:x.bK=some q) (h':y.bK=some q):Shape x y
theorem Shape.ne {x y:Mem} (h:Shape x y):y≠ .none:=by
 cases h with
 |dw _ a=>intro e;rw[e]at a;simp[Mem.dw]at a
 |bK _ a=>intro e;rw[e]at a;simp[Mem.bK]at a
theorem Shape.gen {x y:Mem} (h:Shape x y):y.gen=x.gen:=by
 cases h with
 |dw h a=>rw[om h,om a]
 |@bK q h a=>obtain⟨g,n,k⟩:=q;rw[cO h,cO a]
variable {m':Id->Mem} {ρ':Id->Option (Nat×Nat)}
theorem Shape.carry {o:Id} (h:Shape (m o) (m' o)) (b:ρ' o=ρ o):Carry m m' ρ ρ' o:=by
 generalize c:m o=x at h;generalize f:m' o=y at h;cases h with
 |dw h a=>subst c f;refine⟨λx p=>?_,λx g=>?_⟩;rw[bQ h,bQ a,b];exact id;rw[fH h,fH a];exact id
 |@bK q h a=>subst c f;obtain⟨g',n,k⟩:=q;refine⟨λx p i=>absurd i (hV h),λx g=>?_⟩;rw[bB h,bB a];simp only[cE,b];exact id
theorem Shape.sub {o:Id} (h:Shape (m o) (m' o)) (f:ρ' o=ρ o) (x:Value) (g lo n:Nat):fj m ρ x o g lo n->fj m' ρ' x o g lo n:=by
 generalize b:m o=x at h;generalize c:m' o=y at h;cases h with
 |dw h a=>subst b c;rw[lY h,lY a];exact id
 |@bK q h a=>subst b c;obtain⟨g',n',k⟩:=q;rw[dq h,dq a];simp only[hj,f];exact id
theorem Shape.ep {o:Id} (h:Shape (m o) (m' o)) (f:ρ' o=ρ o) (x:Value) (g i off:Nat):dm E m ρ w x (.ep o g i off)->dm E m' ρ' w' x (.ep o g i off):=by
 generalize b:m o=x at h;generalize c:m' o=y at h;cases h with
 |dw h a=>subst b c;intro _;exact zn a
 |@bK q h a=>subst b c;obtain⟨g',n',k⟩:=q;rw[dv h,dv a,f];exact id
section
variable {m m':Id->Mem} {ρ ρ':Id->Option (Nat×Nat)} {o:Id} {g n k g' n' k':Nat}
theorem kk (h:(m o).bK=some (g,n,k)) (a:(m' o).bK=some (g',n',k')) (f:g<g'):Carry m m' ρ ρ' o:=by
 refine⟨λx p b=>absurd b (hV h),λx q=>?_⟩;rw[bB h,bB a];exact λc=>⟨c.1,by omega,λe=>by omega⟩
theorem sP (h:(m o).bK=some (g,n,k)) (a:(m' o).bK=some (g',n',k')) (f:g<g') (x:Value) (q lo c:Nat):fj m ρ x o q lo c->fj m' ρ' x o q lo c:=by
 rw[dq h,dq a];exact λb=>⟨b.1,by omega,λe=>by omega⟩
theorem wN (h:(m o).bK=some (g,n,k)) (a:(m' o).bK=some (g',n',k')) (b:g<g') (x:Value) (q i off:Nat):dm E m ρ w x (.ep o q i off)->dm E m' ρ' w' x (.ep o q i off):=by
 rw[dv h,dv a];exact λc=>⟨by omega,λe=>by omega⟩
end
theorem Rel.Tx {t:Nat->TV} (h:Rel E ρ t m a w) {o:Id} {n k':Nat} (j:(m o).bK=some (g,n,k)) (B:nm.bK=some (g',n',k')) (y:g<g') (D:g'≠1)
  (F:∀f,nm.refs f->m f≠ .none) (G:(∀f,m f≠ .none->Carry m (bo m o nm) ρ ρ f)->(∀b,L E m ρ w b->L E (bo m o nm) ρ w b)->iJ E (bo m o nm) ρ w o nm):Rel E ρ t (bo m o nm) a w:=by
 have p:bo ρ o (ρ o)=ρ:=fw ρ o;have z:(bo m o nm o).bK=some (g',n',k'):=by rw[ar];exact B
 have C:∀b,L E m ρ w b->L E (bo m o nm) ρ w b:=λb u=>⟨u.1,λf A l r=>by
   by_cases e:f=o;subst e;exact u.2 f A (cM j).1 r
   ·rw[av _ _ _ e]at l;exact u.2 f A l r⟩
 have H:∀f,m f≠ .none->Carry m (bo m o nm) ρ ρ f:=λf _=>by by_cases e:f=o;subst e;exact kk j z y;exact Carry.same (av _ _ _ e) rfl
 have:=h.one o nm (ρ o) (Bx.refl _ _ _) (λb u=>⟨by rw[p];exact C b u,rfl⟩) (λ_ _ _ _ _ _=>rfl)
  (λ_ b c r=>⟨h.lo o b c (cM j).1 r,λf A I l J=>I (h.inj f o b A c l (cM j).1 J r)⟩) (cM B).2 (λf K=> .inr (F f K))
  (λe=>absurd e (cM j).2) (λe=>by rw[cO B]at e;exact absurd e D) (by rw[p];exact G H C)
  (λ_=>by rw[p];exact kk j z y) (λx q i M _=>by rw[p];exact wN j z y x q i M) (λx q lo c _=>by rw[p];exact sP j z y x q lo c)
 rwa [p]at this
theorem BR {t:Nat->TV} (h:Rel E ρ t m a w) {o:Id} {b c:Nat} (p:(m o).live) (q:ρ o=some (b,c)) (nm:Mem) (r:Array Value):
  Bx E.w0.heap.size E.X w (w.setRow b r)/\(∀f,L E m ρ w f->L E (bo m o nm) (bo ρ o (some (b,c))) (w.setRow b r) f/\(w.setRow b r).heap[f]? =w.heap[f]?)/\
   (∀g f j,g≠o->(m g).live->ρ g=some (f,j)->(w.setRow b r).heap[f]? =w.heap[f]?):=by
 obtain⟨h1,z⟩:=h.lo o b c p q;refine⟨⟨rfl,rfl,rfl,by simp,λk A x=>setRow_other w b k r (λe=>?_),XP _⟩,λf u=>⟨⟨?_,λg j l i=>?_⟩,setRow_other w b f r (λe=>u.2 o c p (e▸q))⟩,λg f j y l i=>setRow_other w b f r (λe=>y (h.inj g o f j c l p i (e▸q)))⟩;subst e;rcases h1 with h1|h1;exact x h1;omega;exact u.1.imp id (λh=>h.imp id (λh=>⟨h.1,by simpa using h.2⟩));by_cases e:g=o;subst e;rw[ar]at i;simp only[Y9,Zq]at i;exact u.2 g c p (by rw[q,i.1]);rw[av _ _ _ e]at l i;exact u.2 g j l i
theorem Rel.q8 {t:Nat->TV} (h:Rel E ρ t m a w) {o:Id} {b c:Nat} (j:(m o).live) (l:ρ o=some (b,c)) (nm:Mem) (r:Array Value)
  (hs:Shape (m o) nm) (A:∀f,nm.refs f->m f≠ .none)
  (B:(∀k,L E m ρ w k->L E (bo m o nm) (bo ρ o (some (b,c))) (w.setRow b r) k/\(w.setRow b r).heap[k]? =w.heap[k]?)->(∀f,m f≠ .none->Carry m (bo m o nm) ρ (bo ρ o (some (b,c))) f)->
   iJ E (bo m o nm) (bo ρ o (some (b,c))) (w.setRow b r) o nm):
  Rel E (bo ρ o (some (b,c))) t (bo m o nm) a (w.setRow b r):=by
 obtain⟨C,y,D⟩:=BR h j l nm r;have q:Shape (m o) (bo m o nm o):=by rw[ar];exact hs
 have u:bo ρ o (some (b,c)) o=ρ o:=by rw[ar,l]
 have z:Carry m (bo m o nm) ρ (bo ρ o (some (b,c))) o:=q.carry u;refine h.one o nm _ C y D ?_ hs.ne (λf p=> .inr (A f p)) (λe=>by rw[e]at j;exact j.elim) (λF=>by rw[<-hs.gen];exact F) (B y (λf O=>?_)) (λ_=>z)
  (λx g i G _=>q.ep u x g i G) (λx g lo n _=>q.sub u x g lo n)
 ·intro _ k P p;simp only[Y9,Zq]at p;obtain⟨rfl,rfl⟩:=p;obtain⟨H,I⟩:=h.lo o b c j l;exact⟨⟨H,by simpa using I⟩,λf J K M N=>K (h.inj f o b J c M j N l)⟩
 ·by_cases e:f=o;subst e;exact z;exact Carry.same (av _ _ _ e) (av _ _ _ e)
theorem x8 {t:TypeId} (g:cW P t T) (w:World) (b off:Nat) (c:Array Value) (e:TypeId) (h:w.heap[b]? =some (.cells c e (0,0))) (v:Value) (a:List Value) (i:v.cells=a.toArray) (j:a.length=T.size)
  (k:off+a.length<=c.size) (l:∀x∈a,x.oneCell'=true):(storeVar t ⟨b,off,none⟩ v).run P w= .ok () (w.setRow b (setCells c.toList off a).toArray):=by
 have f:=run_storeCells_at (P:=P) b off e a 0 c w h (by omega) l;rw[kg a c.toList off (by simpa using k)];simp only[YR]at f;simp only[storeVar,Sem.run_bind,bT g,Result.andThen_ok,i,Z5,<-j,ne_eq,not_true,Z3];exact f
variable {S:Nat->Prop} {xs:List Value}
theorem eJ.du {cs:List SV} (b:eJ S w xs cs) (j:Nat) (a:j<cs.length):∃x,xs[j]? =some x/\Rd S w x (cs.getD j (.v Go.undef)):=by
 obtain⟨x,c,f⟩:=b.get j cs[j] (by simp[a]);exact⟨x,c,by simpa[List.getD,a]using f⟩
theorem IN {g:Type} {R:Value->g->Prop} {c:Array Value} {b:List Value} {n off len:Nat} {get:Nat->Nat->g} {new:Nat->g} (r:b.length=len) (t:i*k+off+b.length<=c.size) (E:off+len<=k)
  (u:∀a,a<n->∀j,j<k->∃x,c[a*k+j]? =some x/\R x (get a j)) (w:∀j,j<b.length->∃v,b[j]? =some v/\R v (new j)):
  ∀a,a<n->∀j,j<k->∃x,(setCells c.toList (i*k+off) b).toArray[a*k+j]? =some x/\R x (bif Nat.beq a i&&Nat.ble off j&&Nat.blt j (off+len)then new (j-off)else get a j):=by
 subst r;intro a y j z;have f:=ko b c.toList (i*k+off) (by simpa using t) (a*k+j);by_cases o:a=i/\off<=j/\j<off+b.length;obtain⟨rfl,A,B⟩:=o;obtain⟨v,h,l⟩:=w (j-off) (by omega);refine⟨v,?_,?_⟩;rw[iP,show a*k+j-(a*k+off)=j-off by omega]at f;simpa[f]using h;have m:(Nat.beq a a&&Nat.ble off j&&Nat.blt j (off+b.length))=true:=(by simp[A,B]);rw[m];exact l;obtain⟨v,h,l⟩:=u a y j z;refine⟨v,?_,?_⟩;have C:¬(i*k+off<=a*k+j/\a*k+j<i*k+off+b.length):=(by rcases Z4 a i with h1|h1|h1;have:(a+1)*k<=i*k:=XX k h1;rw[Ym]at this;omega;subst h1;omega;have:(i+1)*k<=a*k:=XX k h1;rw[Ym]at this;omega);rw[XD C]at f;simpa[f]using h;have m:(Nat.beq a i&&Nat.ble off j&&Nat.blt j (off+b.length))=false:=(by simp only[ZQ];by_cases p:a=i;by_cases q:off<=j;right;exact hM λD=>o ⟨p,q,D⟩;left;right;exact D3 q;left;left;exact rV p);rw[m];exact l
theorem rr {α:Type}:∀(a xs:List α) (i:Nat) {c:α},c∈setCells xs i a->c∈xs\/c∈a
 |[],xs,i,c,h=> .inl h
 |y::a,xs,i,c,h=>by rcases rr a (xs.set i y) (i+1) h with h|h;rcases aaM h with h|h;exact .inl h;exact .inr (by simp[h]);exact .inr (by simp[h])
structure tz (t:Nat->TV) (y:Operand) (l:List CV) (n:Nat):Prop where
 len:l.length=n
 ok:∀(E:Env) (ρ:Id->Option (Nat×Nat)) (t':Nat->TV) (m:Id->Mem) (a:Act) (w:World),bG t' y=bG t y->Rel E ρ t' m a w->∃us:List Value,(a.eval y).cells=us.toArray/\fU (L E m ρ w) m ρ w us l/\∀c∈l,∀o,c.refs o->m o≠ .none
variable {y:Operand}
theorem tE {t:Nat->TV} {l:List SV} {n:Nat} (f:bG t y= .d (.agg l)\/∃c,bG t y= .d (.one c)/\l=[c]) (h:l.length=n):tz t y (l.map .s) n:=by
 refine⟨by simpa using h,λE ρ u m a w i j=>?_⟩;have b:=(ax j y).1;rw[i]at b;have g:∀c∈l.map CV.s,∀o,c.refs o->m o≠ .none:=λc k o p=>by obtain⟨x,_,rfl⟩:=XQ.1 k;exact p.elim
 rcases f with f|⟨c,f,rfl⟩;rw[f]at b;obtain⟨xs,q,r⟩:=b;exact⟨xs,by rw[q];rfl,fU.Lw r,g⟩;rw[f]at b;have b:Rd (L E m ρ w) w (a.eval y) c:=b;exact⟨[a.eval y],cells_one b.bO,.cons b .nil,g⟩
theorem qk {t:Nat->TV} (h:bG t y=c.tv):tz t y [c] 1:=by
 refine⟨rfl,λE ρ p m a w i j=>?_⟩;have b:=ax j y;rw[i,h]at b;have g:kR (L E m ρ w) m ρ w (a.eval y) c:=by have:=b.1;cases c<;>exact this
 refine⟨[a.eval y],cells_one g.bO,.cons g .nil,λk f o l=>?_⟩;rcases XF.1 f with rfl|f;exact b.2 o (by cases k<;>exact l);simp at f
theorem fU.getElem {cs:List CV} (b:fU S m ρ w xs cs) (j:Nat) (a:j<cs.length) (c0:CV):∃x,xs[j]? =some x/\kR S m ρ w x (cs.getD j c0):=by
 obtain⟨x,c,f⟩:=b.get j cs[j] (by simp[a]);exact⟨x,c,by simpa[List.getD,a]using f⟩
variable {ty:TypeId} {K:fh}
section
variable {P:Program} {o:Oper} {t:Nat->TV} {m:Id->Mem} {TT:iu}
theorem xl (g:cW P ty T) {x:Operand} (h:o.op= .store ty x y) (a:Act) (w:World) (c off:Nat) (f:Array Value) (e:TypeId) (b:List Value)
  (i:a.eval x= .pointer (some ⟨c,off,none⟩)) (j:w.heap[c]? =some (.cells f e (0,0))) (k:(a.eval y).cells=b.toArray) (l:b.length=T.size) (m:off+b.length<=f.size) (p:∀x∈b,x.oneCell'=true):
  (execOp a.eval o).run P w= .ok .skip (w.setRow c (setCells f.toList off b).toArray):=by
 have q:=x8 g w c off f e j _ b k l m p;simp[execOp,h,i,Instr.storeAt,Instr.sureAddr,q]
theorem oJ (a3:cW P ty T) {x:Operand} (K:o.op= .store ty x y) {b:Id} {off:Nat} (a4:bG t x= .ptr b off) {l:List CV} (Q:tz t y l T.size)
  (a5:(∃cs p,m b= .box cs/\l=p.map .s/\off+l.length<=cs.length/\nm= .box (setCells cs off p))\/(∃cs,m b= .box cs/\off+l.length<=cs.length/\nm= .obj (setCells (cs.map .s) off l))\/(∃cs,m b= .obj cs/\off+l.length<=cs.length/\nm= .obj (setCells cs off l))):
  aG P o t m .any [(b,nm)] [b.key]:=by
 have a6:x∈o.op.operands.toList:=by rw[K];simp[Op.operands]
 have a7:y∈o.op.operands.toList:=by rw[K];simp[Op.operands]
 refine bW λE ρ a8 m' a w b8 R a9 b9 u=>?_;have I:=(ax u x).1;rw[aq R a6,a4]at I;have M:=a9.at b;obtain⟨B,b0,N,S⟩:=Q.ok E ρ a8 m' a w (aq R a7) u;have c0:=N.length;have c1:=Q.len;have C:(m' b).dw=true/\(m' b).live/\∃f c xs e cs,ρ b=some (f,c)/\w.heap[f]? =some (.cells xs.toArray e (0,0))/\fU (L E m' ρ w) m' ρ w xs cs/\off+l.length<=cs.length/\(∀c∈cs,∀o,c.refs o->m' o≠ .none)/\
   nm.dw=true/\(∃J,nm= .obj (setCells cs off l)\/(nm= .box J/\J.map .s=setCells cs off l)):=by
  rcases a5 with⟨cs,p,j,rfl,A,rfl⟩|⟨cs,j,A,rfl⟩|⟨cs,j,A,rfl⟩
  ·rw[<-M]at j;have q:=u.mem b;rw[j]at q;obtain⟨f,c,xs,e,D,F,G⟩:=q;refine⟨by rw[j];rfl,fN j,f,c,xs,e,cs.map .s,D,F,fU.Lw G,by simpa using A,λc z o g=>?_,rfl,_,.inr ⟨rfl,?_⟩⟩;obtain⟨r,_,rfl⟩:=XQ.1 z;exact g.elim
   ·have:∀(p cs:List SV) (i:Nat),(setCells cs i p).map CV.s=setCells (cs.map .s) i (p.map .s):=by
     intro p;induction p with
     |nil=>intro cs i;rfl
     |cons x p b1=>intro cs i;simp only[setCells,Yg];rw[b1];simp
    exact this p cs off
  ·rw[<-M]at j;have q:=u.mem b;rw[j]at q;obtain⟨f,c,xs,e,D,F,G⟩:=q;refine⟨by rw[j];rfl,fN j,f,c,xs,e,cs.map .s,D,F,fU.Lw G,by simpa using A,λc z o g=>?_,rfl,[],.inl rfl⟩;obtain⟨r,_,rfl⟩:=XQ.1 z;exact g.elim
  ·rw[<-M]at j;have q:=u.mem b;rw[j]at q;obtain⟨f,c,xs,e,D,F,G⟩:=q;exact⟨by rw[j];rfl,ru j,f,c,xs,e,cs,D,F,G,A,λc z o g=>u.cleanM b o (by rw[j];exact⟨c,z,g⟩),rfl,[],.inl rfl⟩
 obtain⟨U,b2,f,c,xs,e,cs,V,O,X,A,Y,b3,Z⟩:=C;have c2:=X.length;simp only[dm]at I;rw[bQ U]at I;obtain⟨b4,b5,a0,b6⟩:=I;rw[V]at a0;obtain⟨rfl,rfl⟩:f=b4/\c=b5:=by simpa using a0
 have b7:∀k,nm.refs k->m' k≠ .none:=by intro k g;obtain⟨J,h|⟨h,_⟩⟩:=Z;rw[h]at g;obtain⟨r,H,g⟩:=g;rcases rr _ _ _ H with h|h;exact Y r h k g;exact S r h k g;rw[h]at g;exact g.elim
 refine⟨.skip,Go.undef,w.setRow f (setCells xs off B).toArray,bo ρ b (some (f,c)),?_,.inr ⟨rfl,rfl⟩,u.q8 b2 V nm _ (.dw U b3) b7 (λa1 a2=>?_),trivial,λ_ h=>h.elim⟩;exact xl a3 K a w f off xs.toArray e B b6 O b0 (by omega) (by simp;omega) N.bO
 ·have C:fU (L E (bo m' b nm) (bo ρ b (some (f,c))) (w.setRow f (setCells xs off B).toArray)) (bo m' b nm) (bo ρ b (some (f,c))) (w.setRow f (setCells xs off B).toArray) (setCells xs off B) (setCells cs off l):=
   fU.setCells (N.mono a1 (λk ⟨r,H,g⟩=>a2 k (S r H k g))) off (X.mono a1 (λk ⟨r,H,g⟩=>a2 k (Y r H k g)))
  obtain⟨J,h|⟨h,z⟩⟩:=Z;subst h;exact⟨f,c,_,e,ar _ _ _,setRow_heap w f _ _ e _ O,C⟩;subst h;rw[<-z]at C;exact⟨f,c,_,e,ar _ _ _,setRow_heap w f _ _ e _ O,C.Ru⟩
theorem ma (b8:cW P ty T) {x:Operand} (C:o.op= .store ty x y) {b:Id} {off:Nat} (A:bG t x= .ep b g i off) {l:List CV} (a6:tz t y l T.size) {n:Nat} {get:Nat->Nat->CV}
  (N:(∃O,m b= .aJ g n k e O/\∀i j,get i j= .s (O i j))\/m b= .br g n k e get) (b9:off+l.length<=k)
  (Q:(∃new,nm= .br g n k e new/\∀p j,new p j=bif Nat.beq p i&&Nat.ble off j&&Nat.blt j (off+l.length)then l.getD (j-off) (.s (.v Go.undef))else get p j)\/
   (∃new,nm= .aJ g n k e new/\∀p j,(.s (new p j))=bif Nat.beq p i&&Nat.ble off j&&Nat.blt j (off+l.length)then l.getD (j-off) (.s (.v Go.undef))else get p j)):
  aG P o t m .any [(b,nm)] [b.key]:=by
 have c0:x∈o.op.operands.toList:=by rw[C];simp[Op.operands]
 have c1:y∈o.op.operands.toList:=by rw[C];simp[Op.operands]
 refine bW λE ρ c2 m' a w d3 a7 c3 d4 G=>?_;have S:=(ax G x).1;rw[aq a7 c0,A]at S;have c4:=c3.at b;obtain⟨H,c5,U,c6⟩:=a6.ok E ρ c2 m' a w (aq a7 c1) G;have c7:=U.length;have d5:=a6.len;rw[<-c4]at N;have V:(m' b).bK=some (g,n,k):=by rcases N with⟨_,h,_⟩|h<;>rw[h]<;>rfl
 have c8:nm.bK=some (g,n,k):=by rcases Q with⟨_,h,_⟩|⟨_,h,_⟩<;>rw[h]<;>rfl
 rw[dv V]at S;obtain⟨d6,u,c,I,c9⟩:=S.2 rfl;have d0:∃z,w.heap[u]? =some (.cells z e (0,0))/\z.size=c*k/\n<=c/\c<=maxLen/\∀i,i<n->∀j,j<k->∃x,z[i*k+j]? =some x/\kR (L E m' ρ w) m' ρ w x (get i j):=by have h:=G.mem b;rcases N with⟨O,D,X⟩|D;rw[D]at h;rcases h with⟨J,_⟩|⟨Y,K,z,M,Z,a0,a1,a2,a3⟩;rw[I]at J;simp at J;rw[I]at M;obtain⟨rfl,rfl⟩:u=Y/\c=K:=(by simpa using M);refine⟨z,Z,a0,a1,a2,λi B j r=>?_⟩;obtain⟨x,A,f⟩:=a3 i B j r;exact⟨x,A,by rw[X];exact f⟩;rw[D]at h;rcases h with⟨J,_⟩|⟨Y,K,z,M,Z,a0,a1,a2,a3⟩;rw[I]at J;simp at J;rw[I]at M;obtain⟨rfl,rfl⟩:u=Y/\c=K:=(by simpa using M);exact⟨z,Z,a0,a1,a2,a3⟩
 obtain⟨z,a4,a8,a9,b0,d1⟩:=d0;have b1:∀i j,i<n->j<k->∀q,(get i j).refs q->m' q≠ .none:=λi j B r q f=>by rcases N with⟨O,D,X⟩|D;rw[X]at f;exact f.elim;exact G.cleanM b q (by rw[D];exact⟨i,j,B,r,f⟩)
 have b2:∀j,∀q,(l.getD j (.s (.v Go.undef))).refs q->m' q≠ .none:=λj q f=>by by_cases r:j<l.length;have:l.getD j (.s (.v Go.undef))∈l:=(by simp[List.getD,r]);exact c6 _ this q f;have:l.getD j (.s (.v Go.undef))= .s (.v Go.undef):=(by simp[List.getD,YY (show l.length<=j by omega)]);rw[this]at f;exact f.elim
 have d2:∀(p j:Nat),p<n->j<k->∀q,(bif Nat.beq p i&&Nat.ble off j&&Nat.blt j (off+l.length)then l.getD (j-off) (.s (.v Go.undef))else get p j).refs q->m' q≠ .none:=λp j B r q f=>by
  cases b3:(Nat.beq p i&&Nat.ble off j&&Nat.blt j (off+l.length))with
  |true=>rw[b3]at f;exact b2 _ q f
  |false=>rw[b3]at f;exact b1 p j B r q f
 have b4:i*k+off+H.length<=z.size:=by have:(i+1)*k<=c*k:=XX k (by omega);rw[Ym]at this;omega
 refine⟨.skip,Go.undef,w.setRow u (setCells z.toList (i*k+off) H).toArray,bo ρ b (some (u,c)),?_,.inr ⟨rfl,rfl⟩,G.q8 (cM V).1 I nm _ (.bK V c8) (λq f=>?_) (λb5 b6=>?_),trivial,λ_ h=>h.elim⟩;exact xl b8 C a w u (i*k+off) z e H c9 a4 c5 (by omega) b4 U.bO;rcases Q with⟨new,rfl,F⟩|⟨new,rfl,F⟩;obtain⟨p,j,B,r,f⟩:=f;rw[F]at f;exact d2 p j B r q f;exact f.elim
 ·have b7:=IN (R:=λx K=>kR (L E (bo m' b nm) (bo ρ b (some (u,c))) (w.setRow u (setCells z.toList (i*k+off) H).toArray)) (bo m' b nm) (bo ρ b (some (u,c))) (w.setRow u (setCells z.toList (i*k+off) H).toArray) x K)
   (new:=λj=>l.getD j (.s (.v Go.undef))) (get:=get) (i:=i) (off:=off) (n:=n) (len:=l.length) c7 b4 b9
   (λp B j r=>by obtain⟨x,A,f⟩:=d1 p B j r;exact⟨x,A,f.mono b5 (λq C=>b6 q (b1 p j B r q C))⟩)
   (λj r=>by obtain⟨x,A,f⟩:=U.getElem j (by omega) (.s (.v Go.undef));exact⟨x,A,f.mono b5 (λq C=>b6 q (b2 j q C))⟩)
  rcases Q with⟨new,rfl,F⟩|⟨new,rfl,F⟩;refine .inr ⟨u,c,_,ar _ _ _,setRow_heap w u _ _ e _ a4,by simp[eU,a8],a9,b0,λp a5 j r=>?_⟩;obtain⟨x,A,f⟩:=b7 p a5 j r;exact⟨x,A,by rw[F];exact f⟩;refine .inr ⟨u,c,_,ar _ _ _,setRow_heap w u _ _ e _ a4,by simp[eU,a8],a9,b0,λp a5 j r=>?_⟩;obtain⟨x,A,f⟩:=b7 p a5 j r;rw[<-F]at f;exact⟨x,A,f⟩
theorem xa (l:List SV) (j:Nat):(l.map CV.s).getD j (.s (.v Go.undef))= .s (l.getD j (.v Go.undef)):=by
 simp only[List.getD,Zt];cases l[j]?<;>rfl
theorem yD (p:cW P ty T) {x:Operand} (q:o.op= .store ty x y) {l:List SV} (r:tz t y (l.map .s) T.size) (h:Af m (bG t x) l K):∃z A B,K z A B/\aG P o t m z A B:=by
 unfold Af at h;split at h;rename_i b u f;replace h:=bp h;split at h;rename_i w c;replace h:=aM h;obtain⟨a,h⟩:=h;rw[oQ]at h;exact⟨_,_,_,h,oJ p q f r (.inl ⟨w,l,c,rfl,by simpa using XJ a,rfl⟩)⟩;rename_i w c;replace h:=aM h;obtain⟨a,h⟩:=h;rw[oQ]at h;exact⟨_,_,_,h,oJ p q f r (.inr (.inr ⟨w,c,by simpa using XJ a,rfl⟩))⟩;exact h.elim
 ·rename_i b g i u f;replace h:=bp h;split at h;(rename_i g' n k e get c;replace h:=aM h;obtain⟨a,h⟩:=h;simp only[XH]at a;obtain rfl:g=g':=XE a.1;refine⟨_,_,_,h,ma p q f r (get:=λi j=> .s (get i j)) (.inl ⟨get,c,λ_ _=>rfl⟩) (by simpa using XJ a.2) (.inr ⟨_,rfl,λC j=>?_⟩)⟩;rw[X9,xa];cases (Nat.beq C i&&Nat.ble u j&&Nat.blt j (u+l.length))<;>rfl)
  ·rename_i g' n k e get c;replace h:=aM h;obtain⟨a,h⟩:=h;simp only[XH]at a;obtain rfl:g=g':=XE a.1;refine⟨_,_,_,h,ma p q f r (.inr c) (by simpa using XJ a.2) (.inl ⟨_,rfl,λC j=>?_⟩)⟩;rw[X9,xa]
  ·exact h.elim
 ·exact h.elim
theorem sj (u:cW P ty T) {x:Operand} (w:o.op= .store ty x y) (A:tz t y [c] T.size) (h:qm m (bG t x) c K):∃z D E,K z D E/\aG P o t m z D E:=by
 unfold qm at h;split at h;rename_i b f r;replace h:=bp h;split at h;rename_i B l;replace h:=aM h;obtain⟨a,h⟩:=h;rw[oQ]at h;exact⟨_,_,_,h,oJ u w r A (.inr (.inl ⟨B,l,bU a,rfl⟩))⟩;rename_i B l;replace h:=aM h;obtain⟨a,h⟩:=h;rw[oQ]at h;exact⟨_,_,_,h,oJ u w r A (.inr (.inr ⟨B,l,bU a,rfl⟩))⟩;exact h.elim
 ·rename_i b g i f r;have F:∀(p j:Nat) (q:CV),(bif Nat.beq p i&&Nat.beq j f then c else q)=bif Nat.beq p i&&Nat.ble f j&&Nat.blt j (f+[c].length)then[c].getD (j-f) (.s (.v Go.undef))else q:=(by intro p j q;by_cases G:j=f;subst G;have C:(Nat.ble j j&&Nat.blt j (j+[c].length))=true:=(by rw[Ii (XP j),iI (show j<j+[c].length by simp)];rfl);rw[aaK,C,Zs,YM];rfl;have H:Nat.beq j f=false:=rV G;have C:(Nat.ble f j&&Nat.blt j (f+[c].length))=false:=(by by_cases I:f<=j;simp only[XZ,Wy,ZQ];exact .inr (hM);simp only[ZQ];exact .inl (D3 I));rw[H,aaK,C,WD];rfl);replace h:=bp h;split at h;rename_i g' n k e get l;replace h:=aM h;obtain⟨a,h⟩:=h;simp only[XH]at a;obtain rfl:g=g':=XE a.1;exact⟨_,_,_,h,ma u w r A (get:=λi j=> .s (get i j)) (.inl ⟨get,l,λ_ _=>rfl⟩) (bU a.2) (.inl ⟨_,rfl,λp j=>F p j _⟩)⟩;rename_i g' n k e get l;replace h:=aM h;obtain⟨a,h⟩:=h;simp only[XH]at a;obtain rfl:g=g':=XE a.1;exact⟨_,_,_,h,ma u w r A (.inr l) (bU a.2) (.inl ⟨_,rfl,λp j=>F p j _⟩)⟩;exact h.elim
 ·exact h.elim
theorem qW (q:cC P TT) (r:TT ty=some T) {x:Operand} (i:o.op= .store ty x y)
  (h:Ae T m (bG t x) (bG t y) K):∃z k l,K z k l/\aG P o t m z k l:=by
 have j:=q ty T r;unfold Ae at h;split at h;rename_i c a;replace h:=aM h;obtain⟨g,h⟩:=h;exact yD j i (tE (.inr ⟨c,a,rfl⟩) (XE g)) h;rename_i w a;replace h:=aM h;obtain⟨g,h⟩:=h;exact yD j i (tE (.inl a) (XE g)) h;rename_i b p a;replace h:=aM h;obtain⟨g,h⟩:=h;exact sj j i (XE g▸qk (c:= .ptr b p) a) h;rename_i b p a;replace h:=aM h;obtain⟨g,h⟩:=h;exact sj j i (XE g▸qk (c:= .aL b p) a) h;rename_i f u a;replace h:=aM h;obtain⟨g,h⟩:=h;exact sj j i (XE g▸qk (c:= .cV f u) a) h;exact h.elim
end
end Go.Vm
