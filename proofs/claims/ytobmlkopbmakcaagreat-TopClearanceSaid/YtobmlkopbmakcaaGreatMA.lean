import Derived.Orders
import Derived.Below
import Derived.KernelRfl
import Derived.Laws.Cells
import Derived.Laws.Rows
import Derived.Laws.Tables
import Derived.Laws.MakeOwn
import Derived.Laws.IdiomCopy
import Derived.Laws.StructEq
import Derived.IntWalk
import Derived.OwnWalk
import Derived.Laws.AppendOwn
import Derived.Laws.OwnMore
set_option linter.unusedVariables false
set_option linter.unusedSimpArgs false
set_option maxRecDepth 20000
namespace Go
theorem iN {c:Prop} [h:Decidable c] {α:Sort _} {t e:α} (k:¬c:=by omega):ite c t e=e:=if_neg k
theorem iP {c:Prop} [h:Decidable c] {α:Sort _} {t e:α} (k:c:=by omega):ite c t e=t:=if_pos k
theorem mOf {a b:Nat} (h:a<b:=by omega):a%b=a:=Nat.mod_eq_of_lt h
theorem mLt {a b:Nat} (h:0<b:=by omega):a%b<b:=Nat.mod_lt a h
theorem dF {p:Prop} [Decidable p] (h:¬p:=by omega):decide p=false:=decide_eq_false h
abbrev Xz:=@Classical.byContradiction
abbrev XA:=@of_decide_eq_true
abbrev XB:=@of_decide_eq_false
abbrev XC:=@Int.mul_pos
abbrev XD:=@List.mem_cons
abbrev XE:=@Nat.eq_of_beq_eq_true
abbrev XF:=@Int.mul_nonneg
abbrev XG:=@if_neg
abbrev XH:=@Int.mul_le_mul_of_nonneg_left
abbrev XI:=@Nat.le_of_ble_eq_true
abbrev XJ:=@Bool.and_eq_true
abbrev XK:=@List.mem_cons_of_mem
abbrev XL:=@if_pos
abbrev XM:=@Int.mul_nonpos_of_nonneg_of_nonpos
abbrev XN:=@Int.le_of_lt
abbrev XO:=@Nat.not_lt_zero
abbrev XP:=@List.mem_append
abbrev XQ:=@List.length_append
abbrev XR:=@Nat.zero_le
abbrev XS:=@List.mem_map
abbrev XT:=@congrArg
abbrev XU:=@Nat.le_refl
abbrev XV:=@List.length_cons
abbrev XW:=@List.mem_cons_self
abbrev XX:=@Nat.mul_le_mul_right
abbrev XY:=@List.getElem?_eq_getElem
abbrev XZ:=@decide_eq_false
abbrev X0:=@decide_eq_true_eq
abbrev X1:=@List.mem_append_right
abbrev X2:=@Int.mul_nonneg_of_nonpos_of_nonpos
abbrev X3:=@Int.mul_neg_of_neg_of_pos
abbrev X4:=@decide_eq_true
abbrev X5:=@Nat.mod_eq_of_lt
abbrev X6:=@List.mem_range
abbrev X7:=@List.mem_append_left
abbrev X8:=@Int.mul_zero
abbrev X9:=@Int.mul_comm
abbrev Ya:=@Nat.zero_add
abbrev Yb:=@Int.mul_neg_of_pos_of_neg
abbrev Yc:=@Nat.lt_of_lt_of_le
abbrev Yd:=@Int.zero_mul
abbrev Ye:=@List.getElem?_eq_some_iff
abbrev Yf:=@Int.le_refl
abbrev Yg:=@Nat.le_trans
abbrev Yh:=@Int.lt_or_gt_of_ne
abbrev Yi:=@Int.toNat_natCast
abbrev Yj:=@List.length_take
abbrev Yk:=@List.append_assoc
abbrev Yl:=@List.getElem?_append
abbrev Ym:=@decide_eq_decide
abbrev Yo:=@Int.mul_le_mul_of_nonneg_right
abbrev Yp:=@List.map_map
abbrev Yq:=@Nat.add_mul
abbrev Yr:=@List.mem_singleton
abbrev Ys:=@Array.toArray_toList
abbrev Yt:=@Option.getD_some
abbrev Yu:=@List.getD_eq_getElem?_getD
abbrev Yv:=@Int.mul_neg
abbrev Yw:=@Int.mul_lt_mul_of_pos_left
abbrev Yx:=@Bool.not_eq_true'
abbrev Yy:=@List.length_map
abbrev Yz:=@List.map_cons
abbrev YA:=@List.nodup_cons
abbrev YB:=@List.map_append
abbrev YC:=@Array.getD_eq_getD_getElem?
abbrev YD:=@List.not_mem_nil
abbrev YE:=@Nat.add_assoc
abbrev YF:=@List.mem_iff_getElem
abbrev YG:=@Nat.add_zero
abbrev YH:=@Int.mul_nonpos_of_nonpos_of_nonneg
abbrev YI:=@Nat.add_mod_right
abbrev YJ:=@Int.lt_trichotomy
abbrev YK:=@Int.le_total
abbrev YL:=@List.take_add_one
abbrev YM:=@List.cons_append
abbrev YN:=@Bool.false_and
abbrev YO:=@List.getElem?_toArray
abbrev YP:=@Nat.lt_succ_iff_lt_or_eq
abbrev YQ:=@Bool.eq_false_iff
abbrev YR:=@Array.getElem?_eq_some_iff
abbrev YS:=@List.map_congr_left
abbrev YT:=@Int.le_of_mul_le_mul_left
abbrev YU:=@List.getElem?_eq_none
abbrev YV:=@Array.getElem?_append
abbrev YW:=@List.nodup_append
abbrev YX:=@List.take_length
abbrev YY:=@Int.mul_eq_zero
abbrev YZ:=@Int.mul_assoc
abbrev Y0:=@List.eq_nil_of_length_eq_zero
abbrev Y1:=@List.getLast_cons
abbrev Y2:=@List.pairwise_cons
abbrev Y3:=@List.getElem?_take
abbrev Y4:=@List.append_nil
abbrev Y5:=@Int.not_le
abbrev Y6:=@Bool.false_eq_true
abbrev Y7:=@List.pairwise_iff_getElem
abbrev Y8:=@List.drop_eq_getElem_cons
abbrev Y9:=@Int.eq_of_mul_eq_mul_left
abbrev Za:=@Array.length_toList
abbrev Zb:=@Nat.sub_self
abbrev Zc:=@Int.neg_mul
abbrev Zd:=@Bool.true_and
abbrev Ze:=@Option.some.injEq
abbrev Zf:=@Ne.symm
abbrev Zg:=@List.flatten_cons
abbrev Zh:=@Bool.not_eq_true
abbrev Zi:=@List.take_of_length_le
abbrev Zj:=@List.mem_of_getElem?
abbrev Zk:=@Int.zero_add
abbrev Zl:=@Bool.or_eq_true
abbrev Zm:=@decide_eq_false_iff_not
abbrev Zn:=@List.mem_flatten
abbrev Zo:=@List.getElem?_append_right
abbrev Zp:=@Int.mul_sub
abbrev Zq:=@List.getElem?_append_left
abbrev Zr:=@Int.mul_pos_of_neg_of_neg
abbrev Zs:=@Int.lt_of_mul_lt_mul_left
abbrev Zt:=@Nat.mod_self
abbrev Zu:=@Nat.add_comm
abbrev Zv:=@List.getElem?_drop
abbrev Zw:=@Bool.eq_iff_iff
abbrev Zx:=@Prod.mk.injEq
abbrev Zy:=@List.getElem_mem
abbrev Zz:=@List.all_eq_true
abbrev ZA:=@List.getElem?_map
abbrev ZB:=@Iff.rfl
abbrev ZC:=@Nat.mod_lt
abbrev ZD:=@cond_true
abbrev ZE:=@Nat.beq_refl
abbrev ZF:=@List.length_drop
abbrev ZG:=@cond_false
abbrev ZH:=@List.length_pos_iff
abbrev ZI:=@List.getElem_of_mem
abbrev ZJ:=@List.take_append_drop
abbrev ZK:=@List.length_filter_le
abbrev ZL:=@List.range_succ
abbrev ZM:=@Nat.eq_zero_or_pos
abbrev ZN:=@Int.not_lt
abbrev ZO:=@Nat.lt_irrefl
abbrev ZP:=@Nat.mul_comm
abbrev ZQ:=@Nat.le_of_lt
abbrev ZR:=@List.size_toArray
abbrev ZS:=@List.range_succ_eq_map
abbrev ZT:=@List.pairwise_map
abbrev ZU:=@Nat.mod_add_mod
abbrev ZV:=@Array.getElem?_eq_getElem
abbrev ZW:=@Bool.and_eq_false_iff
abbrev ZX:=@Int.le_of_eq
abbrev ZY:=@or_false
abbrev ZZ:=@List.getElem?_of_mem
abbrev Z0:=@Nat.lt_trichotomy
abbrev Z1:=@List.nil_append
abbrev Z2:=@List.length_nil
abbrev Z3:=@List.foldl_cons
abbrev Z4:=@Array.getElem?_setIfInBounds
abbrev Z5:=@List.length_reverse
abbrev Z6:=@Array.getElem?_eq_none
abbrev Z7:=@List.ext_getElem
abbrev Z8:=@Array.getElem?_append_left
abbrev Z9:=@Array.getElem?_modify
abbrev aaa:=@if_false
abbrev aab:=@List.reverse_cons
abbrev aac:=@List.pairwise_append
abbrev aad:=@Int.add_zero
abbrev aae:=@List.idxOf_lt_length_iff
abbrev aaf:=@Nat.testBit_or
abbrev aag:=@List.nodup_range
abbrev aah:=@List.eq_nil_iff_forall_not_mem
abbrev aai:=@List.Nodup.length_le_of_subset
abbrev aaj:=@Int.mul_one
abbrev aak:=@Nat.succ_mul
abbrev aal:=@Nat.mod_eq_sub_mod
abbrev aam:=@Nat.lt_or_ge
abbrev aan:=@List.append_of_mem
abbrev aao:=@Bool.not_eq_false'
abbrev aap:=@and_congr_right
abbrev aaq:=@List.mem_filter
abbrev aar:=@List.flatMap_cons
abbrev aas:=@List.take_zero
abbrev aat:=@List.perm_cons_erase
abbrev aau:=@List.forall_mem_cons
abbrev aav:=@List.erase_cons_tail
abbrev aaw:=@Bool.and_false
abbrev aax:=@exists_congr
abbrev aay:=@List.mem_map_of_mem
abbrev aaz:=@Prod.ext
abbrev aaA:=@Option.map_some
abbrev aaB:=@Int.neg_mul_neg
abbrev aaC:=@List.getElem_range
abbrev aaD:=@if_true
abbrev aaE:=@Nat.mul_le_mul
abbrev aaF:=@List.nodup_nil
abbrev aaG:=@List.drop_of_length_le
abbrev aaH:=@Bool.xor_false
abbrev aaI:=@Int.mul_tdiv_add_tmod
abbrev aaJ:=@List.perm_middle
abbrev aaK:=@List.mem_flatMap
abbrev aaL:=@List.getElem_map
abbrev aaM:=@forall_congr'
abbrev aaN:=@Int.mul_add
abbrev aaO:=@Array.replicate_zero
abbrev aaP:=@Array.replicate_succ
abbrev aaQ:=@Nat.mul_add_mod
abbrev aaR:=@Nat.add_mod_mod
abbrev aaS:=@List.getD_cons_zero
abbrev aaT:=@List.flatMap_append
abbrev aaU:=@List.append_toArray
abbrev aaV:=@Nat.zero_mul
abbrev aaW:=@Nat.add_sub_cancel
abbrev aaX:=@List.findSome?_eq_none_iff
abbrev aaY:=@List.drop_zero
abbrev aaZ:=@Int.mul_right_comm
abbrev aa0:=@Array.ext_getElem?
abbrev aa1:=@Array.ext'
abbrev aa2:=@List.push_toArray
abbrev aa3:=@List.ext_getElem?
abbrev aa4:=@Bool.not_eq_false
abbrev aa5:=@List.find?_range_eq_some
abbrev aa6:=@List.find?_range_eq_none
abbrev aa7:=@Bool.xor_true
abbrev aa8:=@Nat.le_of_not_lt
abbrev aa9:=@List.mem_reverse
abbrev aba:=@List.getElem_inj
abbrev abb:=@List.filter_cons
abbrev abc:=@Classical.axiomOfChoice
abbrev abe:=@decide_not
abbrev abf:=@Nat.sub_zero
abbrev abg:=@Nat.not_lt
abbrev abh:=@List.map_nil
abbrev abi:=@Nat.min_eq_left
abbrev abj:=@Nat.div_add_mod
abbrev abk:=@List.length_set
abbrev abl:=@List.cons.injEq
abbrev abm:=@Int.natCast_mul
abbrev abn:=@List.perm_append_comm
abbrev abo:=@List.mem_erase_of_ne
abbrev abp:=@List.mapM_cons
abbrev abq:=@List.erase_cons_head
abbrev abr:=@Int.one_mul
abbrev abt:=@Int.ofNat_tmod
abbrev abu:=@Int.neg_neg
abbrev abv:=@Int.natAbs_of_nonneg
abbrev abw:=@Int.mul_le_mul
abbrev abx:=@Int.add_mul
abbrev aby:=@Array.mem_toList_iff
abbrev abz:=@List.take_succ_cons
abbrev abA:=@beq_iff_eq
abbrev abB:=@List.filter_append
abbrev abC:=@Array.empty_append
abbrev abD:=@iff_not_self
abbrev abE:=@getElem!_pos
abbrev abF:=@List.foldl_append
abbrev abG:=@Int.zero_sub
abbrev abH:=@Classical.not_not
abbrev abI:=@Array.size_append
abbrev abJ:=@Array.all_eq_true_iff_forall_mem
abbrev abK:=@false_iff
abbrev abL:=@List.drop_length
abbrev abM:=@List.Perm.append
abbrev abN:=@Nat.mul_one
abbrev abO:=@List.map_id
abbrev abP:=@List.getLast_append_of_ne_nil
abbrev abQ:=@List.filter_nil
abbrev abR:=@List.Perm.trans
abbrev abS:=@List.Perm.of_eq
abbrev abT:=@Int.natAbs_tmod
abbrev abU:=@true_and
abbrev abV:=@List.take_left
abbrev abW:=@List.perm_append_singleton
abbrev abX:=@List.drop_drop
abbrev abY:=@Int.tdiv_eq_ediv_of_nonneg
abbrev abZ:=@Int.natAbs_mul
abbrev ab0:=@Nat.add_mul_mod_self_left
abbrev ab1:=@List.mem_or_eq_of_mem_set
abbrev ab2:=@List.getElem?_eq_none_iff
end Go
namespace Go.Vm
open Go Go.RowKit
inductive Id where
 |n (k:Nat)
 |s (k i:Nat)
 deriving DecidableEq
instance (k:Nat):OfNat Id k:=⟨.n k⟩
instance:Coe Nat Id:=⟨.n⟩
def Id.key:Id->Nat
 | .n k=>k
 | .s k _=>k
def Id.beq:Id->Id->Bool
 | .n a,.n b=>Nat.beq a b
 | .s a i,.s b j=>Nat.beq a b&&Nat.beq i j
 |_,_=>false
theorem Id.beq_iff:∀(a b:Id),Id.beq a b=true↔a=b
 | .n a,.n b=>⟨λh=>XT _ (XE h),λh=>by cases h;exact ZE a⟩
 | .s a i,.s b j=>⟨λh=>by simp only[Id.beq,XJ]at h;rw[XE h.1,XE h.2],λh=>by cases h;simp[Id.beq]⟩
 | .n _,.s _ _=>⟨λh=>by simp[Id.beq]at h,λh=>by cases h⟩
 | .s _ _,.n _=>⟨λh=>by simp[Id.beq]at h,λh=>by cases h⟩
class Key (κ:Type) where
 beq:κ->κ->Bool
 iff:∀a b,beq a b=true↔a=b
instance:Key Nat:=⟨Nat.beq,λ_ _=>⟨XE,λh=>h▸ZE _⟩⟩
instance:Key Id:=⟨Id.beq,Id.beq_iff⟩
inductive SV where
 |v (x:Value)
 |sl (n k:Nat) (get:Nat->Nat->SV)
 |ad (m:Nat) (cell:Nat->SV)
 |fn (f:FuncId) (n:Nat) (cap:Nat->SV)
inductive DV where
 |one (c:SV)
 |agg (cs:List SV)
inductive CR where
 |s (c:SV)
 |ptr (o:Id) (off:Nat)
inductive CV where
 |s (c:SV)
 |ptr (o:Id) (off:Nat)
 |aJ (o:Id) (g:Nat)
 |cP (f:FuncId) (Nr:List CR)
inductive TV where
 |any
 |undef
 |d (x:DV)
 |eD (xs:List DV)
 |ptr (o:Id) (off:Nat)
 |aJ (o:Id) (g:Nat)
 |ep (o:Id) (g i off:Nat)
 |sub (o:Id) (g lo n:Nat)
 |nb (n:Nat) (neg:Bool)
 |cP (f:FuncId) (Nr:List CR)
 |jC (o:Id) (xs:List DV)
 |rW (cs:List CV)
inductive Mem where
 |none
 |dead
 |ro (cs:List SV)
 |box (cs:List SV)
 |aL (g n k:Nat) (e:TypeId) (get:Nat->Nat->SV)
 |obj (cs:List CV)
 |bm (g n k:Nat) (e:TypeId) (get:Nat->Nat->CV)
 |map (ks:List (List Int))
def Mem.live:Mem->Prop
 | .box _=>True
 | .aL .. =>True
 | .obj _=>True
 | .bm .. =>True
 | .map _=>True
 |_=>False
abbrev i64 (n:Int):SV:= .v (.int .i64 n)
abbrev au (n:Int):TV:= .d (.one (.v (.int .i64 n)))
abbrev aE (b:Bool):TV:= .d (.one (.v (.bool b)))
abbrev Fe:Value:= .slice none 0 0
def Mem.gen:Mem->Nat
 | .aL g _ _ _ _=>g
 | .bm g _ _ _ _=>g
 |_=>0
def bj {κ α:Type} [Key κ] (f:κ->α) (k:κ) (x:α):κ->α:=λi=>bif Key.beq i k then x else f i
variable {α κ:Type}
theorem aq [Key κ] (f:κ->α) (k:κ) (x:α):bj f k x k=x:=by
 unfold bj;rw[(Key.iff k k).2 rfl];rfl
theorem aw [Key κ] (f:κ->α) (k:κ) (x:α) {i:κ} (h:i≠k):bj f k x i=f i:=by
 have a:Key.beq i k=false:=by
  cases a:Key.beq i k with
  |true=>exact absurd ((Key.iff i k).1 a) h
  |false=>rfl
 unfold bj;rw[a];rfl
theorem et [Key κ] (f:κ->α) (k:κ):bj f k (f k)=f:=by
 funext i;by_cases h:i=k;subst h;exact aq _ _ _;exact aw _ _ _ h
variable {a:Nat}
theorem zN {b:Nat} (h:¬a<=b:=by omega):Nat.ble a b=false:=by
 cases c:Nat.ble a b with
 |false=>rfl
 |true=>exact absurd (XI c) h
theorem D2 {b:Nat} (h:a<=b):Nat.ble a b=true:=Nat.ble_eq_true_of_le h
theorem ht {b:Nat} (h:¬a<b:=by omega):Nat.blt a b=false:=zN h
theorem hp {b:Nat} (h:a<b:=by omega):Nat.blt a b=true:=D2 h
theorem pX {b:Nat} (h:a≠b:=by omega):Nat.beq a b=false:=by
 cases c:Nat.beq a b with
 |false=>rfl
 |true=>exact absurd (XE c) h
theorem bR {b:Nat} (h:Nat.blt a b=true):a<b:=XI h
inductive Rd (S:Nat->Prop) (w:World):Value->SV->Prop where
 |v {x:Value} (h:x.oneCell'=true):Rd S w x (.v x)
 |nil (k:Nat) (get:Nat->Nat->SV):Rd S w (.slice none 0 0) (.sl 0 k get)
 |emp (a:Addr) (cap k:Nat) (get:Nat->Nat->SV):Rd S w (.slice (some a) 0 cap) (.sl 0 k get)
 |sl {b off n cap k:Nat} {get:Nat->Nat->SV} (xs:Nat->Nat->Value) (hS:S b) (hn:n<=cap) (hcap:cap<=maxLen)
   (hc:∀i,i<n->∀j,j<k->w.cell? ⟨b,off+(i*k+j),none⟩=some (xs i j)) (hr:∀i,i<n->∀j,j<k->Rd S w (xs i j) (get i j)):
   Rd S w (.slice (some ⟨b,off,none⟩) n cap) (.sl n k get)
 |ad {b off m:Nat} {cell:Nat->SV} (xs:Nat->Value) (hS:S b)
   (hc:∀j,j<m->w.cell? ⟨b,off+j,none⟩=some (xs j)) (hr:∀j,j<m->Rd S w (xs j) (cell j)):
   Rd S w (.pointer (some ⟨b,off,none⟩)) (.ad m cell)
 |fn {f n:Nat} {cap:Nat->SV} (xs:Nat->Value) (hr:∀j,j<n->Rd S w (xs j) (cap j)):
   Rd S w (.func (.func f) #[] ((List.range n).map xs).toArray) (.fn f n cap)
variable {S S':Nat->Prop} {w w':World} {x:Value} {c:SV}
theorem Rd.mono (h:∀b,S b->S' b/\w'.heap[b]? =w.heap[b]?) (m:Rd S w x c):Rd S' w' x c:=by
 induction m with
 |v o=>exact .v o
 |nil k get=>exact .nil k get
 |emp a p k get=>exact .emp a p k get
 |sl xs hS q r g _ f=>exact .sl xs (h _ hS).1 q r (λi hi j l=>by rw[World.cell?_of_block (w:=w) (h _ hS).2];exact g i hi j l) f
 |ad xs hS g _ f=>exact .ad xs (h _ hS).1 (λj l=>by rw[World.cell?_of_block (w:=w) (h _ hS).2];exact g j l) f
 |fn xs _ f=>exact .fn xs f
theorem Rd.bG (a:Rd S w x c):x.oneCell'=true:=by
 cases a<;>first|assumption|rfl
theorem Rd.bT {y:Value} (h:Rd S w x (.v y)):x=y/\y.oneCell'=true:=by
 cases h with
 |v a=>exact⟨rfl,a⟩
theorem Rd.mD {m:Nat} {cell:Nat->SV} (h:Rd S w x (.ad m cell)):
  ∃(b a:Nat) (xs:Nat->Value),x= .pointer (some ⟨b,a,none⟩)/\S b/\(∀j,j<m->w.cell? ⟨b,a+j,none⟩=some (xs j))/\∀j,j<m->Rd S w (xs j) (cell j):=by
 cases h with
 |ad xs hS c f=>exact⟨_,_,xs,rfl,hS,c,f⟩
theorem Rd.nV {n k:Nat} {get:Nat->Nat->SV} (h:Rd S w x (.sl n k get)):
  (x= .slice none 0 0/\n=0)\/(∃a c,x= .slice (some a) 0 c/\n=0)\/∃(b f c:Nat) (xs:Nat->Nat->Value),x= .slice (some ⟨b,f,none⟩) n c/\S b/\n<=c/\c<=maxLen/\
   (∀i,i<n->∀j,j<k->w.cell? ⟨b,f+(i*k+j),none⟩=some (xs i j))/\∀i,i<n->∀j,j<k->Rd S w (xs i j) (get i j):=by
 cases h with
 |nil=>exact .inl ⟨rfl,rfl⟩
 |emp a c=>exact .inr (.inl ⟨a,c,rfl,rfl⟩)
 |sl xs hS g l m o=>exact .inr (.inr ⟨_,_,_,xs,rfl,hS,g,l,m,o⟩)
theorem Rd.jN {f n:Nat} {cap:Nat->SV} (h:Rd S w x (.fn f n cap)):
  ∃xs:Nat->Value,x= .func (.func f) #[] ((List.range n).map xs).toArray/\∀j,j<n->Rd S w (xs j) (cap j):=by
 cases h with
 |fn xs a=>exact⟨xs,rfl,a⟩
inductive eA (S:Nat->Prop) (w:World):List Value->List SV->Prop where
 |nil:eA S w [] []
 |cons {x:Value} {c:SV} {xs:List Value} {cs:List SV} (h:Rd S w x c) (t:eA S w xs cs):eA S w (x::xs) (c::cs)
variable {xs:List Value} {cs:List SV}
theorem eA.mono (h:∀b,S b->S' b/\w'.heap[b]? =w.heap[b]?) (a:eA S w xs cs):eA S' w' xs cs:=by
 induction a with
 |nil=>exact .nil
 |cons c _ f=>exact .cons (c.mono h) f
theorem eA.length (a:eA S w xs cs):xs.length=cs.length:=by
 induction a with
 |nil=>rfl
 |cons _ _ b=>simp[b]
theorem eA.bG (b:eA S w xs cs):∀x∈xs,x.oneCell'=true:=by
 induction b with
 |nil=>simp
 |cons c _ f=>intro y a;rcases XD.1 a with rfl|a;exact c.bG;exact f y a
theorem eA.get (a:eA S w xs cs):∀(j:Nat) (c:SV),cs[j]? =some c->∃x,xs[j]? =some x/\Rd S w x c:=by
 induction a with
 |nil=>intro j c h;simp at h
 |@cons x c xs cs b _ f=>
  intro j g h;cases j with
  |zero=>simp at h;subst h;exact⟨x,by simp,b⟩
  |succ j=>simpa using f j g (by simpa using h)
theorem eA.set (a:eA S w xs cs) (j:Nat) (h:Rd S w x c):eA S w (xs.set j x) (cs.set j c):=by
 induction a generalizing j with
 |nil=>simpa using eA.nil
 |cons b t f=>
  cases j with
  |zero=>exact .cons h t
  |succ j=>exact .cons b (f j)
variable {ys:List Value}
theorem eA.append {a:List SV} (b:eA S w xs cs) (hs:eA S w ys a):eA S w (xs++ys) (cs++a):=by
 induction b with
 |nil=>exact hs
 |cons c _ f=>exact .cons c f
theorem eA.take (a:eA S w xs cs) (n:Nat):eA S w (xs.take n) (cs.take n):=by
 induction a generalizing n with
 |nil=>simpa using eA.nil
 |cons b _ c=>
  cases n with
  |zero=>exact .nil
  |succ n=>exact .cons b (c n)
theorem eA.drop (a:eA S w xs cs) (n:Nat):eA S w (xs.drop n) (cs.drop n):=by
 induction a generalizing n with
 |nil=>simpa using eA.nil
 |cons b t c=>
  cases n with
  |zero=>exact .cons b t
  |succ n=>exact c n
def setCells {α:Type}:List α->Nat->List α->List α
 |cs,_,[]=>cs
 |cs,i,x::xs=>setCells (cs.set i x) (i+1) xs
def kn {α:Type}:List α->List α->List α
 |cs,[]=>cs
 |[],_::_=>[]
 |_::cs,x::l=>x::kn cs l
def Aw {α:Type}:List α->Nat->List α->List α
 |cs,0,l=>kn cs l
 |[],_+1,_=>[]
 |c::cs,i+1,l=>c::Aw cs i l
theorem mi {α:Type}:∀(l:List α) (i:Nat),setCells ([]:List α) i l=[]
 |[],_=>rfl
 |x::l,i=>by simp only[setCells,List.set_nil];exact mi l (i+1)
theorem kG {α:Type} (c:α):∀(l cs:List α) (i:Nat),setCells (c::cs) (i+1) l=c::setCells cs i l
 |[],_,_=>rfl
 |x::l,cs,i=>by simp only[setCells,List.set_cons_succ];exact kG c l (cs.set i x) (i+1)
theorem CI {α:Type}:∀(cs l:List α),kn cs l=setCells cs 0 l
 |cs,[]=>by cases cs<;>rfl
 |[],x::l=>(mi (x::l) 0).symm
 |c::cs,x::l=>by simp only[kn,setCells,List.set_cons_zero];rw[kG,CI cs l]
theorem oG {α:Type}:∀(cs:List α) (i:Nat) (l:List α),Aw cs i l=setCells cs i l
 |cs,0,l=>by cases cs<;>exact CI _ l
 |[],i+1,l=>(mi l (i+1)).symm
 |c::cs,i+1,l=>by simp only[Aw];rw[kG,oG cs i l]
theorem eA.setCells {S:Nat->Prop} {w:World} {ys:List Value} {a:List SV} (hs:eA S w ys a):∀{xs:List Value} {cs:List SV} (i:Nat),eA S w xs cs->eA S w (setCells xs i ys) (setCells cs i a):=by
 induction hs with
 |nil=>intro xs cs i h;exact h
 |cons b _ c=>intro xs cs i h;exact c (i+1) (h.set i b)
theorem eM {α:Type}:∀(ys:List α) (xs:List α) (i:Nat),(setCells xs i ys).length=xs.length
 |[],_,_=>rfl
 |y::ys,xs,i=>by simp[setCells,eM ys]
def lU (S:Nat->Prop) (w:World):Value->DV->Prop
 |x,.one c=>Rd S w x c
 |x,.agg cs=>∃xs,x= .agg xs.toArray/\eA S w xs cs
theorem lU.mono (h:∀b,S b->S' b/\w'.heap[b]? =w.heap[b]?) {c:DV} (a:lU S w x c):lU S' w' x c:=by
 cases c with
 |one c=>exact Rd.mono h a
 |agg cs=>obtain⟨xs,f,g⟩:=a;exact⟨xs,f,g.mono h⟩
inductive dA (S:Nat->Prop) (w:World):List Value->List DV->Prop where
 |nil:dA S w [] []
 |cons {x:Value} {c:DV} {xs:List Value} {cs:List DV} (h:lU S w x c) (t:dA S w xs cs):dA S w (x::xs) (c::cs)
theorem dA.mono (h:∀b,S b->S' b/\w'.heap[b]? =w.heap[b]?) {cs:List DV} (a:dA S w xs cs):dA S' w' xs cs:=by
 induction a with
 |nil=>exact .nil
 |cons c _ f=>exact .cons (c.mono h) f
theorem dA.length {cs:List DV} (a:dA S w xs cs):xs.length=cs.length:=by
 induction a with
 |nil=>rfl
 |cons _ _ b=>simp[b]
theorem dA.get {cs:List DV} (a:dA S w xs cs):∀(j:Nat) (c:DV),cs[j]? =some c->∃x,xs[j]? =some x/\lU S w x c:=by
 induction a with
 |nil=>intro j c h;simp at h
 |@cons x c xs cs b _ f=>
  intro j g h;cases j with
  |zero=>simp at h;subst h;exact⟨x,by simp,b⟩
  |succ j=>simpa using f j g (by simpa using h)
theorem dA.append {cs a:List DV} (b:dA S w xs cs) (hs:dA S w ys a):dA S w (xs++ys) (cs++a):=by
 induction b with
 |nil=>exact hs
 |cons c _ f=>exact .cons c f
structure Env where
 P:Program
 N:Nat
 w0:World
 S0:Nat->Prop
 hS:∀b,S0 b->b<w0.heap.size
 X:Nat->Prop
 hX:∀b,X b->b<w0.heap.size
 m0:Id->Mem
 ρ0:Id->Option (Nat×Nat)
 uH:∀k,k<=N->m0 (.n k)= .none
 PG:∀k,k<2000->m0 (.n k)= .none
 US:∀k i,k<2000->m0 (.s k i)= .none
 B:Nat
structure Below (B:Nat) (w w':World):Prop extends Go.RowKit.Below B w w' where
 drawn:w.drawn<=w'.drawn
theorem Below.refl (B:Nat) (w:World):Below B w w:=⟨Go.RowKit.Below.refl B w,XU _⟩
variable {B:Nat}
theorem Below.alloc (h:Below B w w') (a:B<=w'.heap.size) (o:Obj):Below B w (w'.alloc o):=⟨h.toBelow.alloc a o,h.drawn⟩
theorem Below.drew (h:Below B w w'):Below B w w'.drew:=⟨h.toBelow.drew,Nat.le_succ_of_le h.drawn⟩
structure Bx (B:Nat) (X:Nat->Prop) (w w':World):Prop where
 os:w'.os=w.os
 tape:w'.tape=w.tape
 output:w'.output=w.output
 size:w.heap.size<=w'.heap.size
 block:∀k,k<B->¬X k->w'.heap[k]? =w.heap[k]?
 drawn:w.drawn<=w'.drawn
theorem Bx.refl (B:Nat) (X:Nat->Prop) (w:World):Bx B X w w:=⟨rfl,rfl,rfl,XU _,λ_ _ _=>rfl,XU _⟩
variable {X:Nat->Prop}
theorem Bx.trans {a b c:World} (h:Bx B X a b) (k:Bx B X b c):Bx B X a c:=
 ⟨k.os.trans h.os,k.tape.trans h.tape,k.output.trans h.output,Yg h.size k.size,λi hi f=>(k.block i hi f).trans (h.block i hi f),Yg h.drawn k.drawn⟩
variable {B':Nat}
theorem Bx.mono {a:Nat->Prop} (h:Bx B X w w') (f:B'<=B) (hX:∀b,b<B'->X b->a b):Bx B' a w w':=
 ⟨h.os,h.tape,h.output,h.size,λk c g=>h.block k (Yc c f) (λh=>g (hX k c h)),h.drawn⟩
theorem Bx.of (h:Below B w w') (a:B'<=B):Bx B' X w w':=⟨h.os,h.tape,h.output,h.size,λk b _=>h.block k (Yc b a),h.drawn⟩
theorem Bx.below (h:Bx B X w w') (hX:∀b,¬X b):Below B w w':=⟨⟨h.os,h.tape,h.output,h.size,λk a=>h.block k a (hX k)⟩,h.drawn⟩
def L (E:Env) (m:Id->Mem) (ρ:Id->Option (Nat×Nat)) (w:World) (b:Nat):Prop:=
 (E.S0 b\/E.X b\/(E.w0.heap.size<=b/\b<w.heap.size))/\∀o c,(m o).live->ρ o≠some (b,c)
def bg (m:Id->Mem) (ρ:Id->Option (Nat×Nat)) (x:Value) (o:Id) (p:Nat):Prop:=
 match m o with
  | .box _=>∃b c,ρ o=some (b,c)/\x= .pointer (some ⟨b,p,none⟩)
  | .ro _=>∃b c,ρ o=some (b,c)/\x= .pointer (some ⟨b,p,none⟩)
  | .obj _=>∃b c,ρ o=some (b,c)/\x= .pointer (some ⟨b,p,none⟩)
  | .aL .. =>False
  | .bm .. =>False
  | .map _=>∃b c,ρ o=some (b,c)/\x= .map (some b)
  |_=>x.oneCell'=true
def cu (ρ:Id->Option (Nat×Nat)) (x:Value) (o:Id) (n:Nat):Prop:=match ρ o with
 |none=>x= .slice none 0 0
 |some (b,a)=>x= .slice (some ⟨b,0,none⟩) n a
def bB (m:Id->Mem) (ρ:Id->Option (Nat×Nat)) (x:Value) (o:Id) (g:Nat):Prop:=
 x.oneCell'=true/\match m o with
  | .aL a n _ _ _=>g<=a/\(g=a->cu ρ x o n)
  | .bm a n _ _ _=>g<=a/\(g=a->cu ρ x o n)
  |_=>True
def hC (ρ:Id->Option (Nat×Nat)) (x:Value) (o:Id) (k lo n:Nat):Prop:=match ρ o with
 |none=>x= .slice none 0 0
 |some (b,c)=>∃a,x= .slice (some a) n (c-lo)/\(lo<c\/lo=0->a=⟨b,lo*k,none⟩)
def fi (m:Id->Mem) (ρ:Id->Option (Nat×Nat)) (x:Value) (o:Id) (g lo n:Nat):Prop:=
 x.oneCell'=true/\match m o with
  | .aL a b k _ _=>g<=a/\(g=a->lo+n<=b/\hC ρ x o k lo n)
  | .bm a b k _ _=>g<=a/\(g=a->lo+n<=b/\hC ρ x o k lo n)
  |_=>True
def V8 (S:Nat->Prop) (m:Id->Mem) (ρ:Id->Option (Nat×Nat)) (w:World) (x:Value):CR->Prop
 | .s c=>Rd S w x c
 | .ptr o p=>bg m ρ x o p
inductive qF (S:Nat->Prop) (m:Id->Mem) (ρ:Id->Option (Nat×Nat)) (w:World):List Value->List CR->Prop where
 |nil:qF S m ρ w [] []
 |cons {x:Value} {c:CR} {xs:List Value} {cs:List CR} (h:V8 S m ρ w x c) (t:qF S m ρ w xs cs):qF S m ρ w (x::xs) (c::cs)
inductive yw (f:FuncId) (xs:List Value):Value->Prop where
 |plain (h:Nat.blt f 10000000=true):yw f xs (.func (.func f) #[] xs.toArray)
 |bound (g:FuncId) (h:f=g+10000000):yw f xs (.func (.func g) xs.toArray #[])
theorem yw.inv {f:FuncId} (h:yw f xs x) (a:Nat.blt f 10000000=true):x= .func (.func f) #[] xs.toArray:=by
 cases h with
 |plain=>rfl
 |bound g h=>subst h;exact absurd (show g+10000000<10000000 from XI a) (abg.2 (Nat.le_add_left _ _))
theorem yw.WN {f:FuncId} (h:yw f xs x) (a:Nat.blt f 10000000=false):∃g,f=g+10000000/\x= .func (.func g) xs.toArray #[]:=by
 cases h with
 |plain h=>rw[a]at h;cases h
 |bound g h=>exact⟨g,h,rfl⟩
def jZ (S:Nat->Prop) (m:Id->Mem) (ρ:Id->Option (Nat×Nat)) (w:World) (x:Value) (f:FuncId) (a:List CR):Prop:=
 ∃xs:List Value,yw f xs x/\qF S m ρ w xs a
def kR (S:Nat->Prop) (m:Id->Mem) (ρ:Id->Option (Nat×Nat)) (w:World) (x:Value):CV->Prop
 | .s c=>Rd S w x c
 | .ptr o p=>bg m ρ x o p
 | .aJ o g=>bB m ρ x o g
 | .cP f a=>jZ S m ρ w x f a
inductive fV (S:Nat->Prop) (m:Id->Mem) (ρ:Id->Option (Nat×Nat)) (w:World):List Value->List CV->Prop where
 |nil:fV S m ρ w [] []
 |cons {x:Value} {c:CV} {xs:List Value} {cs:List CV} (h:kR S m ρ w x c) (t:fV S m ρ w xs cs):fV S m ρ w (x::xs) (c::cs)
def CR.refs:CR->Id->Prop
 | .ptr o _,a=>o=a
 |_,_=>False
def CV.refs:CV->Id->Prop
 | .ptr o _,a=>o=a
 | .aJ o _,a=>o=a
 | .cP _ b,a=>∃c∈b,c.refs a
 |_,_=>False
def Mem.refs:Mem->Id->Prop
 | .obj cs,a=>∃c∈cs,c.refs a
 | .bm _ n k _ get,a=>∃i j,i<n/\j<k/\(get i j).refs a
 |_,_=>False
def qw (l:List Int):Value:= .agg (l.map (Value.int .i64)).toArray
def zY (a:List MapEntry) (ks:List (List Int)):Prop:=a.map (λe=>(e.key,e.val))=ks.map (λl=>(qw l,.bool true))
def iL (E:Env) (m:Id->Mem) (ρ:Id->Option (Nat×Nat)) (w:World) (o:Id):Mem->Prop
 | .none=>True
 | .dead=>True
 | .ro cs=>∃b c xs e,ρ o=some (b,c)/\L E m ρ w b/\w.heap[b]? =some (.cells xs.toArray e (0,0))/\eA (L E m ρ w) w xs cs
 | .box cs=>∃b c xs e,ρ o=some (b,c)/\w.heap[b]? =some (.cells xs.toArray e (0,0))/\eA (L E m ρ w) w xs cs
 | .aL _ n k e g=>(ρ o=none/\n=0)\/∃b a f,ρ o=some (b,a)/\w.heap[b]? =some (.cells f e (0,0))/\f.size=a*k/\n<=a/\a<=maxLen/\
   ∀i,i<n->∀j,j<k->∃x,f[i*k+j]? =some x/\Rd (L E m ρ w) w x (g i j)
 | .obj cs=>∃b c xs e,ρ o=some (b,c)/\w.heap[b]? =some (.cells xs.toArray e (0,0))/\fV (L E m ρ w) m ρ w xs cs
 | .bm _ n k e g=>(ρ o=none/\n=0)\/∃b a f,ρ o=some (b,a)/\w.heap[b]? =some (.cells f e (0,0))/\f.size=a*k/\n<=a/\a<=maxLen/\
   ∀i,i<n->∀j,j<k->∃x,f[i*k+j]? =some x/\kR (L E m ρ w) m ρ w x (g i j)
 | .map l=>∃b c h p,ρ o=some (b,c)/\w.heap[b]? =some (.map h p)/\zY h.toList l
def dj (E:Env) (m:Id->Mem) (ρ:Id->Option (Nat×Nat)) (w:World) (x:Value):TV->Prop
 | .any=>True
 | .undef=>x=Go.undef
 | .d v=>lU (L E m ρ w) w x v
 | .eD h=>∃xs,x= .tuple xs.toArray/\dA (L E m ρ w) w xs h
 | .ptr o p=>bg m ρ x o p
 | .aJ o g=>bB m ρ x o g
 | .ep o g i j=>match m o with
  | .aL a n k _ _=>g<=a/\(g=a->i<n/\∃b c,ρ o=some (b,c)/\x= .pointer (some ⟨b,i*k+j,none⟩))
  | .bm a n k _ _=>g<=a/\(g=a->i<n/\∃b c,ρ o=some (b,c)/\x= .pointer (some ⟨b,i*k+j,none⟩))
  |_=>True
 | .sub o g l n=>fi m ρ x o g l n
 | .nb n q=>∃b:Bool,x= .bool (b !=q)/\(b=true->n=0)
 | .cP f r=>jZ (L E m ρ w) m ρ w x f r
 | .jC o h=>∃y xs,x= .tuple (y::xs).toArray/\bg m ρ y o 0/\dA (L E m ρ w) w xs h
 | .rW cs=>∃xs:List Value,x= .agg xs.toArray/\fV (L E m ρ w) m ρ w xs cs
def TV.refs:TV->Id->Prop
 | .ptr o _,a=>o=a
 | .aJ o _,a=>o=a
 | .jC o _,a=>o=a
 | .rW cs,a=>∃c∈cs,c.refs a
 | .ep o _ _ _,a=>o=a
 | .sub o _ _ _,a=>o=a
 | .cP _ b,a=>∃c∈b,c.refs a
 |_,_=>False
structure Carry (m m':Id->Mem) (ρ ρ':Id->Option (Nat×Nat)) (o:Id):Prop where
 ptr:∀x p,bg m ρ x o p->bg m' ρ' x o p
 aJ:∀x g,bB m ρ x o g->bB m' ρ' x o g
structure Tz (m m':Id->Mem) (ρ ρ':Id->Option (Nat×Nat)) (o:Id):Prop where
 ptr:∀x p,bg m ρ x o p->bg m' ρ' x o p
 aJ:∀x,(m' o).gen=1->bB m ρ x o 1->bB m' ρ' x o 1
structure Own (E:Env) (ρ:Id->Option (Nat×Nat)) (m:Id->Mem) (w:World):Prop where
 below:Bx E.w0.heap.size E.X E.w0 w
 inj:∀o o' b c c',(m o).live->(m o').live->ρ o=some (b,c)->ρ o'=some (b,c')->o=o'
 lo:∀o b c,(m o).live->ρ o=some (b,c)->(E.X b\/E.w0.heap.size<=b)/\b<w.heap.size
 cleanM:∀o o',(m o).refs o'->m o'≠ .none
 mem:∀o,iL E m ρ w o (m o)
 carry:∀o,E.m0 o≠ .none->Tz E.m0 m E.ρ0 ρ o
inductive Marks (E:Env) (m:Id->Mem) (ρ:Id->Option (Nat×Nat)) (w:World):List Deferred->Prop where
 |nil:Marks E m ρ w []
 |cons {b:Nat} {ds:List Deferred} (h0:E.B<=b) (hL:L E m ρ w b) (h:w.heap[b]? =some (.deferred (some []))) (hn:∀d∈ds,d.target≠ .collected b) (r:Marks E m ρ w ds):
   Marks E m ρ w ({target:= .collected b,args:=#[]}::ds)
variable {E:Env} {m m':Id->Mem} {ρ ρ':Id->Option (Nat×Nat)}
theorem Marks.mono (a:∀b,L E m ρ w b->L E m' ρ' w' b/\w'.heap[b]? =w.heap[b]?) {c:List Deferred} (h:Marks E m ρ w c):Marks E m' ρ' w' c:=by
 induction h with
 |nil=>exact .nil
 |cons g f i j _ k=>exact .cons g (a _ f).1 ((a _ f).2.trans i) j k
structure Rel (E:Env) (ρ:Id->Option (Nat×Nat)) (t:Nat->TV) (m:Id->Mem) (a:Act) (w:World):Prop extends Own E ρ m w where
 defers:Marks E m ρ w a.defers
 size:a.tmps.size=E.N
 clean:∀i o,(t i).refs o->m o≠ .none
 slots:∀i,dj E m ρ w (a.tmps.getD i Go.undef) (t i)
def pE (t:Nat->TV) (d:Option Nat) (x:TV):Nat->TV:=match d with
 |some k=>bj t k x
 |none=>t
def cK (m:Id->Mem):List (Id×Mem)->Id->Mem
 |[]=>m
 |p::r=>cK (bj m p.1 p.2) r
theorem bg.bG {o:Id} {p:Nat} (h:bg m ρ x o p):x.oneCell'=true:=by
 unfold bg at h;split at h<;>first|(obtain⟨b,c,_,rfl⟩:=h;rfl)|exact h.elim|exact h
theorem kR.bG {c:CV} (h:kR S m ρ w x c):x.oneCell'=true:=by
 cases c with
 |s c=>exact Rd.bG h
 |ptr o p=>exact bg.bG h
 |aJ o g=>exact h.1
 |cP f a=>obtain⟨xs,h,_⟩:=h;cases h<;>rfl
theorem Carry.same {o:Id} (a:m' o=m o) (h2:ρ' o=ρ o):Carry m m' ρ ρ' o:=by
 refine⟨λx p h=>?_,λx g h=>?_⟩;simp only[bg,a,h2]at h|-;exact h;simp only[bB,cu,a,h2]at h|-;exact h
section
variable {S S':Nat->Prop} {m m':Id->Mem} {ρ ρ':Id->Option (Nat×Nat)} {w w':World}
theorem V8.mono (a:∀b,S b->S' b/\w'.heap[b]? =w.heap[b]?) {c:CR} (f:∀o,c.refs o->Carry m m' ρ ρ' o) (h:V8 S m ρ w x c):V8 S' m' ρ' w' x c:=by
 cases c with
 |s c=>exact Rd.mono a h
 |ptr o p=>exact(f o rfl).ptr x p h
theorem qF.mono (i:∀b,S b->S' b/\w'.heap[b]? =w.heap[b]?) {cs:List CR} (h:qF S m ρ w xs cs):(∀o,(∃c∈cs,c.refs o)->Carry m m' ρ ρ' o)->qF S' m' ρ' w' xs cs:=by
 induction h with
 |nil=>intro _;exact .nil
 |cons a _ j=>intro g;exact .cons (a.mono i (λo f=>g o ⟨_,by simp,f⟩)) (j (λo ⟨c,k,f⟩=>g o ⟨c,by simp[k],f⟩))
theorem jZ.mono (g:∀b,S b->S' b/\w'.heap[b]? =w.heap[b]?) {f:FuncId} {a:List CR} (i:∀o,(∃c∈a,c.refs o)->Carry m m' ρ ρ' o) (h:jZ S m ρ w x f a):jZ S' m' ρ' w' x f a:=by
 obtain⟨xs,j,k⟩:=h;exact⟨xs,j,k.mono g i⟩
theorem kR.mono (i:∀b,S b->S' b/\w'.heap[b]? =w.heap[b]?) {c:CV} (a:∀o,c.refs o->Carry m m' ρ ρ' o) (h:kR S m ρ w x c):kR S' m' ρ' w' x c:=by
 cases c with
 |s c=>exact Rd.mono i h
 |ptr o p=>exact(a o rfl).ptr x p h
 |aJ o g=>exact(a o rfl).aJ x g h
 |cP f j=>exact jZ.mono i a h
theorem fV.mono (i:∀b,S b->S' b/\w'.heap[b]? =w.heap[b]?) {cs:List CV} (h:fV S m ρ w xs cs):(∀o,(∃c∈cs,c.refs o)->Carry m m' ρ ρ' o)->fV S' m' ρ' w' xs cs:=by
 induction h with
 |nil=>intro _;exact .nil
 |cons a _ j=>intro g;exact .cons (a.mono i (λo f=>g o ⟨_,by simp,f⟩)) (j (λo ⟨c,k,f⟩=>g o ⟨c,by simp[k],f⟩))
end
theorem dj.mono {v:TV}
  (k:∀b,L E m ρ w b->L E m' ρ' w' b/\w'.heap[b]? =w.heap[b]?)
  (j:∀o,v.refs o->m' o=m o/\ρ' o=ρ o) (h:dj E m ρ w x v):dj E m' ρ' w' x v:=by
 cases v with
 |any=>trivial
 |undef=>exact h
 |d v=>exact lU.mono k h
 |eD q=>obtain⟨xs,a,c⟩:=h;exact⟨xs,a,c.mono k⟩
 |ptr o p=>obtain⟨a,c⟩:=j o rfl;exact(Carry.same a c).ptr x p h
 |aJ o g=>obtain⟨a,c⟩:=j o rfl;exact(Carry.same a c).aJ x g h
 |sub o g z n=>obtain⟨a,c⟩:=j o rfl;simp only[dj,fi,hC,a,c]at h|-;exact h
 |nb n neg=>exact h
 |ep o g i A=>obtain⟨a,c⟩:=j o rfl;simp only[dj,a,c]at h|-;exact h
 |cP f B=>exact jZ.mono k (λo l=>Carry.same (j o l).1 (j o l).2) h
 |jC o q=>obtain⟨y,xs,a,c,r⟩:=h;obtain⟨t,u⟩:=j o rfl;exact⟨y,xs,a,(Carry.same t u).ptr y 0 c,r.mono k⟩
 |rW cs=>obtain⟨xs,a,c⟩:=h;exact⟨xs,a,c.mono k (λo l=>Carry.same (j o l).1 (j o l).2)⟩
theorem iL.mono {o:Id} {v:Mem}
  (q:∀b,L E m ρ w b->L E m' ρ' w' b/\w'.heap[b]? =w.heap[b]?)
  (p:ρ' o=ρ o) (hw:v.live->∀b c,ρ o=some (b,c)->w'.heap[b]? =w.heap[b]?) (D:∀t,v.refs t->Carry m m' ρ ρ' t) (h:iL E m ρ w o v):iL E m' ρ' w' o v:=by
 cases v with
 |none=>trivial
 |dead=>trivial
 |ro cs=>obtain⟨b,c,xs,e,a,F,f,l⟩:=h;exact⟨b,c,xs,e,by rw[p,a],(q b F).1,by rw[(q b F).2,f],l.mono q⟩
 |box cs=>obtain⟨b,c,xs,e,a,f,l⟩:=h;exact⟨b,c,xs,e,by rw[p,a],by rw[hw trivial b c a,f],l.mono q⟩
 |aL g n k e get=>rcases h with⟨a,f⟩|⟨b,r,arr,a,f,l,y,z,A⟩;exact .inl ⟨by rw[p,a],f⟩;refine .inr ⟨b,r,arr,by rw[p,a],by rw[hw trivial b r a,f],l,y,z,λi hi j u=>?_⟩;obtain⟨x,B,C⟩:=A i hi j u;exact⟨x,B,C.mono q⟩
 |obj cs=>obtain⟨b,c,xs,e,a,f,l⟩:=h;exact⟨b,c,xs,e,by rw[p,a],by rw[hw trivial b c a,f],l.mono q D⟩
 |bm g n k e get=>rcases h with⟨a,f⟩|⟨b,r,arr,a,f,l,y,z,A⟩;exact .inl ⟨by rw[p,a],f⟩;refine .inr ⟨b,r,arr,by rw[p,a],by rw[hw trivial b r a,f],l,y,z,λi hi j u=>?_⟩;obtain⟨x,B,C⟩:=A i hi j u;exact⟨x,B,C.mono q (λt G=>D t ⟨i,j,hi,u,G⟩)⟩
 |map J=>obtain⟨b,c,H,I,a,f,l⟩:=h;exact⟨b,c,H,I,by rw[p,a],by rw[hw trivial b c a,f],l⟩
theorem MI (a:Act) (d:Nat) (v:Value) (b:d<a.tmps.size) (i:Nat):
  (a.put (some d) v).tmps.getD i Go.undef=if i=d then v else a.tmps.getD i Go.undef:=by
 simp only[Act.put,YC,Z4];by_cases h:d=i;subst h;simp[b];have c:i≠d:=λe=>h e.symm;simp[h,c]
theorem Rel.put {t:Nat->TV} {a:Act} (h:Rel E ρ t m a w) {d:Option Nat} (c:∀k,d=some k->k<E.N) {v:Value} {x:TV}
  (f:dj E m ρ w v x) (g:∀o,x.refs o->m o≠ .none):Rel E ρ (pE t d x) m (a.put d v) w:=by
 cases d with
 |none=>exact h
 |some k=>have j:k<a.tmps.size:=(by rw[h.size];exact c k rfl);refine{below:=h.below,defers:=h.defers,size:=?_,inj:=h.inj,lo:=h.lo,clean:=?_,cleanM:=h.cleanM,mem:=h.mem,slots:=?_,carry:=h.carry};simp[Act.put,h.size];intro i o b;by_cases hi:i=k;subst hi;simp only[pE,aq]at b;exact g o b;simp only[pE,aw _ _ _ hi]at b;exact h.clean i o b;intro i;rw[MI a k v j];by_cases hi:i=k;subst hi;simp only[pE,aq,aaD];exact f;simp only[pE,aw _ _ _ hi,hi,aaa];exact h.slots i
theorem Rel.one {t:Nat->TV} {a:Act} (h:Rel E ρ t m a w) (o:Id) (nm:Mem) (nr:Option (Nat×Nat))
  (R:Bx E.w0.heap.size E.X w w')
  (F:∀b,L E m ρ w b->L E (bj m o nm) (bj ρ o nr) w' b/\w'.heap[b]? =w.heap[b]?)
  (V:∀q b c,q≠o->(m q).live->ρ q=some (b,c)->w'.heap[b]? =w.heap[b]?)
  (P:nm.live->∀b c,nr=some (b,c)->((E.X b\/E.w0.heap.size<=b)/\b<w'.heap.size)/\∀q M,q≠o->(m q).live->ρ q≠some (b,M))
  (S:nm≠ .none)
  (X:∀q,nm.refs q->q=o\/m q≠ .none)
  (uH:m o= .none->E.m0 o= .none)
  (Y:nm.gen=1->(m o).gen=1)
  (Z:iL E (bj m o nm) (bj ρ o nr) w' o nm)
  (a0:m o≠ .none->Carry m (bj m o nm) ρ (bj ρ o nr) o)
  (a1:∀x g i N,m o≠ .none->dj E m ρ w x (.ep o g i N)->dj E (bj m o nm) (bj ρ o nr) w' x (.ep o g i N))
  (a2:∀x g lo n,m o≠ .none->fi m ρ x o g lo n->fi (bj m o nm) (bj ρ o nr) x o g lo n):
  Rel E (bj ρ o nr) t (bj m o nm) a w':=by
 have H:∀q,m q≠ .none->Carry m (bj m o nm) ρ (bj ρ o nr) q:=λq O=>by by_cases e:q=o;subst e;exact a0 O;exact Carry.same (aw _ _ _ e) (aw _ _ _ e)
 refine{below:=h.below.trans R,defers:=h.defers.mono F,size:=h.size,inj:=?inj,lo:=?lo,clean:=?clean,cleanM:=?cleanM,mem:=?mem,slots:=?slots,carry:=?carry}
 case inj=>
  intro j z b c M B J C K;by_cases k:j=o;subst k;rw[aq]at B C;by_cases D:z=j;exact D.symm;rw[aw _ _ _ D]at J K;exact absurd K ((P B b c C).2 z M D J);rw[aw _ _ _ k]at B C;by_cases D:z=o;subst D;rw[aq]at J K;exact absurd C ((P J b M K).2 j c k B);rw[aw _ _ _ D]at J K;exact h.inj j z b c M B J C K
 case lo=>
  intro j b c B C;by_cases k:j=o;subst k;rw[aq]at B C;exact(P B b c C).1;rw[aw _ _ _ k]at B C;obtain⟨I,A⟩:=h.lo j b c B C;exact⟨I,Yc A R.size⟩
 case clean=>
  intro i j r;by_cases k:j=o;subst k;rw[aq];exact S;rw[aw _ _ _ k];exact h.clean i j r
 case cleanM=>
  intro j z r;by_cases D:z=o;subst D;rw[aq];exact S;rw[aw _ _ _ D];by_cases k:j=o;subst k;rw[aq]at r;exact(X z r).resolve_left D;rw[aw _ _ _ k]at r;exact h.cleanM j z r
 case mem=>
  intro j;by_cases k:j=o;subst k;rw[aq];exact Z;rw[aw m _ _ k];exact(h.mem j).mono F (aw _ _ _ k) (λl b c r=>V j b c k l r) (λz r=>H z (h.cleanM j z r))
 case slots=>
  intro i;have u:=h.slots i;have G:=h.clean i;generalize t i=v at u G;cases v with
  |any=>trivial
  |undef=>exact u
  |d v=>exact lU.mono F u
  |eD a3=>obtain⟨xs,I,A⟩:=u;exact⟨xs,I,A.mono F⟩
  |ptr j p=>exact(H j (G j rfl)).ptr _ p u
  |aJ j g=>exact(H j (G j rfl)).aJ _ g u
  |ep j g i N=>by_cases k:j=o;subst k;exact a1 _ g i N (G _ rfl) u;exact dj.mono F (λz A=>by cases A;exact⟨aw _ _ _ k,aw _ _ _ k⟩) u
  |sub j g lo n=>by_cases k:j=o;subst k;exact a2 _ g lo n (G _ rfl) u;exact dj.mono F (λz A=>by cases A;exact⟨aw _ _ _ k,aw _ _ _ k⟩) u
  |nb n neg=>exact u
  |cP f a8=>exact jZ.mono F (λj r=>H j (G j r)) u
  |jC j a3=>obtain⟨y,xs,I,A,a4⟩:=u;exact⟨y,xs,I,(H j (G j rfl)).ptr _ 0 A,a4.mono F⟩
  |rW cs=>obtain⟨xs,I,A⟩:=u;exact⟨xs,I,A.mono F (λj r=>H j (G j r))⟩
 case carry=>
  intro j O;have T:=h.carry j O;have a5:m j≠ .none\/j≠o:=(by by_cases k:j=o;subst k;exact .inl (λe=>O (uH e));exact .inr k);have U:Carry m (bj m o nm) ρ (bj ρ o nr) j:=(by by_cases k:j=o;exact H j (a5.resolve_right (λh=>h k));exact Carry.same (aw _ _ _ k) (aw _ _ _ k));refine⟨λx p a6=>U.ptr x p (T.ptr x p a6),λx Q a7=>U.aJ x 1 (T.aJ x ?_ a7)⟩;by_cases k:j=o;subst k;rw[aq]at Q;exact Y Q
  ·rwa [aw _ _ _ k]at Q
theorem Rel.grow {t:Nat->TV} {a:Act} (h:Rel E ρ t m a w) (f:Below w.heap.size w w'):Rel E ρ t m a w':=by
 have k:∀b,L E m ρ w b->b<w.heap.size:=λb f=>by rcases f.1 with h1|h1|h1;exact Yc (E.hS b h1) h.below.size;exact Yc (E.hX b h1) h.below.size;exact h1.2
 have g:∀b,L E m ρ w b->L E m ρ w' b/\w'.heap[b]? =w.heap[b]?:=λb j=>
  ⟨⟨j.1.imp id (λh1=>h1.imp id (λh1=>⟨h1.1,Yc h1.2 f.size⟩)),j.2⟩,f.block b (k b j)⟩
 refine{below:=h.below.trans (Bx.of f h.below.size),defers:=h.defers.mono g,size:=h.size,inj:=h.inj,lo:=?_,clean:=h.clean,cleanM:=h.cleanM,mem:=?_,slots:=?_,carry:=h.carry};intro o b c l r;obtain⟨h1,p⟩:=h.lo o b c l r;exact⟨h1,Yc p f.size⟩;intro o;exact(h.mem o).mono g rfl (λl b c q=>f.block b (h.lo o b c l q).2) (λ_ _=>Carry.same rfl rfl);intro i;exact(h.slots i).mono g (λ_ _=>⟨rfl,rfl⟩)
inductive TK where
 |int (k:IntKind)
 |str (fs:List (Nat×TypeId×Nat))
 |arr (n:Nat) (e:TypeId)
 |jz (e:TypeId)
 |cell
structure Ty where
 size:Nat
 bytes:Nat
 kind:TK
 zero:List SV
def TK.isAgg:TK->Bool
 | .str _=>true
 | .arr _ _=>true
 |_=>false
def zw:TypeDesc->Bool
 | .struct _=>true
 | .array _ _=>true
 |_=>false
structure cO (P:Program) (t:TypeId) (T:Ty):Prop where
 info:∃i z,P.info? t=some i/\i.size=T.size/\i.bytes=T.bytes/\i.zero=some z/\z.cells.toList.map SV.v=T.zero/\z.cells.toList.all (·.oneCell')=true/\z.cells.size=T.size
 kind:match T.kind with
  | .int k=>P.underlying t=some (.int k)
  | .str fs=>∃F,P.underlying t=some (.struct F)/\F.toList.map (λf=>(f.offset,f.type,P.cellsOf f.type))=fs/\F.toList.mapM (λf=>(P.info? f.type).map λi=>(f.offset,i.size))=some (fs.map λx=>(x.1,x.2.2))
  | .arr n e=>P.underlying t=some (.array n e)
  | .jz e=>P.underlying t=some (.slice e)
  | .cell=>∃d,P.underlying t=some d/\zw d=false
abbrev iw:=TypeId->Option Ty
def cG (P:Program) (TT:iw):Prop:=∀t T,TT t=some T->cO P t T
structure ak (p K:Prop):Prop where
 p:p
 k:K
structure af (b:Bool) (K:Bool->Prop):Prop where
 tt:b=true->K true
 ff:b=false->K false
structure NZ {α:Type} (x:α) (K:α->Prop):Prop where
 h:∃y,x=y/\K y
theorem NZ.elim {α:Type} {x:α} {K:α->Prop} (h:NZ x K):K x:=by obtain⟨y,e,k⟩:=h.h;exact e▸k
structure fm (A B:Prop):Prop where
 h:A\/B
variable {A B:Prop}
theorem fm.l (h:A):fm A B:=⟨.inl h⟩
theorem fm.r (h:B):fm A B:=⟨.inr h⟩
def dU (m:Id->Mem) (o:Id) (K:Mem->Prop):Prop:=
 match o with
 | .n k=>K (m (.n k))
 | .s k i=>NZ (m (.s k i)) K
variable {m:Id->Mem} {K:Mem->Prop}
theorem C6 {o:Id} (h:K (m o)):dU m o K:=by
 cases o with
 |n k=>exact h
 |s k i=>exact⟨_,rfl,h⟩
theorem bk {o:Id} (h:dU m o K):K (m o):=by
 cases o with
 |n k=>exact h
 |s k i=>exact NZ.elim h
theorem af.elim {b:Bool} {K:Bool->Prop} (h:af b K):K b:=by
 cases b with
 |true=>exact h.tt rfl
 |false=>exact h.ff rfl
def Wo:Value->TV
 | .int k n=> .d (.one (.v (.int k n)))
 | .bool b=> .d (.one (.v (.bool b)))
 | .string s=> .d (.one (.v (.string s)))
 | .slice none 0 0=> .d (.one (.v (.slice none 0 0)))
 | .pointer none=> .d (.one (.v (.pointer none)))
 | .nilFunc=> .d (.one (.v .nilFunc))
 | .float k b=> .d (.one (.v (.float k b)))
 |_=> .any
def bE (t:Nat->TV):Operand->TV
 | .tmp s=>t s
 | .const v=>Wo v
 | .func f=> .d (.one (.fn f 0 λ_=> .v Go.undef))
 | .global _=> .any
def TV.force (x:TV) (K:TV->Prop):Prop:=
 match x with
 | .any=>K .any
 | .undef=>K .undef
 | .d (.one (.v y))=>K (.d (.one (.v y)))
 | .d (.one (.sl n k g))=>K (.d (.one (.sl n k g)))
 | .d (.one (.ad m c))=>K (.d (.one (.ad m c)))
 | .d (.one (.fn f n c))=>K (.d (.one (.fn f n c)))
 | .d (.agg a)=>K (.d (.agg a))
 | .eD b=>K (.eD b)
 | .ptr o p=>K (.ptr o p)
 | .aJ o g=>K (.aJ o g)
 | .ep o g i f=>K (.ep o g i f)
 | .sub o g h n=>K (.sub o g h n)
 | .nb n neg=>K (.nb n neg)
 | .cP f c=>K (.cP f c)
 | .jC o b=>K (.jC o b)
 | .rW a=>K (.rW a)
theorem TV.pe {x:TV} {K:TV->Prop}:x.force K↔K x:=by
 unfold TV.force;split<;>exact ZB
def cells:Nat->(Nat->SV)->List SV
 |0,_=>[]
 |n+1,f=>f 0::cells n λi=>f (i+1)
abbrev fa:=TV->List (Id×Mem)->List Nat->Prop
def CR.tv:CR->TV
 | .s c=> .d (.one c)
 | .ptr o p=> .ptr o p
def CV.tv:CV->TV
 | .s c=> .d (.one c)
 | .ptr o p=> .ptr o p
 | .aJ o g=> .aJ o g
 | .cP f a=> .cP f a
def CV.V9 (c:CV) (K:TV->Prop):Prop:=
 match c with
 | .s c=>(TV.d (.one c)).force K
 | .ptr o p=>K (.ptr o p)
 | .aJ o g=>K (.aJ o g)
 | .cP f a=>K (.cP f a)
theorem CV.Aa {c:CV} {K:TV->Prop}:c.V9 K↔K c.tv:=by
 unfold CV.V9;split;rw[TV.pe];exact ZB;all_goals exact ZB
def GA:List CV->(List SV->Prop)->Prop
 |[],K=>K []
 |c::r,K=>match c with
  | .s c=>GA r λl=>K (c::l)
  |_=>False
def TV.Xw (x:TV) (K:CV->Prop):Prop:=
 match x with
 | .ptr o p=>K (.ptr o p)
 | .aJ o g=>K (.aJ o g)
 | .cP f a=>K (.cP f a)
 |_=>False
def mZ (T:Ty) (cs:List SV) (K:TV->Prop):Prop:=
 match T.kind.isAgg with
 |true=>K (.d (.agg cs))
 |false=>match cs with
  |[c]=>(TV.d (.one c)).force K
  |_=>False
def TV.xF (x:TV) (K:List SV->Prop):Prop:=
 match x with
 | .d (.one c)=>K [c]
 | .d (.agg a)=>K a
 |_=>False
def Mn:IntKind->Nat
 | .i8=>0
 | .i16=>1
 | .i32=>2
 | .i64=>3
 | .u8=>4
 | .u16=>5
 | .u32=>6
 | .u64=>7
theorem Mm {a b:IntKind} (h:Nat.beq (Mn a) (Mn b)=true):a=b:=by
 have:=XE h;cases a<;>cases b<;>first|rfl|(simp[Mn]at this)
def Tj (c:BinOp) (a b:TV) (K:TV->Prop):Prop:=
 match a with
 | .d (.one (.v (.int k x)))=>match b with
  | .d (.one (.v (.int f y)))=>bif Nat.beq (Mn k) (Mn f)then(match c with
   | .add=>K (.d (.one (.v (.int k (k.wrap (x+y))))))
   | .sub=>K (.d (.one (.v (.int k (k.wrap (x-y))))))
   | .mul=>K (.d (.one (.v (.int k (k.wrap (x*y))))))
   | .quo=>ak (y≠0) (K (.d (.one (.v (.int k (k.wrap (x.tdiv y)))))))
   | .rem=>ak (y≠0) (K (.d (.one (.v (.int k (x.tmod y))))))
   | .eql=>K (aE (x==y))
   | .neq=>K (aE (x !=y))
   | .lss=>K (aE (decide (x<y)))
   | .leq=>K (aE (decide (x<=y)))
   | .gtr=>K (aE (decide (x>y)))
   | .geq=>K (aE (decide (x>=y)))
   |_=>False)else False
  |_=>False
 | .d (.one (.v (.string x)))=>match b with
  | .d (.one (.v (.string y)))=>match c with
   | .eql=>K (aE (x.toList==y.toList))
   | .neq=>K (aE (!(x.toList==y.toList)))
   |_=>False
  |_=>False
 |_=>False
def xW (P:Program) (T:TypeId) (xs f:List SV) (b:Bool):Prop:=
 P.eqGuardType P.depth T=false/\∀(S:Nat->Prop) (w:World) (a c:List Value),eA S w a xs->eA S w c f->(Op.equal T (.agg a.toArray) (.agg c.toArray)).run P w= .ok b w
structure rY (P:Program) (T:TypeId) (xs ys:List SV) (K:Bool->Prop):Prop where
 h:∃b,xW P T xs ys b/\K b
def Ee (S:Nat->Prop) (w:World) (x:Value):TV->Prop
 | .d v=>lU S w x v
 | .eD b=>∃a,x= .tuple a.toArray/\dA S w a b
 |_=>False
def Enters (P:Program) (f:FuncId):Prop:=∃a,P.funcs[f]? =some a/\(a.name== "runtime.NumGoroutine")=false/\a.body.isNone=false
def lY (P:Program) (f:FuncId) (args:List DV) (r:TV):Prop:=
 Enters P f/\∀(w:World) (S:Nat->Prop) (c:List Value),(∀b,S b->b<w.heap.size)->dA S w c args->
  Calls P f c.toArray w λe a=>∃v,e= .returned v/\Below w.heap.size w a/\Ee (λb=>S b\/(w.heap.size<=b/\b<a.heap.size)) a v r
def jJ:Nat->List Mem->Id->Mem
 |_,[]=>λ_=> .none
 |k,x::r=>bj (jJ (k+1) r) (.n k) x
abbrev fE (a:List Mem) (fr:Mem):Id->Mem:=bj (jJ 2000 a) (.n 3000) fr
inductive jW (E:Env) (m:Id->Mem) (ρ:Id->Option (Nat×Nat)) (w:World):List Value->List TV->Prop where
 |nil:jW E m ρ w [] []
 |cons {x:Value} {t:TV} {xs:List Value} {ts:List TV} (h:dj E m ρ w x t) (r:jW E m ρ w xs ts):jW E m ρ w (x::xs) (t::ts)
def Mem.kind:Mem->Nat
 | .box _=>1
 | .ro _=>1
 | .obj _=>1
 | .aL _ _ k _ _=>k+2
 | .bm _ _ k _ _=>k+2
 |_=>0
def Mem.Mo:Mem->Bool
 | .dead=>true
 |_=>false
def Dc:List Mem->List Mem->Bool
 |[],[]=>true
 |x::r,y::a=>(y.Mo||(Nat.beq y.kind x.kind&&Nat.blt 0 x.kind))&&Dc r a
 |_,_=>false
def CV.cur (m:Id->Mem):CV->Prop
 | .aJ o g=>g=(m o).gen
 |_=>True
def Mem.cur (m:Id->Mem):Mem->Prop
 | .obj a=>∀c∈a,c.cur m
 | .bm _ n k _ get=>∀i,i<n->∀j,j<k->(get i j).cur m
 |_=>True
def TV.cur (m:Id->Mem):TV->Prop
 | .aJ o g=>g=(m o).gen
 |_=>True
structure lT (P:Program) (f:FuncId) (args:List TV) (ms:List Mem) (r:TV) (gE:List Mem) (fr:Mem):Prop where
 enters:Enters P f
 Dd:Dc ms gE=true
 cur:r.cur (fE gE fr)
 tf:∀o,(fE gE fr o).cur (fE gE fr)
 closed:∀o o',(jJ 2000 ms o).refs o'->jJ 2000 ms o'≠ .none
 fU:∀x∈args,∀o',x.refs o'->jJ 2000 ms o'≠ .none
 clean:∀o,r.refs o->fE gE fr o≠ .none
 calls:∀(E:Env) (vs:List Value),E.P=P->E.m0=jJ 2000 ms->Own E E.ρ0 E.m0 E.w0->jW E E.m0 E.ρ0 E.w0 vs args->
  Calls P f vs.toArray E.w0 λe w'=>∃v ρ',e= .returned v/\Own E ρ' (fE gE fr) w'/\dj E (fE gE fr) ρ' w' v r
def pB (a:List Id) (d:Id):Id->Id
 | .n k=>bif Nat.beq k 3000 then d else a.getD (k-2000) d
 | .s k i=> .s k i
def wx (m:Id->Mem) (a:List Id) (d:Id) (b:List Mem) (o:Id):Nat:=
 match o with
 | .n k=>bif Nat.beq k 3000 then 0 else bif Nat.beq ((b.getD (k-2000) .none).gen) 1 then(m (a.getD (k-2000) d)).gen else(m (a.getD (k-2000) d)).gen+2
 | .s _ _=>0
section
variable (σ:Id->Id) (G:Id->Nat)
def QZ:CR->CR
 | .s c=> .s c
 | .ptr o p=> .ptr (σ o) p
def nD:List CR->List CR
 |[]=>[]
 |c::r=>QZ σ c::nD r
def Cz:CV->CV
 | .s c=> .s c
 | .ptr o p=> .ptr (σ o) p
 | .aJ o _=> .aJ (σ o) (G o)
 | .cP f a=> .cP f (nD σ a)
def sM:List CV->List CV
 |[]=>[]
 |c::r=>Cz σ G c::sM r
def uC (g:Nat):Mem->Mem
 | .none=> .none
 | .dead=> .dead
 | .ro a=> .ro a
 | .box a=> .box a
 | .aL _ n k e b=> .aL g n k e b
 | .obj a=> .obj (sM σ G a)
 | .bm _ n k e b=> .bm g n k e λi j=>Cz σ G (b i j)
 | .map c=> .map c
def Le:TV->TV
 | .d x=> .d x
 | .eD a=> .eD a
 | .jC o a=> .jC (σ o) a
 | .ptr o p=> .ptr (σ o) p
 | .aJ o _=> .aJ (σ o) (G o)
 | .cP f b=> .cP f (nD σ b)
 | .undef=> .undef
 | .nb n c=> .nb n c
 |_=> .any
def ye:Nat->List Id->List Mem->List (Id×Mem)
 |k,o::a,x::r=>(o,uC σ G (G (.n k)) x)::ye (k+1) a r
 |_,_,_=>[]
def IY (d:Id):Mem->List (Id×Mem)
 | .none=>[]
 |x=>[(d,uC σ G 0 x)]
end
def aD (c a:SV):Prop:=∀(S:Nat->Prop) (w:World) (x:Value),Rd S w x c->Rd S w x a
theorem aD.refl (c:SV):aD c c:=λ_ _ _ h=>h
inductive iy:List SV->List SV->Prop where
 |nil:iy [] []
 |cons {c c':SV} {l l':List SV} (h:aD c c') (r:iy l l'):iy (c::l) (c'::l')
def dX (v a:DV):Prop:=∀(S:Nat->Prop) (w:World) (x:Value),lU S w x v->lU S w x a
inductive xX:List DV->List DV->Prop where
 |nil:xX [] []
 |cons {c c':DV} {l l':List DV} (h:dX c c') (r:xX l l'):xX (c::l) (c'::l')
inductive N2 (σ:Id->Id):CR->CR->Prop where
 |s {c c':SV} (h:aD c c'):N2 σ (.s c) (.s c')
 |ptr {o o':Id} {p:Nat} (h:o=σ o'):N2 σ (.ptr o p) (.ptr o' p)
inductive tA (σ:Id->Id):List CR->List CR->Prop where
 |nil:tA σ [] []
 |cons {c c':CR} {l l':List CR} (h:N2 σ c c') (r:tA σ l l'):tA σ (c::l) (c'::l')
inductive uo (m:Id->Mem) (σ:Id->Id):CV->CV->Prop where
 |s {c c':SV} (h:aD c c'):uo m σ (.s c) (.s c')
 |ptr {o o':Id} {p:Nat} (h:o=σ o'):uo m σ (.ptr o p) (.ptr o' p)
 |aJ {o o':Id} {g:Nat} (h:o=σ o') (hg:g=(m o).gen):uo m σ (.aJ o g) (.aJ o' 1)
 |cP {f:FuncId} {c c':List CR} (h:tA σ c c'):uo m σ (.cP f c) (.cP f c')
inductive iX (m:Id->Mem) (σ:Id->Id):List CV->List CV->Prop where
 |nil:iX m σ [] []
 |cons {c c':CV} {l l':List CV} (h:uo m σ c c') (r:iX m σ l l'):iX m σ (c::l) (c'::l')
inductive kd (m:Id->Mem) (σ:Id->Id):Mem->Mem->Prop where
 |ro {l l':List SV} (h:iy l l'):kd m σ (.ro l) (.ro l')
 |box {l l':List SV} (h:iy l l'):kd m σ (.box l) (.box l')
 |tl {l:List SV} {l':List CV} (h:iX m σ (l.map .s) l'):kd m σ (.box l) (.obj l')
 |obj {l l':List CV} (h:iX m σ l l'):kd m σ (.obj l) (.obj l')
 |aL {g n k:Nat} {e:TypeId} {get get':Nat->Nat->SV} (h:∀i,i<n->∀j,j<k->aD (get i j) (get' i j)):kd m σ (.aL g n k e get) (.aL 1 n k e get')
 |bm {g n k:Nat} {e:TypeId} {get get':Nat->Nat->CV} (h:∀i,i<n->∀j,j<k->uo m σ (get i j) (get' i j)):kd m σ (.bm g n k e get) (.bm 1 n k e get')
inductive zV (m:Id->Mem) (σ:Id->Id):List Id->List Mem->Prop where
 |nil:zV m σ [] []
 |cons {o:Id} {x:Mem} {l:List Id} {r:List Mem} (h:kd m σ (m o) x) (t:zV m σ l r):zV m σ (o::l) (x::r)
inductive F7 (m:Id->Mem) (σ:Id->Id):TV->TV->Prop where
 |d {v v':DV} (h:dX v v'):F7 m σ (.d v) (.d v')
 |ptr {o o':Id} {p:Nat} (h:o=σ o'):F7 m σ (.ptr o p) (.ptr o' p)
 |aJ {o o':Id} {g:Nat} (h:o=σ o') (hg:g=(m o).gen):F7 m σ (.aJ o g) (.aJ o' 1)
 |cP {f:FuncId} {c c':List CR} (h:tA σ c c'):F7 m σ (.cP f c) (.cP f c')
inductive lQ (m:Id->Mem) (σ:Id->Id):List TV->List TV->Prop where
 |nil:lQ m σ [] []
 |cons {c c':TV} {l l':List TV} (h:F7 m σ c c') (r:lQ m σ l l'):lQ m σ (c::l) (c'::l')
def AV:List Nat->Bool
 |[]=>true
 |k::r=>!(r.any (Nat.beq k))&&AV r
structure Fits (m:Id->Mem) (os:List Id) (d:Id) (xs args:List TV) (ms:List Mem) (fr:Mem):Prop where
 WK:zV m (pB os d) os ms
 args:lQ m (pB os d) xs args
 keys:AV (d.key::os.map Id.key)=true
 zq:Nat.ble os.length 1000=true
 fresh:fr≠ .none->m d= .none
structure fp (P:Program) (f:FuncId) (xs:List TV) (d:Id) (m:Id->Mem) (K:fa):Prop where
 h:∃(os:List Id) (args:List TV) (ms:List Mem) (r:TV) (gE:List Mem) (fr:Mem),
  lT P f args ms r gE fr/\Fits m os d xs args ms fr/\
   K (Le (pB os d) (wx m os d gE) r) (ye (pB os d) (wx m os d gE) 2000 os gE++IY (pB os d) (wx m os d gE) d fr) (d.key::os.map Id.key)
structure ai (P:Program) (f:FuncId) (args:List DV) (K:TV->Prop):Prop where
 h:∃r,lY P f args r/\K r
structure Xa (P:Program) (f:FuncId) (args:List DV) (K:Value->Prop):Prop where
 h:∃x:Value,x.oneCell'=true/\(∀(w:World) (S:Nat->Prop) (vs:List Value),dA S w vs args->(callFunc f vs.toArray).run P w= .ok (.value x) w)/\K x
structure V7 (k:FloatKind) (b:Nat) (d:IntKind) (K:Int->Prop):Prop where
 h:∃z,(k.decode b).toInt .zero=some z/\d.min<=z/\z<=d.max/\K z
def sy:List SV->Bool
 |[]=>true
 | .v _::r=>sy r
 |_::_=>false
def kF:List DV->Bool
 |[]=>true
 | .one (.v _)::r=>kF r
 | .agg a::r=>sy a&&kF r
 |_::_=>false
def yS:TV->Bool
 | .d x=>kF [x]
 | .eD a=>kF a
 |_=>false
def CR.cv:CR->CV
 | .s c=> .s c
 | .ptr o p=> .ptr o p
inductive lR (m:Id->Mem) (ks:List Nat):CV->SV->Prop where
 |s (c:SV):lR m ks (.s c) c
 |box {o:Id} {p q:Nat} {l:List SV} (hk:o.key∈ks) (h:m o= .box l\/m o= .ro l) (hq:p+q<=l.length):lR m ks (.ptr o p) (.ad q λj=>l.getD (p+j) (.v Go.undef))
 |obj {o:Id} {p q:Nat} {l:List CV} {cell:Nat->SV} (hk:o.key∈ks) (h:m o= .obj l) (hq:p+q<=l.length) (hc:∀j,j<q->lR m ks (l.getD (p+j) (.s (.v Go.undef))) (cell j)):lR m ks (.ptr o p) (.ad q cell)
 |aL {o:Id} {g n k:Nat} {e:TypeId} {get:Nat->Nat->SV} (hk:o.key∈ks) (h:m o= .aL g n k e get):lR m ks (.aJ o g) (.sl n k get)
 |bm {o:Id} {g n k:Nat} {e:TypeId} {get:Nat->Nat->CV} {get':Nat->Nat->SV} (hk:o.key∈ks) (h:m o= .bm g n k e get) (hc:∀i,i<n->∀j,j<k->lR m ks (get i j) (get' i j)):lR m ks (.aJ o g) (.sl n k get')
 |cP {f:FuncId} {n:Nat} {Nr:List CR} {cell:Nat->SV} (hn:n=Nr.length) (hc:∀j,j<n->lR m ks (Nr.getD j (.s (.v Go.undef))).cv (cell j)) (hf:Nat.blt f 10000000=true:=by rfl):lR m ks (.cP f Nr) (.fn f n cell)
structure Eg (m:Id->Mem) (c:CV) (K:SV->List Nat->Prop):Prop where
 h:∃x ks,lR m ks c x/\K x ks
def Qk (m:Id->Mem) (x:TV) (K:DV->List Id->List Nat->Bool->Prop):Prop:=
 match x with
 | .d v=>K v [] [] false
 | .aJ o g=>dU m o λa=>match a with
  | .aL c n k _ h=>bif Nat.beq g c then K (.one (.sl n k h)) [o] [o.key] false else False
  |_=>Eg m (.aJ o g) λx b=>K (.one x) [] b true
 | .sub o g q n=>dU m o λa=>match a with
  | .aL c _ k _ h=>bif Nat.beq g c then K (.one (.sl n k λi j=>h (q+i) j)) [o] [o.key] false else False
  |_=>False
 | .ptr o p=>dU m o λa=>match a with
  | .ro l=>K (.one (.ad (l.length-p) λj=>l.getD (p+j) (.v Go.undef))) [] [o.key] false
  |_=>Eg m (.ptr o p) λx b=>K (.one x) [] b true
 | .cP f r=>Eg m (.cP f r) λx b=>K (.one x) [] b true
 |_=>False
def zQ (t:Nat->TV) (m:Id->Mem):List Operand->(List DV->List Id->List Nat->Bool->Prop)->Prop
 |[],K=>K [] [] [] false
 |x::r,K=>Qk m (bE t x) λv a b c=>zQ t m r λl f g h=>K (v::l) (a++f) (b++g) (c||h)
def Nf (m:Id->Mem):List CR->(List DV->List Nat->Bool->Prop)->Prop
 |[],K=>K [] [] false
 |c::r,K=>match c with
  | .s c=>Nf m r λl a b=>K (.one c::l) a b
  | .ptr o p=>Eg m (.ptr o p) λx f=>Nf m r λl a _=>K (.one x::l) (f++a) true
def fG (n:Nat) (cap:Nat->SV):List DV:=(cells n cap).map .one
def H9 (P:Program) (f:FuncId) (l:List DV) (hs:List Id) (rd:List Nat) (a:Bool) (K:fa):Prop:=
 ai P f l λr=>bif !a||yS r then K r (bif yS r then[]else hs.map λo=>(o,.dead)) rd else False
def dE (a:List Nat) (f:Nat):Bool:=a.any (Nat.beq f)
def Ns (P:Program) (b:List Nat) (t:Nat->TV) (m:Id->Mem) (f:FuncId) (args:List Operand) (n:Nat) (cap:Nat->SV) (d:Option Nat) (K:fa):Prop:=
 bif dE b (f+2000000)then fp P f (args.map (bE t)++(fG n cap).map .d) (.n (d.getD 0)) m K
 else bif dE b (f+5000000)then zQ t m args λl _ a _=>Xa P f (l++fG n cap) λx=>K (.d (.one (.v x))) [] a
 else zQ t m args λl c a g=>H9 P f (l++fG n cap) c a g K
structure N4 (P:Program) (f:FuncId) (xs:List TV) (d:Id) (m:Id->Mem) (K:fa):Prop where
 h:∃g,f=g+10000000/\fp P g xs d m K
def FX (P:Program) (b:List Nat) (t:Nat->TV) (m:Id->Mem) (f:FuncId) (args:List Operand) (a:List CR) (d:Option Nat) (K:fa):Prop:=
 bif Nat.blt f 10000000 then(bif dE b (f+2000000)then fp P f (args.map (bE t)++a.map CR.tv) (.n (d.getD 0)) m K
 else zQ t m args λl c g h=>Nf m a λi j k=>H9 P f (l++i) c (g++j) (h||k) K)
 else match args with
 |[]=>N4 P f (a.map CR.tv) (.n (d.getD 0)) m K
 |_=>False
def C8 (T:Ty) (l:List CV) (K:TV->Prop):Prop:=
 match T.kind.isAgg with
 |true=>GA l λl=>K (.d (.agg l))
 |false=>match l with
  |[c]=>c.V9 K
  |_=>False
def pV (T:Ty) (m:Id->Mem) (a:TV) (K:fa):Prop:=
 match a with
 | .d (.one (.ad n q))=>bif Nat.ble T.size n then mZ T (cells T.size q) (λx=>K x [] [])else False
 | .ptr o b=>dU m o λh=>match h with
  | .box f=>bif Nat.ble (b+T.size) f.length then mZ T ((f.drop b).take T.size) (λx=>K x [] [o.key])else False
  | .ro f=>bif Nat.ble (b+T.size) f.length then mZ T ((f.drop b).take T.size) (λx=>K x [] [o.key])else False
  | .obj f=>bif Nat.ble (b+T.size) f.length then C8 T ((f.drop b).take T.size) (λx=>K x [] [o.key])else False
  |_=>False
 | .ep o g i b=>dU m o λh=>match h with
  | .aL l _ k _ p=>bif Nat.beq g l&&Nat.ble (b+T.size) k then mZ T (cells T.size λj=>p i (b+j)) (λx=>K x [] [o.key])else False
  | .bm l _ k _ p=>bif Nat.beq g l&&Nat.blt b k&&Nat.beq T.size 1&&!T.kind.isAgg then NZ (p i b) (λc=>c.V9 λx=>K x [] [o.key])else False
  |_=>False
 |_=>False
def SV.deep (c:SV) (K:SV->Prop):Prop:=
 match c with
 | .v x=>match x with
  | .int k n=>K (.v (.int k n))
  | .bool b=>K (.v (.bool b))
  |x=>K (.v x)
 | .sl n k g=>K (.sl n k g)
 | .ad m c=>K (.ad m c)
 | .fn f n c=>K (.fn f n c)
theorem SV.eO {c:SV} {K:SV->Prop}:c.deep K↔K c:=by
 unfold SV.deep;split;(split<;>exact ZB)
 all_goals exact ZB
def xr:List SV->(List SV->Prop)->Prop
 |[],K=>K []
 |c::r,K=>c.deep λc=>xr r λr=>K (c::r)
theorem lK:∀{l:List SV} {K:List SV->Prop},xr l K↔K l
 |[],_=>ZB
 |c::r,K=>by simp only[xr];rw[SV.eO,lK]
def Ai (m:Id->Mem) (a:TV) (l:List SV) (K:fa):Prop:=
 match a with
 | .ptr o b=>dU m o λp=>match p with
  | .box c=>bif Nat.ble (b+l.length) c.length then K .any [(o,.box (Aw c b l))] [o.key]else False
  | .obj c=>bif Nat.ble (b+l.length) c.length then K .any [(o,.obj (Aw c b (l.map .s)))] [o.key]else False
  |_=>False
 | .ep o g i b=>dU m o λp=>match p with
  | .aL f n k e q=>bif Nat.beq g f&&Nat.ble (b+l.length) k then
    K .any [(o,.aL f n k e λh j=>bif Nat.beq h i&&Nat.ble b j&&Nat.blt j (b+l.length)then l.getD (j-b) (.v Go.undef)else q h j)] [o.key]else False
  | .bm f n k e q=>bif Nat.beq g f&&Nat.ble (b+l.length) k then
    K .any [(o,.bm f n k e λh j=>bif Nat.beq h i&&Nat.ble b j&&Nat.blt j (b+l.length)then .s (l.getD (j-b) (.v Go.undef))else q h j)] [o.key]else False
  |_=>False
 |_=>False
def qg (m:Id->Mem) (a:TV) (c:CV) (K:fa):Prop:=
 match a with
 | .ptr o b=>dU m o λp=>match p with
  | .box f=>bif Nat.blt b f.length then K .any [(o,.obj (Aw (f.map .s) b [c]))] [o.key]else False
  | .obj f=>bif Nat.blt b f.length then K .any [(o,.obj (Aw f b [c]))] [o.key]else False
  |_=>False
 | .ep o g i b=>dU m o λp=>match p with
  | .aL h n k e q=>bif Nat.beq g h&&Nat.blt b k then
    K .any [(o,.bm h n k e λl j=>bif Nat.beq l i&&Nat.beq j b then c else .s (q l j))] [o.key]else False
  | .bm h n k e q=>bif Nat.beq g h&&Nat.blt b k then
    K .any [(o,.bm h n k e λl j=>bif Nat.beq l i&&Nat.beq j b then c else q l j)] [o.key]else False
  |_=>False
 |_=>False
def Ah (T:Ty) (m:Id->Mem) (a v:TV) (K:fa):Prop:=
 match v with
 | .d (.one c)=>bif Nat.beq 1 T.size then Ai m a [c] K else False
 | .d (.agg b)=>bif Nat.beq b.length T.size then Ai m a b K else False
 | .ptr o p=>bif Nat.beq 1 T.size then qg m a (.ptr o p) K else False
 | .aJ o g=>bif Nat.beq 1 T.size then qg m a (.aJ o g) K else False
 | .cP f h=>bif Nat.beq 1 T.size then qg m a (.cP f h) K else False
 |_=>False
structure V3 (T:Ty) (cs:List CV) (off:Nat) (K:TV->Prop):Prop where
 h:∃c,cs[off]? =some c/\T.kind.isAgg=false/\T.size=1/\K c.tv
structure V4 (T:Ty) (cell:Nat->SV) (K:TV->Prop):Prop where
 h:∃c,cell 0=c/\T.kind.isAgg=false/\T.size=1/\K (.d (.one c))
def Mb (T:Ty) (m:Id->Mem) (a:TV) (K:fa):Prop:=
 match a with
 | .ptr o b=>dU m o λc=>match c with
  | .obj f=>V3 T f b λx=>K x [] [o.key]
  |_=>False
 | .d (.one (.ad n g))=>bif Nat.ble 1 n then V4 T g λx=>K x [] []else False
 |_=>False
structure NW (cs:List CV) (off:Nat) (c:CV) (K:List CV->Prop):Prop where
 h:∃Xx,Aw cs off [c]=Xx/\off<cs.length/\K Xx
def EC (T:Ty) (m:Id->Mem) (a v:TV) (K:fa):Prop:=
 match a with
 | .ptr o b=>dU m o λf=>match f with
  | .obj g=>bif Nat.beq 1 T.size then v.Xw λc=>NW g b c λh=>K .any [(o,.obj h)] [o.key]else False
  |_=>False
 |_=>False
def Kk:Operand->Nat
 | .tmp k=>k
 |_=>0
def oe (t:Nat->TV) (a:Nat->Option Nat):List SV->List (Nat×Operand)->(List SV->Prop)->Prop
 |cs,[],K=>K cs
 |cs,(i,x)::r,K=>match a i with
  |some b=>(bE t x).xF λl=>bif Nat.ble (b+l.length) cs.length then xr (Aw cs b l) λcs=>oe t a cs r K else False
  |none=>False
def gi (t:Nat->TV) (size:Nat->Option Nat):List (Nat×Operand)->Bool
 |[]=>true
 |(i,x)::r=>(match size i,bE t x with
  |some n,.d (.one _)=>Nat.beq n 1
  |some n,.d (.agg a)=>Nat.beq n a.length
  |_,_=>false)&&gi t size r
def gU:Nat->List SV->List SV
 |0,_=>[]
 |n+1,l=>l++gU n l
def LY (k:IntKind) (x:Int):List TV->(Int->Prop)->Prop
 |[],K=>K x
 |y::r,K=>match y with
  | .d (.one (.v (.int _ y)))=>LY k (if y<x then y else x) r K
  |_=>False
def L6 (k:IntKind) (x:Int):List TV->(Int->Prop)->Prop
 |[],K=>K x
 |y::r,K=>match y with
  | .d (.one (.v (.int _ y)))=>L6 k (if y>x then y else x) r K
  |_=>False
def KB (m:Id->Mem) (k:Nat) (x:TV) (K:Nat->(Nat->Nat->SV)->List Nat->Prop):Prop:=
 match x with
 | .d (.one (.sl n a b))=>bif Nat.beq a k then K n b []else False
 | .d (.one (.v (.slice none 0 0)))=>K 0 (λ_ _=> .v Go.undef) []
 | .aJ o g=>dU m o λc=>match c with
  | .aL f n a _ b=>bif Nat.beq g f&&Nat.beq a k then K n b [o.key]else False
  |_=>False
 | .sub o g h n=>dU m o λc=>match c with
  | .aL f _ a _ b=>bif Nat.beq g f&&Nat.beq a k then K n (λi j=>b (h+i) j) [o.key]else False
  |_=>False
 |_=>False
def rU (b:Ty) (e:TypeId) (d:Nat) (m:Id->Mem) (s x:TV) (K:fa):Prop:=
 match s with
 | .d (.one (.v (.slice none 0 0)))=>match m (.n d)with
  | .none=>KB m b.size x λn c f=>ak (n*b.bytes<=140737488355328/\n<=maxLen) (K (.aJ d 0) [(.n d,.aL 0 n b.size e c)] (d::f))
  |_=>False
 | .aJ o g=>dU m o λh=>match h with
  | .aL l n k p c=>bif Nat.beq g l&&Nat.beq k b.size&&Nat.beq p e then(KB m k x λa q f=>
    ak ((n+a)*b.bytes<=140737488355328/\n+a<=maxLen) (K (.aJ o (g+2)) [(o,.aL (g+2) (n+a) k e λi j=>bif Nat.blt i n then c i j else q (i-n) j)] (o.key::f)))else False
  |_=>False
 | .sub o g r n=>dU m o λh=>match h with
  | .aL l N k p c=>bif Nat.beq g l&&Nat.beq k b.size&&Nat.beq p e then(KB m k x λa q f=>
    ak (r=0/\n+a<=N) (K (.sub o (g+2) 0 (n+a)) [(o,.aL (g+2) N k e λi j=>bif Nat.blt i n then c i j else bif Nat.blt i (n+a)then q (i-n) j else c i j)] (o.key::f)))else False
  |_=>False
 |_=>False
def vw (a:Ty) (e:TypeId) (d:Nat) (m:Id->Mem) (s x:TV) (K:fa):Prop:=
 match s,x,m (.n d)with
 | .d (.one (.v (.slice none 0 0))),.d (.one (.v (.int .i64 n))),.none=>
  ak (0<n/\n*a.bytes<=140737488355328/\n<=maxLen/\0<a.size) (K (.aJ d 0) [(.n d,.aL 0 n.toNat a.size e λ_ j=>a.zero.getD j (.v Go.undef))] [d])
 |_,_,_=>False
def vy (b:Ty) (e:TypeId) (m:Id->Mem) (s x:TV) (K:fa):Prop:=
 match s,x with
 | .aJ o g,.aJ c f=>dU m o λh=>match h with
  | .bm l n k p q=>dU m c λr=>match r with
   | .bm t a u _ w=>bif (Nat.beq g l&&Nat.beq f t)&&((Nat.beq k b.size&&Nat.beq u b.size)&&(Nat.beq p e&&Nat.blt 0 a))then
     ak ((n+a)*b.bytes<=140737488355328/\n+a<=maxLen) (K (.aJ o (g+2)) [(o,.bm (g+2) (n+a) k e λi j=>bif Nat.blt i n then q i j else w (i-n) j)] [o.key,c.key])else False
   |_=>False
  |_=>False
 |_,_=>False
def FY (TT:iw) (a:TypeId) (len:Nat) (b:List (Nat×Operand)) (t:Nat->TV) (m:Id->Mem) (c:Option Nat) (K:fa):Prop:=
 match TT a,c with
 |some T,some d=>match T.kind with
  | .jz e=>match TT e with
   |some f=>match b,m (.n d)with
    |[(0,x)],.none=>match bE t x with
     | .aJ o g=>bif Nat.beq len 1&&Nat.beq f.size 1 then K (.aJ d 0) [(.n d,.bm 0 1 1 e λ_ _=> .aJ o g)] [d]else False
     |_=>False
    |_,_=>False
   |none=>False
  |_=>False
 |_,_=>False
def mN (x:TV) (K:Nat->Int->Prop):Prop:=
 match x with
 | .d (.one (.v (.int _ n)))=>K n.toNat n
 |_=>False
def uE (t:Nat->TV) (a:Nat):Option Operand->(Nat->Int->Prop)->Prop
 |none,K=>K a a
 |some x,K=>mN (bE t x) K
def EL (c:Nat) (x:TV) (t:Nat->TV) (lo hi:Option Operand) (K:TV->Prop):Prop:=
 match x with
 | .d (.one (.sl n k f))=>bif Nat.beq k c then uE t n hi λh a=>uE t 0 lo λl b=>
   ak (0<=b/\b<=a/\a<=n) (K (.d (.one (.sl (h-l) k λi j=>f (l+i) j))))else False
 | .d (.one (.v (.slice none 0 0)))=>uE t 0 hi λ_ a=>uE t 0 lo λ_ b=>
   ak (b=0/\a=0) (K (.d (.one (.v (.slice none 0 0)))))
 |_=>False
def Au (f:Nat) (m:Id->Mem) (o:Id) (g a i:Nat) (t:Nat->TV) (lo hi:Option Operand) (K:fa):Prop:=
 dU m o λj=>match j with
 | .aL p n k e q=>bif Nat.beq g p&&Nat.beq k f then uE t i hi λh b=>uE t 0 lo λl c=>
   ak (0<=c/\c<=b/\a+b<=n) (fm (K (.sub o g (a+l) (h-l)) [] [o.key]) (a+l=0/\K (.aJ o (g+2)) [(o,.aL (g+2) h k e q)] [o.key]))else False
 |_=>False
def w7 (m:Id->Mem) (x:TV) (K:Nat->List Nat->Prop):Prop:=
 match x with
 | .d (.one (.sl n _ _))=>K n []
 | .d (.one (.v (.slice none 0 0)))=>K 0 []
 | .aJ o g=>dU m o λb=>match b with
  | .aL a n _ _ _=>bif Nat.beq g a then K n [o.key]else False
  | .bm a n _ _ _=>bif Nat.beq g a then K n [o.key]else False
  |_=>False
 | .sub o g _ n=>dU m o λb=>match b with
  | .aL a _ _ _ _=>bif Nat.beq g a then K n [o.key]else False
  | .bm a _ _ _ _=>bif Nat.beq g a then K n [o.key]else False
  |_=>False
 |_=>False
def jT (t:Nat->TV) (m:Id->Mem):List Operand->(List SV->List (Id×Mem)->List Nat->Prop)->Prop
 |[],K=>K [] [] []
 |x::r,K=>match bE t x with
  | .d (.one c)=>jT t m r λl b f=>K (c::l) b f
  | .ptr o p=>match p with
   |0=>dU m o λg=>match g with
    | .box a=>jT t m r λl b f=>K (.ad a.length (λj=>a.getD j (.v Go.undef))::l) ((o,.ro a)::b) (o.key::f)
    | .ro a=>jT t m r λl b f=>K (.ad a.length (λj=>a.getD j (.v Go.undef))::l) b (o.key::f)
    |_=>False
   |_=>False
  |_=>False
def iI (t:Nat->TV):List Operand->(List CR->Prop)->Prop
 |[],K=>K []
 |x::r,K=>match bE t x with
  | .d (.one c)=>iI t r λl=>K (.s c::l)
  | .ptr o p=>iI t r λl=>K (.ptr o p::l)
  |_=>False
def Nt (t:Nat->TV) (m:Id->Mem):List Operand->Bool
 |[]=>false
 |x::r=>(match bE t x with
  | .ptr o _=>(match o with
   | .n k=>(match m (.n k)with
    | .obj _=>true
    |_=>false)
   | .s _ _=>true)
  |_=>false)||Nt t m r
def sZ (t:Nat->TV):List Operand->List Nat
 |[]=>[]
 |x::r=>match bE t x with
  | .ptr o _=>o.key::sZ t r
  |_=>sZ t r
def WH (P:Program) (TT:iw) (H:List Nat) (o:Oper) (t:Nat->TV) (m:Id->Mem) (K:fa):Prop:=
 match o.op with
 | .move x=>(bE t x).force λx=>K x [] []
 | .assign x=>(bE t x).force λx=>K x [] []
 | .pick c a b=>match bE t c with
  | .d (.one (.v (.bool q)))=>af q λq=>bif q then(bE t a).force λx=>K x [] []else(bE t b).force λx=>K x [] []
  |_=>False
 | .alloc e=>match TT e,o.dst with
  |some T,some d=>match m (.n d)with
   | .none=>K (.ptr d 0) [(.n d,.box T.zero)] [d]
   |_=>False
  |_,_=>False
 | .box e x=>match TT e,o.dst with
  |some _,some d=>match m (.n d)with
   | .none=>match bE t x with
    | .ptr o p=>K (.ptr d 0) [(.n d,.obj [.ptr o p])] [d]
    | .aJ o g=>K (.ptr d 0) [(.n d,.obj [.aJ o g])] [d]
    | .cP f M=>K (.ptr d 0) [(.n d,.obj [.cP f M])] [d]
    |x=>x.xF λl=>K (.ptr d 0) [(.n d,.box l)] [d]
   |_=>False
  |_,_=>False
 | .build u E=>match TT u with
  |some T=>match T.kind with
   | .str J=>bif gi t (λi=>(J[i]?).map (·.2.2)) E.toList then oe t (λi=>(J[i]?).map (·.1)) T.zero E.toList λC=>K (.d (.agg C)) [] []else False
   | .arr _ e=>match TT e with
    |some h=>bif gi t (λ_=>some h.size) E.toList then oe t (λi=>some (i*h.size)) T.zero E.toList λC=>K (.d (.agg C)) [] []else False
    |none=>False
   |_=>False
  |none=>False
 | .buildSlice u w E=>bif dE H (o.dst.getD 0+7000000)then FY TT u w E.toList t m o.dst K else match TT u,o.dst with
  |some T,some d=>match T.kind with
   | .jz e=>match TT e with
    |some h=>bif Nat.ble (w*h.size) 65536&&Nat.blt 0 h.size&&gi t (λ_=>some h.size) E.toList then
      (match w with
      |0=>match E.toList,m (.n d)with
       |[],.none=>K (.aJ d 0) [(.n d,.aL 0 0 h.size e λ_ _=> .v Go.undef)] [d]
       |_,_=>False
      |_=>bif dE H (d+6000000)then(match m (.n d)with
        | .none=>oe t (λi=>some (i*h.size)) (gU w h.zero) E.toList λC=>K (.aJ d 0) [(.n d,.aL 0 w h.size e λi j=>C.getD (i*h.size+j) (.v Go.undef))] [d]
        |_=>False)else
       oe t (λi=>some (i*h.size)) (gU w h.zero) E.toList λC=>K (.d (.one (.sl w h.size λi j=>C.getD (i*h.size+j) (.v Go.undef)))) [] [])
     else False
    |none=>False
   |_=>False
  |_,_=>False
 | .load u a=>match TT u with
  |some T=>bif dE H (o.dst.getD 0+3000000)then Mb T m (bE t a) K else pV T m (bE t a) K
  |none=>False
 | .store u a x=>match TT u with
  |some T=>bif dE H (Kk a+4000000)then EC T m (bE t a) (bE t x) K else Ah T m (bE t a) (bE t x) K
  |none=>False
 | .nilCheck x=>match bE t x with
  | .ptr b p=>dU m b λB=>match B with
   | .box _=>K (.ptr b p) [] [b.key]
   | .ro _=>K (.ptr b p) [] [b.key]
   | .obj _=>K (.ptr b p) [] [b.key]
   |_=>False
  | .cP f M=>K (.cP f M) [] []
  | .d (.one (.fn f n c))=>K (.d (.one (.fn f n c))) [] []
  | .d (.one (.ad n c))=>K (.d (.one (.ad n c))) [] []
  |_=>False
 | .binOp I u x y _=>match bE t x,bE t y with
  | .d (.agg S),.d (.agg Z)=>match I with
   | .eql=>rY P u S Z λb=>K (aE b) [] []
   | .neq=>rY P u S Z λb=>K (aE (!b)) [] []
   |_=>False
  | .d (.one (.v (.bool a))),.d (.one (.v (.bool b)))=>match TT u with
   |some T=>match I,T.kind with
    | .eql,.cell=>ak (P.underlying u=some .bool) (K (aE (a==b)) [] [])
    | .neq,.cell=>ak (P.underlying u=some .bool) (K (aE (!(a==b))) [] [])
    |_,_=>False
   |none=>False
  |a,.d (.one (.v (.slice none 0 0)))=>match TT u with
   |some T=>match I,T.kind with
    | .eql,.jz _=>w7 m a λn G=>K (.nb n false) [] G
    | .neq,.jz _=>w7 m a λn G=>K (.nb n true) [] G
    |_,_=>False
   |none=>False
  |a,b=>Tj I a b λx=>K x [] []
 | .unOp I _ x=>match bE t x with
  | .d (.one (.v (.bool b)))=>match I with
   | .not=>K (aE (!b)) [] []
   |_=>False
  | .nb n a5=>match I with
   | .not=>K (.nb n (!a5)) [] []
   |_=>False
  | .d (.one (.v (.int k n)))=>match I with
   | .neg=>K (.d (.one (.v (.int k (k.wrap (0-n)))))) [] []
   |_=>False
  |_=>False
 | .convert V a0 x=>match TT a0 with
  |some T=>match T.kind,bE t x with
   | .int k,.d (.one (.v (.int _ n)))=>ak (∃d,P.underlying V=some d) (K (.d (.one (.v (.int k (k.wrap n))))) [] [])
   | .int k,.d (.one (.v (.float a6 b)))=>V7 a6 b k λz=>ak (∃d,P.underlying V=some d) (K (.d (.one (.v (.int k z)))) [] [])
   | .cell,.d (.one (.v (.int _ n)))=>ak ((∃d,P.underlying V=some d)/\P.underlying a0=some (.float .f64)) (K (.d (.one (.v (.float .f64 (FloatKind.f64.nearest n))))) [] [])
   |_,_=>False
  |none=>False
 | .makeSlice u n c=>match TT u,o.dst with
  |some T,some d=>match T.kind,m (.n d)with
   | .jz e,.none=>match TT e,bE t n,bE t c with
    |some h,.d (.one (.v (.int _ n))),.d (.one (.v (.int _ c)))=>ak (0<=n/\n<=c/\(h.bytes:Int)*c<=281474976710656/\c<=9223372036854775807)
      (K (.aJ d 0) [(.n d,.aL 0 n.toNat h.size e λ_ j=>h.zero.getD j (.v Go.undef))] [d])
    |_,_,_=>False
   |_,_=>False
  |_,_=>False
 | .slice u x D O none=>match TT u with
  |some T=>match T.kind with
   | .jz e=>match TT e with
    |some h=>match bE t x with
     | .aJ o g=>w7 m (.aJ o g) λn _=>Au h.size m o g 0 n t D O K
     | .sub o g a7 a8=>Au h.size m o g a7 a8 t D O K
     |x=>EL h.size x t D O λx=>K x [] []
    |none=>False
   |_=>False
  |none=>False
 | .slice u x D (some O) (some a9)=>match TT u with
  |some T=>match T.kind with
   | .jz e=>match TT e with
    |some _=>w7 m (bE t x) λn G=>uE t 0 D λ_ a1=>mN (bE t O) λ_ a2=>mN (bE t a9) λ_ a3=>
     ak (0<=a1/\a1<=a2/\a2<=a3/\a3<=n) (K .any [] G)
    |none=>False
   |_=>False
  |none=>False
 | .makeFunc (.func f) first Q=>match first.toList with
  |[]=>bif dE H (f+1000000)||Nt t m Q.toList then bif Nat.blt f 10000000 then iI t Q.toList λl=>K (.cP f l) [] (sZ t Q.toList)else False
    else jT t m Q.toList λl b0 G=>K (.d (.one (.fn f l.length λj=>l.getD j (.v Go.undef)))) b0 G
  |_=>match Q.toList with
   |[]=>iI t first.toList λl=>K (.cP (f+10000000) l) [] (sZ t first.toList)
   |_=>False
 | .fieldAddr s x f=>match TT s with
  |some T=>match T.kind with
   | .str J=>match J[f]? with
    |some (F,_,R)=>bif Nat.blt 0 R then
     (match bE t x with
     | .ptr b p=>dU m b λB=>match B with
      | .box _=>K (.ptr b (p+F)) [] [b.key]
      | .ro _=>K (.ptr b (p+F)) [] [b.key]
      | .obj _=>K (.ptr b (p+F)) [] [b.key]
      |_=>False
     | .ep b g i p=>dU m b λB=>match B with
      | .aL A _ _ _ _=>bif Nat.beq g A then K (.ep b g i (p+F)) [] [b.key]else False
      | .bm A _ _ _ _=>bif Nat.beq g A then K (.ep b g i (p+F)) [] [b.key]else False
      |_=>False
     | .d (.one (.ad n U))=>K (.d (.one (.ad (n-F) λj=>U (F+j)))) [] []
     |_=>False)else False
    |none=>False
   |_=>False
  |none=>False
 | .field s x f=>match TT s with
  |some T=>match T.kind with
   | .str J=>match J[f]? with
    |some (F,u,R)=>match TT u,bE t x with
     |some a4,.d (.agg C)=>bif Nat.beq a4.size R&&Nat.ble (F+R) C.length then mZ a4 ((C.drop F).take R) λx=>K x [] []else False
     |_,_=>False
    |none=>False
   |_=>False
  |none=>False
 | .indexAddr u x i=>match TT u with
  |some T=>match T.kind with
   | .arr w e=>match TT e with
    |some h=>match bE t x,bE t i with
     | .ptr b p,.d (.one (.v (.int _ n)))=>dU m b λB=>match B with
      | .box _=>ak (0<=n/\n<w) (K (.ptr b (p+n.toNat*h.size)) [] [b.key])
      | .ro _=>ak (0<=n/\n<w) (K (.ptr b (p+n.toNat*h.size)) [] [b.key])
      | .obj _=>ak (0<=n/\n<w) (K (.ptr b (p+n.toNat*h.size)) [] [b.key])
      |_=>False
     | .d (.one (.ad q U)),.d (.one (.v (.int _ n)))=>ak (0<=n/\n<w) (bif Nat.ble (w*h.size) q then K (.d (.one (.ad h.size λj=>U (n.toNat*h.size+j)))) [] []else K (.d (.one (.ad (q-n.toNat*h.size) λj=>U (n.toNat*h.size+j)))) [] [])
     | .ep b g r p,.d (.one (.v (.int _ n)))=>dU m b λB=>match B with
      | .aL A _ _ _ _=>bif Nat.beq g A then ak (0<=n/\n<w) (K (.ep b g r (p+n.toNat*h.size)) [] [b.key])else False
      | .bm A _ _ _ _=>bif Nat.beq g A then ak (0<=n/\n<w) (K (.ep b g r (p+n.toNat*h.size)) [] [b.key])else False
      |_=>False
     |_,_=>False
    |none=>False
   | .jz e=>match TT e with
    |some h=>match bE t x,bE t i with
     | .d (.one (.sl n k X)),.d (.one (.v (.int _ q)))=>bif Nat.beq k h.size then ak (0<=q/\q<n) (K (.d (.one (.ad k (X q.toNat)))) [] [])else False
     | .aJ b g,.d (.one (.v (.int _ q)))=>dU m b λB=>match B with
      | .aL A n k _ _=>bif Nat.beq g A&&Nat.beq k h.size then ak (0<=q/\q<n) (K (.ep b g q.toNat 0) [] [b.key])else False
      | .bm A n k _ _=>bif Nat.beq g A&&Nat.beq k h.size then ak (0<=q/\q<n) (K (.ep b g q.toNat 0) [] [b.key])else False
      |_=>False
     | .sub b g D n,.d (.one (.v (.int _ q)))=>dU m b λB=>match B with
      | .aL A _ k _ _=>bif Nat.beq g A&&Nat.beq k h.size then ak (0<=q/\q<n) (K (.ep b g (D+q.toNat) 0) [] [b.key])else False
      | .bm A _ k _ _=>bif Nat.beq g A&&Nat.beq k h.size then ak (0<=q/\q<n) (K (.ep b g (D+q.toNat) 0) [] [b.key])else False
      |_=>False
     |_,_=>False
    |none=>False
   |_=>False
  |none=>False
 | .index u x i=>match TT u with
  |some T=>match T.kind with
   | .arr w e=>match TT e with
    |some h=>match bE t x,bE t i with
     | .d (.agg C),.d (.one (.v (.int _ n)))=>ak (0<=n/\n<w/\n.toNat*h.size+h.size<=C.length) (mZ h ((C.drop (n.toNat*h.size)).take h.size) λx=>K x [] [])
     |_,_=>False
    |none=>False
   |_=>False
  |none=>False
 | .extract x i=>match bE t x with
  | .eD S=>match S[i]? with
   |some v=>(TV.d v).force λx=>K x [] []
   |none=>False
  |_=>False
 | .call c=>match c.callee with
  | .value f=>match bE t f with
   | .d (.one (.fn f n b1))=>Ns P H t m f c.args.toList n b1 o.dst K
   | .cP f M=>FX P H t m f c.args.toList M o.dst K
   |_=>False
  | .builtin b=>match b,c.args.toList,c.argTypes.toList with
   | .len,[x],[u]=>match TT u with
    |some T=>match T.kind with
     | .jz _=>w7 m (bE t x) λn G=>K (au n) [] G
     | .arr n _=>K (au n) [] []
     |_=>False
    |none=>False
   | .cap,[x],[u]=>match TT u with
    |some T=>match T.kind,bE t x with
     | .jz _,.d (.one (.v (.slice none 0 0)))=>K (au 0) [] []
     |_,_=>False
    |none=>False
   | .clear,[x],[u]=>match TT u with
    |some T=>match T.kind with
     | .jz e=>match TT e,bE t x with
      |some h,.sub o g D n=>dU m o λB=>match B with
       | .aL A N k b2 X=>bif Nat.beq g A&&Nat.beq k h.size&&Nat.beq b2 e then K .any [(o,.aL g N k e λi j=>bif Nat.ble D i&&Nat.blt i (D+n)then h.zero.getD j (.v Go.undef)else X i j)] [o.key]else False
       |_=>False
      |_,_=>False
     |_=>False
    |none=>False
   | .min,x::r,_=>match bE t x with
    | .d (.one (.v (.int k x)))=>LY k x (r.map (bE t)) λn=>K (.d (.one (.v (.int k n)))) [] []
    |_=>False
   | .max,x::r,_=>match bE t x with
    | .d (.one (.v (.int k x)))=>L6 k x (r.map (bE t)) λn=>K (.d (.one (.v (.int k n)))) [] []
    |_=>False
   | .append,[s,x],[u,Y]=>match TT u,o.dst with
    |some T,some d=>match T.kind with
     | .jz e=>match TT e with
      |some h=>bif dE H (d+8000000)then(bif Nat.beq Y u then vy h e m (bE t s) (bE t x) K else False)else bif Nat.beq Y u then rU h e d m (bE t s) (bE t x) K else(match TT Y with
       |some b3=>(match b3.kind with
        | .int .i64=>vw h e d m (bE t s) (bE t x) K
        | .jz _=>rU h e d m (bE t s) (bE t x) K
        |_=>False)
       |none=>False)
      |none=>False
     |_=>False
    |_,_=>False
   |_,_,_=>False
  |_=>False
 |_=>False
def eV (o:Oper) (t a:Nat->TV):Prop:=∀s,Operand.tmp s∈o.op.operands.toList->a s=t s
def gO (rd:List Nat) (m m':Id->Mem):Prop:=∀b:Id,b.key∈rd->m' b=m b
variable {m m':Id->Mem}
theorem gO.at {rd:List Nat} (h:gO rd m m') (o:Id) (a:o.key∈rd:=by simp):m' o=m o:=h o a
theorem gO.sub {rd a:List Nat} (h:gO rd m m') (hs:∀k∈a,k∈rd):gO a m m':=λb f=>h b (hs _ f)
def aI (P:Program) (o:Oper) (t:Nat->TV) (m:Id->Mem) (x:TV) (g:List (Id×Mem)) (rd:List Nat):Prop:=
 ∀(E:Env) (ρ:Id->Option (Nat×Nat)) (b:Nat->TV) (m':Id->Mem) (a:Act) (w:World),E.P=P->eV o t b->gO rd m m'->(∀k,o.dst=some k->k<E.N)->
  Rel E ρ b m' a w->∀(K:Act->World->Prop) (Q:Exit->Act->World->Prop),
  (∀h c f,Rel E h (pE b o.dst x) (cK m' g) c f->K c f)->o.wp P a w K Q
variable {x:Operand}
theorem ao {o:Oper} {t a:Nat->TV} (h:eV o t a) (b:x∈o.op.operands.toList):bE a x=bE t x:=by
 cases x with
 |tmp s=>exact h s b
 |_=>rfl
variable {E:Env} {ρ:Id->Option (Nat×Nat)} {a:Act} {w:World}
theorem az {t:Nat->TV} (h:Rel E ρ t m a w) (x:Operand):
  dj E m ρ w (a.eval x) (bE t x)/\∀b,(bE t x).refs b->m b≠ .none:=by
 cases x with
 |tmp s=>exact⟨h.slots s,h.clean s⟩
 |const v=>
  show dj E m ρ w v (Wo v)/\∀b,(Wo v).refs b->m b≠ .none;unfold Wo;split<;>first
   |exact⟨Rd.v rfl,λ_ h=>h.elim⟩
   |exact⟨trivial,λ_ h=>h.elim⟩
 |global g=>exact⟨trivial,λ_ h=>h.elim⟩
 |func f=>exact⟨Rd.fn (n:=0) (λ_=>Go.undef) (λj c=>absurd c (XO j)),λ_ h=>h.elim⟩
variable {P:Program}
theorem aC {o:Oper} {t:Nat->TV} {x:TV} {rd:List Nat}
  (h:∀E ρ c m' a w,E.P=P->eV o t c->gO rd m m'->Rel E ρ c m' a w->
   ∃v,(execOp a.eval o).run P w= .ok (.value v) w/\dj E m' ρ w v x/\∀b,x.refs b->m' b≠ .none):aI P o t m x [] rd:=by
 intro E ρ c m' a w g i j k f K Q hK;obtain⟨v,l,p,q⟩:=h E ρ c m' a w g i j f;unfold Oper.wp;rw[l];exact hK ρ _ w (f.put k p q)
variable {T:Ty}
theorem ml {t:TypeId} (c:cO P t T) (w:World):(isAgg t).run P w= .ok T.kind.isAgg w:=by
 have a:=c.kind;cases b:T.kind with
 |int k=>rw[b]at a;simp[isAgg,run_underlying a,TK.isAgg]
 |str g=>rw[b]at a;obtain⟨F,a,_⟩:=a;simp[isAgg,run_underlying a,TK.isAgg]
 |arr n e=>rw[b]at a;simp[isAgg,run_underlying a,TK.isAgg]
 |jz e=>rw[b]at a;simp[isAgg,run_underlying a,TK.isAgg]
 |cell=>rw[b]at a;obtain⟨d,a,f⟩:=a;cases d<;>simp[isAgg,run_underlying a,TK.isAgg,zw]at f|-
theorem bQ {t:TypeId} (a:cO P t T) (w:World):(sizeOf t).run P w= .ok T.size w:=by
 obtain⟨i,z,b,c,_⟩:=a.info;simp[sizeOf,typeInfo,b,c]
theorem aM {b:Bool} {p:Prop} (h:bif b then p else False):b=true/\p:=by
 cases b with
 |true=>exact⟨rfl,h⟩
 |false=>exact h.elim
def pack (a:Bool) (xs:List Value):Value:=if a then .agg xs.toArray else xs.headD Go.undef
theorem AA {t:TypeId} (a:cO P t T) (w:World) (b off:Nat) (xs:List Value) (i:xs.length=T.size) (k:T.kind.isAgg=false->xs.length=1)
  (h:∀j v,xs[j]? =some v->w.cell? ⟨b,off+j,none⟩=some v):(loadVar t ⟨b,off,none⟩).run P w= .ok (pack T.kind.isAgg xs) w:=by
 have l:∀j,(⟨b,off,none⟩:Addr).add j=⟨b,off+j,none⟩:=by intro j;unfold Addr.add;split<;>simp_all
 cases c:T.kind.isAgg with
 |true=>have f:=run_loadCells_list (P:=P) w ⟨b,off,none⟩ xs (λj v m=>by rw[l];exact h j v m);rw[i]at f;simp[loadVar,ml a,c,bQ a,f,pack]
 |false=>
  obtain⟨x,rfl⟩:∃x,xs=[x]:=by
   have:=k c
   match xs,this with
   |[x],_=>exact⟨x,rfl⟩
  have g:=h 0 x rfl;simp only[YG]at g;simp[loadVar,ml a,c,pack,g]
variable {K:TV->Prop}
theorem js {cs:List SV} (h:mZ T cs K):∃x,K (.d x)/\(T.kind.isAgg=false->cs.length=1)/\∀(S:Nat->Prop) (w:World) (xs:List Value),eA S w xs cs->lU S w (pack T.kind.isAgg xs) x:=by
 unfold mZ at h;split at h;rename_i a;exact⟨.agg cs,h,λe=>by rw[a]at e;exact absurd e (by decide),λS w xs b=>⟨xs,by simp[pack,a],b⟩⟩
 ·rename_i a;split at h
  ·rename_i c;rw[TV.pe]at h;refine⟨.one c,h,λ_=>rfl,λS w xs b=>?_⟩;cases b with
   |cons f t=>cases t;show Rd S w _ c;simpa[pack,a]using f
  ·exact h.elim
theorem mA:∀(n:Nat) (f:Nat->SV),(cells n f).length=n
 |0,_=>rfl
 |n+1,f=>by simp[cells,mA n]
theorem oa:∀(n:Nat) (f:Nat->SV) (j:Nat),(cells n f)[j]? =if j<n then some (f j)else none
 |0,_,_=>by simp[cells]
 |n+1,f,0=>by simp[cells]
 |n+1,f,j+1=>by simp[cells,oa n]
variable {S:Nat->Prop}
theorem pw (n:Nat) (f:Nat->SV) (xs:Nat->Value) (h:∀j,j<n->Rd S w (xs j) (f j)):eA S w ((List.range n).map xs) (cells n f):=by
 induction n generalizing f xs with
 |zero=>exact .nil
 |succ n a=>rw[ZS,Yz,Yp];exact .cons (h 0 (by omega)) (a (λj=>f (j+1)) (λj=>xs (j+1)) (λj b=>h (j+1) (by omega)))
variable {xs:List Value} {e:TypeId}
theorem kO {b off:Nat} (a:w.heap[b]? =some (.cells xs.toArray e (0,0))) (j:Nat) {v:Value} (c:xs[off+j]? =some v):
  w.cell? ⟨b,off+j,none⟩=some v:=by
 simp[World.cell?,a,c]
theorem tx {t:Nat->TV} (h:Rel E ρ t m a w) {b:Nat} (c:L E m ρ w b):b<w.heap.size:=by
 rcases c.1 with h1|h1|h1;exact Yc (E.hS b h1) h.below.size;exact Yc (E.hX b h1) h.below.size;exact h1.2
theorem fP {o:Id} {cs:List SV} (h:m o= .box cs):(m o).live:=by rw[h];trivial
variable {g k:Nat}
theorem cT {o:Id} {n:Nat} {get:Nat->Nat->SV} (h:m o= .aL g n k e get):(m o).live:=by rw[h];trivial
variable {cs:List CV}
theorem rf {o:Id} (h:m o= .obj cs):(m o).live:=by rw[h];trivial
theorem pU {o:Id} {n:Nat} {get:Nat->Nat->CV} (h:m o= .bm g n k e get):(m o).live:=by rw[h];trivial
theorem fV.length (a:fV S m ρ w xs cs):xs.length=cs.length:=by
 induction a with
 |nil=>rfl
 |cons _ _ b=>simp[b]
theorem fV.take (a:fV S m ρ w xs cs) (n:Nat):fV S m ρ w (xs.take n) (cs.take n):=by
 induction a generalizing n with
 |nil=>simpa using fV.nil
 |cons b _ c=>
  cases n with
  |zero=>exact .nil
  |succ n=>exact .cons b (c n)
theorem fV.drop (a:fV S m ρ w xs cs) (n:Nat):fV S m ρ w (xs.drop n) (cs.drop n):=by
 induction a generalizing n with
 |nil=>simpa using fV.nil
 |cons b t c=>
  cases n with
  |zero=>exact .cons b t
  |succ n=>exact c n
variable {c:CV}
theorem fV.set (a:fV S m ρ w xs cs) (j:Nat) {x:Value} (h:kR S m ρ w x c):fV S m ρ w (xs.set j x) (cs.set j c):=by
 induction a generalizing j with
 |nil=>simpa using fV.nil
 |cons b t f=>
  cases j with
  |zero=>exact .cons h t
  |succ j=>exact .cons b (f j)
theorem fV.setCells {S:Nat->Prop} {m:Id->Mem} {ρ:Id->Option (Nat×Nat)} {w:World} {a:List Value} {b:List CV} (hs:fV S m ρ w a b):∀{xs:List Value} {cs:List CV} (i:Nat),fV S m ρ w xs cs->fV S m ρ w (setCells xs i a) (setCells cs i b):=by
 induction hs with
 |nil=>intro xs cs i h;exact h
 |cons c _ f=>intro xs cs i h;exact f (i+1) (h.set i c)
theorem fV.bG (b:fV S m ρ w xs cs):∀x∈xs,x.oneCell'=true:=by
 induction b with
 |nil=>simp
 |cons c _ f=>intro y a;rcases XD.1 a with rfl|a;exact c.bG;exact f y a
theorem fV.get (a:fV S m ρ w xs cs):∀(j:Nat) (c:CV),cs[j]? =some c->∃x,xs[j]? =some x/\kR S m ρ w x c:=by
 induction a with
 |nil=>intro j c h;simp at h
 |@cons x c xs cs b _ f=>
  intro j g h;cases j with
  |zero=>simp at h;subst h;exact⟨x,by simp,b⟩
  |succ j=>simpa using f j g (by simpa using h)
theorem fV.LB {cs:List SV} (a:eA S w xs cs):fV S m ρ w xs (cs.map .s):=by
 induction a with
 |nil=>exact .nil
 |cons b _ c=>exact .cons b c
theorem Ck {K:List SV->Prop}:∀{l:List CV},GA l K->∃a,l=a.map .s/\K a
 |[],h=>⟨[],rfl,h⟩
 |c::r,h=>by simp only[GA]at h;split at h;rename_i c;obtain⟨a,e,b⟩:=Ck h;exact⟨c::a,by rw[e];rfl,b⟩;exact h.elim
theorem fV.R1:∀{cs:List SV} {xs:List Value},fV S m ρ w xs (cs.map .s)->eA S w xs cs
 |[],_,h=>by cases h;exact .nil
 |c::cs,_,h=>by cases h with|cons a b=>exact .cons a (fV.R1 b)
theorem kR.tok {x:Value} (h:kR (L E m ρ w) m ρ w x c):dj E m ρ w x c.tv:=by
 cases c<;>exact h
theorem CV.Gh {o:Id} (h:c.tv.refs o):c.refs o:=by
 cases c<;>exact h
theorem Jk (h:C8 T cs K):∃x,K x/\(T.kind.isAgg=false->cs.length=1)/\(∀o,x.refs o->∃c∈cs,c.refs o)/\
  ∀(E:Env) (m:Id->Mem) (ρ:Id->Option (Nat×Nat)) (w:World) (xs:List Value),fV (L E m ρ w) m ρ w xs cs->dj E m ρ w (pack T.kind.isAgg xs) x:=by
 unfold C8 at h;split at h;rename_i a;obtain⟨l,e,f⟩:=Ck h;refine⟨.d (.agg l),f,λe=>by rw[a]at e;exact absurd e (by decide),λ_ h=>h.elim,λE m ρ w xs b=>?_⟩;rw[e]at b;exact⟨xs,by simp[pack,a],b.R1⟩
 ·rename_i a;split at h
  ·rename_i c;rw[CV.Aa]at h;refine⟨c.tv,h,λ_=>rfl,λo g=>⟨c,by simp,CV.Gh g⟩,λE m ρ w xs b=>?_⟩;cases b with
   |cons i t=>cases t;have:=kR.tok i;simpa[pack,a]using this
  ·exact h.elim
theorem yl {α:Type} {l:List α} {a b:Nat} {c:α} (h:c∈(l.drop a).take b):c∈l:=List.mem_of_mem_drop (List.mem_of_mem_take h)
variable {ty:TypeId}
theorem zb {o:Oper} {t:Nat->TV} {TT:iw} (b4:cG P TT) (b5:TT ty=some T) (V:o.op= .load ty x) {K:fa}
  (h:pV T m (bE t x) K):∃y b1,K y [] b1/\∀E ρ R m' a w,E.P=P->eV o t R->gO b1 m m'->Rel E ρ R m' a w->
   ∃v,(execOp a.eval o).run P w= .ok (.value v) w/\dj E m' ρ w v y/\∀b,y.refs b->m' b≠ .none:=by
 have b6:=b4 ty T b5;have X:x∈o.op.operands.toList:=by rw[V];simp[Op.operands]
 have Y:∀(a:Act) (w:World) (b off:Nat) (xs:List Value),a.eval x= .pointer (some ⟨b,off,none⟩)->xs.length=T.size->(T.kind.isAgg=false->xs.length=1)->
   (∀j v,xs[j]? =some v->w.cell? ⟨b,off+j,none⟩=some v)->(execOp a.eval o).run P w= .ok (.value (pack T.kind.isAgg xs)) w:=by
  intro a w b off xs G b7 B Z;have a0:=AA b6 w b off xs b7 B Z;simp[execOp,V,G,Instr.loadAt,Instr.sureAddr,a0]
 unfold pV at h;split at h;rename_i n d0 G;replace h:=aM h;obtain⟨p,h⟩:=h;have a5:T.size<=n:=XI p;obtain⟨y,hK,B,H⟩:=js h;refine⟨_,_,hK,λE ρ R m' a w a1 D _ l=>?_⟩;have f:=(az l x).1;rw[ao D X,G]at f;obtain⟨b,off,xs,b8,hS,Z,a0⟩:=Rd.mD f;refine⟨_,Y a w b off ((List.range T.size).map xs) b8 (by simp) (λe=>by have:=B e;rw[mA]at this;simpa using this) (λj v f=>?_),H _ w _ (pw _ _ _ (λj C=>a0 j (by omega))),λ_ h=>h.elim⟩;simp only[ZA]at f;by_cases C:j<T.size;simp[C]at f;rw[<-f];exact Z j (by omega);simp[C]at f;rename_i b off G;replace h:=bk h;split at h;rename_i cs I;replace h:=aM h;obtain⟨p,h⟩:=h;have a5:off+T.size<=cs.length:=XI p;obtain⟨y,hK,B,H⟩:=js h;refine⟨_,_,hK,λE ρ R m' a w a1 D J l=>?_⟩;have f:=(az l x).1;have q:m' b= .box cs:=(by rw[J.at b];exact I);rw[ao D X,G]at f;simp only[dj,bg,q]at f;obtain⟨r,c,F,M⟩:=f;have z:=l.mem b;rw[q]at z;obtain⟨N,O,xs,e,A,Q,S⟩:=z;rw[F]at A;obtain⟨rfl,rfl⟩:r=N/\c=O:=(by simpa using A);have U:=(S.drop off).take T.size;have a2:((xs.drop off).take T.size).length=T.size:=(by have:=S.length;simp;omega);refine⟨_,Y a w r off ((xs.drop off).take T.size) M a2 (λe=>by have:=B e;rw[<-U.length]at this;exact this) (λj v f=>?_),H _ w _ U,λ_ h=>h.elim⟩;refine kO Q j ?_;rw[Y3,Zv]at f;split at f;exact f;simp at f;rename_i cs I;replace h:=aM h;obtain⟨p,h⟩:=h;have a5:off+T.size<=cs.length:=XI p;obtain⟨y,hK,B,H⟩:=js h;refine⟨_,_,hK,λE ρ R m' a w a1 D J l=>?_⟩;have f:=(az l x).1;have q:m' b= .ro cs:=(by rw[J.at b];exact I);rw[ao D X,G]at f;simp only[dj,bg,q]at f;obtain⟨r,c,F,M⟩:=f;have z:=l.mem b;rw[q]at z;obtain⟨N,O,xs,e,A,_,Q,S⟩:=z;rw[F]at A;obtain⟨rfl,rfl⟩:r=N/\c=O:=(by simpa using A);have U:=(S.drop off).take T.size;have a2:((xs.drop off).take T.size).length=T.size:=(by have:=S.length;simp;omega);refine⟨_,Y a w r off ((xs.drop off).take T.size) M a2 (λe=>by have:=B e;rw[<-U.length]at this;exact this) (λj v f=>?_),H _ w _ U,λ_ h=>h.elim⟩;refine kO Q j ?_;rw[Y3,Zv]at f;split at f;exact f;simp at f;rename_i cs I;replace h:=aM h;obtain⟨p,h⟩:=h;have a5:off+T.size<=cs.length:=XI p;obtain⟨y,hK,B,b9,H⟩:=Jk h;refine⟨_,_,hK,λE ρ R m' a w a1 D J l=>?_⟩;have f:=(az l x).1;have q:m' b= .obj cs:=(by rw[J.at b];exact I);rw[ao D X,G]at f;simp only[dj,bg,q]at f;obtain⟨r,c,F,M⟩:=f;have z:=l.mem b;rw[q]at z;obtain⟨N,O,xs,e,A,Q,S⟩:=z;rw[F]at A;obtain⟨rfl,rfl⟩:r=N/\c=O:=(by simpa using A);have U:=(S.drop off).take T.size;have a2:((xs.drop off).take T.size).length=T.size:=(by have:=S.length;simp;omega);refine⟨_,Y a w r off ((xs.drop off).take T.size) M a2 (λe=>by have:=B e;rw[<-U.length]at this;exact this) (λj v f=>?_),H E m' ρ w _ U,λo V=>?_⟩;refine kO Q j ?_;rw[Y3,Zv]at f;split at f;exact f;simp at f;obtain⟨c,Z,a0⟩:=b9 o V;refine l.cleanM b o ?_;rw[q];exact⟨c,yl Z,a0⟩;exact h.elim
 ·rename_i b g i off G;replace h:=bk h;split at h
  ·rename_i a8 n k e a3 I;replace h:=aM h;obtain⟨p,h⟩:=h;simp only[XJ]at p;obtain rfl:g=a8:=XE p.1;have a5:off+T.size<=k:=XI p.2;obtain⟨y,hK,B,H⟩:=js h;refine⟨_,_,hK,λE ρ R m' a w a1 D J l=>?_⟩;have f:=(az l x).1;have q:m' b= .aL g n k e a3:=(by rw[J.at b];exact I);rw[ao D X,G]at f;simp only[dj,bg,q]at f;obtain⟨a6,r,c,F,M⟩:=f.2 trivial;have z:=l.mem b;rw[q]at z;rcases z with⟨a4,_⟩|⟨N,O,a7,A,Q,c0,c1,c2,a9⟩;rw[F]at a4;simp at a4
   ·rw[F]at A;obtain⟨rfl,rfl⟩:r=N/\c=O:=(by simpa using A);have c3:∀j,j<T.size->∃v,a7[i*k+(off+j)]? =some v/\Rd (L E m' ρ w) w v (a3 i (off+j)):=λj C=>a9 i a6 (off+j) (by omega);have c4:∃xs:Nat->Value,∀j,j<T.size->a7[i*k+(off+j)]? =some (xs j)/\Rd (L E m' ρ w) w (xs j) (a3 i (off+j)):=(by refine⟨λj=>(a7[i*k+(off+j)]?).getD Go.undef,λj C=>?_⟩;obtain⟨v,B,c5⟩:=c3 j C;simp only[B,Yt];exact⟨trivial,c5⟩);obtain⟨xs,b2⟩:=c4;refine⟨_,Y a w r (i*k+off) ((List.range T.size).map xs) M (by simp) (λe=>by have:=B e;rw[mA]at this;simpa using this) (λj v f=>?_),H _ w _ (pw _ _ _ (λj C=>(b2 j C).2)),λ_ h=>h.elim⟩;simp only[ZA]at f;by_cases C:j<T.size;simp[C]at f;have:=(b2 j C).1;rw[<-YE]at this;simp[World.cell?,Q,this,f];simp[C]at f
  ·rename_i a8 n k e a3 I;replace h:=aM h;obtain⟨p,h⟩:=h;simp only[XJ,Yx]at p;obtain rfl:g=a8:=XE p.1.1.1;have b3:off<k:=bR p.1.1.2;have c6:T.size=1:=XE p.1.2;have c7:=p.2;have h:=h.elim;rw[CV.Aa]at h;refine⟨_,_,h,λE ρ R m' a w a1 D J l=>?_⟩;have f:=(az l x).1;have q:m' b= .bm g n k e a3:=(by rw[J.at b];exact I);rw[ao D X,G]at f;simp only[dj,q]at f;obtain⟨a6,r,c,F,M⟩:=f.2 trivial;have z:=l.mem b;rw[q]at z;rcases z with⟨a4,_⟩|⟨N,O,a7,A,Q,c0,c1,c2,a9⟩;rw[F]at a4;simp at a4
   ·rw[F]at A;obtain⟨rfl,rfl⟩:r=N/\c=O:=(by simpa using A);obtain⟨v,c8,c9⟩:=a9 i a6 off b3;refine⟨_,Y a w r (i*k+off) [v] M (by simp[c6]) (λ_=>rfl) (λj u b0=>?_),?_,λo V=>?_⟩
    ·cases j with
     |zero=>simp at b0;subst b0;simp[World.cell?,Q,c8]
     |succ j=>simp at b0
    ·have:=kR.tok c9;simpa[pack,c7]using this
    ·refine l.cleanM b o ?_;rw[q];exact⟨i,off,a6,b3,CV.Gh V⟩
  ·exact h.elim
 ·exact h.elim
theorem tG {o:Oper} {t:Nat->TV} {TT:iw} (c:cG P TT) (f:TT ty=some T) (g:o.op= .load ty x) {K:fa}
  (h:pV T m (bE t x) K):∃y b a,K y b a/\aI P o t m y b a:=by
 obtain⟨y,a,hK,i⟩:=zb c f g h;exact⟨y,[],a,hK,aC i⟩
theorem bV (w:World) (o:Obj):(w.alloc o).heap[w.heap.size]? =some o:=by
 show(w.heap.push o)[w.heap.size]? =some o;simp
theorem iV (w:World) (o:Obj) (k:Nat) (h:k<w.heap.size):(w.alloc o).heap[k]? =w.heap[k]?:=Below.heap_alloc w o k h
theorem ec (w:World) (o:Obj):Below w.heap.size w (w.alloc o):=(Below.refl _ w).alloc (XU _) o
variable {E:Env} {ρ:Id->Option (Nat×Nat)} {m:Id->Mem} {a:Act} {w w':World}
theorem Im {t:Nat->TV} (h:Rel E ρ t m a w) (o:Id) (nm:Mem) (c:Nat) (q:¬(m o).live)
  (j:Below w.heap.size w w') (u:w.heap.size<w'.heap.size):∀b,L E m ρ w b->L E (bj m o nm) (bj ρ o (some (w.heap.size,c))) w' b/\w'.heap[b]? =w.heap[b]?:=by
 intro b f;have k:=tx h f;refine⟨⟨f.1.imp id (λg=>g.imp id (λg=>⟨g.1,by omega⟩)),λi p l r=>?_⟩,j.block b k⟩;by_cases e:i=o;subst e;rw[aq]at r;simp at r;omega;rw[aw _ _ _ e]at l r;exact f.2 i p l r
theorem Rel.rV {t:Nat->TV} (h:Rel E ρ t m a w) (o:Id) (k:m o= .none) (uH:E.m0 o= .none) (xs:List Value) (nm:Mem) (e:TypeId)
  (p:(∃g,nm= .box g/\eA (L E m ρ w) w xs g)\/(∃g,nm= .obj g/\fV (L E m ρ w) m ρ w xs g/\∀c∈g,∀f,c.refs f->m f≠ .none)):Rel E (bj ρ o (some (w.heap.size,0))) t (bj m o nm) a (w.alloc (.cells xs.toArray e)):=by
 have z:¬(m o).live:=by rw[k];exact id
 have q:=Im h o nm 0 z (ec w (.cells xs.toArray e)) (by simp);have A:∀f,m f≠ .none->Carry m (bj m o nm) ρ (bj ρ o (some (w.heap.size,0))) f:=λf j=>by have e:f≠o:=λe=>j (e▸k);exact Carry.same (aw _ _ _ e) (aw _ _ _ e)
 refine h.one o nm _ (Bx.of (ec w _) h.below.size) q ?_ ?_ ?_ ?_ (λ_=>uH) ?_ ?_ (λj=>absurd k j) (λ_ _ _ _ j=>absurd k j) (λ_ _ _ _ j=>absurd k j);intro f b c _ l r;exact iV w _ b (h.lo f b c l r).2;intro _ b c i;simp only[Ze,Zx]at i;obtain⟨rfl,rfl⟩:=i;refine⟨⟨.inr h.below.size,by simp⟩,λf B _ l r=>?_⟩;exact absurd (h.lo f _ B l r).2 (ZO _);(rcases p with⟨g,rfl,_⟩|⟨g,rfl,_⟩<;>simp)
 ·intro f i;rcases p with⟨g,rfl,_⟩|⟨g,rfl,_,u⟩;exact i.elim;obtain⟨c,x,i⟩:=i;exact .inr (u c x f i)
 ·rcases p with⟨g,rfl,_⟩|⟨g,rfl,_⟩<;>simp[Mem.gen]
 ·rcases p with⟨g,rfl,y⟩|⟨g,rfl,y,u⟩;exact⟨w.heap.size,0,xs,e,aq _ _ _,bV w _,y.mono q⟩;exact⟨w.heap.size,0,xs,e,aq _ _ _,bV w _,y.mono q (λf ⟨c,x,i⟩=>A f (u c x f i))⟩
theorem ki {α:Type}:∀(a xs:List α) (i:Nat),i+a.length<=xs.length->setCells xs i a=xs.take i++a++xs.drop (i+a.length)
 |[],xs,i,_=>by simp[setCells]
 |y::a,xs,i,h=>by simp only[XV]at h;rw[setCells,ki a (xs.set i y) (i+1) (by simp;omega)];apply aa3;intro k;simp only[XV,Yl,Yj,abk,XQ,Y3,Zv,List.getElem?_set];have f:min (i+1) xs.length=i+1:=(by omega);have g:min i xs.length=i:=(by omega);rw[f,g];by_cases b:k<i;simp[b,show k<i+1 by omega,show k<i+1+a.length by omega,show k<i+(a.length+1) by omega,show¬i=k by omega];by_cases j:k=i;subst j;simp[show k<k+1+a.length by omega,show k<xs.length by omega];by_cases c:k<i+1+a.length;simp[b,c,show¬k<i+1 by omega,show k<i+(a.length+1) by omega,show k-i=(k-(i+1))+1 by omega];simp[c,show¬k<i+(a.length+1) by omega,show¬i=i+1+a.length+(k-(i+1+a.length)) by omega];congr 1;omega
theorem kx {α:Type} (a xs:List α) (i:Nat) (h:i+a.length<=xs.length) (p:Nat):(setCells xs i a)[p]? =if i<=p/\p<i+a.length then a[p-i]? else xs[p]?:=by
 rw[ki a xs i h];simp only[Yk,Yl,Yj,Y3,Zv];rw[show min i xs.length=i by omega];by_cases b:p<i;simp[b,show¬i<=p by omega];by_cases c:p<i+a.length;simp[b,c,show i<=p by omega,show p-i<a.length by omega];simp[b,c,show¬p-i<a.length by omega];congr 1;omega
theorem xE {x:TV} {K:List SV->Prop} (h:x.xF K):∃l,K l/\∀(E:Env) (m:Id->Mem) (ρ:Id->Option (Nat×Nat)) (w:World) (v:Value),dj E m ρ w v x->∃b:List Value,v.cells=b.toArray/\eA (L E m ρ w) w b l:=by
 unfold TV.xF at h;split at h;(rename_i c;refine⟨_,h,λE m ρ w v a=>⟨[v],?_,.cons a .nil⟩⟩;have f:=Rd.bG (show Rd _ _ v c from a);cases v<;>first|rfl|(simp[Value.oneCell']at f))
 ·rename_i i;refine⟨_,h,λE m ρ w v a=>?_⟩;obtain⟨xs,rfl,g⟩:=a;exact⟨xs,rfl,g⟩
 ·exact h.elim
variable {P:Program} {nm:Mem}
theorem bS {o:Oper} {t:Nat->TV} {x:TV} {b:Id} {rd:List Nat}
  (h:∀E ρ c m' a w,E.P=P->eV o t c->gO rd m m'->(∀k,o.dst=some k->k<E.N)->Rel E ρ c m' a w->
   ∃n v w' ρ',(execOp a.eval o).run P w= .ok n w'/\(n= .value v\/(n= .skip/\v=Go.undef))/\Rel E ρ' c (bj m' b nm) a w'/\dj E (bj m' b nm) ρ' w' v x/\∀g,x.refs g->bj m' b nm g≠ .none):
  aI P o t m x [(b,nm)] rd:=by
 intro E ρ c m' a w p q r f u K Q hK;obtain⟨n,v,w',ρ',y,z,i,j,l⟩:=h E ρ c m' a w p q r f u;unfold Oper.wp;rw[y];rcases z with rfl|⟨rfl,rfl⟩;exact hK ρ' _ w' (i.put f j l);exact hK ρ' _ w' (i.put f j l)
variable {e:TypeId} {T:Ty}
theorem Ap {o:Oper} {t:Nat->TV} {TT:iw} (c:cG P TT) (f:TT e=some T) (g:o.op= .alloc e) {d:Nat} (h:o.dst=some d) (j:m (.n d)= .none):
  aI P o t m (.ptr d 0) [(.n d,.box T.zero)] [d]:=by
 obtain⟨i,z,k,K,M,p,q,r,N⟩:=(c e T f).info;refine bS λE ρ O m' a w Q R u A B=>?_;have C:m' (.n d)= .none:=by rw[u.at (.n d) (by simp[Id.key])];exact j
 have D:eA (L E m' ρ w) w z.cells.toList T.zero:=by
  rw[<-q];have b:∀x∈z.cells.toList,x.oneCell'=true:=λx F=>Zz.1 r x F;revert b;generalize z.cells.toList=l;intro b;induction l with
  |nil=>exact .nil
  |cons x l G=>exact .cons (.v (b x (by simp))) (G (λy H=>b y (by simp[H])))
 have I:=B.rV (.n d) C (E.uH d (ZQ (A d h))) z.cells.toList (.box T.zero) e (.inl ⟨_,rfl,D⟩);refine⟨_,.pointer (some ⟨w.heap.size,0,none⟩),_,_,?_,.inl rfl,I,?_,?_⟩;simp[execOp,g,Instr.alloc,zeroValue,typeInfo,k,p,newVar,newRow];simp only[dj,bg,aq];exact⟨_,_,rfl,rfl⟩;intro S J;cases J;rw[aq];simp
theorem EE {o:Oper} {t:Nat->TV} {x:Operand} (b:o.op= .box e x) {d:Nat} (g:o.dst=some d) (i:m (.n d)= .none) {K:List SV->Prop}
  (h:(bE t x).xF K):∃l,K l/\aI P o t m (.ptr d 0) [(.n d,.box l)] [d]:=by
 obtain⟨l,hK,j⟩:=xE h;refine⟨l,hK,bS λE ρ C m' a w D k p q c=>?_⟩;have r:m' (.n d)= .none:=by rw[p.at (.n d) (by simp[Id.key])];exact i
 have f:=(az c x).1;rw[ao k (by rw[b];simp[Op.operands])]at f;obtain⟨u,y,z⟩:=j E m' ρ w _ f;have A:=c.rV (.n d) r (E.uH d (ZQ (q d g))) u (.box l) e (.inl ⟨_,rfl,z⟩);refine⟨_,.pointer (some ⟨w.heap.size,0,none⟩),_,_,?_,.inl rfl,A,?_,?_⟩;simp[execOp,b,Instr.box,newVar,newRow,y];simp only[dj,bg,aq];exact⟨_,_,rfl,rfl⟩;intro F B;cases B;rw[aq];simp
variable {x:Value}
theorem cells_one (h:x.oneCell'=true):x.cells=#[x]:=by
 cases x<;>first|rfl|(simp[Value.oneCell']at h)
variable {c:CV}
theorem np {o:Oper} {t:Nat->TV} {x:Operand} (h:o.op= .box e x) {d:Nat} (k:o.dst=some d) (l:m (.n d)= .none) (p:bE t x=c.tv):
  aI P o t m (.ptr d 0) [(.n d,.obj [c])] [d]:=by
 refine bS λE ρ F m' a w G q r u i=>?_;have y:m' (.n d)= .none:=by rw[r.at (.n d) (by simp[Id.key])];exact l
 have f:=az i x;rw[ao q (by rw[h];simp[Op.operands]),p]at f;have j:kR (L E m' ρ w) m' ρ w (a.eval x) c:=by have:=f.1;cases c<;>exact this
 have z:∀b,c.refs b->m' b≠ .none:=λb A=>f.2 b (by cases c<;>exact A);have B:=cells_one j.bG;have C:=i.rV (.n d) y (E.uH d (ZQ (u d k))) [a.eval x] (.obj [c]) e (.inr ⟨_,rfl,.cons j .nil,λH g=>by
  rcases XD.1 g with rfl|g;exact z
  ·simp at g⟩)
 refine⟨_,.pointer (some ⟨w.heap.size,0,none⟩),_,_,?_,.inl rfl,C,?_,?_⟩;simp[execOp,h,Instr.box,newVar,newRow,B];simp only[dj,bg,aq];exact⟨_,_,rfl,rfl⟩;intro I D;cases D;rw[aq];simp
def _root_.Go.Vm.Mem.dr:Mem->Bool
 | .box _=>true
 | .ro _=>true
 | .obj _=>true
 |_=>false
def _root_.Go.Vm.Mem.bF:Mem->Option (Nat×Nat×Nat)
 | .aL g n k _ _=>some (g,n,k)
 | .bm g n k _ _=>some (g,n,k)
 |_=>none
variable {p:Nat}
theorem bO {o:Id} (h:(m o).dr=true):bg m ρ x o p↔∃b c,ρ o=some (b,c)/\x= .pointer (some ⟨b,p,none⟩):=by
 unfold bg;revert h;cases m o<;>intro h<;>first|exact ZB|simp[Mem.dr]at h
variable {q:Nat×Nat×Nat}
theorem hV {o:Id} (h:(m o).bF=some q):¬bg m ρ x o p:=by
 unfold bg;revert h;cases m o<;>intro h<;>first|exact id|simp[Mem.bF]at h
variable {g g' k:Nat}
theorem br {o:Id} {n:Nat} (h:(m o).bF=some (g',n,k)):bB m ρ x o g↔x.oneCell'=true/\g<=g'/\(g=g'->cu ρ x o n):=by
 unfold bB;revert h;cases m o<;>intro h<;>simp[Mem.bF]at h<;>(obtain⟨rfl,rfl,rfl⟩:=h;exact ZB)
theorem fF {o:Id} (h:(m o).dr=true):bB m ρ x o g↔x.oneCell'=true:=by
 unfold bB;revert h;cases m o<;>intro h<;>first|exact⟨λh=>h.1,λh=>⟨h,trivial⟩⟩|simp[Mem.dr]at h
variable {lo n':Nat}
theorem dk {o:Id} {n:Nat} (h:(m o).bF=some (g',n',k)):fi m ρ x o g lo n↔x.oneCell'=true/\g<=g'/\(g=g'->lo+n<=n'/\hC ρ x o k lo n):=by
 unfold fi;revert h;cases m o<;>intro h<;>simp[Mem.bF]at h<;>(obtain⟨rfl,rfl,rfl⟩:=h;exact ZB)
theorem me {o:Id} {n:Nat} (h:(m o).dr=true):fi m ρ x o g lo n↔x.oneCell'=true:=by
 unfold fi;revert h;cases m o<;>intro h<;>first|exact⟨λh=>h.1,λh=>⟨h,trivial⟩⟩|simp[Mem.dr]at h
variable {i:Nat}
theorem dq {o:Id} {off n:Nat} (h:(m o).bF=some (g',n,k)):
  dj E m ρ w x (.ep o g i off)↔g<=g'/\(g=g'->i<n/\∃b c,ρ o=some (b,c)/\x= .pointer (some ⟨b,i*k+off,none⟩)):=by
 simp only[dj];revert h;cases m o<;>intro h<;>simp[Mem.bF]at h<;>(obtain⟨rfl,rfl,rfl⟩:=h;exact ZB)
theorem zs {o:Id} {off:Nat} (h:(m o).dr=true):dj E m ρ w x (.ep o g i off):=by
 simp only[dj];revert h;cases m o<;>intro h<;>first|trivial|simp[Mem.dr]at h
theorem cN {x:Mem} {n:Nat} (h:x.bF=some (g,n,k)):x.gen=g:=by
 revert h;cases x<;>intro h<;>simp[Mem.bF]at h<;>(obtain⟨rfl,rfl,rfl⟩:=h;rfl)
theorem od {x:Mem} (h:x.dr=true):x.gen=0:=by
 revert h;cases x<;>intro h<;>first|rfl|simp[Mem.dr]at h
theorem jI {o:Id} {x:Mem} {n:Nat} (h:x.bF=some (g,n,k)) (c:iL E m ρ w o x):
  (ρ o=none/\n=0)\/∃b a f e,ρ o=some (b,a)/\w.heap[b]? =some (.cells f e (0,0))/\f.size=a*k/\n<=a/\a<=maxLen:=by
 revert h c;cases x<;>intro h c<;>simp[Mem.bF]at h
 all_goals
  obtain⟨rfl,rfl,rfl⟩:=h;rcases c with c|⟨b,a,f,i,j,l,p,q,_⟩;exact .inl c;exact .inr ⟨b,a,f,_,i,j,l,p,q⟩
theorem cM {x:Mem} (h:x.bF=some q):x.live/\x≠ .none:=by
 revert h;cases x<;>intro h<;>simp[Mem.bF]at h<;>exact⟨trivial,by simp⟩
inductive Shape:Mem->Mem->Prop where
 |dr {x y:Mem} (h:x.dr=true) (h':y.dr=true):Shape x y
 |bF {x y:Mem} {q:Nat×Nat×Nat} (h:x.bF=some q) (h':y.bF=some q):Shape x y
theorem Shape.ne {x y:Mem} (h:Shape x y):y≠ .none:=by
 cases h with
 |dr _ a=>intro e;rw[e]at a;simp[Mem.dr]at a
 |bF _ a=>intro e;rw[e]at a;simp[Mem.bF]at a
theorem Shape.gen {x y:Mem} (h:Shape x y):y.gen=x.gen:=by
 cases h with
 |dr h a=>rw[od h,od a]
 |@bF q h a=>obtain⟨g,n,k⟩:=q;rw[cN h,cN a]
variable {m':Id->Mem} {ρ':Id->Option (Nat×Nat)}
theorem Shape.carry {o:Id} (h:Shape (m o) (m' o)) (b:ρ' o=ρ o):Carry m m' ρ ρ' o:=by
 generalize c:m o=x at h;generalize f:m' o=y at h;cases h with
 |dr h a=>subst c f;refine⟨λx p=>?_,λx g=>?_⟩;rw[bO h,bO a,b];exact id;rw[fF h,fF a];exact id
 |@bF q h a=>subst c f;obtain⟨g',n,k⟩:=q;refine⟨λx p i=>absurd i (hV h),λx g=>?_⟩;rw[br h,br a];simp only[cu,b];exact id
theorem Shape.sub {o:Id} (h:Shape (m o) (m' o)) (f:ρ' o=ρ o) (x:Value) (g lo n:Nat):fi m ρ x o g lo n->fi m' ρ' x o g lo n:=by
 generalize b:m o=x at h;generalize c:m' o=y at h;cases h with
 |dr h a=>subst b c;rw[me h,me a];exact id
 |@bF q h a=>subst b c;obtain⟨g',n',k⟩:=q;rw[dk h,dk a];simp only[hC,f];exact id
theorem Shape.ep {o:Id} (h:Shape (m o) (m' o)) (f:ρ' o=ρ o) (x:Value) (g i off:Nat):dj E m ρ w x (.ep o g i off)->dj E m' ρ' w' x (.ep o g i off):=by
 generalize b:m o=x at h;generalize c:m' o=y at h;cases h with
 |dr h a=>subst b c;intro _;exact zs a
 |@bF q h a=>subst b c;obtain⟨g',n',k⟩:=q;rw[dq h,dq a,f];exact id
section
variable {m m':Id->Mem} {ρ ρ':Id->Option (Nat×Nat)} {o:Id} {g n k g' n' k':Nat}
theorem kq (h:(m o).bF=some (g,n,k)) (a:(m' o).bF=some (g',n',k')) (f:g<g'):Carry m m' ρ ρ' o:=by
 refine⟨λx p b=>absurd b (hV h),λx q=>?_⟩;rw[br h,br a];exact λc=>⟨c.1,by omega,λe=>by omega⟩
theorem sR (h:(m o).bF=some (g,n,k)) (a:(m' o).bF=some (g',n',k')) (f:g<g') (x:Value) (q lo c:Nat):fi m ρ x o q lo c->fi m' ρ' x o q lo c:=by
 rw[dk h,dk a];exact λb=>⟨b.1,by omega,λe=>by omega⟩
theorem wT (h:(m o).bF=some (g,n,k)) (a:(m' o).bF=some (g',n',k')) (b:g<g') (x:Value) (q i off:Nat):dj E m ρ w x (.ep o q i off)->dj E m' ρ' w' x (.ep o q i off):=by
 rw[dq h,dq a];exact λc=>⟨by omega,λe=>by omega⟩
end
theorem Rel.UA {t:Nat->TV} (h:Rel E ρ t m a w) {o:Id} {n k':Nat} (j:(m o).bF=some (g,n,k)) (B:nm.bF=some (g',n',k')) (y:g<g') (D:g'≠1)
  (F:∀f,nm.refs f->m f≠ .none) (G:(∀f,m f≠ .none->Carry m (bj m o nm) ρ ρ f)->(∀b,L E m ρ w b->L E (bj m o nm) ρ w b)->iL E (bj m o nm) ρ w o nm):Rel E ρ t (bj m o nm) a w:=by
 have p:bj ρ o (ρ o)=ρ:=et ρ o;have z:(bj m o nm o).bF=some (g',n',k'):=by rw[aq];exact B
 have C:∀b,L E m ρ w b->L E (bj m o nm) ρ w b:=λb u=>⟨u.1,λf A l r=>by
   by_cases e:f=o;subst e;exact u.2 f A (cM j).1 r
   ·rw[aw _ _ _ e]at l;exact u.2 f A l r⟩
 have H:∀f,m f≠ .none->Carry m (bj m o nm) ρ ρ f:=λf _=>by by_cases e:f=o;subst e;exact kq j z y;exact Carry.same (aw _ _ _ e) rfl
 have:=h.one o nm (ρ o) (Bx.refl _ _ _) (λb u=>⟨by rw[p];exact C b u,rfl⟩) (λ_ _ _ _ _ _=>rfl)
  (λ_ b c r=>⟨h.lo o b c (cM j).1 r,λf A I l J=>I (h.inj f o b A c l (cM j).1 J r)⟩) (cM B).2 (λf K=> .inr (F f K))
  (λe=>absurd e (cM j).2) (λe=>by rw[cN B]at e;exact absurd e D) (by rw[p];exact G H C)
  (λ_=>by rw[p];exact kq j z y) (λx q i M _=>by rw[p];exact wT j z y x q i M) (λx q lo c _=>by rw[p];exact sR j z y x q lo c)
 rwa [p]at this
theorem BO {t:Nat->TV} (h:Rel E ρ t m a w) {o:Id} {b c:Nat} (p:(m o).live) (q:ρ o=some (b,c)) (nm:Mem) (r:Array Value):
  Bx E.w0.heap.size E.X w (w.setRow b r)/\(∀f,L E m ρ w f->L E (bj m o nm) (bj ρ o (some (b,c))) (w.setRow b r) f/\(w.setRow b r).heap[f]? =w.heap[f]?)/\
   (∀g f j,g≠o->(m g).live->ρ g=some (f,j)->(w.setRow b r).heap[f]? =w.heap[f]?):=by
 obtain⟨h1,z⟩:=h.lo o b c p q;refine⟨⟨rfl,rfl,rfl,by simp,λk A x=>setRow_other w b k r (λe=>?_),XU _⟩,λf u=>⟨⟨?_,λg j l i=>?_⟩,setRow_other w b f r (λe=>u.2 o c p (e▸q))⟩,λg f j y l i=>setRow_other w b f r (λe=>y (h.inj g o f j c l p i (e▸q)))⟩;subst e;rcases h1 with h1|h1;exact x h1;omega;exact u.1.imp id (λh=>h.imp id (λh=>⟨h.1,by simpa using h.2⟩));by_cases e:g=o;subst e;rw[aq]at i;simp only[Ze,Zx]at i;exact u.2 g c p (by rw[q,i.1]);rw[aw _ _ _ e]at l i;exact u.2 g j l i
theorem Rel.nw {t:Nat->TV} (h:Rel E ρ t m a w) {o:Id} {b c:Nat} (j:(m o).live) (l:ρ o=some (b,c)) (nm:Mem) (r:Array Value)
  (hs:Shape (m o) nm) (A:∀f,nm.refs f->m f≠ .none)
  (B:(∀k,L E m ρ w k->L E (bj m o nm) (bj ρ o (some (b,c))) (w.setRow b r) k/\(w.setRow b r).heap[k]? =w.heap[k]?)->(∀f,m f≠ .none->Carry m (bj m o nm) ρ (bj ρ o (some (b,c))) f)->
   iL E (bj m o nm) (bj ρ o (some (b,c))) (w.setRow b r) o nm):
  Rel E (bj ρ o (some (b,c))) t (bj m o nm) a (w.setRow b r):=by
 obtain⟨C,y,D⟩:=BO h j l nm r;have q:Shape (m o) (bj m o nm o):=by rw[aq];exact hs
 have u:bj ρ o (some (b,c)) o=ρ o:=by rw[aq,l]
 have z:Carry m (bj m o nm) ρ (bj ρ o (some (b,c))) o:=q.carry u;refine h.one o nm _ C y D ?_ hs.ne (λf p=> .inr (A f p)) (λe=>by rw[e]at j;exact j.elim) (λF=>by rw[<-hs.gen];exact F) (B y (λf O=>?_)) (λ_=>z)
  (λx g i G _=>q.ep u x g i G) (λx g lo n _=>q.sub u x g lo n)
 ·intro _ k P p;simp only[Ze,Zx]at p;obtain⟨rfl,rfl⟩:=p;obtain⟨H,I⟩:=h.lo o b c j l;exact⟨⟨H,by simpa using I⟩,λf J K M N=>K (h.inj f o b J c M j N l)⟩
 ·by_cases e:f=o;subst e;exact z;exact Carry.same (aw _ _ _ e) (aw _ _ _ e)
theorem x9 {t:TypeId} (g:cO P t T) (w:World) (b off:Nat) (c:Array Value) (e:TypeId) (h:w.heap[b]? =some (.cells c e (0,0))) (v:Value) (a:List Value) (i:v.cells=a.toArray) (j:a.length=T.size)
  (k:off+a.length<=c.size) (l:∀x∈a,x.oneCell'=true):(storeVar t ⟨b,off,none⟩ v).run P w= .ok () (w.setRow b (setCells c.toList off a).toArray):=by
 have f:=run_storeCells_at (P:=P) b off e a 0 c w h (by omega) l;rw[ki a c.toList off (by simpa using k)];simp only[YG]at f;simp only[storeVar,Sem.run_bind,bQ g,Result.andThen_ok,i,ZR,<-j,ne_eq,not_true,aaa];exact f
variable {S:Nat->Prop} {xs:List Value}
theorem eA.dp {cs:List SV} (b:eA S w xs cs) (j:Nat) (a:j<cs.length):∃x,xs[j]? =some x/\Rd S w x (cs.getD j (.v Go.undef)):=by
 obtain⟨x,c,f⟩:=b.get j cs[j] (by simp[a]);exact⟨x,c,by simpa[List.getD,a]using f⟩
theorem IL {g:Type} {R:Value->g->Prop} {c:Array Value} {b:List Value} {n off len:Nat} {get:Nat->Nat->g} {new:Nat->g} (r:b.length=len) (t:i*k+off+b.length<=c.size) (E:off+len<=k)
  (u:∀a,a<n->∀j,j<k->∃x,c[a*k+j]? =some x/\R x (get a j)) (w:∀j,j<b.length->∃v,b[j]? =some v/\R v (new j)):
  ∀a,a<n->∀j,j<k->∃x,(setCells c.toList (i*k+off) b).toArray[a*k+j]? =some x/\R x (bif Nat.beq a i&&Nat.ble off j&&Nat.blt j (off+len)then new (j-off)else get a j):=by
 subst r;intro a y j z;have f:=kx b c.toList (i*k+off) (by simpa using t) (a*k+j);by_cases o:a=i/\off<=j/\j<off+b.length;obtain⟨rfl,A,B⟩:=o;obtain⟨v,h,l⟩:=w (j-off) (by omega);refine⟨v,?_,?_⟩;rw[iP,show a*k+j-(a*k+off)=j-off by omega]at f;simpa[f]using h;have m:(Nat.beq a a&&Nat.ble off j&&Nat.blt j (off+b.length))=true:=(by simp[A,B]);rw[m];exact l;obtain⟨v,h,l⟩:=u a y j z;refine⟨v,?_,?_⟩;have C:¬(i*k+off<=a*k+j/\a*k+j<i*k+off+b.length):=(by rcases Z0 a i with h1|h1|h1;have:(a+1)*k<=i*k:=XX k h1;rw[Yq]at this;omega;subst h1;omega;have:(i+1)*k<=a*k:=XX k h1;rw[Yq]at this;omega);rw[XG C]at f;simpa[f]using h;have m:(Nat.beq a i&&Nat.ble off j&&Nat.blt j (off+b.length))=false:=(by simp only[ZW];by_cases p:a=i;by_cases q:off<=j;right;exact ht λD=>o ⟨p,q,D⟩;left;right;exact zN q;left;left;exact pX p);rw[m];exact l
theorem rb {α:Type}:∀(a xs:List α) (i:Nat) {c:α},c∈setCells xs i a->c∈xs\/c∈a
 |[],xs,i,c,h=> .inl h
 |y::a,xs,i,c,h=>by rcases rb a (xs.set i y) (i+1) h with h|h;rcases ab1 h with h|h;exact .inl h;exact .inr (by simp[h]);exact .inr (by simp[h])
structure tw (t:Nat->TV) (y:Operand) (l:List CV) (n:Nat):Prop where
 len:l.length=n
 ok:∀(E:Env) (ρ:Id->Option (Nat×Nat)) (t':Nat->TV) (m:Id->Mem) (a:Act) (w:World),bE t' y=bE t y->Rel E ρ t' m a w->∃us:List Value,(a.eval y).cells=us.toArray/\fV (L E m ρ w) m ρ w us l/\∀c∈l,∀o,c.refs o->m o≠ .none
variable {y:Operand}
theorem tD {t:Nat->TV} {l:List SV} {n:Nat} (f:bE t y= .d (.agg l)\/∃c,bE t y= .d (.one c)/\l=[c]) (h:l.length=n):tw t y (l.map .s) n:=by
 refine⟨by simpa using h,λE ρ u m a w i j=>?_⟩;have b:=(az j y).1;rw[i]at b;have g:∀c∈l.map CV.s,∀o,c.refs o->m o≠ .none:=λc k o p=>by obtain⟨x,_,rfl⟩:=XS.1 k;exact p.elim
 rcases f with f|⟨c,f,rfl⟩;rw[f]at b;obtain⟨xs,q,r⟩:=b;exact⟨xs,by rw[q];rfl,fV.LB r,g⟩;rw[f]at b;have b:Rd (L E m ρ w) w (a.eval y) c:=b;exact⟨[a.eval y],cells_one b.bG,.cons b .nil,g⟩
theorem qe {t:Nat->TV} (h:bE t y=c.tv):tw t y [c] 1:=by
 refine⟨rfl,λE ρ p m a w i j=>?_⟩;have b:=az j y;rw[i,h]at b;have g:kR (L E m ρ w) m ρ w (a.eval y) c:=by have:=b.1;cases c<;>exact this
 refine⟨[a.eval y],cells_one g.bG,.cons g .nil,λk f o l=>?_⟩;rcases XD.1 f with rfl|f;exact b.2 o (by cases k<;>exact l);simp at f
theorem fV.getElem {cs:List CV} (b:fV S m ρ w xs cs) (j:Nat) (a:j<cs.length) (c0:CV):∃x,xs[j]? =some x/\kR S m ρ w x (cs.getD j c0):=by
 obtain⟨x,c,f⟩:=b.get j cs[j] (by simp[a]);exact⟨x,c,by simpa[List.getD,a]using f⟩
variable {ty:TypeId} {K:fa}
section
variable {P:Program} {o:Oper} {t:Nat->TV} {m:Id->Mem} {TT:iw}
theorem xn (g:cO P ty T) {x:Operand} (h:o.op= .store ty x y) (a:Act) (w:World) (c off:Nat) (f:Array Value) (e:TypeId) (b:List Value)
  (i:a.eval x= .pointer (some ⟨c,off,none⟩)) (j:w.heap[c]? =some (.cells f e (0,0))) (k:(a.eval y).cells=b.toArray) (l:b.length=T.size) (m:off+b.length<=f.size) (p:∀x∈b,x.oneCell'=true):
  (execOp a.eval o).run P w= .ok .skip (w.setRow c (setCells f.toList off b).toArray):=by
 have q:=x9 g w c off f e j _ b k l m p;simp[execOp,h,i,Instr.storeAt,Instr.sureAddr,q]
theorem oD (a3:cO P ty T) {x:Operand} (K:o.op= .store ty x y) {b:Id} {off:Nat} (a4:bE t x= .ptr b off) {l:List CV} (Q:tw t y l T.size)
  (a5:(∃cs p,m b= .box cs/\l=p.map .s/\off+l.length<=cs.length/\nm= .box (setCells cs off p))\/(∃cs,m b= .box cs/\off+l.length<=cs.length/\nm= .obj (setCells (cs.map .s) off l))\/(∃cs,m b= .obj cs/\off+l.length<=cs.length/\nm= .obj (setCells cs off l))):
  aI P o t m .any [(b,nm)] [b.key]:=by
 have a6:x∈o.op.operands.toList:=by rw[K];simp[Op.operands]
 have a7:y∈o.op.operands.toList:=by rw[K];simp[Op.operands]
 refine bS λE ρ a8 m' a w b8 R a9 b9 u=>?_;have I:=(az u x).1;rw[ao R a6,a4]at I;have M:=a9.at b;obtain⟨B,b0,N,S⟩:=Q.ok E ρ a8 m' a w (ao R a7) u;have c0:=N.length;have c1:=Q.len;have C:(m' b).dr=true/\(m' b).live/\∃f c xs e cs,ρ b=some (f,c)/\w.heap[f]? =some (.cells xs.toArray e (0,0))/\fV (L E m' ρ w) m' ρ w xs cs/\off+l.length<=cs.length/\(∀c∈cs,∀o,c.refs o->m' o≠ .none)/\
   nm.dr=true/\(∃J,nm= .obj (setCells cs off l)\/(nm= .box J/\J.map .s=setCells cs off l)):=by
  rcases a5 with⟨cs,p,j,rfl,A,rfl⟩|⟨cs,j,A,rfl⟩|⟨cs,j,A,rfl⟩
  ·rw[<-M]at j;have q:=u.mem b;rw[j]at q;obtain⟨f,c,xs,e,D,F,G⟩:=q;refine⟨by rw[j];rfl,fP j,f,c,xs,e,cs.map .s,D,F,fV.LB G,by simpa using A,λc z o g=>?_,rfl,_,.inr ⟨rfl,?_⟩⟩;obtain⟨r,_,rfl⟩:=XS.1 z;exact g.elim
   ·have:∀(p cs:List SV) (i:Nat),(setCells cs i p).map CV.s=setCells (cs.map .s) i (p.map .s):=by
     intro p;induction p with
     |nil=>intro cs i;rfl
     |cons x p b1=>intro cs i;simp only[setCells,Yz];rw[b1];simp
    exact this p cs off
  ·rw[<-M]at j;have q:=u.mem b;rw[j]at q;obtain⟨f,c,xs,e,D,F,G⟩:=q;refine⟨by rw[j];rfl,fP j,f,c,xs,e,cs.map .s,D,F,fV.LB G,by simpa using A,λc z o g=>?_,rfl,[],.inl rfl⟩;obtain⟨r,_,rfl⟩:=XS.1 z;exact g.elim
  ·rw[<-M]at j;have q:=u.mem b;rw[j]at q;obtain⟨f,c,xs,e,D,F,G⟩:=q;exact⟨by rw[j];rfl,rf j,f,c,xs,e,cs,D,F,G,A,λc z o g=>u.cleanM b o (by rw[j];exact⟨c,z,g⟩),rfl,[],.inl rfl⟩
 obtain⟨U,b2,f,c,xs,e,cs,V,O,X,A,Y,b3,Z⟩:=C;have c2:=X.length;simp only[dj]at I;rw[bO U]at I;obtain⟨b4,b5,a0,b6⟩:=I;rw[V]at a0;obtain⟨rfl,rfl⟩:f=b4/\c=b5:=by simpa using a0
 have b7:∀k,nm.refs k->m' k≠ .none:=by intro k g;obtain⟨J,h|⟨h,_⟩⟩:=Z;rw[h]at g;obtain⟨r,H,g⟩:=g;rcases rb _ _ _ H with h|h;exact Y r h k g;exact S r h k g;rw[h]at g;exact g.elim
 refine⟨.skip,Go.undef,w.setRow f (setCells xs off B).toArray,bj ρ b (some (f,c)),?_,.inr ⟨rfl,rfl⟩,u.nw b2 V nm _ (.dr U b3) b7 (λa1 a2=>?_),trivial,λ_ h=>h.elim⟩;exact xn a3 K a w f off xs.toArray e B b6 O b0 (by omega) (by simp;omega) N.bG
 ·have C:fV (L E (bj m' b nm) (bj ρ b (some (f,c))) (w.setRow f (setCells xs off B).toArray)) (bj m' b nm) (bj ρ b (some (f,c))) (w.setRow f (setCells xs off B).toArray) (setCells xs off B) (setCells cs off l):=
   fV.setCells (N.mono a1 (λk ⟨r,H,g⟩=>a2 k (S r H k g))) off (X.mono a1 (λk ⟨r,H,g⟩=>a2 k (Y r H k g)))
  obtain⟨J,h|⟨h,z⟩⟩:=Z;subst h;exact⟨f,c,_,e,aq _ _ _,setRow_heap w f _ _ e _ O,C⟩;subst h;rw[<-z]at C;exact⟨f,c,_,e,aq _ _ _,setRow_heap w f _ _ e _ O,C.R1⟩
theorem mg (b8:cO P ty T) {x:Operand} (C:o.op= .store ty x y) {b:Id} {off:Nat} (A:bE t x= .ep b g i off) {l:List CV} (a6:tw t y l T.size) {n:Nat} {get:Nat->Nat->CV}
  (N:(∃O,m b= .aL g n k e O/\∀i j,get i j= .s (O i j))\/m b= .bm g n k e get) (b9:off+l.length<=k)
  (Q:(∃new,nm= .bm g n k e new/\∀p j,new p j=bif Nat.beq p i&&Nat.ble off j&&Nat.blt j (off+l.length)then l.getD (j-off) (.s (.v Go.undef))else get p j)\/
   (∃new,nm= .aL g n k e new/\∀p j,(.s (new p j))=bif Nat.beq p i&&Nat.ble off j&&Nat.blt j (off+l.length)then l.getD (j-off) (.s (.v Go.undef))else get p j)):
  aI P o t m .any [(b,nm)] [b.key]:=by
 have c0:x∈o.op.operands.toList:=by rw[C];simp[Op.operands]
 have c1:y∈o.op.operands.toList:=by rw[C];simp[Op.operands]
 refine bS λE ρ c2 m' a w d3 a7 c3 d4 G=>?_;have S:=(az G x).1;rw[ao a7 c0,A]at S;have c4:=c3.at b;obtain⟨H,c5,U,c6⟩:=a6.ok E ρ c2 m' a w (ao a7 c1) G;have c7:=U.length;have d5:=a6.len;rw[<-c4]at N;have V:(m' b).bF=some (g,n,k):=by rcases N with⟨_,h,_⟩|h<;>rw[h]<;>rfl
 have c8:nm.bF=some (g,n,k):=by rcases Q with⟨_,h,_⟩|⟨_,h,_⟩<;>rw[h]<;>rfl
 rw[dq V]at S;obtain⟨d6,u,c,I,c9⟩:=S.2 rfl;have d0:∃z,w.heap[u]? =some (.cells z e (0,0))/\z.size=c*k/\n<=c/\c<=maxLen/\∀i,i<n->∀j,j<k->∃x,z[i*k+j]? =some x/\kR (L E m' ρ w) m' ρ w x (get i j):=by have h:=G.mem b;rcases N with⟨O,D,X⟩|D;rw[D]at h;rcases h with⟨J,_⟩|⟨Y,K,z,M,Z,a0,a1,a2,a3⟩;rw[I]at J;simp at J;rw[I]at M;obtain⟨rfl,rfl⟩:u=Y/\c=K:=(by simpa using M);refine⟨z,Z,a0,a1,a2,λi B j r=>?_⟩;obtain⟨x,A,f⟩:=a3 i B j r;exact⟨x,A,by rw[X];exact f⟩;rw[D]at h;rcases h with⟨J,_⟩|⟨Y,K,z,M,Z,a0,a1,a2,a3⟩;rw[I]at J;simp at J;rw[I]at M;obtain⟨rfl,rfl⟩:u=Y/\c=K:=(by simpa using M);exact⟨z,Z,a0,a1,a2,a3⟩
 obtain⟨z,a4,a8,a9,b0,d1⟩:=d0;have b1:∀i j,i<n->j<k->∀q,(get i j).refs q->m' q≠ .none:=λi j B r q f=>by rcases N with⟨O,D,X⟩|D;rw[X]at f;exact f.elim;exact G.cleanM b q (by rw[D];exact⟨i,j,B,r,f⟩)
 have b2:∀j,∀q,(l.getD j (.s (.v Go.undef))).refs q->m' q≠ .none:=λj q f=>by by_cases r:j<l.length;have:l.getD j (.s (.v Go.undef))∈l:=(by simp[List.getD,r]);exact c6 _ this q f;have:l.getD j (.s (.v Go.undef))= .s (.v Go.undef):=(by simp[List.getD,YU (show l.length<=j by omega)]);rw[this]at f;exact f.elim
 have d2:∀(p j:Nat),p<n->j<k->∀q,(bif Nat.beq p i&&Nat.ble off j&&Nat.blt j (off+l.length)then l.getD (j-off) (.s (.v Go.undef))else get p j).refs q->m' q≠ .none:=λp j B r q f=>by
  cases b3:(Nat.beq p i&&Nat.ble off j&&Nat.blt j (off+l.length))with
  |true=>rw[b3]at f;exact b2 _ q f
  |false=>rw[b3]at f;exact b1 p j B r q f
 have b4:i*k+off+H.length<=z.size:=by have:(i+1)*k<=c*k:=XX k (by omega);rw[Yq]at this;omega
 refine⟨.skip,Go.undef,w.setRow u (setCells z.toList (i*k+off) H).toArray,bj ρ b (some (u,c)),?_,.inr ⟨rfl,rfl⟩,G.nw (cM V).1 I nm _ (.bF V c8) (λq f=>?_) (λb5 b6=>?_),trivial,λ_ h=>h.elim⟩;exact xn b8 C a w u (i*k+off) z e H c9 a4 c5 (by omega) b4 U.bG;rcases Q with⟨new,rfl,F⟩|⟨new,rfl,F⟩;obtain⟨p,j,B,r,f⟩:=f;rw[F]at f;exact d2 p j B r q f;exact f.elim
 ·have b7:=IL (R:=λx K=>kR (L E (bj m' b nm) (bj ρ b (some (u,c))) (w.setRow u (setCells z.toList (i*k+off) H).toArray)) (bj m' b nm) (bj ρ b (some (u,c))) (w.setRow u (setCells z.toList (i*k+off) H).toArray) x K)
   (new:=λj=>l.getD j (.s (.v Go.undef))) (get:=get) (i:=i) (off:=off) (n:=n) (len:=l.length) c7 b4 b9
   (λp B j r=>by obtain⟨x,A,f⟩:=d1 p B j r;exact⟨x,A,f.mono b5 (λq C=>b6 q (b1 p j B r q C))⟩)
   (λj r=>by obtain⟨x,A,f⟩:=U.getElem j (by omega) (.s (.v Go.undef));exact⟨x,A,f.mono b5 (λq C=>b6 q (b2 j q C))⟩)
  rcases Q with⟨new,rfl,F⟩|⟨new,rfl,F⟩;refine .inr ⟨u,c,_,aq _ _ _,setRow_heap w u _ _ e _ a4,by simp[eM,a8],a9,b0,λp a5 j r=>?_⟩;obtain⟨x,A,f⟩:=b7 p a5 j r;exact⟨x,A,by rw[F];exact f⟩;refine .inr ⟨u,c,_,aq _ _ _,setRow_heap w u _ _ e _ a4,by simp[eM,a8],a9,b0,λp a5 j r=>?_⟩;obtain⟨x,A,f⟩:=b7 p a5 j r;rw[<-F]at f;exact⟨x,A,f⟩
theorem xf (l:List SV) (j:Nat):(l.map CV.s).getD j (.s (.v Go.undef))= .s (l.getD j (.v Go.undef)):=by
 simp only[List.getD,ZA];cases l[j]?<;>rfl
theorem yH (p:cO P ty T) {x:Operand} (q:o.op= .store ty x y) {l:List SV} (r:tw t y (l.map .s) T.size) (h:Ai m (bE t x) l K):∃z A B,K z A B/\aI P o t m z A B:=by
 unfold Ai at h;split at h;rename_i b u f;replace h:=bk h;split at h;rename_i w c;replace h:=aM h;obtain⟨a,h⟩:=h;rw[oG]at h;exact⟨_,_,_,h,oD p q f r (.inl ⟨w,l,c,rfl,by simpa using XI a,rfl⟩)⟩;rename_i w c;replace h:=aM h;obtain⟨a,h⟩:=h;rw[oG]at h;exact⟨_,_,_,h,oD p q f r (.inr (.inr ⟨w,c,by simpa using XI a,rfl⟩))⟩;exact h.elim
 ·rename_i b g i u f;replace h:=bk h;split at h;(rename_i g' n k e get c;replace h:=aM h;obtain⟨a,h⟩:=h;simp only[XJ]at a;obtain rfl:g=g':=XE a.1;refine⟨_,_,_,h,mg p q f r (get:=λi j=> .s (get i j)) (.inl ⟨get,c,λ_ _=>rfl⟩) (by simpa using XI a.2) (.inr ⟨_,rfl,λC j=>?_⟩)⟩;rw[Yy,xf];cases (Nat.beq C i&&Nat.ble u j&&Nat.blt j (u+l.length))<;>rfl)
  ·rename_i g' n k e get c;replace h:=aM h;obtain⟨a,h⟩:=h;simp only[XJ]at a;obtain rfl:g=g':=XE a.1;refine⟨_,_,_,h,mg p q f r (.inr c) (by simpa using XI a.2) (.inl ⟨_,rfl,λC j=>?_⟩)⟩;rw[Yy,xf]
  ·exact h.elim
 ·exact h.elim
theorem sh (u:cO P ty T) {x:Operand} (w:o.op= .store ty x y) (A:tw t y [c] T.size) (h:qg m (bE t x) c K):∃z D E,K z D E/\aI P o t m z D E:=by
 unfold qg at h;split at h;rename_i b f r;replace h:=bk h;split at h;rename_i B l;replace h:=aM h;obtain⟨a,h⟩:=h;rw[oG]at h;exact⟨_,_,_,h,oD u w r A (.inr (.inl ⟨B,l,bR a,rfl⟩))⟩;rename_i B l;replace h:=aM h;obtain⟨a,h⟩:=h;rw[oG]at h;exact⟨_,_,_,h,oD u w r A (.inr (.inr ⟨B,l,bR a,rfl⟩))⟩;exact h.elim
 ·rename_i b g i f r;have F:∀(p j:Nat) (q:CV),(bif Nat.beq p i&&Nat.beq j f then c else q)=bif Nat.beq p i&&Nat.ble f j&&Nat.blt j (f+[c].length)then[c].getD (j-f) (.s (.v Go.undef))else q:=(by intro p j q;by_cases G:j=f;subst G;have C:(Nat.ble j j&&Nat.blt j (j+[c].length))=true:=(by rw[D2 (XU j),hp (show j<j+[c].length by simp)];rfl);rw[Bool.and_assoc,C,ZE,Zb];rfl;have H:Nat.beq j f=false:=pX G;have C:(Nat.ble f j&&Nat.blt j (f+[c].length))=false:=(by by_cases I:f<=j;simp only[XV,Z2,ZW];exact .inr (ht);simp only[ZW];exact .inl (zN I));rw[H,Bool.and_assoc,C,aaw];rfl);replace h:=bk h;split at h;rename_i g' n k e get l;replace h:=aM h;obtain⟨a,h⟩:=h;simp only[XJ]at a;obtain rfl:g=g':=XE a.1;exact⟨_,_,_,h,mg u w r A (get:=λi j=> .s (get i j)) (.inl ⟨get,l,λ_ _=>rfl⟩) (bR a.2) (.inl ⟨_,rfl,λp j=>F p j _⟩)⟩;rename_i g' n k e get l;replace h:=aM h;obtain⟨a,h⟩:=h;simp only[XJ]at a;obtain rfl:g=g':=XE a.1;exact⟨_,_,_,h,mg u w r A (.inr l) (bR a.2) (.inl ⟨_,rfl,λp j=>F p j _⟩)⟩;exact h.elim
 ·exact h.elim
theorem qN (q:cG P TT) (r:TT ty=some T) {x:Operand} (i:o.op= .store ty x y)
  (h:Ah T m (bE t x) (bE t y) K):∃z k l,K z k l/\aI P o t m z k l:=by
 have j:=q ty T r;unfold Ah at h;split at h;rename_i c a;replace h:=aM h;obtain⟨g,h⟩:=h;exact yH j i (tD (.inr ⟨c,a,rfl⟩) (XE g)) h;rename_i w a;replace h:=aM h;obtain⟨g,h⟩:=h;exact yH j i (tD (.inl a) (XE g)) h;rename_i b p a;replace h:=aM h;obtain⟨g,h⟩:=h;exact sh j i (XE g▸qe (c:= .ptr b p) a) h;rename_i b p a;replace h:=aM h;obtain⟨g,h⟩:=h;exact sh j i (XE g▸qe (c:= .aJ b p) a) h;rename_i f u a;replace h:=aM h;obtain⟨g,h⟩:=h;exact sh j i (XE g▸qe (c:= .cP f u) a) h;exact h.elim
end
theorem pW (off:Nat):∀(a xs:List Value) (j:Nat),
  ((a.zipIdx j).foldl (λb (p:Value×Nat)=>b.setIfInBounds (off+p.2) p.1) xs.toArray)=(setCells xs (off+j) a).toArray
 |[],_,_=>rfl
 |u::a,xs,j=>by simp only[List.zipIdx_cons,Z3,setCells];have h:=pW off a (xs.set (off+j) u) (j+1);rw[show off+(j+1)=off+j+1 by omega]at h;simpa using h
theorem rF {t:Nat->TV} (z:Nat->Option (Nat×Nat)):∀(D:List (Nat×Operand)) (b:List SV) (K:List SV->Prop),
  gi t (λi=>(z i).map (·.2)) D=true->oe t (λi=>(z i).map (·.1)) b D K->
  ∃A,K A/\A.length=b.length/\∀(E:Env) (m:Id->Mem) (k:Id->Option (Nat×Nat)) (w:World) (a:Act) (f:List Value),(∀p∈D,dj E m k w (a.eval p.2) (bE t p.2))->eA (L E m k w) w f b->
   ∃F:List Value,Instr.fill z f.toArray (D.map λp=>(p.1,a.eval p.2))=some F.toArray/\eA (L E m k w) w F A
 |[],b,K,_,h=>⟨b,h,rfl,λE m k w a f _ G=>⟨f,by simp[Instr.fill],G⟩⟩
 |(i,x)::r,b,K,J,h=>by
  simp only[oe]at h;simp only[gi,XJ]at J;obtain⟨g,Q⟩:=J;cases B:z i with
  |none=>simp[B]at h
  |some p=>
   obtain⟨o,M⟩:=p;simp only[B,aaA]at h g;obtain⟨l,h,R⟩:=xE h;replace h:=aM h;obtain⟨S,h⟩:=h;have a3:o+l.length<=b.length:=XI S;rw[lK,oG]at h;obtain⟨A,hK,T,U⟩:=rF z r (setCells b o l) K Q h;refine⟨A,hK,by rw[T,eM],λE m k w a f N G=>?_⟩;have q:=N (i,x) (by simp);obtain⟨u,y,O⟩:=R E m k w _ q;have a4:=O.length;have a5:=G.length;obtain⟨F,V,X⟩:=U E m k w a (setCells f o u) (λp B=>N p (by simp[B])) (eA.setCells O o G);refine⟨F,?_,X⟩;have Y:u.length=M:=by
    revert g q;cases bE t x with
    |d Z=>
     cases Z with
     |one c=>intro g q;have C:=XE g;have H:(a.eval x).cells.size=1:=(by have C:=Rd.bG (show Rd _ _ (a.eval x) c from q);revert C;cases a.eval x<;>intro C<;>first|rfl|(simp[Value.oneCell']at C));rw[y]at H;simp at H;omega
     |agg b=>intro g q;have C:=XE g;obtain⟨a0,I,a1⟩:=q;have H:=a1.length;rw[I]at y;simp only[Value.cells]at y;have:a0=u:=(by simpa using y);subst this;omega
    |_=>intro g;simp at g
   have a2:(a.eval x).cells.size=M:=(by rw[y];simpa using Y);have P:=pW o u f 0;simp only[YG]at P;simp only[Yz,Instr.fill,B,a2,ne_eq,not_true,decide_false,Bool.false_or,X0];rw[XG (by simp;omega),y];have I:u.toArray.zipIdx.foldl (λ(b:Array Value) (x:Value×Nat)=>match x with|(c,j)=>b.setIfInBounds (o+j) c) f.toArray=(setCells f o u).toArray:=(by rw[<-P];simp);rw[I];exact V
variable {P:Program} {T:Ty}
theorem ik {t:TypeId} (b:cO P t T) (S:Nat->Prop) (w:World):∃i z,P.info? t=some i/\i.size=T.size/\i.bytes=T.bytes/\i.zero=some z/\z.cells.size=T.size/\eA S w z.cells.toList T.zero:=by
 obtain⟨i,z,c,f,g,h,j,k,m⟩:=b.info;refine⟨i,z,c,f,g,h,m,?_⟩;rw[<-j];have a:∀x∈z.cells.toList,x.oneCell'=true:=λx o=>Zz.1 k x o;revert a;generalize z.cells.toList=l;intro a;induction l with
 |nil=>exact .nil
 |cons x l p=>exact .cons (.v (a x (by simp))) (p (λy q=>a y (by simp[q])))
theorem oP {o:Oper} {a:Array (Nat×Operand)} (h:o.op.operands=(a.toList.map (·.2)).toArray) (p:Nat×Operand) (b:p∈a.toList):p.2∈o.op.operands.toList:=by
 rw[h];simp only[XS];exact⟨p,b,rfl⟩
variable {m:Id->Mem} {ty:TypeId} {K:List SV->Prop}
theorem ux {o:Oper} {t:Nat->TV} {TT:iw} (y:cG P TT) (A:TT ty=some T) {b:List (Nat×TypeId×Nat)} (B:T.kind= .str b) {c:Array (Nat×Operand)} (j:o.op= .build ty c)
  (C:gi t (λi=>(b[i]?).map (·.2.2)) c.toList=true) (h:oe t (λi=>(b[i]?).map (·.1)) T.zero c.toList K):∃f,K f/\aI P o t m (.d (.agg f)) [] []:=by
 have k:=y ty T A;have l:=k.kind;rw[B]at l;obtain⟨F,D,Z,G⟩:=l;have H:(λi:Nat=>(((b.map λx:Nat×TypeId×Nat=>(x.1,x.2.2)).toArray[i]?).map (·.2):Option Nat))=λi:Nat=>(b[i]?).map (·.2.2):=by funext i;simp only[YO,ZA,Option.map_map];rfl
 have I:(λi:Nat=>(((b.map λx:Nat×TypeId×Nat=>(x.1,x.2.2)).toArray[i]?).map (·.1):Option Nat))=λi:Nat=>(b[i]?).map (·.1):=by funext i;simp only[YO,ZA,Option.map_map];rfl
 obtain⟨f,hK,_,J⟩:=rF (t:=t) (λi:Nat=>(b.map λx:Nat×TypeId×Nat=>(x.1,x.2.2)).toArray[i]?) c.toList T.zero K (by rw[H];exact C) (by rw[I];exact h);refine⟨f,hK,aC λE q a0 r a w a1 M _ N=>?_⟩;obtain⟨i,z,O,a2,a3,Q,a4,R⟩:=ik k (L E r q w) w;obtain⟨g,S,U⟩:=J E r q w a z.cells.toList (λp V=>by have u:=(az N p.2).1;rw[ao M (oP (by rw[j];rfl) p V)]at u;exact u) R;have X:P.built ty (c.map λ(i,x)=>(i,a.eval x)).toList=some g.toArray:=by unfold Program.built;simp only[O,D,Q,G,Array.toList_map];exact S
 refine⟨.agg g.toArray,?_,⟨g,rfl,U⟩,λ_ h=>h.elim⟩;have Y:=run_build (P:=P) w ty (c.map λ(i,x)=>(i,a.eval x)) g.toArray X;simp[execOp,j,Y]
variable {e:TypeId} {TE:Ty}
theorem uy {o:Oper} {t:Nat->TV} {TT:iw} (k:cG P TT) (y:TT ty=some T) {n:Nat} (A:T.kind= .arr n e) (B:TT e=some TE) {b:Array (Nat×Operand)} (l:o.op= .build ty b)
  (C:gi t (λ_=>some TE.size) b.toList=true) (h:oe t (λi=>some (i*TE.size)) T.zero b.toList K):∃c,K c/\aI P o t m (.d (.agg c)) [] []:=by
 have q:=k ty T y;have r:=q.kind;rw[A]at r;obtain⟨c,hK,_,D⟩:=rF (t:=t) (λi=>some (i*TE.size,TE.size)) b.toList T.zero K C h;refine⟨c,hK,aC λE g V j a w X F _ G=>?_⟩;obtain⟨i,z,H,Y,Z,I,a0,J⟩:=ik q (L E j g w) w;obtain⟨a1,a2,M,N,a3,a4,a5,_⟩:=ik (k e TE B) (L E j g w) w;obtain⟨f,O,Q⟩:=D E j g w a z.cells.toList (λp R=>by have u:=(az G p.2).1;rw[ao F (oP (by rw[l];rfl) p R)]at u;exact u) J;have S:P.built ty (b.map λ(i,x)=>(i,a.eval x)).toList=some f.toArray:=by unfold Program.built;simp only[H,r,I,M,N,Array.toList_map];exact O
 refine⟨.agg f.toArray,?_,⟨f,rfl,Q⟩,λ_ h=>h.elim⟩;have U:=run_build (P:=P) w ty (b.map λ(i,x)=>(i,a.eval x)) f.toArray S;simp[execOp,l,U]
theorem jL:∀(n:Nat) (l:List SV),(gU n l).length=n*l.length
 |0,_=>by simp[gU]
 |n+1,l=>by simp[gU,jL n,Yq,Zu]
def dD:Nat->List Value->List Value
 |0,_=>[]
 |n+1,l=>l++dD n l
theorem jK:∀(n:Nat) (l:List Value),(dD n l).length=n*l.length
 |0,_=>by simp[dD]
 |n+1,l=>by simp[dD,jK n,Yq,Zu]
theorem mQ {S:Nat->Prop} {w:World} {xs:List Value} {cs:List SV} (h:eA S w xs cs):∀n,eA S w (dD n xs) (gU n cs)
 |0=> .nil
 |n+1=>h.append (mQ h n)
theorem fQ (l:List Value) (b:0<l.length):∀(n j:Nat),j<n*l.length->(dD n l)[j]? =l[j%l.length]?
 |0,j,h=>by simp at h
 |n+1,j,h=>by rw[dD,Yl];by_cases a:j<l.length;rw[XL a,X5 a];rw[XG a,fQ l b n (j-l.length) (by rw[Yq]at h;omega)];congr 1;rw[<-aal (by omega)]
theorem kv (z:Array Value) (n:Nat) (a:0<z.size:=by omega):(Array.range (n*z.size)).map (z[·%z.size]!)=(dD n z.toList).toArray:=by
 apply aa0;intro j;have c:0<z.toList.length:=by simpa using a
 by_cases b:j<n*z.size;have f:=fQ z.toList c n j (by simpa using b);have g:j%z.size<z.size:=ZC _ a;simp only[YO,f,Array.getElem?_map];simp[b,g];have h:(dD n z.toList).length=n*z.size:=(by rw[jK];simp);rw[Z6 (by simp;omega),Z6 (by simp[h];omega)]
theorem qQ {o:Oper} {t:Nat->TV} {TT:iw} (C:cG P TT) (X:TT ty=some T) (Y:T.kind= .jz e) (H:TT e=some TE) {z:Array (Nat×Operand)} {len:Nat} (I:o.op= .buildSlice ty len z)
  (c1:len*TE.size<=65536) (J:0<TE.size) (Z:0<len) (a0:gi t (λ_=>some TE.size) z.toList=true) (h:oe t (λi=>some (i*TE.size)) (gU len TE.zero) z.toList K):
  ∃q,K q/\aI P o t m (.d (.one (.sl len TE.size λi j=>q.getD (i*TE.size+j) (.v Go.undef)))) [] []:=by
 have a1:=C ty T X;have a2:P.underlying ty=some (.slice e):=by have:=a1.kind;rw[Y]at this;exact this
 obtain⟨q,hK,a3,a4⟩:=rF (t:=t) (λi=>some (i*TE.size,TE.size)) z.toList (gU len TE.zero) K a0 h;refine⟨q,hK,?_⟩;intro E g c2 k a w c3 a5 _ a6 u c4 Q a7;obtain⟨c5,M,a8,c6,c7,a9,D,N⟩:=ik (C e TE H) (L E k g w) w;have O:=N.length;simp at O;rw[jL,<-O,D]at a3;obtain⟨f,b0,R⟩:=a4 E k g w a (dD len M.cells.toList) (λp b1=>by have S:=(az u p.2).1;rw[ao a5 (oP (by rw[I];rfl) p b1)]at S;exact S) (mQ N len);have U:=kv M.cells len;rw[D]at U;have b2:len*TE.size≠0:=Nat.ne_of_gt (Nat.mul_pos Z J);have b3:(execOp a.eval o).run P w= .ok (.value (.slice (some ⟨w.heap.size,0,none⟩) len len)) (w.alloc (.cells f.toArray e)):=by have b4:¬(16777216<len*TE.size):=(by omega);simp[execOp,I,Instr.buildSlice,run_underlying a2,bQ (C e TE H),b4,zeroValue,typeInfo,a8,a9,D,newRow];rw[XG b2,U,b0];simp
 have b5:=u.grow (ec w (.cells f.toArray e));have c8:=R.length;have b6:w.heap.size<(w.alloc (.cells f.toArray e)).heap.size:=by simp
 have b7:L E k g (w.alloc (.cells f.toArray e)) w.heap.size:=⟨.inr (.inr ⟨u.below.size,b6⟩),λb8 c l r=>absurd (u.lo b8 _ c l r).2 (ZO _)⟩;have b9:∀b,L E k g w b->L E k g (w.alloc (.cells f.toArray e)) b/\(w.alloc (.cells f.toArray e)).heap[b]? =w.heap[b]?:=λb F=>
  ⟨⟨F.1.imp id (λG=>G.imp id (λG=>⟨G.1,by omega⟩)),F.2⟩,iV w _ b (tx u F)⟩
 unfold Oper.wp;rw[b3];refine a7 g _ _ (b5.put a6 ?_ (λ_ h=>h.elim));show Rd _ _ _ _;have V:∀i,i<len->∀j,j<TE.size->∃x,f[i*TE.size+j]? =some x/\Rd (L E k g w) w x (q.getD (i*TE.size+j) (.v Go.undef)):=by intro i y j A;refine R.dp _ ?_;have:(i+1)*TE.size<=len*TE.size:=XX _ y;rw[Yq]at this;omega
 refine Rd.sl (λi j=>(f[i*TE.size+j]?).getD Go.undef) b7 (XU _) ?_ (λi y j A=>?_) (λi y j A=>?_);have:len<=len*TE.size:=Nat.le_mul_of_pos_right _ J;simp only[maxLen];omega;obtain⟨x,B,_⟩:=V i y j A;rw[B];simp only[World.cell?,bV,Option.isSome_none,Y6,aaa,YO,Ya,B,Yt];obtain⟨x,B,c0⟩:=V i y j A;simp only[B,Yt];exact c0.mono b9
variable {P:Program} {m:Id->Mem} {op:BinOp} {ty BY:TypeId} {x y:Operand} {K:TV->Prop}
theorem Qi {o:Oper} {t:Nat->TV} (j:o.op= .binOp op ty x y BY) (h:Tj op (bE t x) (bE t y) K):
  ∃z,K z/\aI P o t m z [] []:=by
 have C:x∈o.op.operands.toList:=by rw[j];simp[Op.operands]
 have D:y∈o.op.operands.toList:=by rw[j];simp[Op.operands]
 have i:∀(u v:Value) (r:Value),bE t x= .d (.one (.v u))->bE t y= .d (.one (.v v))->r.oneCell'=true->(∀(w:World),((do eqGuard op ty x y u v;binOp op ty u v:Sem Value)).run P w= .ok r w)->aI P o t m (.d (.one (.v r))) [] []:=by intro u v r c f F G;refine aC λE M N O a w Q p _ q=>?_;have A:=(az q x).1;have B:=(az q y).1;rw[ao p C,c]at A;rw[ao p D,f]at B;have H:=(Rd.bT (show Rd _ _ _ _ from A)).1;have I:=(Rd.bT (show Rd _ _ _ _ from B)).1;refine⟨r,?_,Rd.v F,λ_ h=>h.elim⟩;have:=G w;simp only[execOp,j,H,I];rw[Sem.run_bind,this];rfl
 unfold Tj at h;split at h
 ·rename_i k a c;split at h
  ·rename_i R b f;replace h:=aM h;obtain⟨J,h⟩:=h;obtain rfl:=Mm J;have g:∀(w:World),(eqGuard op ty x y (.int k a) (.int k b)).run P w= .ok () w:=(by intro w;cases op<;>simp[eqGuard]);cases op with
   |add=>exact⟨_,h,i _ _ _ c f rfl (λw=>by simp[g w,binOp,Op.intArith])⟩
   |sub=>exact⟨_,h,i _ _ _ c f rfl (λw=>by simp[g w,binOp,Op.intArith])⟩
   |mul=>exact⟨_,h,i _ _ _ c f rfl (λw=>by simp[g w,binOp,Op.intArith])⟩
   |quo=>obtain⟨l,h⟩:=h;exact⟨_,h,i _ _ _ c f rfl (λw=>by simp[g w,binOp,Op.intDiv,l])⟩
   |rem=>obtain⟨l,h⟩:=h;exact⟨_,h,i _ _ _ c f rfl (λw=>by simp[g w,binOp,Op.intDiv,l])⟩
   |eql=>exact⟨_,h,i _ _ _ c f rfl (λw=>by simp[g w,binOp,Op.intCmp])⟩
   |neq=>exact⟨_,h,i _ _ _ c f rfl (λw=>by simp[g w,binOp,Op.intCmp])⟩
   |lss=>exact⟨_,h,i _ _ _ c f rfl (λw=>by simp[g w,binOp,Op.intCmp])⟩
   |leq=>exact⟨_,h,i _ _ _ c f rfl (λw=>by simp[g w,binOp,Op.intCmp])⟩
   |gtr=>exact⟨_,h,i _ _ _ c f rfl (λw=>by simp[g w,binOp,Op.intCmp])⟩
   |geq=>exact⟨_,h,i _ _ _ c f rfl (λw=>by simp[g w,binOp,Op.intCmp])⟩
   |_=>exact h.elim
  ·exact h.elim
 ·rename_i a c;split at h
  ·rename_i b f;have g:∀(w:World),(eqGuard op ty x y (.string a) (.string b)).run P w= .ok () w:=(by intro w;cases op<;>simp[eqGuard]);cases op with
   |eql=>exact⟨_,h,i _ _ _ c f rfl (λw=>by simp[g w,binOp,Op.stringOp])⟩
   |neq=>exact⟨_,h,i _ _ _ c f rfl (λw=>by simp[g w,binOp,Op.stringOp])⟩
   |_=>exact h.elim
  ·exact h.elim
 ·exact h.elim
theorem MQ {o:Oper} {t:Nat->TV} (f:o.op= .binOp op ty x y BY) {xs g:List SV} (A:bE t x= .d (.agg xs)) (B:bE t y= .d (.agg g)) {b:Bool} (h:xW P ty xs g b):
  (op= .eql->aI P o t m (aE b) [] [])/\(op= .neq->aI P o t m (aE (!b)) [] []):=by
 have C:x∈o.op.operands.toList:=by rw[f];simp[Op.operands]
 have D:y∈o.op.operands.toList:=by rw[f];simp[Op.operands]
 obtain⟨i,F⟩:=h;have j:∀(c:Bool),((op= .eql/\c=b)\/(op= .neq/\c=!b))->aI P o t m (aE c) [] []:=by intro c G;refine aC λE M N O a w Q k _ l=>?_;have p:=(az l x).1;have q:=(az l y).1;rw[ao k C,A]at p;rw[ao k D,B]at q;obtain⟨H,r,I⟩:=p;obtain⟨J,u,K⟩:=q;refine⟨.bool c,?_,Rd.v rfl,λ_ h=>h.elim⟩;have z:=F _ w H J I K;rcases G with⟨rfl,rfl⟩|⟨rfl,rfl⟩;simp[execOp,f,r,u,eqGuard,i,binOp,z];simp[execOp,f,r,u,eqGuard,i,binOp,z]
 exact⟨λe=>j b (.inl ⟨e,rfl⟩),λe=>j (!b) (.inr ⟨e,rfl⟩)⟩
variable {q:Bool}
theorem zr {o:Oper} {t:Nat->TV} (c:o.op= .binOp op ty x y BY) {p:Bool} (z:bE t x=aE p) (A:bE t y=aE q) (B:P.underlying ty=some .bool):
  (op= .eql->aI P o t m (aE (p==q)) [] [])/\(op= .neq->aI P o t m (aE (!(p==q))) [] []):=by
 have C:x∈o.op.operands.toList:=by rw[c];simp[Op.operands]
 have D:y∈o.op.operands.toList:=by rw[c];simp[Op.operands]
 have f:∀(b:Bool),((op= .eql/\b=(p==q))\/(op= .neq/\b=!(p==q)))->aI P o t m (aE b) [] []:=by intro b F;refine aC λE G H I a w J g _ i=>?_;have j:=(az i x).1;have k:=(az i y).1;rw[ao g C,z]at j;rw[ao g D,A]at k;have l:=(Rd.bT (show Rd _ _ _ _ from j)).1;have r:=(Rd.bT (show Rd _ _ _ _ from k)).1;refine⟨.bool b,?_,Rd.v rfl,λ_ h=>h.elim⟩;have u:(Op.equal ty (.bool p) (.bool q)).run P w= .ok (p==q) w:=(by unfold Op.equal Op.maxDepth;exact run_equalIn_bool w 9999 ty p q B);rcases F with⟨rfl,rfl⟩|⟨rfl,rfl⟩;simp[execOp,c,l,r,eqGuard,binOp,u];simp[execOp,c,l,r,eqGuard,binOp,u]
 exact⟨λe=>f _ (.inl ⟨e,rfl⟩),λe=>f _ (.inr ⟨e,rfl⟩)⟩
theorem kZ {o:Oper} {t:Nat->TV} (c:x∈o.op.operands.toList) {u r:Value} (f:bE t x= .d (.one (.v u))) (g:r.oneCell'=true)
  (i:∀(a:Act) (w:World),a.eval x=u->(execOp a.eval o).run P w= .ok (.value r) w):aI P o t m (.d (.one (.v r))) [] []:=by
 refine aC λE p q y a w z j _ k=>?_;have b:=(az k x).1;rw[ao j c,f]at b;have l:=(Rd.bT (show Rd _ _ _ _ from b)).1;exact⟨r,i a w l,Rd.v g,λ_ h=>h.elim⟩
theorem tF {o:Oper} {t:Nat->TV} (b:o.op= .move x\/o.op= .assign x):aI P o t m (bE t x) [] []:=by
 refine aC λE h i j a w k f _ g=>?_;have c:=az g x;rw[ao f (by rcases b with b|b<;>rw[b]<;>simp[Op.operands])]at c;refine⟨a.eval x,?_,c⟩;rcases b with b|b<;>simp[execOp,b]
theorem tE {o:Oper} {t:Nat->TV} {c:Operand} (b:o.op= .pick c x y) (k:bE t c=aE q):aI P o t m (bif q then bE t x else bE t y) [] []:=by
 refine aC λE p r u a w z g _ f=>?_;have h:=(az f c).1;rw[ao g (by rw[b];simp[Op.operands]),k]at h;have l:=(Rd.bT (show Rd _ _ _ _ from h)).1;have i:=az f x;have j:=az f y;rw[ao g (by rw[b];simp[Op.operands])]at i j;refine⟨if q then a.eval x else a.eval y,?_,?_⟩;simp[execOp,b,l,asBool];cases q;exact j;exact i
theorem ey (b off n:Nat):(⟨b,off,none⟩:Addr).add n=⟨b,off+n,none⟩:=by
 unfold Addr.add;split<;>simp_all
theorem vW {o:Oper} {t:Nat->TV} {i:Nat} (b:o.op= .extract x i) {xs:List DV} (f:bE t x= .eD xs) {v:DV} (g:xs[i]? =some v):aI P o t m (.d v) [] []:=by
 refine aC λE y z A a w B j _ k=>?_;have c:=(az k x).1;rw[ao j (by rw[b];simp[Op.operands]),f]at c;obtain⟨C,l,p⟩:=c;obtain⟨u,q,r⟩:=p.get i v g;exact⟨u,by simp[execOp,b,l,Instr.extract,q],r,λ_ h=>h.elim⟩
variable {w:World}
theorem wi (b off:Nat) (f:Field) (h:0<P.cellsOf f.type):(fieldPlace ⟨b,off,none⟩ f).run P w= .ok ⟨b,off+f.offset,none⟩ w:=by
 unfold Program.cellsOf at h;cases a:P.info? f.type with
 |none=>simp[a]at h
 |some i=>simp[a]at h;have c:i.size≠0:=(by omega);simp[fieldPlace,sizeOf,typeInfo,a,c,ey]
variable {T:Ty} {ft size:Nat}
theorem Cq (j:cO P ty T) {g:List (Nat×TypeId×Nat)} (k:T.kind= .str g) {f off:Nat} (l:g[f]? =some (off,ft,size)) (hs:0<size) (w:World) (b p:Nat):
  (Instr.fieldAt ty (.pointer (some ⟨b,p,none⟩)) f).run P w= .ok (.pointer (some ⟨b,p+off,none⟩)) w:=by
 have h:=j.kind;rw[k]at h;obtain⟨F,m,o,_⟩:=h;have a:(F.toList.map (λf=>(f.offset,f.type,P.cellsOf f.type)))[f]? =some (off,ft,size):=by rw[o];exact l
 rw[ZA]at a;cases c:F.toList[f]? with
 |none=>simp[c]at a
 |some i=>simp[c]at a;obtain⟨q,x,r⟩:=a;have t:=wi (P:=P) (w:=w) b p i (by rw[r];exact hs);have u:F[f]? =some i:=(by simpa using c);simp[Instr.fieldAt,run_underlying m,u,Instr.sureAddr,t,q]
theorem sm {o:Oper} {t:Nat->TV} {TT:iw} (O:cG P TT) (Q:TT ty=some T) {H:List (Nat×TypeId×Nat)} (R:T.kind= .str H) {f off:Nat} (S:H[f]? =some (off,ft,size)) (hs:0<size) (I:o.op= .fieldAddr ty x f):
  (∀b p,bE t x= .ptr b p->(m b).dr=true->aI P o t m (.ptr b (p+off)) [] [b.key])/\
  (∀b g i p n k,bE t x= .ep b g i p->(m b).bF=some (g,n,k)->aI P o t m (.ep b g i (p+off)) [] [b.key])/\
  (∀n D,bE t x= .d (.one (.ad n D))->aI P o t m (.d (.one (.ad (n-off) λj=>D (off+j)))) [] []):=by
 have F:x∈o.op.operands.toList:=by rw[I];simp[Op.operands]
 have U:=O ty T Q;have G:∀(a:Act) (w:World) (b p:Nat),a.eval x= .pointer (some ⟨b,p,none⟩)->(execOp a.eval o).run P w= .ok (.value (.pointer (some ⟨b,p+off,none⟩))) w:=by intro a w b p r;simp[execOp,I,r,Cq U R S hs w b p]
 refine⟨λb p r q=>?_,λb g i p n k r q=>?_,λn D r=>?_⟩;refine aC λE J K M a w N u C y=>?_;have l:=(az y x).1;rw[ao u F,r]at l;rw[<-C.at b]at q;simp only[dj]at l;rw[bO q]at l;obtain⟨z,c,A,B⟩:=l;exact⟨_,G a w z p B,by simp only[dj];rw[bO q];exact⟨z,c,A,rfl⟩,λ_ h=>by cases h;intro e;rw[e]at q;simp[Mem.dr]at q⟩;refine aC λE J K M a w N u C y=>?_;have l:=(az y x).1;rw[ao u F,r]at l;rw[<-C.at b]at q;rw[dq q]at l;obtain⟨V,z,c,A,B⟩:=l.2 rfl;refine⟨_,G a w z _ B,?_,λ_ h=>by cases h;exact(cM q).2⟩;rw[dq q];exact⟨XU _,λ_=>⟨V,z,c,A,by rw[YE]⟩⟩;refine aC λE J K M a w N u C y=>?_;have l:=(az y x).1;rw[ao u F,r]at l;obtain⟨b,p,X,A,B,Y,Z⟩:=Rd.mD (show Rd _ _ _ _ from l);refine⟨_,G a w b p A,Rd.ad (λj=>X (off+j)) B (λj a0=>?_) (λj a0=>Z _ (by omega)),λ_ h=>h.elim⟩;rw[YE];exact Y _ (by omega)
theorem wh (a:cO P ty T) (w:World) (xs:List Value) (off:Nat) (h:off+T.size<=xs.length) (f:T.kind.isAgg=false->T.size=1):
  (part ty xs.toArray off).run P w= .ok (pack T.kind.isAgg ((xs.drop off).take T.size)) w:=by
 cases b:T.kind.isAgg with
 |true=>simp[part,ml a,b,bQ a,pack]
 |false=>have g:=f b;have c:off<xs.length:=(by omega);have i:(xs.drop off).take 1=[xs[off]]:=(by rw[Y8 c];rfl);simp[part,ml a,b,pack,g,c,i]
theorem Am {o:Oper} {t:Nat->TV} {TT:iw} (g:cG P TT) (q:TT ty=some T) {i:List (Nat×TypeId×Nat)} (r:T.kind= .str i) {f off:Nat} (u:i[f]? =some (off,ft,size)) {TF:Ty} (A:TT ft=some TF) (B:TF.size=size) (j:o.op= .field ty x f)
  {cs:List SV} (C:bE t x= .d (.agg cs)) (Z:off+size<=cs.length) {K:TV->Prop} (h:mZ TF ((cs.drop off).take size) K):∃z,K z/\aI P o t m z [] []:=by
 have D:x∈o.op.operands.toList:=by rw[j];simp[Op.operands]
 have G:=g ty T q;obtain⟨y,hK,H,I⟩:=js h;refine⟨_,hK,aC λE ρ a1 a2 a w a3 J _ M=>?_⟩;have k:=(az M x).1;rw[ao J D,C]at k;obtain⟨N,O,l⟩:=k;have a4:=l.length;have p:=G.kind;rw[r]at p;obtain⟨F,Q,R,_⟩:=p;have b:(F.toList.map (λf=>(f.offset,f.type,P.cellsOf f.type)))[f]? =some (off,ft,size):=by rw[R];exact u
 rw[ZA]at b;cases c:F.toList[f]? with
 |none=>simp[c]at b
 |some S=>simp[c]at b;obtain⟨U,V,a5⟩:=b;have X:F[f]? =some S:=(by simpa using c);subst B;have Y:=wh (P:=P) (g ft TF A) w N off (by omega) (λe=>by have:=H e;simp at this;omega);refine⟨_,?_,I _ w _ ((l.drop off).take TF.size),λ_ h=>h.elim⟩;simp[execOp,j,O,Instr.field,run_underlying Q,X,asAgg,U,V,Y]
variable {e:Nat} {TE:Ty} {i:Operand}
theorem Al {o:Oper} {t:Nat->TV} {TT:iw} (b:cG P TT) (u:TT ty=some T) {len:Nat} (A:T.kind= .arr len e) (f:TT e=some TE) (c:o.op= .index ty x i)
  {cs:List SV} (B:bE t x= .d (.agg cs)) {k:IntKind} {n:Int} (hi:bE t i= .d (.one (.v (.int k n)))) (g:0<=n/\n<len/\n.toNat*TE.size+TE.size<=cs.length) {K:TV->Prop} (h:mZ TE ((cs.drop (n.toNat*TE.size)).take TE.size) K):∃z,K z/\aI P o t m z [] []:=by
 have C:x∈o.op.operands.toList:=by rw[c];simp[Op.operands]
 have D:i∈o.op.operands.toList:=by rw[c];simp[Op.operands]
 have F:=b ty T u;obtain⟨y,hK,G,H⟩:=js h;refine⟨_,hK,aC λE Q R S a w U j _ l=>?_⟩;have p:=(az l x).1;have q:=(az l i).1;rw[ao j C,B]at p;rw[ao j D,hi]at q;have I:=(Rd.bT (show Rd _ _ _ _ from q)).1;obtain⟨J,M,r⟩:=p;have V:=r.length;have N:P.underlying ty=some (.array len e):=by have:=F.kind;rw[A]at this;exact this
 have O:=wh (P:=P) (b e TE f) w J (n.toNat*TE.size) (by omega) (λe=>by have:=G e;simp at this;omega);refine⟨_,?_,H _ w _ ((r.drop _).take TE.size),λ_ h=>h.elim⟩;simp[execOp,c,M,I,Instr.index,asIntOf,run_underlying N,g.1,g.2.1,bQ (b e TE f),O]
theorem dI {o:Oper} {t:Nat->TV} {TT:iw} (O:cG P TT) (Z:TT ty=some T) {len:Nat} (a0:T.kind= .arr len e) (a1:TT e=some TE) (H:o.op= .indexAddr ty x i)
  {k:IntKind} {n:Int} (hi:bE t i= .d (.one (.v (.int k n)))) (Q:0<=n/\n<len):
  (∀b p,bE t x= .ptr b p->(m b).dr=true->aI P o t m (.ptr b (p+n.toNat*TE.size)) [] [b.key])/\
  (∀b g r p R S,bE t x= .ep b g r p->(m b).bF=some (g,R,S)->aI P o t m (.ep b g r (p+n.toNat*TE.size)) [] [b.key])/\
  (∀q I J,bE t x= .d (.one (.ad q I))->J<=q-n.toNat*TE.size->aI P o t m (.d (.one (.ad J λj=>I (n.toNat*TE.size+j)))) [] []):=by
 have K:x∈o.op.operands.toList:=by rw[H];simp[Op.operands]
 have M:i∈o.op.operands.toList:=by rw[H];simp[Op.operands]
 have a2:=O ty T Z;have a3:P.underlying ty=some (.array len e):=by have:=a2.kind;rw[a0]at this;exact this
 have N:∀(a:Act) (w:World) (b p:Nat),a.eval x= .pointer (some ⟨b,p,none⟩)->a.eval i= .int k n->(execOp a.eval o).run P w= .ok (.value (.pointer (some ⟨b,p+n.toNat*TE.size,none⟩))) w:=by intro a w b p A hi;simp[execOp,H,A,hi,Instr.indexAt,asIntOf,run_underlying a3,Instr.sureAddr,Q.1,Q.2,bQ (O e TE a1),ey]
 refine⟨λb p A l=>?_,λb g r p R S A l=>?_,λq I J A a9=>?_⟩;refine aC λE U V X a w Y u G y=>?_;have f:=(az y x).1;have z:=(az y i).1;rw[ao u K,A]at f;rw[ao u M,hi]at z;have B:=(Rd.bT (show Rd _ _ _ _ from z)).1;rw[<-G.at b]at l;simp only[dj]at f;rw[bO l]at f;obtain⟨C,c,D,F⟩:=f;exact⟨_,N a w C p F B,by simp only[dj];rw[bO l];exact⟨C,c,D,rfl⟩,λ_ h=>by cases h;intro e;rw[e]at l;simp[Mem.dr]at l⟩;refine aC λE U V X a w Y u G y=>?_;have f:=(az y x).1;have z:=(az y i).1;rw[ao u K,A]at f;rw[ao u M,hi]at z;have B:=(Rd.bT (show Rd _ _ _ _ from z)).1;rw[<-G.at b]at l;rw[dq l]at f;obtain⟨a4,C,c,D,F⟩:=f.2 rfl;refine⟨_,N a w C _ F B,?_,λ_ h=>by cases h;exact(cM l).2⟩;rw[dq l];exact⟨XU _,λ_=>⟨a4,C,c,D,by rw[YE]⟩⟩;refine aC λE U V X a w Y u G y=>?_;have f:=(az y x).1;have z:=(az y i).1;rw[ao u K,A]at f;rw[ao u M,hi]at z;have B:=(Rd.bT (show Rd _ _ _ _ from z)).1;obtain⟨b,p,a5,D,F,a6,a7⟩:=Rd.mD (show Rd _ _ _ _ from f);refine⟨_,N a w b p D B,Rd.ad (λj=>a5 (n.toNat*TE.size+j)) F (λj a8=>?_) (λj a8=>a7 _ (by omega)),λ_ h=>h.elim⟩;rw[YE];exact a6 _ (by omega)
theorem fA {o:Oper} {t:Nat->TV} {TT:iw} (U:cG P TT) (a1:TT ty=some T) (a2:T.kind= .jz e) (a3:TT e=some TE) (K:o.op= .indexAddr ty x i)
  {V:IntKind} {q:Int} (hi:bE t i= .d (.one (.v (.int V q)))):
  (∀n k M,bE t x= .d (.one (.sl n k M))->k=TE.size->0<=q->q<n->aI P o t m (.d (.one (.ad k (M q.toNat)))) [] [])/\
  (∀b g n k,bE t x= .aJ b g->(m b).bF=some (g,n,k)->k=TE.size->0<=q->q<n->aI P o t m (.ep b g q.toNat 0) [] [b.key])/\
  (∀b g lo I n k,bE t x= .sub b g lo I->(m b).bF=some (g,n,k)->k=TE.size->0<=q->q<I->aI P o t m (.ep b g (lo+q.toNat) 0) [] [b.key]):=by
 have N:x∈o.op.operands.toList:=by rw[K];simp[Op.operands]
 have O:i∈o.op.operands.toList:=by rw[K];simp[Op.operands]
 have a4:=U ty T a1;have a5:P.underlying ty=some (.slice e):=by have:=a4.kind;rw[a2]at this;exact this
 have Q:∀(a:Act) (w:World) (b p n c:Nat),a.eval x= .slice (some ⟨b,p,none⟩) n c->a.eval i= .int V q->0<=q->q<n->(execOp a.eval o).run P w= .ok (.value (.pointer (some ⟨b,p+q.toNat*TE.size,none⟩))) w:=by intro a w b p n c z hi A f;simp[execOp,K,z,hi,Instr.indexAt,asIntOf,run_underlying a5,A,f,bQ (U e TE a3),ey]
 refine⟨λn k M z C A D=>?_,λb g n k z l C A D=>?_,λb g lo I n k z l C A D=>?_⟩;refine aC λE X Y Z a w a0 u J r=>?_;have f:=(az r x).1;have y:=(az r i).1;rw[ao u N,z]at f;rw[ao u O,hi]at y;have F:=(Rd.bT (show Rd _ _ _ _ from y)).1;rcases Rd.nV (show Rd _ _ _ _ from f)with⟨_,a6⟩|⟨_,_,_,a6⟩|⟨b,a7,cap,a8,a9,b0,b5,b6,b1,b2⟩;omega;omega;refine⟨_,Q a w b a7 n cap a9 F A D,Rd.ad (a8 q.toNat) b0 (λj R=>?_) (λj R=>b2 q.toNat (by omega) j R),λ_ h=>h.elim⟩;rw[YE,<-C];exact b1 q.toNat (by omega) j R;refine aC λE X Y Z a w a0 u J r=>?_;have f:=(az r x).1;have y:=(az r i).1;rw[ao u N,z]at f;rw[ao u O,hi]at y;have F:=(Rd.bT (show Rd _ _ _ _ from y)).1;rw[<-J.at b]at l;simp only[dj]at f;rw[br l]at f;have B:=f.2.2 rfl;rcases jI l (r.mem b)with⟨_,b3⟩|⟨G,cap,b4,_,H,_⟩;omega;simp only[cu,H]at B;refine⟨_,Q a w G 0 n cap B F A D,?_,λ_ h=>by cases h;exact(cM l).2⟩;rw[dq l];exact⟨XU _,λ_=>⟨by omega,G,cap,H,by rw[<-C];simp⟩⟩;refine aC λE X Y Z a w a0 u J r=>?_;have f:=(az r x).1;have y:=(az r i).1;rw[ao u N,z]at f;rw[ao u O,hi]at y;have F:=(Rd.bT (show Rd _ _ _ _ from y)).1;rw[<-J.at b]at l;simp only[dj]at f;rw[dk l]at f;obtain⟨b7,B⟩:=f.2.2 rfl;rcases jI l (r.mem b)with⟨_,b3⟩|⟨G,cap,b4,_,H,_,_,b8,_⟩;omega;simp only[hC,H]at B;obtain⟨b9,B,S⟩:=B;have S:=S (.inl (by omega));subst S;refine⟨_,Q a w G (lo*k) I (cap-lo) B F A D,?_,λ_ h=>by cases h;exact(cM l).2⟩;rw[dq l];exact⟨XU _,λ_=>⟨by omega,G,cap,H,by rw[<-C,Yq,YG]⟩⟩
theorem Aj {o:Oper} {t:Nat->TV} {TT:iw} (F:cG P TT) (b5:TT ty=some T) (b6:T.kind= .jz e) {lo hi:Option Operand} (A:o.op= .slice ty x lo hi none) (Q:TT e=some TE) (h:EL TE.size (bE t x) t lo hi K):∃z,K z/\aI P o t m z [] []:=by
 have a6:x∈o.op.operands.toList:=by rw[A];simp[Op.operands]
 have b7:=F ty T b5;have R:P.underlying ty=some (.slice e):=by have:=b7.kind;rw[b6]at this;exact this
 have S:∀(d:Nat) (b:Option Operand) (K:Nat->Int->Prop),(∀y,b=some y->y∈o.op.operands.toList)->uE t d b K->∃(n:Nat) (z:Int),K n z/\n=z.toNat/\(b=none->z=d)/\
   ∀(E:Env) (q:Id->Option (Nat×Nat)) (f:Nat->TV) (r:Id->Mem) (a:Act) (w:World),eV o t f->Rel E q f r a w->∀y,b=some y->∃k,a.eval y= .int k z:=by
  intro d b K b8 G;cases b with
  |none=>exact⟨d,d,G,by simp,λ_=>rfl,λ_ _ _ _ _ _ _ _ y c=>by cases c⟩
  |some y=>simp only[uE,mN]at G;split at G;rename_i k z c;refine⟨z.toNat,z,G,rfl,(λe=>by cases e),λE q f r a w g l d3 b9=>?_⟩;cases b9;have u:=(az l y).1;rw[ao g (b8 y rfl),c]at u;exact⟨k,(Rd.bT (show Rd _ _ _ _ from u)).1⟩;exact G.elim
 have a7:∀y,lo=some y->y∈o.op.operands.toList:=by intro y c;rw[A,c];simp[Op.operands]
 have a8:∀y,hi=some y->y∈o.op.operands.toList:=by intro y c;rw[A,c];simp[Op.operands]
 unfold EL at h;split at h
 ·rename_i n k d4 V;replace h:=aM h;obtain⟨X,h⟩:=h;have X:=XE X;obtain⟨p,hz,h,a9,b0,Y⟩:=S n hi _ a8 h;obtain⟨ll,lz,h,b1,Z,a0⟩:=S 0 lo _ a7 h;obtain⟨⟨a1,b2,d5⟩,h⟩:=h;refine⟨_,h,aC λE q f r a w c0 g c1 l=>?_⟩;have u:=(az l x).1;rw[ao g a6,V]at u;have H:∀cap,n<=cap->(Instr.sliceBounds true n cap (lo.map a.eval) (hi.map a.eval) none).run P w= .ok (ll,p,cap) w:=by
   intro cap d6;have I:∀y,hi=some y->(Instr.sliceBound (a.eval y) cap .sliceAcap).run P w= .ok p w:=(by intro y c;obtain⟨a2,B⟩:=Y E q f r a w g l y c;have c2:0<=hz:=(by omega);have a3:hz<=(cap:Int):=(by omega);simp[Instr.sliceBound,B,asIntOf,c2,a3,a9]);have J:∀y,lo=some y->(Instr.sliceBound (a.eval y) p .sliceB).run P w= .ok ll w:=(by intro y c;obtain⟨a2,B⟩:=a0 E q f r a w g l y c;have a3:lz<=(p:Int):=(by omega);simp[Instr.sliceBound,B,asIntOf,a1,a3,b1]);cases hi with
   |none=>
    have d7:=b0 rfl;have c3:p=n:=(by omega);subst c3;cases lo with
    |none=>have:=Z rfl;have:ll=0:=(by omega);subst this;simp[Instr.sliceBounds]
    |some y=>simp[Instr.sliceBounds,J y rfl]
   |some M=>
    cases lo with
    |none=>have:=Z rfl;have:ll=0:=(by omega);subst this;simp[Instr.sliceBounds,I M rfl]
    |some y=>simp[Instr.sliceBounds,I M rfl,J y rfl]
  rcases Rd.nV (show Rd _ _ _ _ from u)with⟨C,a4⟩|⟨b3,cap,C,a4⟩|⟨b,b4,cap,c4,C,c5,c6,d8,c7,c8⟩
  rotate_left
  ·have D:=H cap (by omega);rw[a4]at D;have N:ll=0:=(by omega);have O:p=0:=(by omega);refine⟨.slice (some b3) 0 cap,?_,?_,λ_ h=>h.elim⟩;simp[execOp,A,C,Instr.sliceAt,Instr.slice,run_underlying R,D,bQ (F e TE Q),N,O,Addr.add];show Rd _ _ _ _;rw[N,O];exact Rd.emp b3 cap k _
  rotate_left
  ·have D:=H 0 (by omega);rw[a4]at D;have N:ll=0:=(by omega);have O:p=0:=(by omega);refine⟨.slice none 0 0,?_,?_,λ_ h=>h.elim⟩;simp[execOp,A,C,Instr.sliceAt,Instr.slice,run_underlying R,D,bQ (F e TE Q),N,O];show Rd _ _ _ _;rw[N,O];exact Rd.nil k _
  ·have D:=H cap c6;refine⟨.slice (some ⟨b,if cap=ll then b4 else b4+ll*TE.size,none⟩) (p-ll) (cap-ll),?_,?_,λ_ h=>h.elim⟩;simp[execOp,A,C,Instr.sliceAt,Instr.slice,run_underlying R,D,bQ (F e TE Q)];by_cases U:cap=ll;simp[U];simp[U,ey];show Rd _ _ _ _;refine Rd.sl (λi j=>c4 (ll+i) j) c5 (by omega) (by omega) (λi c9 j a5=>?_) (λi c9 j a5=>c8 (ll+i) (by omega) j a5);have U:cap≠ll:=(by omega);rw[XG U,YE,<-X,<-YE (ll*k),<-Yq];exact c7 (ll+i) (by omega) j a5
 ·rename_i V;obtain⟨p,hz,d0,a9,b0,Y⟩:=S 0 hi _ a8 h;obtain⟨ll,lz,d1,b1,Z,a0⟩:=S 0 lo _ a7 d0;obtain⟨⟨a1,b2⟩,d2⟩:=d1;subst a1;subst b2;refine⟨_,d2,aC λE q f r a w c0 g c1 l=>?_⟩;have u:=(az l x).1;rw[ao g a6,V]at u;have C:=(Rd.bT (show Rd _ _ _ _ from u)).1;have H:(Instr.sliceBounds true 0 0 (lo.map a.eval) (hi.map a.eval) none).run P w= .ok (0,0,0) w:=by
   have I:∀y,hi=some y->(Instr.sliceBound (a.eval y) 0 .sliceAcap).run P w= .ok 0 w:=(by intro y c;obtain⟨a2,B⟩:=Y E q f r a w g l y c;simp[Instr.sliceBound,B,asIntOf]);have J:∀y,lo=some y->(Instr.sliceBound (a.eval y) 0 .sliceB).run P w= .ok 0 w:=(by intro y c;obtain⟨a2,B⟩:=a0 E q f r a w g l y c;simp[Instr.sliceBound,B,asIntOf]);cases hi with
   |none=>cases lo with
    |none=>simp[Instr.sliceBounds]
    |some y=>simp[Instr.sliceBounds,J y rfl]
   |some M=>cases lo with
    |none=>simp[Instr.sliceBounds,I M rfl]
    |some y=>simp[Instr.sliceBounds,I M rfl,J y rfl]
  refine⟨.slice none 0 0,?_,Rd.v rfl,λ_ h=>h.elim⟩;simp[execOp,A,C,Instr.sliceAt,Instr.slice,run_underlying R,H,bQ (F e TE Q)]
 ·exact h.elim
variable {cap ll:Nat} {lo:Option Value} {hz lz:Int}
theorem xI {n:Nat} {hi:Option Value} {a:Nat} (j:ll=lz.toNat) (l:a=hz.toNat) (m:∀y,lo=some y->∃k,y= .int k lz) (o:∀y,hi=some y->∃k,y= .int k hz)
  (f:lo=none->lz=0) (p:hi=none->hz=n) (q:0<=lz) (A:lz<=hz) (r:hz<=cap:=by omega):(Instr.sliceBounds true n cap lo hi none).run P w= .ok (ll,a,cap) w:=by
 have g:∀y,hi=some y->(Instr.sliceBound y cap .sliceAcap).run P w= .ok a w:=by intro y b;obtain⟨t,c⟩:=o y b;have u:0<=hz:=(by omega);simp[Instr.sliceBound,c,asIntOf,u,r,l]
 have h:∀y,lo=some y->(Instr.sliceBound y a .sliceB).run P w= .ok ll w:=by intro y b;obtain⟨t,c⟩:=m y b;have x:lz<=(a:Int):=(by omega);simp[Instr.sliceBound,c,asIntOf,q,x,j]
 cases hi with
 |none=>
  have B:=p rfl;have z:a=n:=(by omega);subst z;cases lo with
  |none=>have:=f rfl;have:ll=0:=(by omega);subst this;simp[Instr.sliceBounds]
  |some y=>simp[Instr.sliceBounds,h y rfl]
 |some i=>
  cases lo with
  |none=>have:=f rfl;have:ll=0:=(by omega);subst this;simp[Instr.sliceBounds,g i rfl]
  |some y=>simp[Instr.sliceBounds,g i rfl,h y rfl]
theorem D0 {n:Nat} {hi mx:Value} {mz:Int} (g:ll=lz.toNat) (h:∀y,lo=some y->∃k,y= .int k lz) (i:∃k,hi= .int k hz) (j:∃k,mx= .int k mz)
  (l:lo=none->lz=0) (m:0<=lz) (p:lz<=hz) (q:hz<=mz) (b:mz<=cap:=by omega):(Instr.sliceBounds true n cap lo (some hi) (some mx)).run P w= .ok (ll,hz.toNat,mz.toNat) w:=by
 obtain⟨r,rfl⟩:=i;obtain⟨t,rfl⟩:=j;have c:0<=hz:=by omega
 have f:0<=mz:=by omega
 have u:hz<=(mz.toNat:Int):=by omega
 have x:lz<=(hz.toNat:Int):=by omega
 cases lo with
 |none=>have:=l rfl;have:ll=0:=(by omega);subst this;have a:hz<=max mz 0:=(by omega);simp[Instr.sliceBounds,Instr.sliceBound,asIntOf,c,f,a,b]
 |some y=>obtain⟨z,rfl⟩:=h y rfl;have a:hz<=max mz 0:=(by omega);have o:lz<=max hz 0:=(by omega);simp[Instr.sliceBounds,Instr.sliceBound,asIntOf,c,f,a,o,m,b,g]
theorem AP {o:Oper} {t:Nat->TV} (d:Nat) (b:Option Operand) {K:Nat->Int->Prop} (l:∀y,b=some y->y∈o.op.operands.toList) (c:uE t d b K):∃(n:Nat) (z:Int),K n z/\n=z.toNat/\(b=none->z=d)/\
  ∀(E:Env) (h:Id->Option (Nat×Nat)) (f:Nat->TV) (i:Id->Mem) (a:Act) (w:World),eV o t f->Rel E h f i a w->∀y,b.map a.eval=some y->∃k,y= .int k z:=by
 cases b with
 |none=>exact⟨d,d,c,by simp,λ_=>rfl,λ_ _ _ _ _ _ _ _ y g=>by cases g⟩
 |some y=>simp only[uE,mN]at c;split at c;rename_i k z g;refine⟨z.toNat,z,c,rfl,(λe=>by cases e),λE h f i a w m p r q=>?_⟩;cases q;have j:=(az p y).1;rw[ao m (l y rfl),g]at j;exact⟨k,(Rd.bT (show Rd _ _ _ _ from j)).1⟩;exact c.elim
theorem zM {o:Oper} {t:Nat->TV} {b:Operand} {K:Nat->Int->Prop} (j:b∈o.op.operands.toList) (c:mN (bE t b) K):∃(n:Nat) (z:Int),K n z/\
  ∀(E:Env) (g:Id->Option (Nat×Nat)) (f:Nat->TV) (h:Id->Mem) (a:Act) (w:World),eV o t f->Rel E g f h a w->∃k,a.eval b= .int k z:=by
 unfold mN at c;split at c;rename_i k z l;refine⟨z.toNat,z,c,λE g f h a w m p=>?_⟩;have i:=(az p b).1;rw[ao m j,l]at i;exact⟨k,(Rd.bT (show Rd _ _ _ _ from i)).1⟩;exact c.elim
theorem A6 {o:Oper} {t:Nat->TV} (F:x∈o.op.operands.toList) {K:Nat->List Nat->Prop} (h:w7 m (bE t x) K):∃n M,K n M/\
  ∀(E:Env) (u:Id->Option (Nat×Nat)) (l:Nat->TV) (p:Id->Mem) (a:Act) (w:World),eV o t l->gO M m p->Rel E u l p a w->∃q cap,a.eval x= .slice q n cap/\n<=cap/\(q=none->n=0):=by
 have N:∀b g c n k,bE t x= .aJ b g->(m b).bF=some (c,n,k)->g=c->∀(E:Env) (u:Id->Option (Nat×Nat)) (l:Nat->TV) (p:Id->Mem) (a:Act) (w:World),eV o t l->gO [b.key] m p->Rel E u l p a w->∃q cap,a.eval x= .slice q n cap/\n<=cap/\(q=none->n=0):=by intro b g c n k j f H E u l p a w z I y;have i:=(az y x).1;rw[ao z F,j]at i;rw[<-I.at b]at f;simp only[dj]at i;rw[br f]at i;have r:=i.2.2 H;rcases jI f (y.mem b)with⟨A,O⟩|⟨R,cap,S,_,A,_,_,P,_⟩;simp only[cu,A]at r;subst O;exact⟨none,0,r,XU _,λ_=>rfl⟩;simp only[cu,A]at r;exact⟨_,cap,r,P,λe=>by simp at e⟩
 have Q:∀b g c lo n C k,bE t x= .sub b g lo n->(m b).bF=some (c,C,k)->g=c->∀(E:Env) (u:Id->Option (Nat×Nat)) (l:Nat->TV) (p:Id->Mem) (a:Act) (w:World),eV o t l->gO [b.key] m p->Rel E u l p a w->∃q cap,a.eval x= .slice q n cap/\n<=cap/\(q=none->n=0):=by intro b g c lo n C k j f H E u l p a w z I y;have i:=(az y x).1;rw[ao z F,j]at i;rw[<-I.at b]at f;simp only[dj]at i;rw[dk f]at i;obtain⟨U,r⟩:=i.2.2 H;rcases jI f (y.mem b)with⟨A,O⟩|⟨R,cap,S,_,A,_,_,P,_⟩;simp only[hC,A]at r;have:n=0:=(by omega);subst this;exact⟨none,0,r,XU _,λ_=>rfl⟩;simp only[hC,A]at r;obtain⟨q,r,_⟩:=r;exact⟨_,_,r,by omega,λe=>by simp at e⟩
 unfold w7 at h;split at h;rename_i n k G j;refine⟨_,_,h,λE u l p a w z _ y=>?_⟩;have i:=(az y x).1;rw[ao z F,j]at i;rcases Rd.nV (show Rd _ _ _ _ from i)with⟨D,J⟩|⟨q,cap,D,J⟩|⟨b,V,cap,X,D,Y,T,_⟩;subst J;exact⟨none,0,D,XU _,λ_=>rfl⟩;subst J;exact⟨some q,cap,D,XR _,λ_=>rfl⟩;exact⟨_,cap,D,T,λe=>by simp at e⟩;rename_i j;refine⟨_,_,h,λE u l p a w z _ y=>?_⟩;have i:=(az y x).1;rw[ao z F,j]at i;exact⟨none,0,(Rd.bT (show Rd _ _ _ _ from i)).1,XU _,λ_=>rfl⟩;rename_i b g j;replace h:=bk h;split at h;rename_i c n k e G f;replace h:=aM h;obtain⟨B,h⟩:=h;exact⟨_,_,h,N b g c n k j (by rw[f];rfl) (XE B)⟩;rename_i c n k e G f;replace h:=aM h;obtain⟨B,h⟩:=h;exact⟨_,_,h,N b g c n k j (by rw[f];rfl) (XE B)⟩;exact h.elim;rename_i b g lo n j;replace h:=bk h;split at h;rename_i c C k e G f;replace h:=aM h;obtain⟨B,h⟩:=h;exact⟨_,_,h,Q b g c lo n C k j (by rw[f];rfl) (XE B)⟩;rename_i c C k e G f;replace h:=aM h;obtain⟨B,h⟩:=h;exact⟨_,_,h,Q b g c lo n C k j (by rw[f];rfl) (XE B)⟩;exact h.elim;exact h.elim
theorem x2 {o:Oper} {t:Nat->TV} {TT:iw} (l:cG P TT) (B:TT ty=some T) (C:T.kind= .jz e) (D:TT e=some TE) {hi mx:Operand} {lo:Option Operand} (b:o.op= .slice ty x lo (some hi) (some mx)) {K:fa}
  (h:w7 m (bE t x) λn c=>uE t 0 lo λ_ p=>mN (bE t hi) λ_ q=>mN (bE t mx) λ_ r=>ak (0<=p/\p<=q/\q<=r/\r<=n) (K .any [] c)):∃z u c,K z u c/\aI P o t m z u c:=by
 have F:x∈o.op.operands.toList:=by rw[b];simp[Op.operands]
 have G:P.underlying ty=some (.slice e):=by have:=(l ty T B).kind;rw[C]at this;exact this
 obtain⟨n,c,h,H⟩:=A6 F h;obtain⟨ll,lz,h,I,J,M⟩:=AP (o:=o) 0 lo (by intro y N;rw[b,N];simp[Op.operands]) h;obtain⟨Z,hz,h,O⟩:=zM (o:=o) (by rw[b];simp[Op.operands]) h;obtain⟨a0,mz,h,Q⟩:=zM (o:=o) (by rw[b];simp[Op.operands]) h;obtain⟨⟨R,S,U,a1⟩,h⟩:=h;refine⟨_,_,_,h,aC λE f g i a w a2 j V k=>?_⟩;obtain⟨A,cap,X,a3,_⟩:=H E f g i a w j V k;have Y:=D0 (P:=P) (w:=w) (n:=n) (cap:=cap) (lo:=lo.map a.eval) (hi:=a.eval hi) (mx:=a.eval mx) I (M E f g i a w j k) (O E f g i a w j k) (Q E f g i a w j k) (λe=>by cases lo with|none=>exact J rfl|some y=>cases e) R S U;refine⟨.slice (if mz.toNat=ll then A else A.map (·.add (ll*TE.size))) (hz.toNat-ll) (mz.toNat-ll),?_,trivial,λ_ h=>h.elim⟩;simp[execOp,b,X,Instr.sliceAt,Instr.slice,run_underlying G,Y,bQ (l e TE D)]
theorem uz (w:World) (d:Nat) {e:TypeId} (b:P.underlying ty=some (.slice e)) (a:Option Addr) (n cap:Nat):(Op.equalIn (d+1) ty (.slice a n cap) (.slice none 0 0)).run P w= .ok a.isNone w:=by
 cases a with
 |none=>simp[Op.equalIn,run_underlying b]
 |some a=>simp[Op.equalIn,run_underlying b]
variable {neg:Bool}
theorem qO {o:Oper} {t:Nat->TV} {TT:iw} (r:cG P TT) (u:TT ty=some T) (A:T.kind= .jz e) (f:o.op= .binOp op ty x y BY) (B:bE t y= .d (.one (.v (.slice none 0 0)))) (C:(op= .eql/\neg=false)\/(op= .neq/\neg=true)) {K:fa}
  (h:w7 m (bE t x) λn b=>K (.nb n neg) [] b):∃z g b,K z g b/\aI P o t m z g b:=by
 have D:x∈o.op.operands.toList:=by rw[f];simp[Op.operands]
 have F:y∈o.op.operands.toList:=by rw[f];simp[Op.operands]
 have G:P.underlying ty=some (.slice e):=by have:=(r ty T u).kind;rw[A]at this;exact this
 obtain⟨n,b,h,H⟩:=A6 D h;refine⟨_,_,_,h,aC λE I J M a w R i N j=>?_⟩;obtain⟨c,cap,k,S,O⟩:=H E I J M a w i N j;have l:=(az j y).1;rw[ao i F,B]at l;have p:=(Rd.bT (show Rd _ _ _ _ from l)).1;have q:(Op.equal ty (.slice c n cap) (.slice none 0 0)).run P w= .ok c.isNone w:=by unfold Op.equal Op.maxDepth;exact uz w 9999 G c n cap
 refine⟨.bool (c.isNone !=neg),?_,⟨c.isNone,rfl,λQ=>O (by simpa using Q)⟩,λ_ h=>h.elim⟩;rcases C with⟨rfl,rfl⟩|⟨rfl,rfl⟩;simp[execOp,f,k,p,eqGuard,binOp,q];simp[execOp,f,k,p,eqGuard,binOp,q]
theorem Ak {o:Oper} {t:Nat->TV} (c:o.op= .unOp .not ty x) {n:Nat} (g:bE t x= .nb n neg):aI P o t m (.nb n (!neg)) [] []:=by
 have i:x∈o.op.operands.toList:=by rw[c];simp[Op.operands]
 refine aC λE q r u a w y j z k=>?_;have f:=(az k x).1;rw[ao j i,g]at f;obtain⟨b,l,p⟩:=f;refine⟨.bool (b !=!neg),?_,⟨b,rfl,p⟩,λ_ h=>h.elim⟩;simp[execOp,c,l,Op.unary]
theorem kE {o:Oper} {t:Nat->TV} {TT:iw} (a1:cG P TT) (c8:TT ty=some T) (c9:T.kind= .jz e) (a7:TT e=some TE) {lo hi:Option Operand} (X:o.op= .slice ty x lo hi none) {b:Id} {g f G:Nat}
  (M:(bE t x= .aJ b g/\f=0/\∃n,(m b).bF.map (·.2.1)=some n/\G=n)\/bE t x= .sub b g f G) {K:fa} (h:Au TE.size m b g f G t lo hi K):∃z a8 a9,K z a8 a9/\aI P o t m z a8 a9:=by
 have d0:x∈o.op.operands.toList:=by rw[X];simp[Op.operands]
 have b0:P.underlying ty=some (.slice e):=by have:=(a1 ty T c8).kind;rw[c9]at this;exact this
 unfold Au at h;replace h:=bk h;split at h
 ·rename_i e2 n k N O U;replace h:=aM h;obtain⟨a2,h⟩:=h;simp only[XJ]at a2;obtain rfl:=XE a2.1;obtain rfl:=XE a2.2;obtain⟨H,hz,h,b1,b2,b3⟩:=AP (o:=o) G hi (by intro y a3;rw[X,a3];simp[Op.operands]) h;obtain⟨ll,lz,h,b4,b5,b6⟩:=AP (o:=o) 0 lo (by intro y a3;rw[X,a3];simp[Op.operands]) h;obtain⟨⟨b7,b8,e3⟩,h⟩:=h;have b9:∀E p D l a w,eV o t D->gO [b.key] m l->Rel E p D l a w->(p b=none/\n=0/\(execOp a.eval o).run P w= .ok (.value (.slice none 0 0)) w)\/
    ∃q cap u,p b=some (q,cap)/\n<=cap/\(execOp a.eval o).run P w= .ok (.value (.slice (some u) (H-ll) (cap-(f+ll)))) w/\(f+ll<cap\/f+ll=0->u=⟨q,(f+ll)*TE.size,none⟩):=by
   intro E p D l a w I Q A;have r:=(az A x).1;rw[ao I d0]at r;have F:l b= .aL g n TE.size N O:=(by rw[Q.at b];exact U);have J:(l b).bF=some (g,n,TE.size):=(by rw[F];rfl);have d1:(p b=none/\n=0/\a.eval x= .slice none 0 0/\G=0)\/∃q cap u,p b=some (q,cap)/\n<=cap/\a.eval x= .slice (some u) G (cap-f)/\(f<cap\/f=0->u=⟨q,f*TE.size,none⟩)/\f<=cap:=(by rcases M with⟨M,rfl,e4,c0,rfl⟩|M;rw[U]at c0;obtain rfl:n=G:=(by simpa[Mem.bF]using c0);rw[M]at r;simp only[dj]at r;rw[br J]at r;have B:=r.2.2 rfl;rcases jI J (A.mem b)with⟨c,R⟩|⟨q,cap,a4,_,c,_,_,S,_⟩;simp only[cu,c]at B;subst R;exact .inl ⟨c,rfl,B,rfl⟩;simp only[cu,c]at B;exact .inr ⟨q,cap,_,c,S,B,λ_=>by simp,XR _⟩;rw[M]at r;simp only[dj]at r;rw[dk J]at r;obtain⟨e5,B⟩:=r.2.2 rfl;rcases jI J (A.mem b)with⟨c,R⟩|⟨q,cap,a4,_,c,_,_,S,_⟩;simp only[hC,c]at B;exact .inl ⟨c,R,B,by omega⟩;simp only[hC,c]at B;obtain⟨u,B,c1⟩:=B;exact .inr ⟨q,cap,u,c,S,B,c1,by omega⟩);rcases d1 with⟨c,R,a5,d2⟩|⟨q,cap,u,c,S,a5,V,e6⟩;refine .inl ⟨c,R,?_⟩;have C:=xI (P:=P) (w:=w) (n:=G) (cap:=0) (lo:=lo.map a.eval) (hi:=hi.map a.eval) b4 b1 (b6 E p D l a w I A) (b3 E p D l a w I A) (λe=>by cases lo with|none=>exact b5 rfl|some y=>cases e) (λe=>by cases hi with|none=>exact b2 rfl|some y=>cases e) b7 b8;have Y:ll=0:=(by omega);have d3:H=0:=(by omega);rw[d2]at C;simp[execOp,X,a5,Instr.sliceAt,Instr.slice,run_underlying b0,C,bQ (a1 e TE a7),Y,d3]
   ·have C:=xI (P:=P) (w:=w) (n:=G) (cap:=cap-f) (lo:=lo.map a.eval) (hi:=hi.map a.eval) b4 b1 (b6 E p D l a w I A) (b3 E p D l a w I A) (λe=>by cases lo with|none=>exact b5 rfl|some y=>cases e) (λe=>by cases hi with|none=>exact b2 rfl|some y=>cases e) b7 b8;refine .inr ⟨q,cap,if cap-f=ll then u else u.add (ll*TE.size),c,S,?_,λc2=>?_⟩;(simp only[execOp,X,a5,Instr.sliceAt,Instr.slice,Sem.run_bind,run_underlying b0,Result.andThen_ok,Option.map_none,C,bQ (a1 e TE a7),Sem.run_pure,aaA];rw[show cap-f-ll=cap-(f+ll) by omega];by_cases c2:cap-f=ll<;>simp[c2])
    ·by_cases Z:cap-f=ll;rw[XL Z];have e7:f+ll=0:=(by omega);have:f=0:=(by omega);have Y:ll=0:=(by omega);rw[V (.inr this),Y,YG];rw[XG Z,V (by omega),ey,Yq]
  rcases h.h with h|⟨d4,h⟩;refine⟨_,_,_,h,aC λE p D l a w d5 I Q A=>?_⟩;have F:l b= .aL g n TE.size N O:=(by rw[Q.at b];exact U);have J:(l b).bF=some (g,n,TE.size):=(by rw[F];rfl);have c3:f+ll+(H-ll)<=n:=(by omega);rcases b9 E p D l a w I Q A with⟨c,R,C⟩|⟨q,cap,u,c,S,C,V⟩;refine⟨_,C,?_,λ_ h=>by cases h;rw[F];simp⟩;simp only[dj];rw[dk J];refine⟨rfl,XU _,λ_=>⟨c3,?_⟩⟩;simp only[hC,c];refine⟨_,C,?_,λ_ h=>by cases h;rw[F];simp⟩;simp only[dj];rw[dk J];refine⟨rfl,XU _,λ_=>⟨c3,?_⟩⟩;simp only[hC,c];exact⟨u,rfl,V⟩
  ·refine⟨_,_,_,h,bS λE p D l a w d5 I Q e8 A=>?_⟩;have F:l b= .aL g n TE.size N O:=(by rw[Q.at b];exact U);have J:(l b).bF=some (g,n,TE.size):=(by rw[F];rfl);have c4:(Mem.aL (g+2) H TE.size N O).bF=some (g+2,H,TE.size):=rfl;have Y:ll=0:=(by omega);have d6:f=0:=(by omega);have c5:=A.UA J (nm:= .aL (g+2) H TE.size N O) c4 (by omega) (by omega) (λ_ h=>h.elim) (λ_ d7=>by
    have c6:=A.mem b;rw[F]at c6;rcases c6 with⟨r,a0⟩|⟨q,cap,a4,r,a0,B,c1,d8,d9⟩;exact .inl ⟨r,by omega⟩
    ·refine .inr ⟨q,cap,a4,r,a0,B,by omega,d8,λi hi j e0=>?_⟩;obtain⟨x,M,e1⟩:=d9 i (by omega) j e0;exact⟨x,M,e1.mono (λb U=>⟨d7 b U,rfl⟩)⟩)
   have c7:∀v,v.oneCell'=true->cu p v b H->dj E (bj l b (.aL (g+2) H TE.size N O)) p w v (.aJ b (g+2)):=λv r a0=>by simp only[dj];rw[br (by rw[aq];exact c4)];exact⟨r,XU _,λ_=>a0⟩
   have Z:∀a6,(TV.aJ b (g+2)).refs a6->bj l b (.aL (g+2) H TE.size N O) a6≠ .none:=λa6 F=>by cases F;rw[aq];simp
   rcases b9 E p D l a w I Q A with⟨c,R,C⟩|⟨q,cap,u,c,S,C,V⟩;exact⟨_,_,_,_,C,.inl rfl,c5,c7 _ rfl (by simp only[cu,c]),Z⟩;refine⟨_,_,_,_,C,.inl rfl,c5,c7 _ rfl ?_,Z⟩;simp only[cu,c];rw[V (.inr d4),Y,d6];simp
 ·exact h.elim
theorem Hh {P:Program}:∀(l:List TV) (k:IntKind) (x:Int) (K:Int->Prop),LY k x l K->
  ∃n,K n/\∀(E:Env) (m:Id->Mem) (j:Id->Option (Nat×Nat)) (w:World) (c:List Value),c.length=l.length->(∀(i:Nat) (v:Value) (o:TV),c[i]? =some v->l[i]? =some o->dj E m j w v o)->
   ∀f,(c.foldlM Builtin.min2 (.int k x)).run P f= .ok (.int k n) f
 |[],k,x,K,h=>⟨x,h,λE m j w c g _ f=>by obtain rfl:c=[]:=Y0 g;simp⟩
 |y::r,k,x,K,h=>by
  simp only[LY]at h;split at h
  ·rename_i B C;obtain⟨n,q,t⟩:=Hh (P:=P) r k _ K h;refine⟨n,q,λE m j w c g p f=>?_⟩
   match c,g,p with
   |v::c,g,p=>have u:=p 0 v _ rfl rfl;have z:=(Rd.bT (show Rd _ _ _ _ from u)).1;have A:=t E m j w c (by simpa using g) (λi v o a b=>p (i+1) v o (by simpa using a) (by simpa using b)) f;simp[List.foldlM_cons,z,Builtin.min2,A]
  ·exact h.elim
theorem Hm {P:Program}:∀(l:List TV) (k:IntKind) (x:Int) (K:Int->Prop),L6 k x l K->
  ∃n,K n/\∀(E:Env) (m:Id->Mem) (j:Id->Option (Nat×Nat)) (w:World) (c:List Value),c.length=l.length->(∀(i:Nat) (v:Value) (o:TV),c[i]? =some v->l[i]? =some o->dj E m j w v o)->
   ∀f,(c.foldlM Builtin.max2 (.int k x)).run P f= .ok (.int k n) f
 |[],k,x,K,h=>⟨x,h,λE m j w c g _ f=>by obtain rfl:c=[]:=Y0 g;simp⟩
 |y::r,k,x,K,h=>by
  simp only[L6]at h;split at h
  ·rename_i B C;obtain⟨n,t,u⟩:=Hm (P:=P) r k _ K h;refine⟨n,t,λE m j w c g p f=>?_⟩
   match c,g,p with
   |v::c,g,p=>have z:=p 0 v _ rfl rfl;have A:=(Rd.bT (show Rd _ _ _ _ from z)).1;have q:=u E m j w c (by simpa using g) (λi v o a b=>p (i+1) v o (by simpa using a) (by simpa using b)) f;simp only[gt_iff_lt]at q;simp[List.foldlM_cons,A,Builtin.max2,q]
  ·exact h.elim
variable {E:Env} {ρ:Id->Option (Nat×Nat)} {m:Id->Mem} {a:Act} {w w':World}
theorem Rr {t:Nat->TV} (h:Rel E ρ t m a w) (o:Id) (nm:Mem) (c:Nat)
  (j:Below w.heap.size w w') (q:w.heap.size<w'.heap.size):∀b,L E m ρ w b->L E (bj m o nm) (bj ρ o (some (w.heap.size,c))) w' b/\w'.heap[b]? =w.heap[b]?:=by
 intro b f;have k:=tx h f;refine⟨⟨f.1.imp id (λg=>g.imp id (λg=>⟨g.1,by omega⟩)),λi p l r=>?_⟩,j.block b k⟩;by_cases e:i=o;subst e;rw[aq]at r;simp at r;omega;rw[aw _ _ _ e]at l r;exact f.2 i p l r
structure dO (E:Env) (m:Id->Mem) (o:Id) (g:Nat):Prop where
 one:g≠1
 h:(m o= .none/\E.m0 o= .none)\/∃g0 n0 k0,(m o).bF=some (g0,n0,k0)/\g0<g
theorem dO.fresh {d:Nat} (h:m (.n d)= .none) (a:d<E.N):dO E m (.n d) 0:=⟨by omega,.inl ⟨h,E.uH d (ZQ a)⟩⟩
variable {g k:Nat} {e:TypeId}
theorem dO.JY {o:Id} {n:Nat} {get:Nat->Nat->SV} (h:m o= .aL g n k e get):dO E m o (g+2):=⟨by omega,.inr ⟨g,n,k,by rw[h];rfl,by omega⟩⟩
theorem Rel.Ff {t:Nat->TV} (h:Rel E ρ t m a w) {o:Id} {n:Nat} {get:Nat->Nat->SV} {nr:Option (Nat×Nat)} (z:dO E m o g)
  (C:Bx E.w0.heap.size E.X w w')
  (D:∀b,L E m ρ w b->L E (bj m o (.aL g n k e get)) (bj ρ o nr) w' b/\w'.heap[b]? =w.heap[b]?)
  (F:∀j b c,j≠o->(m j).live->ρ j=some (b,c)->w'.heap[b]? =w.heap[b]?)
  (G:∀b c,nr=some (b,c)->((E.X b\/E.w0.heap.size<=b)/\b<w'.heap.size)/\∀j H,j≠o->(m j).live->ρ j≠some (b,H))
  (I:iL E (bj m o (.aL g n k e get)) (bj ρ o nr) w' o (.aL g n k e get)):Rel E (bj ρ o nr) t (bj m o (.aL g n k e get)) a w':=by
 have A:(bj m o (.aL g n k e get) o).bF=some (g,n,k):=by rw[aq];rfl
 have B:m o≠ .none->∃p r u,(m o).bF=some (p,r,u)/\p<g:=λl=>z.h.resolve_left (λh=>l h.1);refine h.one o _ nr C D F (λ_=>G) (by simp) (λ_ h=>h.elim) (λe=>?_) (λe=>absurd e z.one) I (λl=>?_) (λx q i J l=>?_) (λx q K c l=>?_);rcases z.h with f|⟨p,r,u,f,_⟩;exact f.2;exact absurd e (cM f).2;obtain⟨p,r,u,f,y⟩:=B l;exact kq f A y;obtain⟨p,r,u,f,y⟩:=B l;exact wT f A y x q i J;obtain⟨p,r,u,f,y⟩:=B l;exact sR f A y x q K c
theorem Rel.wU {t:Nat->TV} (h:Rel E ρ t m a w) (o:Id) (g n k cap:Nat) (e:TypeId) (get:Nat->Nat->SV) (arr:Array Value)
  (p:Below w.heap.size w w') (u:w.heap.size<w'.heap.size) (z:w'.heap[w.heap.size]? =some (.cells arr e (0,0))) (A:arr.size=cap*k) (B:n<=cap) (C:cap<=maxLen)
  (D:∀i,i<n->∀j,j<k->∃x,arr[i*k+j]? =some x/\Rd (L E m ρ w) w x (get i j)) (F:dO E m o g):
  Rel E (bj ρ o (some (w.heap.size,cap))) t (bj m o (.aL g n k e get)) a w'/\dj E (bj m o (.aL g n k e get)) (bj ρ o (some (w.heap.size,cap))) w' (.slice (some ⟨w.heap.size,0,none⟩) n cap) (.aJ o g):=by
 have y:=Rr h o (.aL g n k e get) cap p u;refine⟨h.Ff F (Bx.of p h.below.size) y ?_ ?_ ?_,?_⟩;intro q b c _ l r;exact p.block b (h.lo q b c l r).2;intro b c f;simp only[Ze,Zx]at f;obtain⟨rfl,rfl⟩:=f;exact⟨⟨.inr h.below.size,u⟩,λq G _ l r=>absurd (h.lo q _ G l r).2 (ZO _)⟩;refine .inr ⟨w.heap.size,cap,arr,aq _ _ _,z,A,B,C,λi hi j H=>?_⟩;obtain⟨x,I,f⟩:=D i hi j H;exact⟨x,I,f.mono y⟩;simp only[dj,bB,cu,aq];exact⟨rfl,XU _,λ_=>trivial⟩
theorem Rel.wP {t:Nat->TV} (h:Rel E ρ t m a w) (o:Id) (g k:Nat) (e:TypeId) (get:Nat->Nat->SV) (j:dO E m o g):
  Rel E (bj ρ o none) t (bj m o (.aL g 0 k e get)) a w/\dj E (bj m o (.aL g 0 k e get)) (bj ρ o none) w (.slice none 0 0) (.aJ o g):=by
 have p:∀b,L E m ρ w b->L E (bj m o (.aL g 0 k e get)) (bj ρ o none) w b/\w.heap[b]? =w.heap[b]?:=by intro b f;refine⟨⟨f.1,λi q l r=>?_⟩,rfl⟩;by_cases e:i=o;subst e;rw[aq]at r;simp at r;rw[aw _ _ _ e]at l r;exact f.2 i q l r
 refine⟨h.Ff j (Bx.refl _ _ _) p (λ_ _ _ _ _ _=>rfl) (λb c u=>by simp at u) (.inl ⟨aq _ _ _,rfl⟩),?_⟩;simp only[dj,bB,cu,aq];exact⟨rfl,XU _,λ_=>trivial⟩
theorem Rel.Ax {t:Nat->TV} (h:Rel E ρ t m a w) (o:Id) (f:(m o).live) (g n k b cap:Nat) (l:ρ o=some (b,cap)) (e:TypeId) (get:Nat->Nat->SV) (JY arr:Array Value)
  (q:w.heap[b]? =some (.cells JY e (0,0))) (r:arr.size=cap*k) (u:n<=cap) (y:cap<=maxLen)
  (z:∀i,i<n->∀j,j<k->∃x,arr[i*k+j]? =some x/\Rd (L E m ρ w) w x (get i j)) (A:dO E m o g):
  Rel E (bj ρ o (some (b,cap))) t (bj m o (.aL g n k e get)) a (w.setRow b arr):=by
 obtain⟨B,p,C⟩:=BO h f l (.aL g n k e get) arr;refine h.Ff A B p C ?_ ?_;intro O P c;simp only[Ze,Zx]at c;obtain⟨rfl,rfl⟩:=c;obtain⟨D,F⟩:=h.lo o b cap f l;exact⟨⟨D,by simpa using F⟩,λG H I J K=>I (h.inj G o b H cap J f K l)⟩;refine .inr ⟨b,cap,arr,aq _ _ _,setRow_heap w b _ _ e _ q,r,u,y,λi hi j M=>?_⟩;obtain⟨x,N,c⟩:=z i hi j M;exact⟨x,N,c.mono p⟩
theorem Rel.KP {t:Nat->TV} (h:Rel E ρ t m a w) (o:Id) (c:(m o).live) (g n k b cap:Nat) (f:ρ o=some (b,cap)) (e:TypeId) (get:Nat->Nat->SV) (JY arr:Array Value)
  (l:w.heap[b]? =some (.cells JY e (0,0))) (p:arr.size=cap*k) (q:n<=cap) (r:cap<=maxLen)
  (u:∀i,i<n->∀j,j<k->∃x,arr[i*k+j]? =some x/\Rd (L E m ρ w) w x (get i j)) (y:dO E m o g):
  Rel E (bj ρ o (some (b,cap))) t (bj m o (.aL g n k e get)) a (w.setRow b arr)/\dj E (bj m o (.aL g n k e get)) (bj ρ o (some (b,cap))) (w.setRow b arr) (.slice (some ⟨b,0,none⟩) n cap) (.aJ o g):=by
 refine⟨h.Ax o c g n k b cap f e get JY arr l p q r u y,?_⟩;simp only[dj,bB,cu,aq];exact⟨rfl,XU _,λ_=>trivial⟩
def VX (S:Nat->Prop) (w:World) (v:Value) (n k:Nat) (get:Nat->Nat->SV):Prop:=
 (v= .slice none 0 0/\n=0)\/∃(a:Addr) (c:Nat) (b:Nat->Nat->Value),v= .slice (some a) n c/\
  (∀i,i<n->∀j,j<k->w.cell? (a.add (i*k+j))=some (b i j))/\∀i,i<n->∀j,j<k->Rd S w (b i j) (get i j)
variable {x:Operand}
theorem Ar {o:Oper} {t:Nat->TV} (N:x∈o.op.operands.toList) {K:Nat->(Nat->Nat->SV)->List Nat->Prop} (h:KB m k (bE t x) K):
  ∃n z X,K n z X/\∀(E:Env) (ρ:Id->Option (Nat×Nat)) (G:Nat->TV) (p:Id->Mem) (a:Act) (w:World),eV o t G->gO X m p->Rel E ρ G p a w->VX (L E p ρ w) w (a.eval x) n k z:=by
 unfold KB at h;split at h;rename_i n H z A;replace h:=aM h;obtain⟨q,h⟩:=h;obtain rfl:=XE q;refine⟨_,_,_,h,λE ρ G p a w B _ r=>?_⟩;have c:=(az r x).1;rw[ao B N,A]at c;rcases Rd.nV (show Rd _ _ _ _ from c)with a0|⟨P,C,Q,a1⟩|⟨b,a2,C,a3,Q,b2,b3,b4,a4,a5⟩;exact .inl a0;subst a1;exact .inr ⟨P,C,λ_ _=>Go.undef,Q,λi f=>absurd f (XO i),λi f=>absurd f (XO i)⟩;exact .inr ⟨⟨b,a2,none⟩,C,a3,Q,λi f j u=>by rw[ey];exact a4 i f j u,a5⟩;rename_i A;refine⟨_,_,_,h,λE ρ G p a w B _ r=>?_⟩;have c:=(az r x).1;rw[ao B N,A]at c;exact .inl ⟨(Rd.bT (show Rd _ _ _ _ from c)).1,rfl⟩;rename_i b g A;replace h:=bk h;split at h;rename_i a6 n H e z R;replace h:=aM h;obtain⟨q,h⟩:=h;simp only[XJ]at q;obtain rfl:=XE q.1;obtain rfl:=XE q.2;refine⟨_,_,_,h,λE ρ G p a w B S r=>?_⟩;have c:=(az r x).1;rw[ao B N,A]at c;have I:p b= .aL g n H e z:=(by rw[S.at b];exact R);simp only[dj,bB,cu,I]at c;have l:=c.2.2 trivial;have J:=r.mem b;rw[I]at J;rcases J with⟨D,Y⟩|⟨Z,C,T,D,U,a7,a8,a9,M⟩;rw[D]at l;subst Y;exact .inl ⟨l,rfl⟩;rw[D]at l;refine .inr ⟨⟨Z,0,none⟩,C,λi j=>(T[i*H+j]?).getD Go.undef,l,λi f j u=>?_,λi f j u=>?_⟩;obtain⟨y,F,_⟩:=M i f j u;simp[ey,World.cell?,U,F];obtain⟨y,F,V⟩:=M i f j u;simp only[F,Yt];exact V;exact h.elim;rename_i b g O n A;replace h:=bk h;split at h;rename_i a6 b0 H e z R;replace h:=aM h;obtain⟨q,h⟩:=h;simp only[XJ]at q;obtain rfl:=XE q.1;obtain rfl:=XE q.2;refine⟨_,_,_,h,λE ρ G p a w B S r=>?_⟩;have c:=(az r x).1;rw[ao B N,A]at c;have I:p b= .aL g b0 H e z:=(by rw[S.at b];exact R);simp only[dj,fi,hC,I]at c;obtain⟨b5,l⟩:=c.2.2 trivial;have J:=r.mem b;rw[I]at J;rcases J with⟨D,Y⟩|⟨Z,C,T,D,U,a7,a8,a9,M⟩;rw[D]at l;exact .inl ⟨by simpa using l,by omega⟩;rw[D]at l;obtain⟨P,l,b1⟩:=l;refine .inr ⟨P,C-O,λi j=>(T[(O+i)*H+j]?).getD Go.undef,l,λi f j u=>?_,λi f j u=>?_⟩;obtain⟨y,F,_⟩:=M (O+i) (by omega) j u;rw[b1 (.inl (by omega)),ey,<-YE,<-Yq];simp[World.cell?,U,F];obtain⟨y,F,V⟩:=M (O+i) (by omega) j u;simp only[F,Yt];exact V;exact h.elim;exact h.elim
theorem nu {S:Nat->Prop} {a:Addr} {n:Nat} {xs:Nat->Nat->Value} {get:Nat->Nat->SV}
  (r:∀i,i<n->∀j,j<k->w.cell? (a.add (i*k+j))=some (xs i j)) (t:∀i,i<n->∀j,j<k->Rd S w (xs i j) (get i j)):
  ∃f:List Value,f.length=n*k/\(∀j u,f[j]? =some u->w.cell? (a.add j)=some u)/\(∀u∈f,u.oneCell'=true)/\∀i,i<n->∀j,j<k->f[i*k+j]? =some (xs i j):=by
 have q:∀p,p<n*k->p/k<n/\p%k<k/\p/k*k+p%k=p:=by intro p g;have l:0<k:=(by rcases ZM k with h|h;subst h;simp at g;exact h);refine⟨(Nat.div_lt_iff_lt_mul l).2 g,ZC _ l,?_⟩;rw[ZP];exact abj p k
 refine⟨(List.range (n*k)).map λp=>xs (p/k) (p%k),by simp,λj u b=>?_,λu b=>?_,λi x j c=>?_⟩;simp only[ZA]at b;by_cases c:j<n*k;simp[c]at b;obtain⟨m,o,y⟩:=q j c;have:=r _ m _ o;rw[y]at this;rw[this,b];simp[c]at b;simp only[XS,X6]at b;obtain⟨p,g,rfl⟩:=b;obtain⟨m,o,_⟩:=q p g;exact(t _ m _ o).bG;have z:i*k+j<n*k:=(by have:(i+1)*k<=n*k:=XX k x;rw[Yq]at this;omega);have l:0<k:=(by omega);have A:(i*k+j)/k=i:=(by rw[ZP,Nat.mul_add_div l,Nat.div_eq_of_lt c,YG]);have B:(i*k+j)%k=j:=(by rw[ZP,aaQ,X5 c]);simp[z,A,B]
variable {P:Program} {ty BY:TypeId}
theorem JO {a:TypeId} (h:P.underlying ty=some (.slice e)) (b:P.underlying BY=some (.slice a)) {t:TypeId} {u v:Value}:
  (Builtin.append_ #[ty,BY] t #[u,v]).run P w=(Builtin.append_ #[ty,ty] t #[u,v]).run P w:=by
 unfold Builtin.append_;cases u<;>simp[run_underlying h,run_underlying b]
theorem hU (t ty e:TypeId) (i:TypeInfo) (b:P.underlying t=some (.slice e)) (hi:P.info? e=some i) (a:Addr) (c:Nat):
  (Builtin.append_ #[t,t] ty #[.slice none 0 0,.slice (some a) 0 c]).run P w= .ok (.slice none 0 0) w:=by
 simp[Builtin.append_,run_underlying b,sizeOf,typeInfo,hi,Builtin.lenOf,Builtin.firstCells,loadCells,loadCellsFrom]
theorem iR (t ty e:TypeId) (i:TypeInfo) (a:P.underlying t=some (.slice e)) (hi:P.info? e=some i):
  (Builtin.append_ #[t,t] ty #[.slice none 0 0,.slice none 0 0]).run P w= .ok (.slice none 0 0) w:=by
 simp[Builtin.append_,run_underlying a,sizeOf,typeInfo,hi,Builtin.lenOf,Builtin.firstCells]
theorem iY (t ty e:TypeId) (i:TypeInfo) (a:P.underlying t=some (.slice e)) (hi:P.info? e=some i) (b:Addr) (n cap:Nat) (h:n<=cap:=by omega):
  (Builtin.append_ #[t,t] ty #[.slice (some b) n cap,.slice none 0 0]).run P w= .ok (.slice (some b) n cap) w:=by
 simp[Builtin.append_,run_underlying a,sizeOf,typeInfo,hi,Builtin.lenOf,Builtin.firstCells,h,storeCells]
theorem ih (w:World) (o:Obj):Below w.heap.size w (w.drew.alloc o):=
 (((Below.refl w.heap.size w).drew).alloc (XU _) o)
variable {T:Ty}
theorem yO {t:TypeId} (c:cO P t T) {i:TypeInfo} {z:Value} (hi:P.info? t=some i) (f:i.zero=some z):z.cells.size=i.size:=by
 obtain⟨j,k,a,g,l,b,m,o,h⟩:=c.info;rw[hi]at a;cases a;rw[f]at b;cases b;rw[h,g]
theorem cZ (z:Array Value) (n:Nat):(Builtin.zeroCells z n).size=n*z.size:=by simp[Builtin.zeroCells]
variable {TE:Ty} {s:Operand}
theorem pP {o:Oper} {t:Nat->TV} {TT:iw} (g2:cG P TT) (h1:TT ty=some T) {e:Nat} (b0:T.kind= .jz e) (h2:TT e=some TE) {d:Nat} (h3:o.dst=some d)
  {c:Call} (e8:o.op= .call c) (e9:c.callee= .builtin .append) (h4:c.args.toList=[s,x]) {BY:TypeId} (h5:c.argTypes.toList=[ty,BY]) (f0:∃l,P.underlying BY=some (.slice l)) {K:fa} (h:rU TE e d m (bE t s) (bE t x) K):
  ∃z g3 d9,K z g3 d9/\aI P o t m z g3 d9:=by
 obtain⟨j9,f0⟩:=f0;have f1:c.args=#[s,x]:=by rw[<-Ys (xs:=c.args),h4]
 have h6:c.argTypes=#[ty,BY]:=by rw[<-Ys (xs:=c.argTypes),h5]
 have f2:s∈o.op.operands.toList:=by rw[e8];simp[Op.operands,Call.operands,e9,f1]
 have f3:x∈o.op.operands.toList:=by rw[e8];simp[Op.operands,Call.operands,e9,f1]
 have h7:=g2 ty T h1;have a3:P.underlying ty=some (.slice e):=by have:=h7.kind;rw[b0]at this;exact this
 have g4:=g2 e TE h2;obtain⟨a5,c9,a4,a6,f4,e5,_⟩:=g4.info;have f5:=yO g4 a4 e5;have b2:∀(a:Act) (w:World) (u v r:Value) (w':World),a.eval s=u->a.eval x=v->(Builtin.append_ #[ty,ty] o.type #[u,v]).run P w= .ok r w'->(execOp a.eval o).run P w= .ok (.value r) w':=by intro a w u v r w' h8 d0 U;rw[<-JO a3 f0]at U;simp[execOp,e8,resolve,invoke,e9,f1,h6,builtin,h8,d0,U]
 have f6:∀(E:Env) (ρ:Id->Option (Nat×Nat)) (Z:Nat->TV) (p:Id->Mem) (a:Act) (w:World),Rel E ρ Z p a w->∀(b:Id) (g n f d1:Nat) (get A:Nat->Nat->SV) (X q:List Value) (e0:Array Value),
   dO E p b g->
   X.length=n*TE.size->q.length=f*TE.size->e0.size=(d1-(n+f))*TE.size->n+f<=d1->d1<=maxLen->
   (∀i,i<n->∀j,j<TE.size->∃y,X[i*TE.size+j]? =some y/\Rd (L E p ρ w) w y (get i j))->
   (∀i,i<f->∀j,j<TE.size->∃y,q[i*TE.size+j]? =some y/\Rd (L E p ρ w) w y (A i j))->
   ∃c2,Rel E c2 Z (bj p b (.aL g (n+f) TE.size e λi j=>bif Nat.blt i n then get i j else A (i-n) j)) a (w.drew.alloc (.cells (X.toArray++q.toArray++e0) e))/\
    dj E (bj p b (.aL g (n+f) TE.size e λi j=>bif Nat.blt i n then get i j else A (i-n) j)) c2 (w.drew.alloc (.cells (X.toArray++q.toArray++e0) e)) (.slice (some ⟨w.heap.size,0,none⟩) (n+f) d1) (.aJ b g):=by
  intro E ρ Z p a w F b g n f d1 get A X q e0 h9 i0 i1 i2 i3 i4 i5 i6;refine⟨_,F.wU b g (n+f) TE.size d1 e _ (X.toArray++q.toArray++e0) (ih w _) (by simp) (bV w.drew _) ?_ i3 i4 ?_ h9⟩;simp only[abI,ZR,i0,i1,i2,<-Yq];congr 1;omega;intro i C j B;by_cases a7:i<n;obtain⟨y,O,U⟩:=i5 i a7 j B;refine⟨y,?_,?_⟩;have a9:i*TE.size+j<X.length:=(by rcases aam (i*TE.size+j) X.length with h|h;exact h;rw[YU h]at O;simp at O);rw[YV,XL (by simp;omega),YV,XL (by simpa using a9)];simpa using O;show Rd _ _ y (bif _ then _ else _);rw[hp a7];exact U;obtain⟨y,O,U⟩:=i6 (i-n) (by omega) j B;refine⟨y,?_,?_⟩;have a9:(i-n)*TE.size+j<q.length:=(by rcases aam ((i-n)*TE.size+j) q.length with h|h;exact h;rw[YU h]at O;simp at O);have d2:i*TE.size+j-X.length=(i-n)*TE.size+j:=(by have:i*TE.size=n*TE.size+(i-n)*TE.size:=(by rw[<-Yq];congr 1;omega);omega);have d3:¬i*TE.size+j<X.length:=(by have:n*TE.size<=i*TE.size:=XX _ (by omega);omega);rw[YV,XL (by simp;omega),YV,XG (by simpa using d3)];simp only[ZR,YO,d2];exact O;show Rd _ _ y (bif _ then _ else _);rw[ht a7];exact U
 unfold rU at h;split at h
 ·
  rename_i e1;split at h
  ·rename_i i7;obtain⟨f,A,d9,h,c5⟩:=Ar (o:=o) f3 h;obtain⟨⟨f7,d4⟩,h⟩:=h;refine⟨_,_,_,h,bS λE ρ Z p a w g5 b3 b4 f8 F=>?_⟩;have i8:p (.n d)= .none:=(by rw[b4.at (.n d) (by simp[Id.key])];exact i7);have b5:=(az F s).1;rw[ao b3 f2,e1]at b5;have g6:=(Rd.bT (show Rd _ _ _ _ from b5)).1;have g7:dO E p (.n d) 0:= .fresh i8 (f8 d h3);have c6:f=0->(Builtin.append_ #[ty,ty] o.type #[.slice none 0 0,a.eval x]).run P w= .ok (.slice none 0 0) w->
     ∃n v w' c2,(execOp a.eval o).run P w= .ok n w'/\(n= .value v\/(n= .skip/\v=Go.undef))/\Rel E c2 Z (bj p (.n d) (.aL 0 f TE.size e A)) a w'/\dj E (bj p (.n d) (.aL 0 f TE.size e A)) c2 w' v (.aJ d 0)/\∀a2,(TV.aJ d 0).refs a2->bj p (.n d) (.aL 0 f TE.size e A) a2≠ .none:=by
    intro Q R;subst Q;obtain⟨J,M⟩:=F.wP (.n d) 0 TE.size e A g7;exact⟨_,_,_,_,b2 a w _ _ _ _ g6 rfl R,.inl rfl,J,M,λa2 S=>by cases S;rw[aq];simp⟩
   rcases c5 E ρ Z p a w b3 (b4.sub (λk b0=>by simp[b0])) F with⟨I,Y⟩|⟨b7,H,xs,I,Y,a8⟩;exact c6 Y (by rw[I];exact iR ty o.type e a5 a3 a4)
   ·rcases ZM f with Q|Q;refine c6 Q ?_;rw[I,Q];exact hU ty o.type e a5 a3 a4 _ _
    ·obtain⟨q,a0,c3,e2,c4⟩:=nu Y a8;have e3:(f:Int)<=9223372036854775807:=(by simp only[maxLen]at d4;omega);have R:=run_append_nil (P:=P) w ty o.type e a5 c9 a3 a4 e5 b7 f H q (by rw[a6];exact a0) c3 Q e3 (by rw[f4];omega);have f9:=grownCap_ge w f 0 e;have b8:=grownCap_le_maxLen w f 0 e d4;obtain⟨J,M⟩:=f6 E ρ Z p a w F (.n d) 0 0 f (grownCap w f 0 e) (λ_ _=> .v Go.undef) A [] q (Builtin.zeroCells c9.cells (grownCap w f 0 e-f)) g7 (by simp) a0 (by rw[cZ,f5,a6,Ya]) (by omega) b8
      (λi C=>absurd C (XO i)) (λi C j B=>⟨_,c4 i C j B,a8 i C j B⟩)
     have i9:(λi j=>bif Nat.blt i 0 then SV.v Go.undef else A (i-0) j)=A:=(by funext i j;rw[ht (XO i)];rfl);rw[i9,Ya]at M;simp only[abC]at M;refine⟨_,_,_,J,b2 a w _ _ _ _ g6 I R,.inl rfl,M.1,M.2,λa2 S=>by cases S;rw[aq];simp⟩
  ·exact h.elim
 ·
  rename_i b g e1;replace h:=bk h;split at h
  ·rename_i j0 n k l get g0;replace h:=aM h;obtain⟨b9,h⟩:=h;simp only[XJ]at b9;obtain rfl:=XE b9.1.1;obtain rfl:=XE b9.1.2;obtain rfl:=XE b9.2;obtain⟨f,A,d9,h,c5⟩:=Ar (o:=o) f3 h;obtain⟨⟨f7,d4⟩,h⟩:=h;refine⟨_,_,_,h,bS λE ρ Z p a w g5 b3 b4 f8 F=>?_⟩;have S:p b= .aL g n TE.size l get:=(by rw[b4.at b];exact g0);have b5:=(az F s).1;rw[ao b3 f2,e1]at b5;simp only[dj,bB,cu,S]at b5;have a1:=b5.2.2 trivial;have c0:dO E p b (g+2):= .JY S;have c1:∀a2,(TV.aJ b (g+2)).refs a2->bj p b (.aL (g+2) (n+f) TE.size l λi j=>bif Nat.blt i n then get i j else A (i-n) j) a2≠ .none:=λa2 S=>by cases S;rw[aq];simp
   have e4:=F.mem b;rw[S]at e4;rcases e4 with⟨b1,Q⟩|⟨V,H,D,b1,b6,d5,d6,b8,c7⟩
   ·rw[b1]at a1;subst Q;have c6:f=0->(Builtin.append_ #[ty,ty] o.type #[.slice none 0 0,a.eval x]).run P w= .ok (.slice none 0 0) w->
      ∃n v w' c2,(execOp a.eval o).run P w= .ok n w'/\(n= .value v\/(n= .skip/\v=Go.undef))/\Rel E c2 Z (bj p b (.aL (g+2) (0+f) TE.size l λi j=>bif Nat.blt i 0 then get i j else A (i-0) j)) a w'/\
       dj E (bj p b (.aL (g+2) (0+f) TE.size l λi j=>bif Nat.blt i 0 then get i j else A (i-0) j)) c2 w' v (.aJ b (g+2))/\∀a2,(TV.aJ b (g+2)).refs a2->bj p b (.aL (g+2) (0+f) TE.size l λi j=>bif Nat.blt i 0 then get i j else A (i-0) j) a2≠ .none:=by
     intro Q R;subst Q;obtain⟨J,M⟩:=F.wP b (g+2) TE.size l (λi j=>bif Nat.blt i 0 then get i j else A (i-0) j) c0;exact⟨_,_,_,_,b2 a w _ _ _ _ a1 rfl R,.inl rfl,J,M,c1⟩
    rcases c5 E ρ Z p a w b3 (b4.sub (λk b0=>by simp[b0])) F with⟨I,Y⟩|⟨b7,H,xs,I,Y,a8⟩;exact c6 Y (by rw[I];exact iR ty o.type l a5 a3 a4)
    ·rcases ZM f with Q|Q;refine c6 Q ?_;rw[I,Q];exact hU ty o.type l a5 a3 a4 _ _
     ·obtain⟨q,a0,c3,e2,c4⟩:=nu Y a8;have e3:(f:Int)<=9223372036854775807:=(by simp only[maxLen]at d4;omega);have R:=run_append_nil (P:=P) w ty o.type l a5 c9 a3 a4 e5 b7 f H q (by rw[a6];exact a0) c3 Q e3 (by rw[f4];rw[Ya]at f7;omega);have f9:=grownCap_ge w f 0 l;have b8:=grownCap_le_maxLen w f 0 l (by omega);obtain⟨J,M⟩:=f6 E ρ Z p a w F b (g+2) 0 f (grownCap w f 0 l) get A [] q (Builtin.zeroCells c9.cells (grownCap w f 0 l-f)) c0 (by simp) a0 (by rw[cZ,f5,a6,Ya]) (by omega) b8
       (λi C=>absurd C (XO i)) (λi C j B=>⟨_,c4 i C j B,a8 i C j B⟩)
      simp only[abC]at M;refine⟨_,_,_,J,b2 a w _ _ _ _ a1 I R,.inl rfl,M.1,?_,c1⟩;have:=M.2;rw[Ya]at this|-;exact this
   ·rw[b1]at a1;rcases c5 E ρ Z p a w b3 (b4.sub (λk b0=>by simp[b0])) F with⟨I,Y⟩|⟨b7,e6,xs,I,Y,a8⟩;subst Y;have R:=iY (P:=P) (w:=w) ty o.type l a5 a3 a4 ⟨V,0,none⟩ n H d6;have g1:w.setRow V D=w:=setRow_self w V D l (0,0) b6;obtain⟨J,M⟩:=F.KP b (cT S) (g+2) (n+0) TE.size V H b1 l (λi j=>bif Nat.blt i n then get i j else A (i-n) j) D D b6 d5 d6 b8 (λi C j B=>by obtain⟨y,O,U⟩:=c7 i C j B;refine⟨y,O,?_⟩;rw[hp (show i<n from C)];exact U) c0;rw[g1]at J M;exact⟨_,_,_,_,b2 a w _ _ _ _ a1 I R,.inl rfl,J,M,c1⟩
    ·obtain⟨q,a0,c3,e2,c4⟩:=nu Y a8;by_cases d7:n+f<=H
     ·have g8:n*TE.size+q.length<=D.size:=(by rw[a0,d5,<-Yq];exact XX _ d7);have R:=run_append_room (P:=P) w ty o.type l a5 a3 a4 V n H D b6 b7 f e6 q (by rw[a6];exact a0) c3 e2 d7 (by rw[a6];exact g8);rw[a6]at R;obtain⟨J,M⟩:=F.KP b (cT S) (g+2) (n+f) TE.size V H b1 l (λi j=>bif Nat.blt i n then get i j else A (i-n) j) D (D.toList.take (n*TE.size)++q++D.toList.drop (n*TE.size+q.length)).toArray b6
       (by simp;omega) d7 b8 (λi C j B=>by
        by_cases a7:i<n;obtain⟨y,O,U⟩:=c7 i a7 j B;refine⟨y,?_,by rw[hp a7];exact U⟩;have a9:i*TE.size+j<n*TE.size:=(by have:(i+1)*TE.size<=n*TE.size:=XX _ a7;rw[Yq]at this;omega);have c8:min (n*TE.size) D.size=n*TE.size:=(by omega);simp only[YO,Yk,Yl,Yj,Za,c8,XL a9,Y3];simpa using O
        ·have d8:i-n<f:=(by omega);refine⟨_,?_,by rw[ht a7];exact a8 (i-n) d8 j B⟩;have d3:¬i*TE.size+j<n*TE.size:=(by have:n*TE.size<=i*TE.size:=XX _ (by omega);omega);have d2:i*TE.size+j-n*TE.size=(i-n)*TE.size+j:=(by have:i*TE.size=n*TE.size+(i-n)*TE.size:=(by rw[<-Yq];congr 1;omega);omega);have a9:(i-n)*TE.size+j<q.length:=(by rw[a0];have:(i-n+1)*TE.size<=f*TE.size:=XX _ d8;rw[Yq]at this;omega);have c8:min (n*TE.size) D.size=n*TE.size:=(by omega);simp only[YO,Yk,Yl,Yj,Za,c8,XG d3,d2,XL a9];exact c4 (i-n) d8 j B) c0
      exact⟨_,_,_,_,b2 a w _ _ _ _ a1 I R,.inl rfl,J,M,c1⟩
     ·have e3:((n+f:Nat):Int)<=9223372036854775807:=(by simp only[maxLen]at d4;omega);have j1:∃X:List Value,X.length=n*TE.size/\(∀j v,X[j]? =some v->w.cell? ((⟨V,0,none⟩:Addr).add j)=some v)/\∀i,i<n->∀j,j<TE.size->∃y,X[i*TE.size+j]? =some y/\Rd (L E p ρ w) w y (get i j):=(by have k0:n*TE.size<=D.size:=(by rw[d5];exact XX _ d6);refine⟨D.toList.take (n*TE.size),by simp;omega,λj v d0=>?_,λi C j B=>?_⟩;rw[Y3]at d0;split at d0;rw[ey];have:D[j]? =some v:=(by simpa using d0);simp[World.cell?,b6,this];simp at d0;obtain⟨y,O,U⟩:=c7 i C j B;refine⟨y,?_,U⟩;have a9:i*TE.size+j<n*TE.size:=(by have:(i+1)*TE.size<=n*TE.size:=XX _ C;rw[Yq]at this;omega);rw[Y3,XL a9];simpa using O);obtain⟨X,g9,j2,j3⟩:=j1;have R:=run_append_grow (P:=P) w ty o.type l a5 c9 a3 a4 e5 ⟨V,0,none⟩ n H X (by rw[a6];exact g9) j2 b7 f e6 q (by rw[a6];exact a0) c3 (by omega) e3 (by rw[f4];exact growslice_fits (by omega) f7);have f9:=grownCap_ge w (n+f) H l;have j4:=grownCap_le_maxLen w (n+f) H l d4;obtain⟨J,M⟩:=f6 E ρ Z p a w F b (g+2) n f (grownCap w (n+f) H l) get A X q (Builtin.zeroCells c9.cells (grownCap w (n+f) H l-(n+f))) c0 g9 a0 (by rw[cZ,f5,a6]) f9 j4 j3 (λi C j B=>⟨_,c4 i C j B,a8 i C j B⟩);exact⟨_,_,_,J,b2 a w _ _ _ _ a1 I R,.inl rfl,M.1,M.2,c1⟩
  ·exact h.elim
 ·
  rename_i b g k1 n e1;replace h:=bk h;split at h
  ·rename_i j0 N k l get g0;replace h:=aM h;obtain⟨b9,h⟩:=h;simp only[XJ]at b9;obtain rfl:=XE b9.1.1;obtain rfl:=XE b9.1.2;obtain rfl:=XE b9.2;obtain⟨f,A,d9,h,c5⟩:=Ar (o:=o) f3 h;obtain⟨⟨j5,g8⟩,hK⟩:=h;subst j5;refine⟨_,_,_,hK,bS λE ρ Z p a w g5 b3 b4 f8 F=>?_⟩;have S:p b= .aL g N TE.size l get:=(by rw[b4.at b];exact g0);have b5:=(az F s).1;rw[ao b3 f2,e1]at b5;simp only[dj,fi,hC,S]at b5;obtain⟨k2,a1⟩:=b5.2.2 trivial;have c0:dO E p b (g+2):= .JY S;have c1:∀(G:Nat->Nat->SV) a2,(TV.sub b (g+2) 0 (n+f)).refs a2->bj p b (.aL (g+2) N TE.size l G) a2≠ .none:=λG a2 S=>by cases S;rw[aq];simp
   have e4:=F.mem b;rw[S]at e4;rcases e4 with⟨b1,Q⟩|⟨V,H,D,b1,b6,d5,d6,b8,c7⟩;rw[b1]at a1;subst Q;have Q:n=0:=(by omega);have j6:f=0:=(by omega);subst Q;subst j6;have c6:(Builtin.append_ #[ty,ty] o.type #[.slice none 0 0,a.eval x]).run P w= .ok (.slice none 0 0) w:=(by rcases c5 E ρ Z p a w b3 (b4.sub (λk b0=>by simp[b0])) F with⟨I,Y⟩|⟨b7,H,xs,I,Y,a8⟩;rw[I];exact iR ty o.type l a5 a3 a4;rw[I];exact hU ty o.type l a5 a3 a4 _ _);obtain⟨J,_⟩:=F.wP b (g+2) TE.size l (λi j=>bif Nat.blt i 0 then get i j else bif Nat.blt i (0+0)then A (i-0) j else get i j) c0;refine⟨_,_,_,_,b2 a w _ _ _ _ a1 rfl c6,.inl rfl,J,?_,c1 _⟩;simp only[dj,fi,hC,aq];exact⟨rfl,XU _,λ_=>⟨by omega,trivial⟩⟩
   ·rw[b1]at a1;obtain⟨k3,a1,e7⟩:=a1;have e7:=e7 (.inr trivial);rw[aaV]at e7;subst e7;rw[abf]at a1;have h0:∀(G:Nat->Nat->SV) (w':World),dj E (bj p b (.aL (g+2) N TE.size l G)) (bj ρ b (some (V,H))) w' (.slice (some ⟨V,0,none⟩) (n+f) H) (.sub b (g+2) 0 (n+f)):=λG w'=>by simp only[dj,fi,hC,aq];exact⟨rfl,XU _,λ_=>⟨by omega,⟨V,0,none⟩,by simp,λ_=>by simp⟩⟩
    rcases c5 E ρ Z p a w b3 (b4.sub (λk b0=>by simp[b0])) F with⟨I,Y⟩|⟨b7,e6,xs,I,Y,a8⟩;subst Y;have R:=iY (P:=P) (w:=w) ty o.type l a5 a3 a4 ⟨V,0,none⟩ n H;have g1:w.setRow V D=w:=setRow_self w V D l (0,0) b6;have J:=F.Ax b (cT S) (g+2) N TE.size V H b1 l (λi j=>bif Nat.blt i n then get i j else bif Nat.blt i (n+0)then A (i-n) j else get i j) D D b6 d5 d6 b8 (λi C j B=>by obtain⟨y,O,U⟩:=c7 i C j B;refine⟨y,O,?_⟩;rw[YG];cases Nat.blt i n<;>exact U) c0;rw[g1]at J;exact⟨_,_,_,_,b2 a w _ _ _ _ a1 I R,.inl rfl,J,h0 _ w,c1 _⟩
    ·obtain⟨q,a0,c3,e2,c4⟩:=nu Y a8;have d7:n+f<=H:=(by omega);have j7:n*TE.size+q.length<=D.size:=(by rw[a0,d5,<-Yq];exact XX _ d7);have R:=run_append_room (P:=P) w ty o.type l a5 a3 a4 V n H D b6 b7 f e6 q (by rw[a6];exact a0) c3 e2 d7 (by rw[a6];exact j7);rw[a6]at R;have J:=F.Ax b (cT S) (g+2) N TE.size V H b1 l (λi j=>bif Nat.blt i n then get i j else bif Nat.blt i (n+f)then A (i-n) j else get i j) D (D.toList.take (n*TE.size)++q++D.toList.drop (n*TE.size+q.length)).toArray b6
      (by simp;omega) d6 b8 (λi C j B=>by
       have c8:min (n*TE.size) D.size=n*TE.size:=(by omega);by_cases a7:i<n;obtain⟨y,O,U⟩:=c7 i C j B;refine⟨y,?_,by rw[hp a7];exact U⟩;have a9:i*TE.size+j<n*TE.size:=(by have:(i+1)*TE.size<=n*TE.size:=XX _ a7;rw[Yq]at this;omega);simp only[YO,Yk,Yl,Yj,Za,c8,XL a9,Y3];simpa using O
       ·have d3:¬i*TE.size+j<n*TE.size:=(by have:n*TE.size<=i*TE.size:=XX _ (by omega);omega);have d2:i*TE.size+j-n*TE.size=(i-n)*TE.size+j:=(by have:i*TE.size=n*TE.size+(i-n)*TE.size:=(by rw[<-Yq];congr 1;omega);omega);by_cases d8:i<n+f;refine⟨_,?_,by rw[ht a7,hp d8];exact a8 (i-n) (by omega) j B⟩;have a9:(i-n)*TE.size+j<q.length:=(by rw[a0];have:(i-n+1)*TE.size<=f*TE.size:=XX _ (by omega);rw[Yq]at this;omega);simp only[YO,Yk,Yl,Yj,Za,c8,XG d3,d2,XL a9];exact c4 (i-n) (by omega) j B
        ·obtain⟨y,O,U⟩:=c7 i C j B;refine⟨y,?_,by rw[ht a7,ht d8];exact U⟩;have j8:¬(i-n)*TE.size+j<q.length:=(by rw[a0];have:f*TE.size<=(i-n)*TE.size:=XX _ (by omega);omega);simp only[YO,Yk,Yl,Yj,Za,c8,XG d3,d2,XG j8,Zv];rw[show n*TE.size+q.length+((i-n)*TE.size+j-q.length)=i*TE.size+j by omega];simpa using O) c0
     exact⟨_,_,_,_,b2 a w _ _ _ _ a1 I R,.inl rfl,J,h0 _ _,c1 _⟩
  ·exact h.elim
 ·exact h.elim
theorem sC (w:World) (t a ty e:TypeId) (i:TypeInfo) (z:Value) (c:IntKind) (f:P.underlying t=some (.slice e)) (g:P.underlying a=some (.int c)) (hi:P.info? e=some i) (j:i.zero=some z) (k:0<i.size)
  (n:Nat) (b:0<n) (u:(n:Int)<=9223372036854775807) (x:n*i.bytes<=140737488355328):
  (Builtin.append_ #[t,a] ty #[.slice none 0 0,.int .i64 n]).run P w=
   .ok (.slice (some ⟨w.heap.size,0,none⟩) n (grownCap w n 0 e)) (w.drew.alloc (.cells (Builtin.zeroCells z.cells n++Builtin.zeroCells z.cells (grownCap w n 0 e-n)) e)):=by
 have l:n≠0:=by omega
 have m:IntKind.i64.wrap (n:Int)=n:=by simp only[IntKind.wrap,IntKind.signed,IntKind.bits];simp;omega
 have o:¬((n:Int)<0):=by omega
 have p:¬(281474976710656<(n:Int)*(i.bytes:Int)):=by rw[<-abm];omega
 have q:¬(9223372036854775807<(n:Int)):=by omega
 have r:¬(281474976710656<Builtin.nextslicecap n 0*i.bytes):=by rw[nextslicecap_zero b];omega
 have y:i.size≠0:=by omega
 simp[Builtin.append_,run_underlying f,run_underlying g,sizeOf,typeInfo,zeroValue,hi,j,l,asInt,m,o,p,q,r,asIntOf,Question.forced,run_firstCells_none,newRow,grownCap];intro h;exact absurd h (Nat.ne_of_gt (Nat.mul_pos b k))
theorem xZ (z:Array Value) (n i j:Nat) (hi:i<n) (a:j<z.size:=by omega):(Builtin.zeroCells z n)[i*z.size+j]? =z[j]?:=by
 have b:(i*z.size+j)%z.size=j:=by rw[ZP,aaQ,X5 a]
 have c:i*z.size+j<n*z.size:=by have:(i+1)*z.size<=n*z.size:=XX _ hi;rw[Yq]at this;omega
 simp only[Builtin.zeroCells,Array.getElem?_map];simp[c,b,a]
theorem vY {o:Oper} {t:Nat->TV} {TT:iw} (b:cG P TT) {f:Ty} (O:TT ty=some T) {e:Nat} (Q:T.kind= .jz e) (R:TT e=some TE) (S:TT BY=some f) (U:f.kind= .int .i64) {d:Nat} (V:o.dst=some d)
  {c:Call} (g:o.op= .call c) (k:c.callee= .builtin .append) (X:c.args.toList=[s,x]) (Y:c.argTypes.toList=[ty,BY]) {K:fa} (h:vw TE e d m (bE t s) (bE t x) K):
  ∃z u A,K z u A/\aI P o t m z u A:=by
 have l:c.args=#[s,x]:=by rw[<-Ys (xs:=c.args),X]
 have Z:c.argTypes=#[ty,BY]:=by rw[<-Ys (xs:=c.argTypes),Y]
 have a0:s∈o.op.operands.toList:=by rw[g];simp[Op.operands,Call.operands,k,l]
 have a1:x∈o.op.operands.toList:=by rw[g];simp[Op.operands,Call.operands,k,l]
 have a2:P.underlying ty=some (.slice e):=by have:=(b ty T O).kind;rw[Q]at this;exact this
 have a3:P.underlying BY=some (.int .i64):=by have:=(b BY f S).kind;rw[U]at this;exact this
 unfold vw at h;split at h
 ·rename_i n a4 a5 a6;obtain⟨⟨c5,c6,c7,c8⟩,h⟩:=h;refine⟨_,_,_,h,bS λE ρ c9 B a w d0 C a7 a8 p=>?_⟩;have a9:B (.n d)= .none:=(by rw[a7.at (.n d) (by simp[Id.key])];exact a6);have D:=(az p s).1;rw[ao C a0,a4]at D;have b0:=(Rd.bT (show Rd _ _ _ _ from D)).1;have F:=(az p x).1;rw[ao C a1,a5]at F;have b1:=(Rd.bT (show Rd _ _ _ _ from F)).1;obtain⟨G,q,b2,d1,b3,b4,r,H⟩:=ik (b e TE R) (L E B ρ w) w;have I:(n.toNat:Int)=n:=(by omega);have b5:n.toNat*G.bytes<=140737488355328:=(by rw[b3];have:((n.toNat*TE.bytes:Nat):Int)=n*TE.bytes:=(by rw[abm,I]);omega);have J:n.toNat<=maxLen:=(by omega);have M:=sC (P:=P) w ty BY o.type e G q .i64 a2 a3 b2 b4 (by omega) n.toNat (by omega) (by simp only[maxLen]at J;omega) b5;rw[I]at M;have b6:=grownCap_ge w n.toNat 0 e;have b7:=grownCap_le_maxLen w n.toNat 0 e J;have b8:=H.length;simp only[Za]at b8;obtain⟨b9,c0⟩:=p.wU (.n d) 0 n.toNat TE.size (grownCap w n.toNat 0 e) e (λ_ j=>TE.zero.getD j (.v Go.undef)) (Builtin.zeroCells q.cells n.toNat++Builtin.zeroCells q.cells (grownCap w n.toNat 0 e-n.toNat)) (ih w _) (by simp) (bV w.drew _) (by
    rw[abI,cZ,cZ,r,<-Yq];congr 1;omega) b6 b7 (λi N j d2=>by
    obtain⟨y,c1,c2⟩:=H.dp j (by omega);refine⟨y,?_,c2⟩;have c3:i*TE.size+j<n.toNat*TE.size:=(by have:(i+1)*TE.size<=n.toNat*TE.size:=XX _ N;rw[Yq]at this;omega);rw[YV,XL (by rw[cZ,r];exact c3),<-r,xZ _ _ _ _ N];simpa using c1) (dO.fresh a9 (a8 d V))
  refine⟨_,_,_,_,?_,.inl rfl,b9,c0,λd3 c4=>by cases c4;rw[aq];simp⟩;simp[execOp,g,resolve,invoke,k,l,Z,builtin,b0,b1,M]
 ·exact h.elim
theorem An {o:Oper} {t:Nat->TV} {TT:iw} (S:cG P TT) (a7:TT ty=some T) {e:Nat} (a8:T.kind= .jz e) (a9:TT e=some TE)
  {c:Call} (U:o.op= .call c) (V:c.callee= .builtin .clear) (b0:c.args.toList=[x]) (b1:c.argTypes.toList=[ty]) {b:Id} {g lo n N:Nat} {get:Nat->Nat->SV} (b2:bE t x= .sub b g lo n) (b3:m b= .aL g N TE.size e get):
  aI P o t m .any [(b,.aL g N TE.size e λi j=>bif Nat.ble lo i&&Nat.blt i (lo+n)then TE.zero.getD j (.v Go.undef)else get i j)] [b.key]:=by
 have X:c.args=#[x]:=by rw[<-Ys (xs:=c.args),b0]
 have b4:c.argTypes=#[ty]:=by rw[<-Ys (xs:=c.argTypes),b1]
 have b5:x∈o.op.operands.toList:=by rw[U];simp[Op.operands,Call.operands,V,X]
 have F:P.underlying ty=some (.slice e):=by have:=(S ty T a7).kind;rw[a8]at this;exact this
 refine bS λE ρ d4 G a w d5 b6 b7 d6 A=>?_;have r:G b= .aL g N TE.size e get:=by rw[b7.at b];exact b3
 have l:=(az A x).1;rw[ao b6 b5,b2]at l;simp only[dj,fi,hC,r]at l;obtain⟨d7,p⟩:=l.2.2 trivial;have H:∀(u:Value) (w':World),a.eval x=u->(Builtin.clear_ #[ty] o.type #[u]).run P w= .ok (.tuple #[]) w'->(execOp a.eval o).run P w= .ok (.value (.tuple #[])) w':=by intro u w' b8 b9;simp[execOp,U,resolve,invoke,V,X,b4,builtin,b8,b9]
 have Y:=A.mem b;rw[r]at Y;have Z:n=0->(λi j=>bif Nat.ble lo i&&Nat.blt i (lo+n)then TE.zero.getD j (.v Go.undef)else get i j)=get:=by intro q;funext i j;subst q;have:(Nat.ble lo i&&Nat.blt i (lo+0))=false:=(by by_cases h:lo<=i;rw[ht (show¬i<lo+0 by omega),aaw];rw[zN h];rfl);rw[this];rfl
 rcases Y with⟨C,a0⟩|⟨z,I,D,C,a1,a2,c0,c1,c2⟩;rw[C]at p;have q:n=0:=(by omega);rw[Z q,<-r,et];exact⟨_,_,w,ρ,H _ w p (by simp[Builtin.clear_,run_underlying F]),.inl rfl,A,trivial,λ_ h=>h.elim⟩
 ·rw[C]at p;obtain⟨d8,p,c3⟩:=p;rcases ZM n with q|q;rw[Z q,<-r,et];subst q;exact⟨_,_,w,ρ,H _ w p (by simp[Builtin.clear_,run_underlying F]),.inl rfl,A,trivial,λ_ h=>h.elim⟩
  ·obtain⟨d9,f,c4,e0,e1,c5,J,K⟩:=ik (S e TE a9) (L E G ρ w) w;have c6:=K.length;simp only[Za]at c6;have c7:=c3 (.inl (by omega));subst c7;have c8:Builtin.zeroCells f.cells n=(dD n f.cells.toList).toArray:=by
    have B:0<f.cells.size\/f.cells.size=0:=(by omega);rcases B with B|B;exact kv f.cells n B
    ·have l:f.cells=#[]:=Array.eq_empty_of_size_eq_zero B;apply aa1;rw[l];have:∀n,dD n ([]:List Value)=[]:=λn=>by induction n with
      |zero=>rfl
      |succ n c9=>simp[dD,c9]
     simp[this,Builtin.zeroCells]
   have d0:=mQ K n;have a3:(dD n f.cells.toList).length=n*TE.size:=(by rw[jK];simp[J]);have M:lo*TE.size+(dD n f.cells.toList).length<=D.size:=(by rw[a3,a2,<-Yq];exact XX _ (by omega));have a4:=run_storeCells_at (P:=P) z (lo*TE.size) e (dD n f.cells.toList) 0 D w a1 (by simpa using M) d0.bG;simp only[YG]at a4;have d1:(Builtin.clear_ #[ty] o.type #[.slice (some ⟨z,lo*TE.size,none⟩) n (I-lo)]).run P w= .ok (.tuple #[]) (w.setRow z (setCells D.toList (lo*TE.size) (dD n f.cells.toList)).toArray):=(by have a0:n≠0:=(by omega);rw[ki _ _ _ (by simpa using M)];simp[Builtin.clear_,run_underlying F,zeroValue,typeInfo,c4,c5,c8,a0,a4]);have d2:(G b).bF=some (g,N,TE.size):=(by rw[r];rfl);refine⟨_,_,_,bj ρ b (some (z,I)),H _ _ p d1,.inl rfl,A.nw (cT r) C _ _ (.bF d2 rfl) (λ_ h=>h.elim) (λa5 _=>?_),trivial,λ_ h=>h.elim⟩;refine .inr ⟨z,I,_,aq _ _ _,setRow_heap w z _ _ e _ a1,by simp[eM,a2],c0,c1,λi d3 j a6=>?_⟩;have k:=kx (dD n f.cells.toList) D.toList (lo*TE.size) (by simpa using M) (i*TE.size+j);rw[a3]at k;by_cases O:lo<=i/\i<lo+n
   ·obtain⟨y,Q,R⟩:=K.dp j (by omega);refine⟨y,?_,?_⟩
    ·have e2:lo*TE.size<=i*TE.size:=XX _ O.1;have e3:(i-lo)*TE.size+TE.size<=n*TE.size:=by
      have:(i-lo+1)*TE.size<=n*TE.size:=XX _ (by omega)
      rwa [Yq,Nat.one_mul]at this
     have e4:(i-lo)*TE.size=i*TE.size-lo*TE.size:=Nat.sub_mul _ _ _;rw[iP]at k;rw[fQ _ (by simp;omega) _ _ (by simp[J];omega)]at k;rw[show i*TE.size+j-lo*TE.size=(i-lo)*TE.size+j by omega]at k;simp only[Za,J]at k;rw[show((i-lo)*TE.size+j)%TE.size=j by rw[ZP,aaQ,X5 a6]]at k;simpa[k]using Q
    ·show Rd _ _ y (bif _ then _ else _);rw[D2 O.1,hp O.2];exact R.mono a5
   ·obtain⟨y,Q,R⟩:=c2 i d3 j a6;refine⟨y,?_,?_⟩;have:¬(lo*TE.size<=i*TE.size+j/\i*TE.size+j<lo*TE.size+n*TE.size):=(by rw[<-Yq];by_cases l:i<lo;have:(i+1)*TE.size<=lo*TE.size:=XX _ l;rw[Yq]at this;omega;have:(lo+n)*TE.size<=i*TE.size:=XX _ (by omega);omega);rw[XG this]at k;simpa[k]using Q;show Rd _ _ y (bif _ then _ else _);have:(Nat.ble lo i&&Nat.blt i (lo+n))=false:=(by by_cases h:lo<=i;rw[ht,aaw];rw[zN h];rfl);rw[this];exact R.mono a5
end Go.Vm
