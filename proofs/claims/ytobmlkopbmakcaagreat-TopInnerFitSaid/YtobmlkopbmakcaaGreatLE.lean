import Derived.Test.YtobmlkopbmakcaaGreatLD
import Derived.Test.YtobmlkopbmakcaaGreatProg
import Derived.RangeFuncBox
import Derived.RangeFuncLeaves
import Derived.Shelf.Abstract
import Derived.WalkKit
import Derived.OwnWalkIn
import Derived.TacticsInMore
import Derived.LoopNIn
import Derived.LoopIn
set_option linter.unusedVariables false
set_option linter.unusedSimpArgs false
set_option maxRecDepth 20000
namespace Go.Vm
open Go Go.RowKit Go.Proofs
def T3:Ty:=⟨1,8,.int .i64,[.v (.int .i64 0)]⟩
theorem N9:cW Tryz.prog 3 T3:=⟨⟨_,_,rfl,rfl,rfl,rfl,rfl,rfl,rfl⟩,rfl⟩
def T4:Ty:=⟨1,1,.cell,[.v (.bool false)]⟩
theorem Tf:cW Tryz.prog 4 T4:=⟨⟨_,_,rfl,rfl,rfl,rfl,rfl,rfl,rfl⟩,_,rfl,rfl⟩
def T5:Ty:=⟨1,1,.int .u8,[.v (.int .u8 0)]⟩
theorem Vi:cW Tryz.prog 5 T5:=⟨⟨_,_,rfl,rfl,rfl,rfl,rfl,rfl,rfl⟩,rfl⟩
def T9:Ty:=⟨1,16,.cell,[.v (.string ⟨#[]⟩)]⟩
theorem Vh:cW Tryz.prog 9 T9:=⟨⟨_,_,rfl,rfl,rfl,rfl,rfl,rfl,rfl⟩,_,rfl,rfl⟩
def Wi:Ty:=⟨1,24,.ju 3,[.v (.slice none 0 0)]⟩
theorem Ti:cW Tryz.prog 22 Wi:=⟨⟨_,_,rfl,rfl,rfl,rfl,rfl,rfl,rfl⟩,rfl⟩
def Wh:Ty:=⟨1,8,.int .i64,[.v (.int .i64 0)]⟩
theorem Th:cW Tryz.prog 31 Wh:=⟨⟨_,_,rfl,rfl,rfl,rfl,rfl,rfl,rfl⟩,rfl⟩
def Wg:Ty:=⟨1,24,.ju 83,[.v (.slice none 0 0)]⟩
theorem Tg:cW Tryz.prog 35 Wg:=⟨⟨_,_,rfl,rfl,rfl,rfl,rfl,rfl,rfl⟩,rfl⟩
def Wf:Ty:=⟨1,24,.ju 50,[.v (.slice none 0 0)]⟩
theorem Te:cW Tryz.prog 41 Wf:=⟨⟨_,_,rfl,rfl,rfl,rfl,rfl,rfl,rfl⟩,rfl⟩
def We:Ty:=⟨1,24,.ju 50,[.v (.slice none 0 0)]⟩
theorem Td:cW Tryz.prog 42 We:=⟨⟨_,_,rfl,rfl,rfl,rfl,rfl,rfl,rfl⟩,rfl⟩
def Wd:Ty:=⟨1,24,.ju 42,[.v (.slice none 0 0)]⟩
theorem Tc:cW Tryz.prog 43 Wd:=⟨⟨_,_,rfl,rfl,rfl,rfl,rfl,rfl,rfl⟩,rfl⟩
def Wc:Ty:=⟨2,48,.str [(0,42,1),(1,43,1)],[.v (.slice none 0 0),.v (.slice none 0 0)]⟩
theorem Tb:cW Tryz.prog 45 Wc:=⟨⟨_,_,rfl,rfl,rfl,rfl,rfl,rfl,rfl⟩,_,rfl,rfl,rfl⟩
def Wb:Ty:=⟨1,24,.ju 45,[.v (.slice none 0 0)]⟩
theorem Ta:cW Tryz.prog 46 Wb:=⟨⟨_,_,rfl,rfl,rfl,rfl,rfl,rfl,rfl⟩,rfl⟩
def Wa:Ty:=⟨5,120,.str [(0,45,2),(2,46,1),(3,45,2)],[.v (.slice none 0 0),.v (.slice none 0 0),.v (.slice none 0 0),.v (.slice none 0 0),.v (.slice none 0 0)]⟩
theorem S9:cW Tryz.prog 48 Wa:=⟨⟨_,_,rfl,rfl,rfl,rfl,rfl,rfl,rfl⟩,_,rfl,rfl,rfl⟩
def VJ:Ty:=⟨2,16,.str [(0,3,1),(1,3,1)],[.v (.int .i64 0),.v (.int .i64 0)]⟩
theorem S8:cW Tryz.prog 50 VJ:=⟨⟨_,_,rfl,rfl,rfl,rfl,rfl,rfl,rfl⟩,_,rfl,rfl,rfl⟩
def V9:Ty:=⟨4,32,.str [(0,50,2),(2,50,2)],[.v (.int .i64 0),.v (.int .i64 0),.v (.int .i64 0),.v (.int .i64 0)]⟩
theorem S7:cW Tryz.prog 58 V9:=⟨⟨_,_,rfl,rfl,rfl,rfl,rfl,rfl,rfl⟩,_,rfl,rfl,rfl⟩
def V8:Ty:=⟨1,24,.ju 42,[.v (.slice none 0 0)]⟩
theorem S6:cW Tryz.prog 59 V8:=⟨⟨_,_,rfl,rfl,rfl,rfl,rfl,rfl,rfl⟩,rfl⟩
def V7:Ty:=⟨5,56,.str [(0,58,4),(4,59,1)],[.v (.int .i64 0),.v (.int .i64 0),.v (.int .i64 0),.v (.int .i64 0),.v (.slice none 0 0)]⟩
theorem S5:cW Tryz.prog 61 V7:=⟨⟨_,_,rfl,rfl,rfl,rfl,rfl,rfl,rfl⟩,_,rfl,rfl,rfl⟩
def V6:Ty:=⟨2,16,.arr 2 3,[.v (.int .i64 0),.v (.int .i64 0)]⟩
theorem S4:cW Tryz.prog 83 V6:=⟨⟨_,_,rfl,rfl,rfl,rfl,rfl,rfl,rfl⟩,rfl⟩
def V5:Ty:=⟨1,8,.cell,[.v .nilFunc]⟩
theorem S3:cW Tryz.prog 85 V5:=⟨⟨_,_,rfl,rfl,rfl,rfl,rfl,rfl,rfl⟩,_,rfl,rfl⟩
def V4:Ty:=⟨1,8,.cell,[.v (.pointer none)]⟩
theorem SZ:cW Tryz.prog 97 V4:=⟨⟨_,_,rfl,rfl,rfl,rfl,rfl,rfl,rfl⟩,_,rfl,rfl⟩
def UN:Ty:=⟨1,24,.ju 22,[.v (.slice none 0 0)]⟩
theorem Rt:cW Tryz.prog 100 UN:=⟨⟨_,_,rfl,rfl,rfl,rfl,rfl,rfl,rfl⟩,rfl⟩
def UM:Ty:=⟨3,72,.str [(0,41,1),(1,100,1),(2,22,1)],[.v (.slice none 0 0),.v (.slice none 0 0),.v (.slice none 0 0)]⟩
theorem Rs:cW Tryz.prog 102 UM:=⟨⟨_,_,rfl,rfl,rfl,rfl,rfl,rfl,rfl⟩,_,rfl,rfl,rfl⟩
def UL:Ty:=⟨1,8,.cell,[.v .nilFunc]⟩
theorem Rr:cW Tryz.prog 107 UL:=⟨⟨_,_,rfl,rfl,rfl,rfl,rfl,rfl,rfl⟩,_,rfl,rfl⟩
def UK:Ty:=⟨1,8,.cell,[.v .nilFunc]⟩
theorem Rq:cW Tryz.prog 109 UK:=⟨⟨_,_,rfl,rfl,rfl,rfl,rfl,rfl,rfl⟩,_,rfl,rfl⟩
def UJ:Ty:=⟨4,32,.str [(0,50,2),(2,50,2)],[.v (.int .i64 0),.v (.int .i64 0),.v (.int .i64 0),.v (.int .i64 0)]⟩
theorem Rp:cW Tryz.prog 131 UJ:=⟨⟨_,_,rfl,rfl,rfl,rfl,rfl,rfl,rfl⟩,_,rfl,rfl,rfl⟩
def UI:Ty:=⟨1,8,.cell,[.v .nilFunc]⟩
theorem Ro:cW Tryz.prog 134 UI:=⟨⟨_,_,rfl,rfl,rfl,rfl,rfl,rfl,rfl⟩,_,rfl,rfl⟩
def UH:Ty:=⟨1,8,.cell,[.v .nilFunc]⟩
theorem Rn:cW Tryz.prog 140 UH:=⟨⟨_,_,rfl,rfl,rfl,rfl,rfl,rfl,rfl⟩,_,rfl,rfl⟩
def UG:Ty:=⟨1,8,.int .u64,[.v (.int .u64 0)]⟩
theorem Rm:cW Tryz.prog 145 UG:=⟨⟨_,_,rfl,rfl,rfl,rfl,rfl,rfl,rfl⟩,rfl⟩
def UF:Ty:=⟨1,24,.ju 163,[.v (.slice none 0 0)]⟩
theorem Rl:cW Tryz.prog 159 UF:=⟨⟨_,_,rfl,rfl,rfl,rfl,rfl,rfl,rfl⟩,rfl⟩
def UE:Ty:=⟨4,32,.str [(0,50,2),(2,50,2)],[.v (.int .i64 0),.v (.int .i64 0),.v (.int .i64 0),.v (.int .i64 0)]⟩
theorem Rk:cW Tryz.prog 163 UE:=⟨⟨_,_,rfl,rfl,rfl,rfl,rfl,rfl,rfl⟩,_,rfl,rfl,rfl⟩
def UD:Ty:=⟨1,8,.cell,[.v .nilFunc]⟩
theorem Rj:cW Tryz.prog 165 UD:=⟨⟨_,_,rfl,rfl,rfl,rfl,rfl,rfl,rfl⟩,_,rfl,rfl⟩
def UC:Ty:=⟨1,8,.cell,[.v .nilFunc]⟩
theorem Ri:cW Tryz.prog 184 UC:=⟨⟨_,_,rfl,rfl,rfl,rfl,rfl,rfl,rfl⟩,_,rfl,rfl⟩
def UB:Ty:=⟨1,8,.int .i64,[.v (.int .i64 0)]⟩
theorem Rh:cW Tryz.prog 187 UB:=⟨⟨_,_,rfl,rfl,rfl,rfl,rfl,rfl,rfl⟩,rfl⟩
def UA:Ty:=⟨1,4,.int .u32,[.v (.int .u32 0)]⟩
theorem Rg:cW Tryz.prog 194 UA:=⟨⟨_,_,rfl,rfl,rfl,rfl,rfl,rfl,rfl⟩,rfl⟩
def Uz:Ty:=⟨1,8,.int .u64,[.v (.int .u64 0)]⟩
theorem Rf:cW Tryz.prog 196 Uz:=⟨⟨_,_,rfl,rfl,rfl,rfl,rfl,rfl,rfl⟩,rfl⟩
def Uy:Ty:=⟨8,64,.arr 4 50,[.v (.int .i64 0),.v (.int .i64 0),.v (.int .i64 0),.v (.int .i64 0),.v (.int .i64 0),.v (.int .i64 0),.v (.int .i64 0),.v (.int .i64 0)]⟩
theorem Re:cW Tryz.prog 197 Uy:=⟨⟨_,_,rfl,rfl,rfl,rfl,rfl,rfl,rfl⟩,rfl⟩
def Ux:Ty:=⟨1,8,.cell,[.v .nilFunc]⟩
theorem Rc:cW Tryz.prog 206 Ux:=⟨⟨_,_,rfl,rfl,rfl,rfl,rfl,rfl,rfl⟩,_,rfl,rfl⟩
def Uw:Ty:=⟨1,8,.cell,[.v .nilFunc]⟩
theorem Rb:cW Tryz.prog 209 Uw:=⟨⟨_,_,rfl,rfl,rfl,rfl,rfl,rfl,rfl⟩,_,rfl,rfl⟩
def Uv:Ty:=⟨3,24,.str [(0,3,1),(1,3,1),(2,3,1)],[.v (.int .i64 0),.v (.int .i64 0),.v (.int .i64 0)]⟩
theorem Ra:cW Tryz.prog 212 Uv:=⟨⟨_,_,rfl,rfl,rfl,rfl,rfl,rfl,rfl⟩,_,rfl,rfl,rfl⟩
def Uu:Ty:=⟨8,64,.str [(0,3,1),(1,212,3),(4,163,4)],[.v (.int .i64 0),.v (.int .i64 0),.v (.int .i64 0),.v (.int .i64 0),.v (.int .i64 0),.v (.int .i64 0),.v (.int .i64 0),.v (.int .i64 0)]⟩
theorem Q9:cW Tryz.prog 214 Uu:=⟨⟨_,_,rfl,rfl,rfl,rfl,rfl,rfl,rfl⟩,_,rfl,rfl,rfl⟩
def Ut:Ty:=⟨1,8,.int .u64,[.v (.int .u64 0)]⟩
theorem Q8:cW Tryz.prog 227 Ut:=⟨⟨_,_,rfl,rfl,rfl,rfl,rfl,rfl,rfl⟩,rfl⟩
def Us:Ty:=⟨1,8,.cell,[.v (.pointer none)]⟩
theorem Q7:cW Tryz.prog 231 Us:=⟨⟨_,_,rfl,rfl,rfl,rfl,rfl,rfl,rfl⟩,_,rfl,rfl⟩
def Ur:Ty:=⟨1,8,.cell,[.v (.pointer none)]⟩
theorem Q6:cW Tryz.prog 245 Ur:=⟨⟨_,_,rfl,rfl,rfl,rfl,rfl,rfl,rfl⟩,_,rfl,rfl⟩
abbrev TT:iu:=Kj [(3,T3),(4,T4),(5,T5),(9,T9),(22,Wi),(31,Wh),(35,Wg),(41,Wf),(42,We),(43,Wd),(45,Wc),(46,Wb),(48,Wa),(50,VJ),(58,V9),(59,V8),(61,V7),(83,V6),(85,V5),(97,V4),(100,UN),(102,UM),(107,UL),(109,UK),(131,UJ),(134,UI),(140,UH),(145,UG),(159,UF),(163,UE),(165,UD),(184,UC),(187,UB),(194,UA),(196,Uz),(197,Uy),(206,Ux),(209,Uw),(212,Uv),(214,Uu),(227,Ut),(231,Us),(245,Ur)]
theorem kL:cC Tryz.prog TT:=Oe (.cons N9 (.cons Tf (.cons Vi (.cons Vh (.cons Ti (.cons Th (.cons Tg (.cons Te (.cons Td (.cons Tc (.cons Tb (.cons Ta (.cons S9 (.cons S8 (.cons S7 (.cons S6 (.cons S5 (.cons S4 (.cons S3 (.cons SZ (.cons Rt (.cons Rs (.cons Rr (.cons Rq (.cons Rp (.cons Ro (.cons Rn (.cons Rm (.cons Rl (.cons Rk (.cons Rj (.cons Ri (.cons Rh (.cons Rg (.cons Rf (.cons Re (.cons Rc (.cons Rb (.cons Ra (.cons Q9 (.cons Q8 (.cons Q7 (.cons Q6 (.nil))))))))))))))))))))))))))))))))))))))))))))
abbrev C50:List Value->Prop:=λc=>∃a b,c=a++b/\SJ a/\(λc=>∃a b,c=a++b/\SJ a/\(λc=>c=[]) b) b
theorem Sa:pS Tryz.prog 2 50 VJ C50:=pS.str rfl rfl (by kernel_rfl) (.cons (TF:=T3) (by decide) rfl N9 (by decide) (pS.mono (pS.int rfl rfl rfl) (XJ rfl)) (.cons (TF:=T3) (by decide) rfl N9 (by decide) (pS.mono (pS.int rfl rfl rfl) (XJ rfl)) (.nil _)))
theorem VB (a:Int) (b:Int) (c:Int) (f:Int):xT Tryz.prog 50 [i64 a,i64 b] [i64 c,i64 f] (decide ([a,b]=[c,f])):=Sa.fact (XJ rfl) rfl (by kernel_rfl) [iv a,iv b] [iv c,iv f] ⟨[iv a],_,rfl,⟨a,rfl⟩,⟨[iv b],_,rfl,⟨b,rfl⟩,rfl⟩⟩ ⟨[iv c],_,rfl,⟨c,rfl⟩,⟨[iv f],_,rfl,⟨f,rfl⟩,rfl⟩⟩ _ (by simp)
theorem Ql {cs:List SV} (h:jU Tryz.prog 50 cs):∃a b,cs=[i64 a,i64 b]/\SD a/\SD b:=by
 have c:cs.length=2:=(jU.Bk rfl h).1
 match cs,c,h with
 |[f,g],_,h=>obtain⟨a,i,j⟩:=jU.HD rfl (h.field rfl 0 0 1 3 rfl);cases (show[f]=[i64 a] from i);obtain⟨b,k,l⟩:=jU.HD rfl (h.field rfl 1 1 1 3 rfl);cases (show[g]=[i64 b] from k);exact⟨a,b,rfl,j,l⟩
theorem mixed:Tryz.prog.follows .mixedOrders=true:=by kernel_rfl
variable {m m':Id->Mem} {s:Nat} {x:TV}
theorem fk.cS {t:Nat->TV} {r:List (Nat×TV)} (h:fk t m m' r) (k:ao m m' (t s) x:=by exact .same):fk t m m' ((s,x)::r):= .cons k h
theorem fk.cB {t:Nat->TV} {r:List (Nat×TV)} (h:fk t m m' r) (k:ao m m' (t s) x:=by exact .box rfl rfl):fk t m m' ((s,x)::r):= .cons k h
theorem fk.cH {t:Nat->TV} {r:List (Nat×TV)} (h:fk t m m' r) (k:ao m m' (t s) x:=by exact .aL rfl rfl):fk t m m' ((s,x)::r):= .cons k h
theorem fm.cX {o:Id} {x:Mem} {r:List (Id×Mem)} (h:fm m m' r) (k:fb m m' (m o) x:=by exact .box (gO.refl _)):fm m m' ((o,x)::r):= .cons k h
variable {k:List DV}
theorem uD.cR {c:DV} {l:List DV} (h:uD l k):uD (c::l) (c::k):= .cons (dV.refl _) h
variable {σ:Id->Id} {c:TV}
theorem lP.cD {d:TV} {l k:List TV} (h:lP m σ l k) (q:Ge m σ c d:=by exact .d (dV.refl _)):lP m σ (c::l) (d::k):= .cons q h
theorem lP.cH {d:TV} {l k:List TV} (h:lP m σ l k) (q:Ge m σ c d:=by exact .aL rfl rfl):lP m σ (c::l) (d::k):= .cons q h
theorem iV.cH {c d:CV} {l k:List CV} (h:iV m σ l k) (q:ug m σ c d:=by exact .aL rfl rfl):iV m σ (c::l) (d::k):= .cons q h
theorem qg.cR {v:DV} {l:List TV} (h:qg l k):qg (.d v::l) (v::k):= .cons (dV.refl _) h
variable {K p:Prop}
theorem aj.n (k:K) (h:p:=by kernel_rfl):aj p K:=⟨h,k⟩
theorem aj.o (k:K) (h:p:=by omega):aj p K:=⟨h,k⟩
abbrev DP:=kM Tryz.prog
theorem dg {f:FuncId} {a:Func} {c:Code} (g:Tryz.prog.funcs[f]?=some a) (b:List Nat) {args:List DV} {r:TV} (h:vr Tryz.prog TT a.ntmps b c (λe t m=>match e with|.exit _=>False|.normal=>x9 TT t m a.results.toList (MH r)|.ret=>x9 TT t m a.results.toList (MH r)) (Dh args) (λ_=>.none)) (i:a.body=some c:=by exact rfl) (j:(a.name=="runtime.NumGoroutine")=false:=by exact rfl) (k:args.length<=a.ntmps:=by exact XJ rfl):DP f args r:=ic kL mixed g i j b k h
end Go.Vm
namespace Go.Vm
namespace Sg
open Go Go.RowKit Go.Proofs
structure V2 where
 x:Int
 y:Int
abbrev LV:=List V2
structure cc where
 a:V2
 b:V2
structure P3 where
 x:Int
 y:Int
 d:Int
variable {a:V2}
theorem V2.ext {b:V2} (h:a.x=b.x) (k:a.y=b.y):a=b:=by
 cases a;cases b;simp only at h k;rw[h,k]
theorem V2.eq_iff {b:V2}:a=b↔a.x=b.x/\a.y=b.y:=⟨λh=>by rw[h];exact⟨rfl,rfl⟩,λh=>V2.ext h.1 h.2⟩
instance:DecidableEq V2:=λ_ _=>decidable_of_iff _ V2.eq_iff.symm
theorem P3.ext {a b:P3} (h:a.x=b.x) (k:a.y=b.y) (l:a.d=b.d):a=b:=by
 cases a;cases b;simp only at h k l;rw[h,k,l]
theorem cc.ext {a b:cc} (h:a.a=b.a) (k:a.b=b.b):a=b:=by
 cases a;cases b;simp only at h k;rw[h,k]
abbrev vL (v:V2):List SV:=[i64 v.x,i64 v.y]
abbrev vD (v:V2):DV:= .agg (vL v)
abbrev sL (s:cc):List SV:=[i64 s.a.x,i64 s.a.y,i64 s.b.x,i64 s.b.y]
abbrev sD (s:cc):DV:= .agg (sL s)
abbrev pL (p:P3):List SV:=[i64 p.x,i64 p.y,i64 p.d]
abbrev pD (p:P3):DV:= .agg (pL p)
abbrev JD (a b c d:Int):List SV:=[i64 a,i64 b,i64 c,i64 d]
abbrev aS (l:LV):SV:= .sl l.length 2 λi j=>match j with
 |0=>i64 (l.getD i ⟨0,0⟩).x
 |_=>i64 (l.getD i ⟨0,0⟩).y
abbrev ng (x:Int):Int:=cp (0-x)
def bM (n:Int):Int:=if n>0 then 1 else if n<0 then-1 else 0
def cG (x y:Int):Int:=if y>x then y else x
def cK (x y:Int):Int:=if y<x then y else x
def P7 (n:Int):Int:=if n>=0 then n else ng n
def cT (a b:V2):V2:=⟨cp (a.x-b.x),cp (a.y-b.y)⟩
def kc (a b:V2):V2:=⟨cp (a.x+b.x),cp (a.y+b.y)⟩
def fI (a b:V2):Int:=cp (cp (a.x*b.y)-cp (a.y*b.x))
def cQ (a b c:V2):Int:=bM (fI (cT b a) (cT c a))
def bu (a b:V2):Bool:=decide (a.y<b.y)||(decide (a.y=b.y)&&decide (a.x<b.x))
def yo (a b:Int):Int:=if a<b then-1 else if a>b then 1 else 0
def gm (a b:V2):Int:=if bu a b=true then-1 else if a=b then 0 else 1
def aP (v:V2) (m:Int):Bool:=decide (v.x>=ng m)&&decide (v.x<=m)&&decide (v.y>=ng m)&&decide (v.y<=m)
theorem tB.v {K:Bool->Prop} (a b:V2) (k:∀q,(q=true↔a=b)->K q):tB Tryz.prog 50 (vL a) (vL b) K:=by
 refine tB.b (VB _ _ _ _) (λq c=>k q ?_);subst c;rw[XU,V2.eq_iff];simp
theorem ah.v {P:Program} {f:FuncId} {args:List DV} {K:TV->Prop} {e:V2} (h:kM P f args (.d (vD e))) (a:∀v,v=e->K (.d (vD v))):ah P f args K:=⟨_,h,a e rfl⟩
theorem Cg (n:Int):DP 186 [.one (i64 n)] (an (bM n)):=by
 refine dg Tryz.func186 [] ?_;repeat' first|refine ab.t ?_|refine ab.f ?_|refine ab.mk (λ_=>?_) (λ_=>?_)|refine Fin.int ?_|fail
 all_goals simp_all [bM]
 all_goals try (intros;omega)
theorem Im (n:Int):DP 240 [.one (i64 n)] (an (P7 n)):=by
 refine dg Tryz.func240 [] ?_;repeat' first|refine ab.t ?_|refine ab.f ?_|refine ab.mk (λ_=>?_) (λ_=>?_)|refine Fin.int ?_|fail
 all_goals simp_all [P7,ng,cp]<;>omega
theorem O1 (n:Int):DP 205 [.one (i64 n)] (aD false):=by
 refine dg Tryz.func205 [] ?_;refine Fin.bool ?_;simp
theorem rR (a b:Int):DP 148 [.one (i64 a),.one (i64 b)] (an (yo a b)):=by
 refine dg Tryz.func148 [] ?_;repeat' first|refine ah.mk' (O1 _) ?_|refine ab.t ?_|refine ab.f ?_|refine ab.mk (λ_=>?_) (λ_=>?_)|refine Fin.int ?_|fail
 all_goals simp_all [yo]
 all_goals try (intros;omega)
theorem Nb (n:Int):yo n 0=bM n:=by
 unfold yo bM;split<;>split<;>omega
def SM (a b:Int):Int:=if a≠0 then a else b
theorem Lt (a b:Int) (get:Nat->Nat->SV) (c:get 0 0=i64 a) (f:get 1 0=i64 b):DP 150 [.one (.sl 2 1 get)] (an (SM a b)):=by
 refine kM.le (xL:=[.one (.sl 2 1 λi _=>match i with|0=>i64 a|_=>i64 b)]) (.cons (dV.one (aC.sl ?_)) .nil) ?_;intro i g j h;obtain rfl:j=0:=(by omega);rcases i with _|_|i;exact aC.of_eq c;exact aC.of_eq f;omega;refine dg Tryz.func150 [] ?_;refine Loop.vC 3 ?_;repeat' first|refine ab.t ?_|refine ab.f ?_|refine aj.mk (by decide) ?_|refine ab.mk (λ_=>?_) (λ_=>?_)|refine Fin.int ?_|fail
 all_goals simp_all [SM]
theorem eK (v:V2) (m:Int):DP 13 [vD v,.one (i64 m)] (aD (aP v m)):=by
 refine dg Tryz.func13 [] ?_;repeat' first|refine ab.t ?_|refine ab.f ?_|refine ab.mk (λ_=>?_) (λ_=>?_)|refine aj.n ?_|refine Fin.bool ?_|fail
 all_goals
  simp_all [aP,ng,cp]
  try (intros;omega)
theorem cA (v:V2) (m:Int):DP 41 [vD v,.one (i64 m)] (aD (aP v m)):=by
 refine dg Tryz.func41 [] ?_;repeat' first|refine ab.t ?_|refine ab.f ?_|refine ab.mk (λ_=>?_) (λ_=>?_)|refine aj.n ?_|refine Fin.bool ?_|fail
 all_goals
  simp_all [aP,ng,cp]
  try (intros;omega)
theorem Ad (a b:V2):DP 188 [vD a,vD b] (.d (vD (cT a b))):=by
 refine dg Tryz.func188 [] ?_;repeat' first|refine aj.n ?_|fail
 exact Fin.rfl'
theorem bY (a b:V2):DP 43 [vD a,vD b] (.d (vD (cT a b))):=by
 refine dg Tryz.func43 [] ?_;repeat' first|refine aj.n ?_|fail
 exact Fin.rfl'
theorem zv (a b:V2):DP 187 [vD a,vD b] (an (fI a b)):=by
 refine dg Tryz.func187 [] ?_;repeat' first|refine aj.n ?_|fail
 exact Fin.rfl'
theorem dW (a b:V2):DP 149 [vD a,vD b] (an (fI a b)):=by
 refine dg Tryz.func149 [] ?_;repeat' first|refine aj.n ?_|fail
 exact Fin.rfl'
theorem vF (a b c:V2):DP 123 [vD a,vD b,vD c] (an (cQ a b c)):=by
 refine dg Tryz.func123 [] ?_;refine ah.v (Ad b a) (λp f=>?_);refine ah.v (Ad c a) (λq g=>?_);refine ah.int (zv p q) (λn h=>?_);refine ah.int (Cg n) (λs i=>?_);repeat' first|refine aj.n ?_|fail
 refine Fin.int ?_;subst i h f g;rfl
theorem hN (a b c:V2):DP 89 [vD a,vD b,vD c] (an (cQ a b c)):=by
 refine dg Tryz.func89 [] ?_;refine ah.v (bY b a) (λp g=>?_);refine ah.v (bY c a) (λq h=>?_);refine ah.int (dW p q) (λn i=>?_);refine ah.int (rR n 0) (λs f=>?_);repeat' first|refine aj.n ?_|fail
 refine Fin.int ?_;rw[Nb]at f;subst f i g h;rfl
theorem L8 (a b:V2):DP 238 [vD a,vD b] (aD (bu a b)):=by
 refine dg Tryz.func238 [] ?_;repeat' first|refine ab.t ?_|refine ab.f ?_|refine ab.mk (λ_=>?_) (λ_=>?_)|refine aj.n ?_|refine Fin.bool ?_|fail
 all_goals simp_all [bu]
 all_goals try (intros;omega)
theorem ON (a b:V2):SM (yo a.y b.y) (yo a.x b.x)=gm a b:=by
 unfold SM gm yo bu;by_cases h:a=b;subst h;simp
 ·rw[XD h];rw[V2.eq_iff]at h;simp only[Zo,XH,XU];repeat' split
  all_goals omega
theorem iw (a b:V2):DP 92 [vD a,vD b] (an (gm a b)):=by
 refine dg Tryz.func92 [] ?_;refine ah.int (rR _ _) (λp c=>?_);refine ah.int (rR _ _) (λq f=>?_);refine ah.int (Lt p q _ rfl rfl) (λr g=>?_);refine aj.n ?_;refine Fin.int ?_;rw[g,c,f];exact ON a b
theorem rS (a b:V2):decide (gm a b<0)=bu a b:=by
 unfold gm;cases h:bu a b with
 |true=>simp
 |false=>simp only[Y4,Z3];split<;>rfl
theorem kT (a b:V2):DP 213 [vD a,vD b] (aD (bu a b)):=by
 refine dg Tryz.func213 [] ?_;refine ah.int (iw a b) (λp c=>?_);refine Fin.bool ?_;rw[c];exact rS a b
end Sg
end Go.Vm
namespace Go.Vm
open Go Go.RowKit Go.Proofs Go.Shelf
namespace Sg
attribute [local go_sem] Oper.semAt_some
abbrev hS (l:List (LV)):SV:= .sl l.length 1 λi _=>aS (l.getD i [])
abbrev KF (o:LV) (h:List (LV)):Nat->SV:=λi=>match i with
 |0=>aS o
 |_=>hS h
set_option maxRecDepth 100000 in
set_option maxHeartbeats 2000000 in
theorem IQ (Bs off n:Nat) (o:Value) (b R3 cap:Nat) (hv:Nat->Value) (Sx:Nat->Prop) (hSb:Sx b) (TQ:Sx Bs) (hn:n<=maxLen) (w:World)
  (ho:w.cell? ⟨Bs,off,none⟩=some o) (hh:w.cell? ⟨Bs,off+1,none⟩=some (.slice (some ⟨b,R3,none⟩) n cap)) (hc:∀j,j<n->w.cell? ⟨b,R3+j,none⟩=some (hv j))
  (ho1:o.oneCell'=true) (hv1:∀j,j<n->(hv j).oneCell'=true):
  BS Tryz.prog 110 [.pointer (some ⟨Bs,off,none⟩)] (o::(List.range n).map hv) Sx w:=by
 intro l J Jx W hW hJ hY h0;refine callsIn_of_wp Tryz.func110 rfl trivial ?_ rfl;have zf:∀{W':World} {a:Addr} {v:Value},(∀b,Sx b->W'.heap[b]? =w.heap[b]?)->Sx a.block->w.cell? a=some v->W'.cell? a=some v:=λhk hS h=>by rw[World.cell?_of_block (w:=w) (hk _ hS)];exact h
 have ho':=zf (a:=⟨Bs,off,none⟩) hW TQ ho;obtain⟨fn,tmps,assign,body,hy,hR⟩:=hY 0 o W rfl h0;have nt:Tryz.f110.ntmps=22:=by kernel_rfl
 simp only[nt,Z5,XZ,Wy,Nat.reduceAdd,Nat.reduceSub,Array.replicate_succ,Array.replicate_zero,List.push_toArray,List.append_toArray,Ww,YG]
 gi_wp2
 refine⟨rfl,hR.mono ?_⟩;rintro e W3 (⟨rfl,Vz,Vw⟩|⟨rfl,R4⟩)
 ·have U3:∀b,Sx b->W3.heap[b]? =w.heap[b]?:=λb hb=>(Vw b hb).trans (hW b hb);have hh':=zf (a:=⟨Bs,off+1,none⟩) U3 TQ hh
  gi_wp2
  gi_loopw [13] (λi wr=>∃k:Nat,k<=n/\i= .int .i64 k/\J (k+1) wr/\∀b,Sx b->wr.heap[b]? =w.heap[b]?)
   (λi _=>n-(intOf i).toNat)
  case atStart=>exact⟨0,XS _,rfl,Vz,U3⟩
  case round=>
   obtain⟨k,hk,rfl,U4,VU⟩:=hrel;by_cases VW:k<n
   ·have hcx:=zf (a:=⟨b,R3+k,none⟩) VU hSb (hc k VW);obtain⟨fn,tmps,assign,body,hy,hR⟩:=hY (k+1) (hv k) wr (by simp[VW]) U4
    gi_wp2
    refine⟨rfl,hR.mono ?_⟩;rintro e W4 (⟨rfl,hJ4,hk4⟩|⟨rfl,Vy⟩)
    ·gi_wp2
     go_roundw
     case rel=>
      refine⟨k+1,by omega,?_,hJ4,λb hb=>(hk4 b hb).trans (VU b hb)⟩;have Vu:wrap64 ((k:Int)+1)=((k+1:Nat):Int):=(by unfold maxLen at hn;unfold wrap64;omega);rw[Vu]
     case measure=>
      have Vu:wrap64 ((k:Int)+1)=((k+1:Nat):Int):=(by unfold maxLen at hn;unfold wrap64;omega);rw[Vu];simp only[intOf];omega
    ·gi_wp2
     refine bodyPost_ret (results_none rfl _ _ _) rfl ?_;exact⟨⟨_,rfl⟩,.inr Vy⟩
   ·obtain rfl:k=n:=by omega
    gi_wp2
    go_end0
    exact⟨⟨_,rfl⟩,.inl (by simpa using U4)⟩
 ·gi_wp2
  refine bodyPost_ret (results_none rfl _ _ _) rfl ?_;exact⟨⟨_,rfl⟩,.inr R4⟩
set_option maxRecDepth 100000 in
set_option maxHeartbeats 2000000 in
theorem IS (Bs off:Nat) (o:Value) (ad:Option Addr) (cap:Nat) (Sx:Nat->Prop) (TQ:Sx Bs) (w:World)
  (ho:w.cell? ⟨Bs,off,none⟩=some o) (hh:w.cell? ⟨Bs,off+1,none⟩=some (.slice ad 0 cap)) (ho1:o.oneCell'=true):
  BS Tryz.prog 110 [.pointer (some ⟨Bs,off,none⟩)] [o] Sx w:=by
 intro l J Jx W hW hJ hY h0;refine callsIn_of_wp Tryz.func110 rfl trivial ?_ rfl;have zf:∀{W':World} {a:Addr} {v:Value},(∀b,Sx b->W'.heap[b]? =w.heap[b]?)->Sx a.block->w.cell? a=some v->W'.cell? a=some v:=λhk hS h=>by rw[World.cell?_of_block (w:=w) (hk _ hS)];exact h
 have ho':=zf (a:=⟨Bs,off,none⟩) hW TQ ho;obtain⟨fn,tmps,assign,body,hy,hR⟩:=hY 0 o W rfl h0;have nt:Tryz.f110.ntmps=22:=by kernel_rfl
 simp only[nt,Z5,XZ,Wy,Nat.reduceAdd,Nat.reduceSub,Array.replicate_succ,Array.replicate_zero,List.push_toArray,List.append_toArray,Ww,YG]
 gi_wp2
 refine⟨rfl,hR.mono ?_⟩;rintro e W3 (⟨rfl,Vz,Vw⟩|⟨rfl,R4⟩)
 ·have U3:∀b,Sx b->W3.heap[b]? =w.heap[b]?:=λb hb=>(Vw b hb).trans (hW b hb);have hh':=zf (a:=⟨Bs,off+1,none⟩) U3 TQ hh
  gi_wp2
  gi_loopw [13] (λi wr=>i= .int .i64 0/\J 1 wr) (λ_ _=>0)
  case atStart=>exact⟨rfl,Vz⟩
  case round=>
   obtain⟨rfl,U4⟩:=hrel
   gi_wp2
   go_end0
   exact⟨⟨_,rfl⟩,.inl U4⟩
 ·gi_wp2
  refine bodyPost_ret (results_none rfl _ _ _) rfl ?_;exact⟨⟨_,rfl⟩,.inr R4⟩
theorem Ep {S:Nat->Prop} {w:World} {α:Type} (f:α->Value) (g:α->DV):∀l:List α,(∀x∈l,nf S w (f x) (g x))->dT S w (l.map f) (l.map g)
 |[],_=> .nil
 |x::l,h=> .cons (h x (by simp)) (Ep f g l (λy a=>h y (by simp[a])))
theorem qt (o:LV) (h:List (LV)):Iter Tryz.prog 110 (cells 1 λ_=> .ad 2 (KF o h)) (.one (aS o)::h.map (λr=> .one (aS r))):=by
 refine⟨⟨_,Tryz.func110,rfl,rfl⟩,λw S Q R D=>?_⟩;cases D with
 |cons E F=>cases F;obtain⟨k,l,c,rfl,t,u,x⟩:=Rd.qJ E;have m:=u 0 (by omega);have y:=u 1 (by omega);have g:=x 0 (by omega);have G:Rd S w (c 1) (hS h):=x 1 (by omega);rw[YR]at m;have z:∀(p:Option Addr) (cap:Nat),c 1= .slice p 0 cap->h.length=0->∃A,dT S w A (.one (aS o)::h.map (λr=> .one (aS r)))/\BS Tryz.prog 110 [.pointer (some ⟨k,l,none⟩)] A S w:=(by intro p cap e f;have:h=[]:=Y1 f;subst this;exact⟨[c 0],.cons g .nil,IS k l (c 0) p cap S t w m (by rw[<-e];exact y) g.bO⟩);rcases Rd.sY G with⟨e,f⟩|⟨a,cap,e,f⟩|⟨b,H,cap,B,e,I,J,K,M,C⟩;exact z _ _ e f;exact z _ _ e f;refine⟨c 0::(List.range h.length).map (λi=>B i 0),.cons g ?_,IQ k l h.length (c 0) b H cap (λi=>B i 0) S I t (Yf J K) w m (by rw[<-e];exact y) (λj q=>?_) g.bO (λj q=>?_)⟩;have N:h.map (λr=>DV.one (aS r))=(List.range h.length).map (λi=>DV.one (aS (h.getD i []))):=(by apply Wo;simp;intro i O T;simp only[WX,WM];have:i<h.length:=(by simpa using O);simp[List.getD,this]);rw[N];exact Ep _ _ _ (λi P=>C i (by simpa using P) 0 (by omega));have:=M j q 0 (by omega);rw[Xd,YR]at this;exact this;exact(C j q 0 (by omega)).bO
end Sg
end Go.Vm
namespace Go.Vm
namespace Sg
open Go Go.RowKit Go.Proofs
def az (s:cc):Bool:=aP s.a 4000&&aP s.b 4000
def jM (s:cc) (p:V2):Bool:=decide (p.x>=cK s.a.x s.b.x)&&decide (p.x<=cG s.a.x s.b.x)&&decide (p.y>=cK s.a.y s.b.y)&&decide (p.y<=cG s.a.y s.b.y)
def iY (s:cc) (p:V2):Bool:=az s&&jM s p&&(cQ s.a s.b p==0)
def gI (s:cc) (p:V2):Int:=bif az s&&aP p 4000 then cQ s.a s.b p else 0
theorem sd (s:cc):DP 218 [sD s] (aD (az s)):=by
 refine dg Tryz.func218 [] ?_;repeat' first|refine ah.bool (cA s.a _) (λ_ _=>?_)|refine ah.bool (cA s.b _) (λ_ _=>?_)|refine ab.t ?_|refine ab.f ?_|refine ab.mk (λ_=>?_) (λ_=>?_)|refine aj.n ?_|refine Fin.bool ?_|fail
 all_goals simp_all [az]
theorem mc (s:cc):DP 189 [sD s] (aD (az s)):=by
 refine dg Tryz.func189 [] ?_;repeat' first|refine ah.bool (eK s.a _) (λ_ _=>?_)|refine ah.bool (eK s.b _) (λ_ _=>?_)|refine ab.t ?_|refine ab.f ?_|refine ab.mk (λ_=>?_) (λ_=>?_)|refine aj.n ?_|refine Fin.bool ?_|fail
 all_goals simp_all [az]
theorem min_self (a:Int):cK a a=a:=by simp[cK]
theorem max_self (a:Int):cG a a=a:=by simp[cG]
abbrev Uf (a b c d:Int):TV:= .eG [.agg (JD a b c d),.one (.v (.bool true))]
theorem Nl (a b:V2) (get:Nat->Nat->SV) (k:get 0 0=i64 a.x) (l:get 0 1=i64 a.y) (h2:get 1 0=i64 b.x) (m:get 1 1=i64 b.y):
  DP 138 [.one (.sl 2 2 get)] (Uf (cK a.x b.x) (cK a.y b.y) (cG a.x b.x) (cG a.y b.y)):=by
 refine kM.le (xL:=[.one (.sl 2 2 λi j=>match i with|0=>(match j with|0=>i64 a.x|_=>i64 a.y)|_=>(match j with|0=>i64 b.x|_=>i64 b.y))]) (.cons (dV.one (aC.sl ?_)) .nil) ?_;(intro i o j p;rcases i with _|_|i<;>rcases j with _|_|j<;>first|exact aC.of_eq (by assumption)|omega)
 have c:=min_self a.x;have f:=min_self a.y;have g:=max_self a.x;have h:=max_self a.y;refine dg Tryz.func138 [] ?_;refine ab.f ?_;repeat' first|refine aj.n ?_|refine aj.mk (by decide) ?_|fail
 refine Loop.vC 3 ?_;repeat' first|refine ab.t ?_|refine ab.f ?_|refine ab.dA (by decide) ?_|refine ab.cP (by decide) ?_|refine aj.n ?_|refine aj.mk (by decide) ?_|fail
 refine Fin.eq ?_;show Uf (cK (cK a.x a.x) b.x) (cK (cK a.y a.y) b.y) (cG (cG a.x a.x) b.x) (cG (cG a.y a.y) b.y)=_;rw[c,f,g,h]
theorem Jp (s:cc) (p:V2):DP 44 [.agg (JD (cK s.a.x s.b.x) (cK s.a.y s.b.y) (cG s.a.x s.b.x) (cG s.a.y s.b.y)),vD p] (aD (jM s p)):=by
 refine dg Tryz.func44 [] ?_;unfold jM;generalize cK s.a.x s.b.x=a;generalize cK s.a.y s.b.y=b;generalize cG s.a.x s.b.x=c;generalize cG s.a.y s.b.y=d;repeat' first|refine ab.t ?_|refine ab.f ?_|refine ab.mk (λ_=>?_) (λ_=>?_)|refine aj.n ?_|refine Fin.bool ?_|fail
 all_goals simp_all
 all_goals try (intros;omega)
theorem wD (s:cc) (p:V2):DP 196 [sD s,vD p] (aD (iY s p)):=by
 refine dg Tryz.func196 [] ?_;refine ah.mk' (Nl s.a s.b _ rfl rfl rfl rfl) ?_;repeat' first|refine ah.bool (sd s) (λ_ _=>?_)|refine ah.bool (Jp s p) (λ_ _=>?_)|refine ah.int (hN s.a s.b p) (λ_ _=>?_)|refine ab.t ?_|refine ab.f ?_|refine ab.mk (λ_=>?_) (λ_=>?_)|refine aj.n ?_|refine Fin.bool ?_|fail
 all_goals simp_all [iY]
theorem GL (s:cc) (p:V2):DP 223 [sD s,vD p] (aD (iY s p)):=by
 refine dg Tryz.func223 [] ?_;refine ah.bool (mc s) (λv g=>?_);refine ab.mk (λh=>?_) (λh=>?_);refine Fin.bool ?_;have:az s=false:=(by rw[<-g];simpa using h);simp[iY,this];have i:az s=true:=by rw[<-g];simpa using h
 have e:iY s p=(jM s p&&(cQ s.a s.b p==0)):=by rw[iY,i,Zh]
 rw[e];have j:jM s p=(decide (p.x>=cK s.a.x s.b.x)&&decide (p.x<=cG s.a.x s.b.x)&&decide (p.y>=cK s.a.y s.b.y)&&decide (p.y<=cG s.a.y s.b.y)):=rfl;rw[j];refine ab.mk (λa=>?_) (λa=>?_)
 ·replace a:decide (p.x>=cK s.a.x s.b.x)=true:=a;repeat' first|refine ab.t ?_|fail
  refine ab.mk (λb=>?_) (λb=>?_)
  ·replace b:decide (p.x<=cG s.a.x s.b.x)=true:=b;repeat' first|refine ab.t ?_|fail
   refine ab.mk (λc=>?_) (λc=>?_)
   ·replace c:decide (p.y>=cK s.a.y s.b.y)=true:=c;repeat' first|refine ab.t ?_|fail
    refine ab.mk (λf=>?_) (λf=>?_)
    ·replace f:decide (p.y<=cG s.a.y s.b.y)=true:=f;repeat' first|refine ah.int (vF s.a s.b p) (λ_ _=>?_)|refine ab.t ?_|refine Fin.bool ?_|fail
     rename_i n k;rw[a,b,c,f,k];rfl
    ·replace f:decide (p.y<=cG s.a.y s.b.y)=false:=f;repeat' first|refine ab.f ?_|refine Fin.bool ?_|fail
     rw[f];simp
   ·replace c:decide (p.y>=cK s.a.y s.b.y)=false:=c;repeat' first|refine ab.f ?_|refine Fin.bool ?_|fail
    rw[c];simp
  ·replace b:decide (p.x<=cG s.a.x s.b.x)=false:=b;repeat' first|refine ab.f ?_|refine Fin.bool ?_|fail
   rw[b];simp
 ·replace a:decide (p.x>=cK s.a.x s.b.x)=false:=a;repeat' first|refine ab.f ?_|refine Fin.bool ?_|fail
  rw[a];simp
theorem oS (s:cc) (p:V2):DP 191 [sD s,vD p] (an (gI s p)):=by
 refine dg Tryz.func191 [] ?_;repeat' first|refine ah.bool (mc s) (λ_ _=>?_)|refine ah.bool (eK p 4000) (λ_ _=>?_)|refine ah.int (vF s.a s.b p) (λ_ _=>?_)|refine ab.t ?_|refine ab.f ?_|refine ab.mk (λ_=>?_) (λ_=>?_)|refine aj.n ?_|refine Fin.int ?_|fail
 all_goals simp_all [gI]
abbrev cb (p:V2):P3:=⟨p.x,p.y,1⟩
theorem nN (p:V2):DP 185 [vD p] (.d (pD (cb p))):=by
 refine dg Tryz.func185 [] ?_;repeat' first|refine aj.n ?_|fail
 exact Fin.rfl'
theorem AD (p:V2):DP 193 [vD p] (.d (pD (cb p))):=by
 refine dg Tryz.func193 [] ?_;repeat' first|refine aj.n ?_|fail
 exact Fin.rfl'
theorem Dv (a b:Int):Int.gcd b (a.tmod b)=Int.gcd a b:=by
 simp only[Int.gcd,aaC];rw[Nat.gcd_comm b.natAbs,<-Nat.gcd_rec,Nat.gcd_comm]
variable {a:Int}
theorem Gw {b:Int} (h:b≠0):(a.tmod b).natAbs<b.natAbs:=by
 rw[aaC];exact mLt
abbrev Er (n:Int):Prop:= -4611686018427387904<=n/\n<=4611686018427387904
theorem Kd {b:Int} (f:Er b) (c:Er a):Er (a.tmod b):=by
 have h:(a.tmod b).natAbs<=a.natAbs:=by rw[aaC];exact Nat.mod_le _ _
 obtain⟨g,i⟩:=c;constructor<;>omega
theorem MC {b:Int} (c:Er a) (h:b=0):cG a (ng a)=(Int.gcd a b:Int):=by
 subst h;obtain⟨f,g⟩:=c;have e:ng a= -a:=(sb (n:=0-a) ⟨by omega,by omega⟩).trans (by omega);rw[e,Int.gcd_zero_right];unfold cG;split<;>omega
theorem pq (a b:Int) (j:Er a) (k:Er b):DP 236 [.one (i64 a),.one (i64 b)] (an (Int.gcd a b:Nat)):=by
 refine dg Tryz.func236 [] ?_;refine Loop.by (α:=Int×Int) (λx=>[(0,an x.1),(1,an x.2)]) (λ_=>[]) (λx=>Int.gcd x.1 x.2=Int.gcd a b/\Er x.1/\Er x.2) (λx=>x.2.natAbs)
  (aH.at (a,b) ⟨rfl,j,k⟩ .nil (.cS (.cS .nil))) (λx l=>?_)
 obtain⟨p,q⟩:=x;obtain⟨c,f,g⟩:=l;refine ab.mk (λh=>?_) (λh=>?_);have i:q≠0:=(by simpa using h);refine aj.mk i ?_;refine aj.n ?_;exact aH.back (x:=(p,q)) (q,p.tmod q) ⟨(Dv p q).trans c,g,Kd g f⟩ (Gw i) .nil (.cS (.cS .nil));have m:q=0:=(by simpa using h);refine Fin.int ?_;rw[<-c];exact MC f m
theorem CC (a b:Int) (i:0<=a:=by omega) (j:0<=b:=by omega):DP 239 [.one (i64 a),.one (i64 b)] (an (Int.gcd a b:Nat)):=by
 refine dg Tryz.func239 [] ?_;refine Loop.by (α:=Int×Int) (λx=>[(0,an x.1),(1,an x.2)]) (λ_=>[]) (λx=>Int.gcd x.1 x.2=Int.gcd a b/\0<=x.1/\0<=x.2) (λx=>x.2.natAbs)
  (aH.at (a,b) ⟨rfl,i,j⟩ .nil (.cS (.cS .nil))) (λx k=>?_)
 obtain⟨p,q⟩:=x;obtain⟨f,c,l⟩:=k;refine ab.mk (λh=>?_) (λh=>?_);have g:q≠0:=(by simpa using h);refine aj.mk g ?_;refine aj.n ?_;exact aH.back (x:=(p,q)) (q,p.tmod q) ⟨(Dv p q).trans f,l,Int.tmod_nonneg _ c⟩ (Gw g) .nil (.cS (.cS .nil));have m:q=0:=(by simpa using h);refine Fin.int ?_;rw[<-f];replace c:0<=p:=c;subst m;rw[Int.gcd_zero_right];show p=_;omega
theorem wid {n:Int} (a: -9223372036854775808<=n:=by omega) (h2:n<9223372036854775808:=by omega):IntKind.i64.wrap n=n:=sb ⟨a,h2⟩
theorem fv {n:Int} (a: -9223372036854775808<=n) (h2:n<9223372036854775808):cp n=n:=sb ⟨a,h2⟩
variable {m:Int}
theorem np {v:V2} (a:0<=m) (b:m<=4611686018427387904:=by omega):aP v m=true↔-m<=v.x/\v.x<=m/\ -m<=v.y/\v.y<=m:=by
 have e:ng m= -m:=by unfold ng;simp(disch:=omega) only[fv];omega
 simp only[aP,e,XH,XU];omega
def kJ (p:P3) (m:Int):Bool:=decide (1<=p.d)&&decide (p.d<=134217728)&&decide (-(m*p.d)<=p.x)&&decide (p.x<=m*p.d)&&decide (-(m*p.d)<=p.y)&&decide (p.y<=m*p.d)
def en (p:P3):Bool:=kJ p 4000&&decide (Int.gcd (Int.gcd p.x p.y) p.d=1)
variable {p:P3}
theorem fJ:kJ p m=true↔1<=p.d/\p.d<=134217728/\ -(m*p.d)<=p.x/\p.x<=m*p.d/\ -(m*p.d)<=p.y/\p.y<=m*p.d:=by
 simp only[kJ,XH,XU];omega
theorem D1 (p:P3) (m:Int) (c:0<=m:=by decide) (f:m<=4000:=by decide):DP 237 [pD p,.one (i64 m)] (aD (kJ p m)):=by
 refine dg Tryz.func237 [] ?_;have b:¬(1<=p.d/\p.d<=134217728)->kJ p m=false:=λh=>by rw[YL];intro g;have:=fJ.1 g;exact h ⟨this.1,this.2.1⟩
 refine ab.mk (λh=>?_) (λh=>?_)
 ·replace h:decide (p.d<1)=true:=h;repeat' first|refine ab.t ?_|refine Fin.bool ?_|fail
  rw[b];have:=XB h;omega
 ·replace h:decide (p.d<1)=false:=h;repeat' first|refine ab.f ?_|fail
  refine ab.mk (λa=>?_) (λa=>?_);replace a:decide (p.d>134217728)=true:=a;refine Fin.bool ?_;rw[b];have:=XB a;omega;replace a:decide (p.d>134217728)=false:=a;have k:=XA h;have l:=XA a;refine ah.bool (cA ⟨p.x,p.y⟩ (cp (m*p.d))) (λq i=>?_);refine Fin.bool ?_;rw[i,Zd,fJ];have j:0<=m*p.d:=XM c (by omega);have o:m*p.d<=4000*134217728:=aaJ f (by omega) (by omega) (by omega);rw[fv (by omega) (by omega),np j];show-(m*p.d)<=p.x/\p.x<=m*p.d/\ -(m*p.d)<=p.y/\p.y<=m*p.d↔_;omega
theorem tu (a:0<=m) (b:m<=4000) (h:kJ p m=true):Er p.x/\Er p.y/\Er p.d/\m*p.d<=536870912000/\0<=m*p.d:=by
 obtain⟨f,g,i,j,k,l⟩:=fJ.1 h;have c:0<=m*p.d:=XM a (by omega);have o:m*p.d<=4000*134217728:=aaJ b (by omega) (by omega) (by omega);exact⟨⟨by omega,by omega⟩,⟨by omega,by omega⟩,⟨by omega,by omega⟩,by omega,c⟩
theorem zi {a b:Int} (m:Int) (c: -m<=a/\a<=m) (f: -m<=b/\b<=m) (_h0:0<=m:=by omega):((Int.gcd a b:Nat):Int)<=m:=by
 by_cases h:a=0;subst h;rw[Int.gcd_zero_left];omega;have:=Nat.le_of_dvd (by omega) (Nat.gcd_dvd_left a.natAbs b.natAbs);have e:Int.gcd a b=Nat.gcd a.natAbs b.natAbs:=rfl;omega
theorem Px (a:0<=m) (b:m<=4000) (h:kJ p m=true):Er (Int.gcd p.x p.y:Nat):=by
 obtain⟨c,f,g,i,j⟩:=tu a b h;have:=zi 4611686018427387904 c f;constructor<;>omega
theorem EF (p:P3):DP 221 [pD p] (aD (en p)):=by
 refine dg Tryz.func221 [] ?_;refine ah.bool (D1 p 4000) (λq b=>?_);refine ab.mk (λh=>?_) (λh=>?_)
 ·have a:kJ p 4000=true:=(by rw[<-b,h]);obtain⟨c,f,g,_⟩:=tu (by decide) (by decide) a;have i:=Px (by decide) (by decide) a;repeat' first|refine ah.mk' (pq p.x p.y c f) ?_|refine ah.mk' (pq _ p.d i g) ?_|refine ab.t ?_|refine aj.n ?_|fail
  subst h;repeat' first|refine ab.t ?_|refine aj.n ?_|refine Fin.bool ?_|fail
  rw[en,a,Zh,Zd];simp only[aac,XU];omega
 ·subst h;repeat' first|refine ab.f ?_|refine aj.n ?_|refine Fin.bool ?_|fail
  rw[en,<-b];rfl
theorem Io {n:Int} (h:Er n):P7 n=(n.natAbs:Int):=by
 obtain⟨a,b⟩:=h;unfold P7 ng;simp(disch:=omega) only[fv];split<;>omega
theorem Cq (p:P3):DP 225 [pD p] (aD (en p)):=by
 refine dg Tryz.func225 [] ?_;have c:¬(1<=p.d/\p.d<=134217728/\ -(4000*p.d)<=p.x/\p.x<=4000*p.d/\ -(4000*p.d)<=p.y/\p.y<=4000*p.d)->en p=false:=λh=>by rw[en,show kJ p 4000=false from ?_];rfl;rw[YL];intro l;exact h (fJ.1 l)
 refine ab.mk (λh=>?_) (λh=>?_)
 ·replace h:=XB (show decide (p.d<1)=true from h);repeat' first|refine ab.t ?_|refine Fin.bool ?_|fail
  rw[c (by omega)]
 replace h:=XA (show decide (p.d<1)=false from h);repeat' first|refine ab.f ?_|fail
 refine ab.mk (λf=>?_) (λf=>?_)
 ·replace f:=XB (show decide (p.d>134217728)=true from f);repeat' first|refine ab.t ?_|refine Fin.bool ?_|fail
  rw[c (by omega)]
 replace f:=XA (show decide (p.d>134217728)=false from f);repeat' first|refine ab.f ?_|fail
 have u:cp (-4000*p.d)= -(4000*p.d):=(fv (by omega) (by omega)).trans (by omega);have w:cp (4000*p.d)=4000*p.d:=fv (by omega) (by omega);refine ab.mk (λg=>?_) (λg=>?_)
 ·replace g:=XB (show decide (p.x<cp (-4000*p.d))=true from g);repeat' first|refine ab.t ?_|refine Fin.bool ?_|fail
  rw[c (by omega)]
 replace g:=XA (show decide (p.x<cp (-4000*p.d))=false from g);repeat' first|refine ab.f ?_|fail
 refine ab.mk (λi=>?_) (λi=>?_)
 ·replace i:=XB (show decide (p.x>cp (4000*p.d))=true from i);repeat' first|refine ab.t ?_|refine Fin.bool ?_|fail
  rw[c (by omega)]
 replace i:=XA (show decide (p.x>cp (4000*p.d))=false from i);repeat' first|refine ab.f ?_|fail
 refine ab.mk (λj=>?_) (λj=>?_)
 ·replace j:=XB (show decide (p.y<cp (-4000*p.d))=true from j);repeat' first|refine ab.t ?_|refine Fin.bool ?_|fail
  rw[c (by omega)]
 replace j:=XA (show decide (p.y<cp (-4000*p.d))=false from j);repeat' first|refine ab.f ?_|fail
 refine ab.mk (λk=>?_) (λk=>?_)
 ·replace k:=XB (show decide (p.y>cp (4000*p.d))=true from k);repeat' first|refine ab.t ?_|refine Fin.bool ?_|fail
  rw[c (by omega)]
 replace k:=XA (show decide (p.y>cp (4000*p.d))=false from k);have l:kJ p 4000=true:=fJ.2 (by omega);obtain⟨q,r,x,_⟩:=tu (by decide) (by decide) l;refine ah.int (Im p.x) (λa m=>?_);refine ah.int (Im p.y) (λb o=>?_);rw[Io q]at m;rw[Io r]at o;refine ah.mk' (CC a b) ?_;refine ah.mk' (CC _ p.d) ?_;refine aj.n ?_;refine Fin.bool ?_;have t:Int.gcd a b=Int.gcd p.x p.y:=by rw[m,o];rfl
 rw[t,en,l,Zh,Zd];simp only[aac,XU];omega
structure Fr (a m:Int):Prop where
 m1:1<=m
 m2:m<=134217728
 a1: -(2000*m)<=a
 a2:a<=2000*m
end Sg
end Go.Vm
namespace Go.Vm
open Go Go.RowKit Go.Proofs
variable {k:Nat}
theorem aC.qo {n a:Nat} {g g':Nat->Nat->SV} (b:n=a) (h:∀i,i<n->∀j,j<k->aC (g i j) (g' i j)):aC (.sl n k g) (.sl a k g'):=by
 subst b;exact aC.sl h
variable {i:Nat}
theorem aC.bif {x y z:SV} (a:i<k->aC x z) (h2:k<=i->aC y z):aC (bif Nat.blt i k then x else y) z:=by
 cases h:Nat.blt i k with
 |true=>exact a (bU h)
 |false=>refine h2 (Xi λb=>?_);have:Nat.blt i k=true:=iI b;rw[h]at this;cases this
theorem aY {n B:Nat} (h:n<=100000:=by omega) (a:B<=1000:=by decide):n*B<=140737488355328/\n<=maxLen:=by
 have:=ZS h a;simp only[maxLen];omega
namespace Sg
def gH:LV->V2->LV
 |[],v=>[v]
 |x::r,v=>if bu x v=true then x::gH r v else if x=v then x::r else v::x::r
def ix (l:LV):LV:=l.foldl gH []
theorem HF {v:V2}:∀(l:LV) (k:Nat),k<=l.length->(∀i,i<k->bu (l.getD i ⟨0,0⟩) v=true)->(k<l.length->bu (l.getD k ⟨0,0⟩) v=false)->
  gH l v=if k<l.length/\l.getD k ⟨0,0⟩=v then l else l.take k++v::l.drop k
 |[],k,a,_,_=>by have:k=0:=(by simpa using a);subst this;simp[gH]
 |x::r,0,_,_,b=>by have:=b (by simp);simp only[W2]at this;simp only[gH,this,Y4,Z3,XZ,Nat.zero_lt_succ,aaD,W2,Z9,W9,Ww]
 |x::r,k+1,a,c,b=>by have f:=c 0 (by omega);simp only[W2]at f;have g:=HF (v:=v) r k (by simpa using a) (λi j=>by simpa using c (i+1) (by omega)) (λh=>by simpa using b (by simpa using h));simp only[gH,f,WH,g,XZ,Nat.add_lt_add_iff_right,List.getD_cons_succ,W1,List.drop_succ_cons];split<;>rfl
theorem nY (v:V2):∀l:LV,(gH l v).length<=l.length+1
 |[]=>by simp[gH]
 |x::r=>by simp only[gH];have:=nY v r;split;simp;omega;(split<;>simp)
abbrev vG (l:LV):Nat->Nat->SV:=λi j=>match j with
 |0=>i64 (l.getD i ⟨0,0⟩).x
 |_=>i64 (l.getD i ⟨0,0⟩).y
theorem kW {l a:LV} {b:Nat} (h:l.getD i ⟨0,0⟩=a.getD b ⟨0,0⟩) (j:Nat):vG l i j=vG a b j:=by
 unfold vG;rw[h]
theorem Cd (l:LV) (v:V2) (k i:Nat) (c:k<=l.length) (hi:i<l.length+1:=by omega):
  (l.take k++v::l.drop k).getD i ⟨0,0⟩=if i<k then l.getD i ⟨0,0⟩else if i=k then v else l.getD (i-1) ⟨0,0⟩:=by
 simp only[List.getD,Yo,Yu,Xp c];by_cases a:i<k;simp[a,Y2]
 ·by_cases b:i=k;subst b;simp
  ·simp only[a,Z3,b];obtain⟨d,f⟩:∃d,i-k=d+1:=⟨i-k-1,by omega⟩;rw[f,List.getElem?_cons_succ,Zn,show k+d=i-1 by omega]
theorem Lj (o:LV) (v:V2) (q:Nat) (b:q<=o.length) {r:LV} (c:r=o.take q++v::o.drop q) (i:Nat) (hi:i<0+(q-0)+1+(o.length-q)) (j:Nat) (l:j<2):
  aC (bif Nat.blt i (0+(q-0)+1)then(bif Nat.blt i (0+(q-0))then(bif Nat.blt i 0 then .v Go.undef else vG o (0+(i-0)) j)else(vL v).getD ((i-(0+(q-0)))*2+j) (.v Go.undef))else vG o (q+(i-(0+(q-0)+1))) j) (vG r i j):=by
 have a:=Cd o v q i b;rw[<-c]at a;refine aC.bif (λf=>aC.bif (λg=>aC.bif (λh=>absurd h (XL _)) (λ_=>?_)) (λg=>?_)) (λf=>?_);rw[iP]at a;exact aC.of_eq (kW (by rw[a];congr 1;omega) j);have e:i=q:=(by omega);subst e;rw[iN,XG rfl]at a;have k:i-(0+(i-0))=0:=(by omega);rw[k];unfold vG;rw[a];rcases j with _|_|j;exact aC.refl _;exact aC.refl _;omega;rw[iN,iN]at a;exact aC.of_eq (kW (by rw[a];congr 1;omega) j)
theorem EV (l:LV) (H:l.length<=1000:=by omega):DP 224 [.one (aS l)] (.d (.one (aS (ix l)))):=by
 refine dg Tryz.func224 [] ?_;refine Loop.by (α:=Nat×LV) (λx=>[(0,.d (.one (aS l))),(4,an x.1),(3,.d (.one (aS x.2)))]) (λ_=>[]) (λx=>x.1<=l.length/\x.2=(l.take x.1).foldl gH []/\x.2.length<=x.1) (λx=>l.length-x.1)
  (aH.at (0,[]) ⟨XS _,rfl,XP _⟩ .nil (.cS (.cS (.cons (.data (dV.one (aC.nil _ _))) .nil)))) (λx b=>?_)
 obtain⟨k,o⟩:=x;obtain⟨z,j,A⟩:=b;replace z:k<=l.length:=z;replace j:o=(l.take k).foldl gH []:=j;replace A:o.length<=k:=A;refine ab.mk (λr=>?_) (λr=>?_)
 ·have m:k<l.length:=(by have:=XB r;omega);have t:IntKind.i64.wrap ((k:Int)+1)=((k+1:Nat):Int):=(sb ⟨by omega,by omega⟩).trans (by omega);have u:(l.take (k+1)).foldl gH []=gH o (l.getD k ⟨0,0⟩):=(by rw[YC,aaj,<-j];simp[List.getD,XV m]);refine Loop.by (α:=Nat) (λq=>[(0,.d (.one (aS l))),(4,an k),(3,.d (.one (aS o))),(5,an q)]) (λ_=>[]) (λq=>q<=o.length/\∀i,i<q->bu (o.getD i ⟨0,0⟩) (l.getD k ⟨0,0⟩)=true) (λq=>o.length-q)
   (aH.at 0 ⟨XS _,λ_ h=>absurd h (XL _)⟩ .nil (.cS (.cS (.cS (.cS .nil))))) (λq b=>?_)
  obtain⟨w,b⟩:=b;have E:IntKind.i64.wrap ((q:Int)+1)=((q+1:Nat):Int):=(sb ⟨by omega,by omega⟩).trans (by omega);have B:(q<o.length->bu (o.getD q ⟨0,0⟩) (l.getD k ⟨0,0⟩)=false)->gH o (l.getD k ⟨0,0⟩)=if q<o.length/\o.getD q ⟨0,0⟩=l.getD k ⟨0,0⟩then o else o.take q++l.getD k ⟨0,0⟩::o.drop q:=λh=>HF o q w b h;refine ab.mk (λf=>?_) (λf=>?_)
  ·have g:q<o.length:=(by have:=XB f;omega);repeat' first|refine ab.t ?_|refine aj.o ?_|fail
   refine ah.bool (L8 (o.getD q ⟨0,0⟩) (l.getD k ⟨0,0⟩)) (λc C=>?_);repeat' first|refine ab.t ?_|refine aj.n ?_|fail
   refine ab.mk (λy=>?_) (λy=>?_);refine aH.back (x:=q) (q+1) ⟨g,λi I=>?_⟩ (by omega) .nil (.cS (.cS (.cS (.cons (ao.int E) .nil))));by_cases e:i=q;subst e;rw[<-C];exact y;exact b i (by omega)
   ·have F:bu (o.getD q ⟨0,0⟩) (l.getD k ⟨0,0⟩)=false:=(by rw[<-C];exact y);have a:=B (λ_=>F);repeat' first|refine ab.t ?_|refine aj.o ?_|refine ab.dA f ?_|fail
    refine tB.v (o.getD q ⟨0,0⟩) (l.getD k ⟨0,0⟩) (λe D=>?_);repeat' first|refine ab.t ?_|refine aj.n ?_|fail
    refine ab.mk (λp=>?_) (λp=>?_);refine aH.back (x:=(k,o)) (k+1,o) ⟨m,?_,?_⟩ (by show l.length-(k+1)<l.length-k;omega) .nil (.cS (.cons (ao.int t) (.cS .nil)));show o=_;rw[u,a,XG ⟨g,D.1 p⟩];show o.length<=k+1;omega
    ·have G:¬(q<o.length/\o.getD q ⟨0,0⟩=l.getD k ⟨0,0⟩):=λh=>by rw[D.2 h.2]at p;cases p
     rw[XD G]at a;refine aj.o ?_;refine aj.mk (aY) ?_;refine aj.o ?_;refine aj.mk (aY) ?_;refine aj.o ?_;refine aj.mk (aY) ?_;refine aj.n ?_;refine aH.freeze 3 44 _ _ 2 50 _ rfl rfl (aH.back (x:=(k,o)) (k+1,gH o (l.getD k ⟨0,0⟩)) ⟨m,u.symm,?_⟩ (by show l.length-(k+1)<l.length-k;omega) .nil (.cS (.cons (ao.int t) (.cons (.data (dV.one (aC.qo ?_ ?_))) .nil))));exact Yf (nY _ _) (by omega);rw[a];simp only[XR,Yu,XZ,ZB,Yw];omega;exact Lj o (l.getD k ⟨0,0⟩) q w a
  ·have g:¬q<o.length:=(by have:=XA f;omega);have a:=B (λh=>absurd h g);rw[XD (λh=>g h.1)]at a;repeat' first|refine ab.f ?_|refine aj.n ?_|fail
   refine ab.cP f ?_;repeat' first|refine ab.f ?_|refine aj.n ?_|fail
   refine aj.o ?_;refine aj.mk (aY) ?_;refine aj.o ?_;refine aj.mk (aY) ?_;refine aj.o ?_;refine aj.mk (aY) ?_;refine aj.n ?_;refine aH.freeze 3 44 _ _ 2 50 _ rfl rfl (aH.back (x:=(k,o)) (k+1,gH o (l.getD k ⟨0,0⟩)) ⟨m,u.symm,?_⟩ (by show l.length-(k+1)<l.length-k;omega) .nil (.cS (.cons (ao.int t) (.cons (.data (dV.one (aC.qo ?_ ?_))) .nil))));exact Yf (nY _ _) (by omega);rw[a];simp only[XR,Yu,XZ,ZB,Yw];omega;exact Lj o (l.getD k ⟨0,0⟩) q w a
 ·have e:k=l.length:=(by have:=XA r;omega);refine Fin.eq ?_;show TV.d (.one (aS o))=_;rw[j,e,YT];rfl
end Sg
end Go.Vm
namespace Go.Vm
open Go Go.RowKit Go.Proofs
namespace Sg
def eV (s t:cc):LV:=[s.a,s.b,t.a,t.b]
def fK (s t:cc) (e:V2):Bool:=iY s e&&iY t e
def aN (s t:cc):LV:=ix ((eV s t).filter (fK s t))
theorem Dz (p:V2->Bool) (l:LV) (k:Nat) (a:k<l.length):(l.take (k+1)).filter p=(l.take k).filter p++(if p (l.getD k ⟨0,0⟩)=true then[l.getD k ⟨0,0⟩]else[]):=by
 rw[YC,aad];congr 1;simp only[List.getD,XV a,Option.toList_some,Yt,Xk,aax]
theorem Q0 (o:LV) (v:V2) (i:Nat) (hi:i<o.length+1) (j:Nat) (b:j<2):aC (bif Nat.blt i o.length then vG o i j else(vL v).getD ((i-o.length)*2+j) (.v Go.undef)) (vG (o++[v]) i j):=by
 refine aC.bif (λh=>aC.of_eq (kW ?_ j)) (λh=>?_);simp[List.getD,Yo,h];have e:i=o.length:=(by omega);subst e;have a:(o++[v]).getD o.length ⟨0,0⟩=v:=(by simp[List.getD]);unfold vG;rw[a,YM];rcases j with _|_|j;exact aC.refl _;exact aC.refl _;omega
theorem FR (s t:cc):DP 190 [sD s,sD t] (.d (.one (aS (aN s t)))):=by
 refine dg Tryz.func190 [] ?_;have y:∀i,i<4->∀j,j<2->aC ([i64 s.a.x,i64 s.a.y,i64 s.b.x,i64 s.b.y,i64 t.a.x,i64 t.a.y,i64 t.b.x,i64 t.b.y].getD (i*2+j) (.v Go.undef)) (vG (eV s t) i j):=by intro i g j l;rcases i with _|_|_|_|i<;>rcases j with _|_|j<;>first|exact aC.refl _|omega
 refine Loop.by (α:=Nat) (λk=>[(2,.ptr 2 0),(3,.ptr 3 0),(5,.d (.one (aS (eV s t)))),(7,an k),(6,.aL 41 0)]) (λk=>[(2,.box (sL s)),(3,.box (sL t)),(41,.aJ 0 (((eV s t).take k).filter (fK s t)).length 2 50 (vG (((eV s t).take k).filter (fK s t))))]) (λk=>k<=4) (λk=>4-k)
  (aH.nil 6 41 2 50 (λ_ _=> .v Go.undef) rfl rfl (aH.at 0 (XS _) (.cX (.cX (.cons (.aJ (λ_ h=>absurd h (XL _))) .nil))) (.cB (.cB (.cons (.data (dV.one (aC.sl y))) (.cS (.cH .nil))))))) (λk A=>?_)
 refine ab.mk (λo=>?_) (λo=>?_)
 ·have m:k<4:=(by have:=XB o;omega);have p:IntKind.i64.wrap ((k:Int)+1)=((k+1:Nat):Int):=(sb ⟨by omega,by omega⟩).trans (by omega);have a:=Dz (fK s t) (eV s t) k m;have z:(((eV s t).take k).filter (fK s t)).length<=4:=(by refine Yf (ZI _ _) ?_;simp;omega);refine aj.mk (show 0<=(k:Int)/\(k:Int)<4 by omega) ?_;refine ah.bool (GL s ((eV s t).getD k ⟨0,0⟩)) (λb u=>?_);refine ab.mk (λq=>?_) (λq=>?_)
  ·subst q;repeat' first|refine ab.t ?_|refine aj.mk (show 0<=(k:Int)/\(k:Int)<4 by omega) ?_|fail
   refine ah.bool (GL t ((eV s t).getD k ⟨0,0⟩)) (λc w=>?_);repeat' first|refine ab.t ?_|refine aj.n ?_|fail
   refine ab.mk (λr=>?_) (λr=>?_);subst r;have f:fK s t ((eV s t).getD k ⟨0,0⟩)=true:=(by rw[fK,<-u,<-w];rfl);rw[XG f]at a;refine aj.mk (show 0<=(k:Int)/\(k:Int)<4 by omega) ?_;refine aj.mk (aY) ?_;refine aH.back (x:=k) (k+1) m (by omega) (.cX (.cX (.cons (.bj ?_ ?_) .nil))) (.cB (.cB (.cS (.cons (ao.int p) (.cH .nil)))));rw[a];simp;intro i g j l;rw[a];exact Q0 _ _ i g j l;subst r;have f:fK s t ((eV s t).getD k ⟨0,0⟩)=false:=(by rw[fK,<-w];simp);rw[f]at a;simp only[Y4,Z3,YO]at a;refine aH.back (x:=k) (k+1) m (by omega) (.cX (.cX (.cons (.bj ?_ ?_) .nil))) (.cB (.cB (.cS (.cons (ao.int p) (.cH .nil)))));rw[a];intro i g j l;rw[a];exact aC.refl _
  ·subst q;have f:fK s t ((eV s t).getD k ⟨0,0⟩)=false:=(by rw[fK,<-u];rfl);rw[f]at a;simp only[Y4,Z3,YO]at a;repeat' first|refine ab.f ?_|refine aj.n ?_|fail
   refine aH.back (x:=k) (k+1) m (by omega) (.cX (.cX (.cons (.bj ?_ ?_) .nil))) (.cB (.cB (.cS (.cons (ao.int p) (.cH .nil)))));rw[a];intro i g j l;rw[a];exact aC.refl _
 ·have e:k=4:=(by have:=XA o;omega);subst e;have z:((eV s t).filter (fK s t)).length<=4:=ZI _ _;refine ah.mk' (EV ((eV s t).filter (fK s t))) ?_;exact Fin.rfl'
def dR (s t:cc):Bool:=decide (gI s t.a*gI s t.b<0)&&decide (gI t s.a*gI t s.b<0)
def aI (s t:cc):Int:=if az s=false\/az t=false then 0 else if(aN s t).length>1 then 3 else if(aN s t).length=1 then 1 else if dR s t=true then 2 else 0
theorem KE (s:cc) (p:V2): -1<=gI s p/\gI s p<=1:=by
 unfold gI;cases az s&&aP p 4000;simp only[ZM];omega;(simp only[ZG,cQ,bM];split;decide;(split<;>decide))
theorem Ch (s t:cc) (p q:V2):cp (gI s p*gI t q)=gI s p*gI t q:=by
 have b:=KE s p;have c:=KE t q;have a:gI s p= -1\/gI s p=0\/gI s p=1:=by omega
 rcases a with a|a|a<;>rw[a]<;>exact fv (by omega) (by omega)
theorem oV (s t:cc):DP 125 [sD s,sD t] (an (aI s t)):=by
 refine dg Tryz.func125 [] ?_;refine ah.bool (mc s) (λa q=>?_);refine ab.mk (λh=>?_) (λh=>?_)
 ·repeat' first|refine ab.t ?_|refine Fin.int ?_|fail
  rw[aI,XG (.inl (by rw[<-q];simpa using h))]
 repeat' first|refine ab.f ?_|fail
 refine ah.bool (mc t) (λb r=>?_);repeat' first|refine ab.f ?_|fail
 refine ab.mk (λl=>?_) (λl=>?_);refine Fin.int ?_;rw[aI,XG (.inr (by rw[<-r];simpa using l))];have B:¬(az s=false\/az t=false):=by rw[<-q,<-r];simp at h l;simp[h,l]
 have C:aI s t=if(aN s t).length>1 then 3 else if(aN s t).length=1 then 1 else if dR s t=true then 2 else 0:=by rw[aI,XD B]
 rw[C];refine ah.mk' (FR s t) ?_;refine ab.mk (λg=>?_) (λg=>?_);replace g:=XB g;refine Fin.int ?_;rw[iP];replace g:=XA g;rw[iN];refine ab.mk (λm=>?_) (λm=>?_);have D:((aN s t).length:Int)=1:=(by simpa using m);refine Fin.int ?_;rw[iP];have D:((aN s t).length:Int)≠1:=by simpa using m
 rw[iN];refine ah.int (oS s t.a) (λi u=>?_);refine ah.int (oS s t.b) (λj w=>?_);have k:=Ch s s t.a t.b;have o:=Ch t t s.a s.b;rw[<-u,<-w]at k;have e:dR s t=(decide (i*j<0)&&decide (gI t s.a*gI t s.b<0)):=by rw[dR,u,w]
 rw[e];refine ab.mk (λc=>?_) (λc=>?_)
 ·replace c:decide (cp (i*j)<0)=true:=c;rw[k]at c;repeat' first|refine ab.t ?_|fail
  refine ah.int (oS t s.a) (λx y=>?_);have p:decide (cp (i*j)<0)=true:=(by rw[k];exact c);repeat' first|refine ab.t ?_|refine ab.dA p ?_|refine ah.int (oS t s.b) (λz A=>?_)|refine aj.n ?_|fail
  rw[<-y,<-A]at o;rw[<-y,<-A,c,Zh];refine ab.mk (λf=>?_) (λf=>?_);replace f:decide (cp (x*z)<0)=true:=f;rw[o]at f;refine Fin.int ?_;rw[XG f];replace f:decide (cp (x*z)<0)=false:=f;rw[o]at f;refine Fin.int ?_;rw[f];rfl
 ·replace c:decide (cp (i*j)<0)=false:=c;rw[k]at c;rw[c,Zp];have p:decide (cp (i*j)<0)=false:=(by rw[k];exact c);repeat' first|refine ab.f ?_|refine ab.cP p ?_|refine aj.n ?_|refine Fin.int ?_|fail
  rfl
end Sg
end Go.Vm
namespace Go.Vm
namespace Sg
open Go Go.RowKit Go.Proofs
def af (a b:V2):V2:=⟨a.x-b.x,a.y-b.y⟩
def aa (a b:V2):Int:=a.x*b.y-a.y*b.x
structure In (m:Int) (v:V2):Prop where
 x0: -m<=v.x
 x1:v.x<=m
 y0: -m<=v.y
 y1:v.y<=m
variable {m:Int}
theorem In.of {v:V2} (a:0<=m) (b:m<=4611686018427387904) (h:aP v m=true):In m v:=by
 have:=(np a b).1 h;exact⟨by omega,by omega,by omega,by omega⟩
theorem In.within {v:V2} (a:0<=m) (b:m<=4611686018427387904) (h:In m v):aP v m=true:=(np a b).2 ⟨h.x0,h.x1,h.y0,h.y1⟩
variable {s:cc}
theorem cF (h:az s=true):In 4000 s.a/\In 4000 s.b:=by
 simp only[az,XH]at h;exact⟨In.of (by decide) (by decide) h.1,In.of (by decide) (by decide) h.2⟩
theorem jL (h:In 4000 s.a) (k:In 4000 s.b):az s=true:=by
 simp only[az,XH];exact⟨h.within (by decide) (by decide),k.within (by decide) (by decide)⟩
variable {x:Int}
theorem iq {y X Y:Int} (a: -X<=x/\x<=X) (b: -Y<=y/\y<=Y): -(X*Y)<=x*y/\x*y<=X*Y:=by
 have c:(x*y).natAbs<=X.natAbs*Y.natAbs:=by rw[aaI];exact ZS (by omega) (by omega)
 have f:((X.natAbs*Y.natAbs:Nat):Int)=X*Y:=by rw[Xs,aaa (by omega),aaa (by omega)]
 omega
variable {a:V2}
theorem gP {b:V2} (g:m<=1000000000) (c:In m a) (f:In m b):cT a b=af a b/\In (2*m) (af a b):=by
 obtain⟨h,i,j,k⟩:=c;obtain⟨l,o,p,q⟩:=f;refine⟨?_,⟨?_,?_,?_,?_⟩⟩;unfold cT af;simp(disch:=omega) only[fv];all_goals (simp only[af];omega)
theorem fR {b:V2} (f:0<=m) (c:m<=1000000000) (g:In m a) (h:In m b):fI a b=aa a b/\ -(2*(m*m))<=aa a b/\aa a b<=2*(m*m):=by
 obtain⟨i,j,k,l⟩:=g;obtain⟨o,p,q,r⟩:=h;have t:=iq (x:=a.x) (y:=b.y) (X:=m) (Y:=m) ⟨i,j⟩ ⟨q,r⟩;have u:=iq (x:=a.y) (y:=b.x) (X:=m) (Y:=m) ⟨k,l⟩ ⟨o,p⟩;have w:m*m<=1000000000*1000000000:=aaJ c c f (by omega);refine⟨?_,?_⟩;unfold fI aa;simp(disch:=omega) only[fv];unfold aa;omega
def iW (a b c:V2):Int:=bM (aa (af b a) (af c a))
theorem jt {b c:V2} (o:0<=m) (p:m<=100000000) (f:In m a) (g:In m b) (h:In m c):cQ a b c=iW a b c:=by
 unfold cQ iW;obtain⟨i,j⟩:=gP (by omega) g f;obtain⟨k,l⟩:=gP (by omega) h f;rw[i,k,(fR (by omega) (by omega) j l).1]
def low (x y d:Int):P3:=⟨x.tdiv (Int.gcd (Int.gcd x y) d),y.tdiv (Int.gcd (Int.gcd x y) d),d.tdiv (Int.gcd (Int.gcd x y) d)⟩
def Jg (x y d:Int):P3:=if d<0 then low (-x) (-y) (-d)else low x y d
variable {g:Int}
theorem HQ {d:Int} (h:d≠0:=by omega):((Int.gcd g d:Nat):Int)≠0:=by
 have:Int.gcd g d≠0:=λa=>h (Int.gcd_eq_zero_iff.1 a).2;omega
theorem kZ (a:Er x):Er (x.tdiv g):=by
 have h:(x.tdiv g).natAbs<=x.natAbs:=by rw[Int.natAbs_tdiv];exact Nat.div_le_self _ _
 obtain⟨b,c⟩:=a;constructor<;>omega
theorem zI (h:Er x):cp x=x:=fv (by have:=h.1;omega) (by have:=h.2;omega)
abbrev Small (n:Int):Prop:= -1000000000000000<=n/\n<=1000000000000000
theorem dG {n:Int} (h:Small n):Er n:=⟨by omega,by omega⟩
theorem zh {a b:Int} (c:Small a) (f:Small b):Small (Int.gcd a b:Nat):=by
 have:=zi 1000000000000000 c f;constructor<;>omega
structure Qf where
 kind:Int
 p:P3
 s:cc
abbrev T8 (c:Qf):List SV:=[i64 c.kind,i64 c.p.x,i64 c.p.y,i64 c.p.d,i64 c.s.a.x,i64 c.s.a.y,i64 c.s.b.x,i64 c.s.b.y]
abbrev FU (c:Qf):DV:= .agg (T8 c)
abbrev p0:P3:=⟨0,0,0⟩
abbrev v0:V2:=⟨0,0⟩
abbrev s0:cc:=⟨v0,v0⟩
abbrev hG:Qf:=⟨0,p0,s0⟩
abbrev im (p:V2):Qf:=⟨1,cb p,s0⟩
theorem gC (p:V2):DP 220 [vD p] (.d (FU (im p))):=by
 refine dg Tryz.func220 [] ?_;refine ah.mk' (nN p) ?_;repeat' first|refine aj.n ?_|fail
 exact Fin.rfl'
def qy (a b d:Int):Prop:=a<0\/a>d\/b<0\/b>d
instance (a b d:Int):Decidable (qy a b d):=by unfold qy;exact inferInstance
def uB (a b d:Int):Prop:=a=0\/a=d\/b=0\/b=d
instance (a b d:Int):Decidable (uB a b d):=by unfold uB;exact inferInstance
def eS (s:cc) (u:V2) (a b d:Int):Qf:=if qy a b d then hG else⟨if uB a b d then 1 else 2,low (s.a.x*d+a*u.x) (s.a.y*d+a*u.y) d,s0⟩
def fg (s t:cc):Qf:=
 let u:=af s.b s.a;let v:=af t.b t.a;let g:=af t.a s.a
 if aa u v<0 then eS s u (-aa g v) (-aa g u) (-aa u v)else eS s u (aa g v) (aa g u) (aa u v)
theorem Ji (s t:cc) (hs:az s=true) (c5:az t=true) (d2:aa (af s.b s.a) (af t.b t.a)≠0):
  DP 219 [sD s,sD t,.one (i64 (aa (af s.b s.a) (af t.b t.a)))] (.d (FU (fg s t))):=by
 obtain⟨O,c6⟩:=cF hs;obtain⟨b3,c7⟩:=cF c5;obtain⟨c8,w⟩:=gP (by decide) c6 O;obtain⟨c9,iv⟩:=gP (by decide) c7 b3;obtain⟨d0,b4⟩:=gP (by decide) b3 O;obtain⟨a2,a3,a4⟩:=fR (by decide) (by decide) b4 iv;obtain⟨a5,a6,a7⟩:=fR (by decide) (by decide) b4 w;obtain⟨d3,d4,d5⟩:=fR (by decide) (by decide) w iv;have a8:∀D A B:Int,fg s t=eS s (af s.b s.a) A B D->0<D->D<=128000000-> -128000000<=A->A<=128000000->
   ¬qy A B D->(Small (s.a.x*D+A*(af s.b s.a).x)/\Small (s.a.y*D+A*(af s.b s.a).y)/\cp (cp (s.a.x*D)+cp (A*(af s.b s.a).x))=s.a.x*D+A*(af s.b s.a).x/\cp (cp (s.a.y*D)+cp (A*(af s.b s.a).y))=s.a.y*D+A*(af s.b s.a).y):=λD A B _ d6 b5 b6 b7 _=>by
  have i:=iq (x:=s.a.x) (y:=D) (X:=4000) (Y:=128000000) ⟨O.x0,O.x1⟩ ⟨by omega,b5⟩;have c:=iq (x:=s.a.y) (y:=D) (X:=4000) (Y:=128000000) ⟨O.y0,O.y1⟩ ⟨by omega,b5⟩;have j:=iq (x:=A) (y:=(af s.b s.a).x) (X:=128000000) (Y:=8000) ⟨b6,b7⟩ ⟨w.x0,w.x1⟩;have f:=iq (x:=A) (y:=(af s.b s.a).y) (X:=128000000) (Y:=8000) ⟨b6,b7⟩ ⟨w.y0,w.y1⟩;refine⟨⟨by omega,by omega⟩,⟨by omega,by omega⟩,?_,?_⟩;simp(disch:=omega) only[fv];simp(disch:=omega) only[fv]
 have d7:aa (af s.b s.a) (af t.b t.a)=aa (af s.b s.a) (af t.b t.a):=rfl;generalize d1:aa (af s.b s.a) (af t.b t.a)=d at*;refine dg Tryz.func219 [] ?_;refine ah.v (c8▸bY s.b s.a) (λu b8=>?_);refine ah.v (c9▸bY t.b t.a) (λv b9=>?_);refine aj.n ?_;refine ah.v (d0▸bY t.a s.a) (λc0 c1=>?_);simp only[<-b8]at w a5 a6 a7 a8;simp only[<-b9]at iv a2 a3 a4;simp only[<-c1]at a2 a3 a4 a5 a6 a7;refine ah.int (a2▸dW c0 v) (λa c2=>?_);refine ah.int (a5▸dW c0 u) (λb c3=>?_);refine aj.n ?_;rw[<-c2]at a3 a4;rw[<-c3]at a6 a7;have c4:fg s t=if d<0 then eS s u (-a) (-b) (-d)else eS s u a b d:=by rw[c2,c3,<-d1,c1,b9,b8];rfl
 have o:IntKind.i64.wrap (0-a)= -a:=(wid).trans (by omega);have P:IntKind.i64.wrap (0-b)= -b:=(wid).trans (by omega);have l:IntKind.i64.wrap (0-d)= -d:=(wid).trans (by omega);have d8:a=a:=rfl;have d9:b=b:=rfl;have e0:d=d:=rfl;refine ab.mk (λh=>?_) (λh=>?_)
 ·replace h:=XB (show decide (d<0)=true from h);have z:fg s t=eS s u (-a) (-b) (-d):=(by rw[c4,XG h]);have p:qy (-a) (-b) (-d)->fg s t=hG:=λh=>by rw[z,eS,XG h]
  refine ab.mk (λi=>?_) (λi=>?_)
  ·replace i:=XB i;repeat' first|refine ab.t ?_|refine aj.n ?_|fail
   rw[p (.inl (o▸i))];exact Fin.rfl'
  replace i:=XA i;repeat' first|refine ab.f ?_|fail
  refine ab.mk (λc=>?_) (λc=>?_)
  ·replace c:=XB c;repeat' first|refine ab.t ?_|refine aj.n ?_|fail
   rw[p (.inr (.inl (o▸l▸c)))];exact Fin.rfl'
  replace c:=XA c;repeat' first|refine ab.f ?_|fail
  refine ab.mk (λj=>?_) (λj=>?_)
  ·replace j:=XB j;repeat' first|refine ab.t ?_|refine aj.n ?_|fail
   rw[p (.inr (.inr (.inl (P▸j))))];exact Fin.rfl'
  replace j:=XA j;repeat' first|refine ab.f ?_|fail
  refine ab.mk (λf=>?_) (λf=>?_)
  ·replace f:=XB f;repeat' first|refine ab.t ?_|refine aj.n ?_|fail
   rw[p (.inr (.inr (.inr (P▸l▸f))))];exact Fin.rfl'
  replace f:=XA f;rw[o]at i c;rw[l]at c f;rw[P]at j f;have S:¬qy (-a) (-b) (-d):=(by unfold qy;omega);obtain⟨a0,a1,q,r⟩:=a8 (-d) (-a) (-b) z (by omega) (by omega) (by omega) (by omega) S;have a9:fg s t=⟨if uB (-a) (-b) (-d)then 1 else 2,low (s.a.x*(-d)+(-a)*u.x) (s.a.y*(-d)+(-a)*u.y) (-d),s0⟩:=(by rw[z,eS,XD S]);rw[<-o,<-l]at q r;rw[<-o,<-l]at a0 a1;have C:Small (cp (cp (s.a.x*(IntKind.i64.wrap (0-d)))+cp ((IntKind.i64.wrap (0-a))*u.x))):=(by rw[q];exact a0);have E:Small (cp (cp (s.a.y*(IntKind.i64.wrap (0-d)))+cp ((IntKind.i64.wrap (0-a))*u.y))):=(by rw[r];exact a1);have T:Small (IntKind.i64.wrap (0-d)):=(by rw[l];constructor<;>omega);refine aj.n ?_;refine ah.int (pq _ _ (dG C) (dG E)) (λF U=>?_);have b0:Small F:=(by rw[U];exact zh C E);refine ah.int (pq F (IntKind.i64.wrap (0-d)) (dG b0) (dG T)) (λg V=>?_);have G:g≠0:=(by rw[V];exact HQ (by rw[l];omega));refine aj.mk G ?_;refine aj.mk G ?_;refine aj.mk G ?_;refine aj.n ?_;have Z:F=(Int.gcd (cp (cp (s.a.x*(IntKind.i64.wrap (0-d)))+cp ((IntKind.i64.wrap (0-a))*u.x))) (cp (cp (s.a.y*(IntKind.i64.wrap (0-d)))+cp ((IntKind.i64.wrap (0-a))*u.y))):Nat):=U;rw[q,r]at Z;have b1:(⟨cp ((cp (cp (s.a.x*(IntKind.i64.wrap (0-d)))+cp ((IntKind.i64.wrap (0-a))*u.x))).tdiv g),cp ((cp (cp (s.a.y*(IntKind.i64.wrap (0-d)))+cp ((IntKind.i64.wrap (0-a))*u.y))).tdiv g),cp ((IntKind.i64.wrap (0-d)).tdiv g)⟩:P3)=low (s.a.x*(-d)+(-a)*u.x) (s.a.y*(-d)+(-a)*u.y) (-d):=(by rw[zI (kZ (dG C)),zI (kZ (dG E)),zI (kZ (dG T)),V,Z,q,r,o,l];rfl);have m:∀k:Int,k=(if uB (-a) (-b) (-d)then 1 else 2)->Fin (.d (FU ⟨k,⟨cp ((cp (cp (s.a.x*(IntKind.i64.wrap (0-d)))+cp ((IntKind.i64.wrap (0-a))*u.x))).tdiv g),cp ((cp (cp (s.a.y*(IntKind.i64.wrap (0-d)))+cp ((IntKind.i64.wrap (0-a))*u.y))).tdiv g),cp ((IntKind.i64.wrap (0-d)).tdiv g)⟩,s0⟩)) (.d (FU (fg s t))):=λk b2=>by rw[a9,b1,b2];exact Fin.rfl'
  refine ab.mk (λH=>?_) (λH=>?_)
  ·have Q:(IntKind.i64.wrap (0-a))=0:=(by simpa using H);repeat' first|refine ab.t ?_|refine aj.n ?_|fail
   exact m 1 (by rw[XG (.inl (o▸Q))])
  have Q:(IntKind.i64.wrap (0-a))≠0:=(by simpa using H);repeat' first|refine ab.f ?_|fail
  refine ab.mk (λI=>?_) (λI=>?_)
  ·have J:(IntKind.i64.wrap (0-a))=(IntKind.i64.wrap (0-d)):=(by simpa using I);repeat' first|refine ab.t ?_|refine aj.n ?_|fail
   exact m 1 (by rw[XG (.inr (.inl (o▸l▸J)))])
  have J:(IntKind.i64.wrap (0-a))≠(IntKind.i64.wrap (0-d)):=(by simpa using I);repeat' first|refine ab.f ?_|fail
  refine ab.mk (λK=>?_) (λK=>?_)
  ·have R:(IntKind.i64.wrap (0-b))=0:=(by simpa using K);repeat' first|refine ab.t ?_|refine aj.n ?_|fail
   exact m 1 (by rw[XG (.inr (.inr (.inl (P▸R))))])
  have R:(IntKind.i64.wrap (0-b))≠0:=(by simpa using K);repeat' first|refine ab.f ?_|fail
  refine ab.mk (λM=>?_) (λM=>?_)
  ·have N:(IntKind.i64.wrap (0-b))=(IntKind.i64.wrap (0-d)):=(by simpa using M);repeat' first|refine ab.t ?_|refine aj.n ?_|fail
   exact m 1 (by rw[XG (.inr (.inr (.inr (P▸l▸N))))])
  have N:(IntKind.i64.wrap (0-b))≠(IntKind.i64.wrap (0-d)):=(by simpa using M);refine m 2 ?_;rw[XD];rw[o]at Q J;rw[P]at R N;rw[l]at J N;unfold uB;omega
 ·replace h:=XA (show decide (d<0)=false from h);have z:fg s t=eS s u a b d:=(by rw[c4,XD h]);have p:qy a b d->fg s t=hG:=λh=>by rw[z,eS,XG h]
  refine ab.mk (λi=>?_) (λi=>?_)
  ·replace i:=XB i;repeat' first|refine ab.t ?_|refine aj.n ?_|fail
   rw[p (.inl (i))];exact Fin.rfl'
  replace i:=XA i;repeat' first|refine ab.f ?_|fail
  refine ab.mk (λc=>?_) (λc=>?_)
  ·replace c:=XB c;repeat' first|refine ab.t ?_|refine aj.n ?_|fail
   rw[p (.inr (.inl (c)))];exact Fin.rfl'
  replace c:=XA c;repeat' first|refine ab.f ?_|fail
  refine ab.mk (λj=>?_) (λj=>?_)
  ·replace j:=XB j;repeat' first|refine ab.t ?_|refine aj.n ?_|fail
   rw[p (.inr (.inr (.inl (j))))];exact Fin.rfl'
  replace j:=XA j;repeat' first|refine ab.f ?_|fail
  refine ab.mk (λf=>?_) (λf=>?_)
  ·replace f:=XB f;repeat' first|refine ab.t ?_|refine aj.n ?_|fail
   rw[p (.inr (.inr (.inr (f))))];exact Fin.rfl'
  replace f:=XA f;have S:¬qy a b d:=(by unfold qy;omega);obtain⟨a0,a1,q,r⟩:=a8 d a b z (by omega) (by omega) (by omega) (by omega) S;have a9:fg s t=⟨if uB a b d then 1 else 2,low (s.a.x*d+a*u.x) (s.a.y*d+a*u.y) d,s0⟩:=(by rw[z,eS,XD S]);have C:Small (cp (cp (s.a.x*d)+cp (a*u.x))):=(by rw[q];exact a0);have E:Small (cp (cp (s.a.y*d)+cp (a*u.y))):=(by rw[r];exact a1);have T:Small d:=(by constructor<;>omega);refine aj.n ?_;refine ah.int (pq _ _ (dG C) (dG E)) (λF U=>?_);have b0:Small F:=(by rw[U];exact zh C E);refine ah.int (pq F d (dG b0) (dG T)) (λg V=>?_);have G:g≠0:=(by rw[V];exact HQ);refine aj.mk G ?_;refine aj.mk G ?_;refine aj.mk G ?_;refine aj.n ?_;have Z:F=(Int.gcd (cp (cp (s.a.x*d)+cp (a*u.x))) (cp (cp (s.a.y*d)+cp (a*u.y))):Nat):=U;rw[q,r]at Z;have b1:(⟨cp ((cp (cp (s.a.x*d)+cp (a*u.x))).tdiv g),cp ((cp (cp (s.a.y*d)+cp (a*u.y))).tdiv g),cp (d.tdiv g)⟩:P3)=low (s.a.x*d+a*u.x) (s.a.y*d+a*u.y) d:=(by rw[zI (kZ (dG C)),zI (kZ (dG E)),zI (kZ (dG T)),V,Z,q,r];rfl);have m:∀k:Int,k=(if uB a b d then 1 else 2)->Fin (.d (FU ⟨k,⟨cp ((cp (cp (s.a.x*d)+cp (a*u.x))).tdiv g),cp ((cp (cp (s.a.y*d)+cp (a*u.y))).tdiv g),cp (d.tdiv g)⟩,s0⟩)) (.d (FU (fg s t))):=λk b2=>by rw[a9,b1,b2];exact Fin.rfl'
  refine ab.mk (λH=>?_) (λH=>?_)
  ·have Q:a=0:=(by simpa using H);repeat' first|refine ab.t ?_|refine aj.n ?_|fail
   exact m 1 (by rw[XG (.inl (Q))])
  have Q:a≠0:=(by simpa using H);repeat' first|refine ab.f ?_|fail
  refine ab.mk (λI=>?_) (λI=>?_)
  ·have J:a=d:=(by simpa using I);repeat' first|refine ab.t ?_|refine aj.n ?_|fail
   exact m 1 (by rw[XG (.inr (.inl (J)))])
  have J:a≠d:=(by simpa using I);repeat' first|refine ab.f ?_|fail
  refine ab.mk (λK=>?_) (λK=>?_)
  ·have R:b=0:=(by simpa using K);repeat' first|refine ab.t ?_|refine aj.n ?_|fail
   exact m 1 (by rw[XG (.inr (.inr (.inl (R))))])
  have R:b≠0:=(by simpa using K);repeat' first|refine ab.f ?_|fail
  refine ab.mk (λM=>?_) (λM=>?_)
  ·have N:b=d:=(by simpa using M);repeat' first|refine ab.t ?_|refine aj.n ?_|fail
   exact m 1 (by rw[XG (.inr (.inr (.inr (N))))])
  have N:b≠d:=(by simpa using M);refine m 2 ?_;rw[XD];unfold uB;omega
def gv (s:cc):V2:=if bu s.b s.a=true then s.b else s.a
def gb (s:cc):V2:=if bu s.b s.a=true then s.a else s.b
def lC (a b:V2):V2:=if bu a b=true then b else a
def jA (a b:V2):V2:=if bu b a=true then b else a
def ki (s t:cc):Qf:=
 if gm (lC (gv s) (gv t)) (jA (gb s) (gb t))=0 then im (lC (gv s) (gv t))
 else if gm (lC (gv s) (gv t)) (jA (gb s) (gb t))= -1 then⟨3,p0,⟨lC (gv s) (gv t),jA (gb s) (gb t)⟩⟩else hG
def eC (s t:cc):Qf:=
 if s.a=s.b/\iY t s.a=true then im s.a
 else if t.a=t.b/\iY s t.a=true then im t.a
 else if s.a=s.b\/t.a=t.b\/cQ s.a s.b t.a≠0 then hG
 else ki s t
def dz (s t:cc):Qf:=
 if az s=false\/az t=false then hG
 else if aa (af s.b s.a) (af t.b t.a)≠0 then fg s t
 else eC s t
theorem LU (s t:cc):DP 182 [sD s,sD t] (.d (FU (dz s t))):=by
 refine dg Tryz.func182 [] ?_;refine ah.bool (sd s) (λb5 a1=>?_);refine ab.mk (λh=>?_) (λh=>?_)
 ·rw[show dz s t=hG by rw[dz,XG (.inl (by rw[<-a1];simpa using h))]];repeat' first|refine ab.t ?_|refine aj.n ?_|fail
  exact Fin.rfl'
 repeat' first|refine ab.f ?_|fail
 refine ah.bool (sd t) (λb6 a2=>?_);repeat' first|refine ab.f ?_|fail
 refine ab.mk (λP=>?_) (λP=>?_);rw[show dz s t=hG by rw[dz,XG (.inr (by rw[<-a2];simpa using P))]];exact Fin.rfl';have Q:az s=true:=by rw[<-a1];simpa using h
 have R:az t=true:=by rw[<-a2];simpa using P
 have a3:¬(az s=false\/az t=false):=by simp[Q,R]
 obtain⟨a6,a7⟩:=cF Q;obtain⟨a8,a9⟩:=cF R;obtain⟨b0,b1⟩:=gP (by decide) a7 a6;obtain⟨b2,iv⟩:=gP (by decide) a9 a8;obtain⟨b3,_⟩:=fR (by decide) (by decide) b1 iv;refine ah.mk' (b0▸bY s.b s.a) ?_;refine ah.mk' (b2▸bY t.b t.a) ?_;refine ah.int (b3▸dW (af s.b s.a) (af t.b t.a)) (λd a4=>?_);refine aj.n ?_;refine ab.mk (λS=>?_) (λS=>?_);have N:d≠0:=(by simpa using S);subst a4;rw[show dz s t=fg s t by rw[dz,XD a3,XG N]];refine ah.mk' (Ji s t Q R N) ?_;exact Fin.rfl';have N:d=0:=by simpa using S
 rw[show dz s t=eC s t by rw[dz,XD a3,XD (by rw[<-a4,N];simp)]];refine tB.v s.a s.b (λj a5=>?_);have I:(¬(s.a=s.b/\iY t s.a=true))->(¬(t.a=t.b/\iY s t.a=true))->eC s t=if s.a=s.b\/t.a=t.b\/cQ s.a s.b t.a≠0 then hG else ki s t:=λh k=>by rw[eC,XD h,XD k]
 refine ab.mk (λG=>?_) (λG=>?_)
 ·have u:s.a=s.b:=a5.1 G;subst G;repeat' first|refine ab.t ?_|fail
  refine ah.bool (wD t s.a) (λb4 J=>?_);repeat' first|refine ab.t ?_|fail
  refine ab.mk (λT=>?_) (λT=>?_);rw[show eC s t=im s.a by rw[eC,XG ⟨u,by rw[<-J,T]⟩]];refine ah.mk' (gC s.a) ?_;exact Fin.rfl';have z:¬(s.a=s.b/\iY t s.a=true):=λh=>by rw[<-J,T]at h;exact absurd h.2 (by decide)
  refine tB.v t.a t.b (λa K=>?_);refine ab.mk (λl=>?_) (λl=>?_)
  ·have m:t.a=t.b:=K.1 l;subst l;repeat' first|refine ab.t ?_|fail
   refine ah.bool (wD s t.a) (λU o=>?_);repeat' first|refine ab.t ?_|fail
   refine ab.mk (λB=>?_) (λB=>?_);rw[show eC s t=im t.a by rw[eC,XD z,XG ⟨m,by rw[<-o,B]⟩]];refine ah.mk' (gC t.a) ?_;exact Fin.rfl';have A:¬(t.a=t.b/\iY s t.a=true):=λh=>by rw[<-o,B]at h;exact absurd h.2 (by decide)
   rw[show eC s t=hG by rw[I z A,XG (.inl u)]];refine tB.v s.a s.b (λC D=>?_);obtain rfl:C=true:=D.2 u;repeat' first|refine ab.t ?_|fail
   exact Fin.rfl'
  ·have m:¬t.a=t.b:=λh=>by rw[K.2 h]at l;cases l
   subst l;have A:¬(t.a=t.b/\iY s t.a=true):=λh=>m h.1;rw[show eC s t=hG by rw[I z A,XG (.inl u)]];repeat' first|refine ab.f ?_|fail
   refine tB.v s.a s.b (λC D=>?_);obtain rfl:C=true:=D.2 u;repeat' first|refine ab.t ?_|fail
   exact Fin.rfl'
 have u:¬s.a=s.b:=λh=>by rw[a5.2 h]at G;cases G
 subst G;have z:¬(s.a=s.b/\iY t s.a=true):=λh=>u h.1;repeat' first|refine ab.f ?_|fail
 refine tB.v t.a t.b (λa K=>?_);refine ab.mk (λl=>?_) (λl=>?_)
 ·have m:t.a=t.b:=K.1 l;subst l;repeat' first|refine ab.t ?_|fail
  refine ah.bool (wD s t.a) (λU o=>?_);repeat' first|refine ab.t ?_|fail
  refine ab.mk (λB=>?_) (λB=>?_);rw[show eC s t=im t.a by rw[eC,XD z,XG ⟨m,by rw[<-o,B]⟩]];refine ah.mk' (gC t.a) ?_;exact Fin.rfl';have A:¬(t.a=t.b/\iY s t.a=true):=λh=>by rw[<-o,B]at h;exact absurd h.2 (by decide)
  rw[show eC s t=hG by rw[I z A,XG (.inr (.inl m))]];refine tB.v s.a s.b (λC D=>?_);obtain rfl:C=false:=(by rw[YL];exact λh=>u (D.1 h));repeat' first|refine ab.f ?_|fail
  refine tB.v t.a t.b (λV X=>?_);obtain rfl:V=true:=X.2 m;repeat' first|apply ab.t|apply ab.f
  exact Fin.rfl'
 have m:¬t.a=t.b:=λh=>by rw[K.2 h]at l;cases l
 subst l;have A:¬(t.a=t.b/\iY s t.a=true):=λh=>m h.1;repeat' first|refine ab.f ?_|fail
 refine tB.v s.a s.b (λC D=>?_);obtain rfl:C=false:=by rw[YL];exact λh=>u (D.1 h)
 repeat' first|refine ab.f ?_|fail
 refine tB.v t.a t.b (λV X=>?_);obtain rfl:V=false:=by rw[YL];exact λh=>m (X.1 h)
 repeat' first|refine ab.f ?_|fail
 refine ah.int (hN s.a s.b t.a) (λw hw=>?_);repeat' first|refine ab.f ?_|fail
 refine ab.mk (λY=>?_) (λY=>?_);have Z:w≠0:=(by simpa using Y);rw[show eC s t=hG by rw[I z A,XG (.inr (.inr (by rw[<-hw];exact Z)))]];exact Fin.rfl';have Z:w=0:=by simpa using Y
 rw[show eC s t=ki s t by rw[I z A,XD (by rw[<-hw];simp[u,m,Z])]];refine Loop.by (α:=Nat) (λk=>[(2,.ptr 2 0),(3,.ptr 3 0),(4,.ptr 4 0),(6,.ptr 6 0),(7,an (2*k:Nat))])
  (λk=>[(2,.box (sL s)),(3,.box (sL t)),(4,.box (T8 hG)),(6,.box (match k with
   |0=>vL s.a++vL s.b++vL t.a++vL t.b
   |1=>vL (gv s)++vL (gb s)++vL t.a++vL t.b
   |_=>vL (gv s)++vL (gb s)++vL (gv t)++vL (gb t)))]) (λk=>k<=2) (λk=>2-k)
  (aH.at 0 (XS _) (.cX (.cX (.cons (.box (gO.of_eq rfl)) (.cons (.box (gO.of_eq rfl)) .nil)))) (.cB (.cB (.cB (.cB (.cS .nil)))))) (λk b7=>?_)
 rcases k with _|_|k
 ·refine ab.t ?_;repeat' first|refine aj.mk (by decide) ?_|fail
  refine ah.bool (kT s.b s.a) (λq y=>?_);refine aj.n ?_;refine ab.mk (λp=>?_) (λp=>?_)
  ·repeat' first|refine aj.mk (by decide) ?_|refine aj.n ?_|fail
   have j:gv s=s.b:=(by rw[gv,XG (by rw[<-y,p])]);have a:gb s=s.a:=(by rw[gb,XG (by rw[<-y,p])]);refine aH.back (x:=0) 1 (by decide) (by decide) (.cX (.cX (.cons (.box (gO.of_eq rfl)) (.cons (.box (gO.of_eq ?_)) .nil)))) (.cB (.cB (.cB (.cB (.cons (ao.int (by decide)) .nil)))));rw[j,a];rfl
  ·have j:gv s=s.a:=(by rw[gv,XD (by rw[<-y,p];decide)]);have a:gb s=s.b:=(by rw[gb,XD (by rw[<-y,p];decide)]);refine aH.back (x:=0) 1 (by decide) (by decide) (.cX (.cX (.cons (.box (gO.of_eq rfl)) (.cons (.box (gO.of_eq ?_)) .nil)))) (.cB (.cB (.cB (.cB (.cons (ao.int (by decide)) .nil)))));rw[j,a];rfl
 ·refine ab.t ?_;repeat' first|refine aj.mk (by decide) ?_|fail
  refine ah.bool (kT t.b t.a) (λq y=>?_);refine aj.n ?_;refine ab.mk (λp=>?_) (λp=>?_)
  ·repeat' first|refine aj.mk (by decide) ?_|refine aj.n ?_|fail
   have j:gv t=t.b:=(by rw[gv,XG (by rw[<-y,p])]);have a:gb t=t.a:=(by rw[gb,XG (by rw[<-y,p])]);refine aH.back (x:=1) 2 (by decide) (by decide) (.cX (.cX (.cons (.box (gO.of_eq rfl)) (.cons (.box (gO.of_eq ?_)) .nil)))) (.cB (.cB (.cB (.cB (.cons (ao.int (by decide)) .nil)))));show _=vL (gv s)++vL (gb s)++vL (gv t)++vL (gb t);rw[j,a];rfl
  ·have j:gv t=t.a:=(by rw[gv,XD (by rw[<-y,p];decide)]);have a:gb t=t.b:=(by rw[gb,XD (by rw[<-y,p];decide)]);refine aH.back (x:=1) 2 (by decide) (by decide) (.cX (.cX (.cons (.box (gO.of_eq rfl)) (.cons (.box (gO.of_eq ?_)) .nil)))) (.cB (.cB (.cB (.cB (.cons (ao.int (by decide)) .nil)))));show _=vL (gv s)++vL (gb s)++vL (gv t)++vL (gb t);rw[j,a];rfl
 ·obtain rfl:k=0:=(by omega);refine ab.cP (by decide) ?_;repeat' first|refine aj.mk (by decide) ?_|refine aj.n ?_|fail
  have O:∀H M:V2,H=lC (gv s) (gv t)->M=jA (gb s) (gb t)->ki s t=if gm H M=0 then im H else if gm H M= -1 then⟨3,p0,⟨H,M⟩⟩else hG:=λH M h k=>by subst h k;rfl
  refine ah.bool (kT (gv s) (gv t)) (λb4 J=>?_);refine ab.mk (λa0=>?_) (λa0=>?_)
  ·have j:gv t=lC (gv s) (gv t):=(by rw[lC,XG (by rw[<-J,a0])]);repeat' first|refine aj.mk (by decide) ?_|refine aj.n ?_|fail
   refine ah.bool (kT (gb t) (gb s)) (λU o=>?_);refine ab.mk (λE=>?_) (λE=>?_)
   ·have a:gb t=jA (gb s) (gb t):=(by rw[jA,XG (by rw[<-o,E])]);repeat' first|refine aj.mk (by decide) ?_|refine aj.n ?_|fail
    refine ah.int (iw (gv t) (gb t)) (λc F=>?_);have r:=O (gv t) (gb t) j a;rw[<-F]at r;rw[r];refine ab.mk (λb=>?_) (λb=>?_);have f:c=0:=(by simpa using b);rw[XG f];refine ah.mk' (gC (gv t)) ?_;exact Fin.rfl';have f:c≠0:=(by simpa using b);rw[XD f];refine ab.mk (λg=>?_) (λg=>?_)
    ·have i:c= -1:=(by simpa using g);rw[XG i];repeat' first|refine aj.n ?_|fail
     exact Fin.rfl'
    have i:c≠-1:=(by simpa using g);rw[XD i];repeat' first|refine aj.n ?_|fail
    exact Fin.rfl'
   ·have a:gb s=jA (gb s) (gb t):=(by rw[jA,XD (by rw[<-o,E];decide)]);repeat' first|refine aj.mk (by decide) ?_|refine aj.n ?_|fail
    refine ah.int (iw (gv t) (gb s)) (λc F=>?_);have r:=O (gv t) (gb s) j a;rw[<-F]at r;rw[r];refine ab.mk (λb=>?_) (λb=>?_);have f:c=0:=(by simpa using b);rw[XG f];refine ah.mk' (gC (gv t)) ?_;exact Fin.rfl';have f:c≠0:=(by simpa using b);rw[XD f];refine ab.mk (λg=>?_) (λg=>?_)
    ·have i:c= -1:=(by simpa using g);rw[XG i];repeat' first|refine aj.n ?_|fail
     exact Fin.rfl'
    have i:c≠-1:=(by simpa using g);rw[XD i];repeat' first|refine aj.n ?_|fail
    exact Fin.rfl'
  ·have j:gv s=lC (gv s) (gv t):=(by rw[lC,XD (by rw[<-J,a0];decide)]);repeat' first|refine aj.mk (by decide) ?_|refine aj.n ?_|fail
   refine ah.bool (kT (gb t) (gb s)) (λU o=>?_);refine ab.mk (λE=>?_) (λE=>?_)
   ·have a:gb t=jA (gb s) (gb t):=(by rw[jA,XG (by rw[<-o,E])]);repeat' first|refine aj.mk (by decide) ?_|refine aj.n ?_|fail
    refine ah.int (iw (gv s) (gb t)) (λc F=>?_);have r:=O (gv s) (gb t) j a;rw[<-F]at r;rw[r];refine ab.mk (λb=>?_) (λb=>?_);have f:c=0:=(by simpa using b);rw[XG f];refine ah.mk' (gC (gv s)) ?_;exact Fin.rfl';have f:c≠0:=(by simpa using b);rw[XD f];refine ab.mk (λg=>?_) (λg=>?_)
    ·have i:c= -1:=(by simpa using g);rw[XG i];repeat' first|refine aj.n ?_|fail
     exact Fin.rfl'
    have i:c≠-1:=(by simpa using g);rw[XD i];repeat' first|refine aj.n ?_|fail
    exact Fin.rfl'
   ·have a:gb s=jA (gb s) (gb t):=(by rw[jA,XD (by rw[<-o,E];decide)]);repeat' first|refine aj.mk (by decide) ?_|refine aj.n ?_|fail
    refine ah.int (iw (gv s) (gb s)) (λc F=>?_);have r:=O (gv s) (gb s) j a;rw[<-F]at r;rw[r];refine ab.mk (λb=>?_) (λb=>?_);have f:c=0:=(by simpa using b);rw[XG f];refine ah.mk' (gC (gv s)) ?_;exact Fin.rfl';have f:c≠0:=(by simpa using b);rw[XD f];refine ab.mk (λg=>?_) (λg=>?_)
    ·have i:c= -1:=(by simpa using g);rw[XG i];repeat' first|refine aj.n ?_|fail
     exact Fin.rfl'
    have i:c≠-1:=(by simpa using g);rw[XD i];repeat' first|refine aj.n ?_|fail
    exact Fin.rfl'
theorem kS (s t:cc):DP 115 [sD s,sD t] (an (dz s t).kind):=by
 refine dg Tryz.func115 [] ?_;refine ah.mk' (LU s t) ?_;repeat' first|refine aj.n ?_|fail
 exact Fin.rfl'
def ck (s:cc) (p:V2):Int:=aa (af s.b s.a) (af p s.a)
variable {s:cc} {p:V2}
theorem dH (hs:az s=true) (a:In 4000 p):gI s p=bM (ck s p):=by
 obtain⟨b,c⟩:=cF hs;rw[gI,hs,a.within (by decide) (by decide)];simp only[Bool.and_self,ZG];exact jt (m:=4000) (by decide) (by decide) b c a
theorem oH (hs:az s=true) (a:In 4000 p):cQ s.a s.b p=bM (ck s p):=by
 obtain⟨b,c⟩:=cF hs;exact jt (m:=4000) (by decide) (by decide) b c a
variable {x:Int}
theorem uR {y:Int}:bM x*bM y<0↔(x<0/\0<y)\/(0<x/\y<0):=by
 unfold bM;repeat' split
 all_goals omega
theorem q7:bM x=0↔x=0:=by
 unfold bM;repeat' split
 all_goals omega
abbrev gl (s t:cc):Int:=aa (af s.b s.a) (af t.b t.a)
theorem sv (s t:cc):ck s t.b-ck s t.a=gl s t:=by
 simp only[ck,gl,aa,af];grind
theorem zu {t:cc} (hs:az s=true) (a:az t=true) (h:dR s t=true):gl s t≠0:=by
 obtain⟨b,c⟩:=cF a;simp only[dR,XH,XU]at h;have f:=h.1;rw[dH hs b,dH hs c,uR]at f;have:=sv s t;omega
theorem yQ {t:cc} (h:aI s t=2):az s=true/\az t=true/\dR s t=true:=by
 unfold aI at h;split at h;omega
 ·rename_i b;have c:az s=true:=by
   cases a:az s with
   |true=>rfl
   |false=>exact absurd (.inl a) b
  have f:az t=true:=by
   cases a:az t with
   |true=>rfl
   |false=>exact absurd (.inr a) b
  split at h;omega;split at h;omega;split at h;rename_i g;exact⟨c,f,g⟩;omega
theorem IP {t:cc}:(aI s t=1->(aN s t).length=1)/\(aI s t=3->(aN s t).length>1):=by
 unfold aI;split;omega;(split;omega;(split;omega;(split<;>omega)))
def pK (s t:cc):P3:=if aI s t=1 then cb ((aN s t).getD 0 v0)else if aI s t=2 then
 Jg (s.a.x*gl s t+(af s.b s.a).x*aa (af t.a s.a) (af t.b t.a)) (s.a.y*gl s t+(af s.b s.a).y*aa (af t.a s.a) (af t.b t.a)) (gl s t)else p0
def ey (s t:cc):cc:=if aI s t=3 then⟨(aN s t).getD 0 v0,(aN s t).getD ((aN s t).length-1) v0⟩else s0
instance:DecidableEq P3:=λa b=>decidable_of_iff (a.x=b.x/\a.y=b.y/\a.d=b.d) ⟨λh=>P3.ext h.1 h.2.1 h.2.2,λh=>by rw[h];exact⟨rfl,rfl,rfl⟩⟩
instance:DecidableEq cc:=λa b=>decidable_of_iff (a.a=b.a/\a.b=b.b) ⟨λh=>cc.ext h.1 h.2,λh=>by rw[h];exact⟨rfl,rfl⟩⟩
variable {a:V2}
theorem cN {b:V2}:bu a b=true↔a.y<b.y\/(a.y=b.y/\a.x<b.x):=by
 simp[bu]
theorem nX (a b:V2):bu a b=true\/a=b\/bu b a=true:=by
 rw[cN,cN,V2.eq_iff];omega
theorem eT (a:V2):bu a a=false:=by
 rw[YL,Ne,cN];omega
theorem mr {b c:V2} (h:bu a b=true) (k:bu b c=true):bu a c=true:=by
 rw[cN]at*;omega
theorem mu {b:V2} (h:bu a b=true):bu b a=false:=by
 rw[cN]at h;rw[YL,Ne,cN];omega
def JS:LV->Prop
 |[]=>True
 |x::r=>(∀y∈r,bu x y=true)/\JS r
theorem wY {v e:V2}:∀{l:LV},e∈gH l v↔e=v\/e∈l
 |[]=>by simp[gH]
 |x::r=>by simp only[gH];split;rw[XF,wY,XF];constructor;rintro(h|h|h);exact .inr (.inl h);exact .inl h;exact .inr (.inr h);rintro(h|h|h);exact .inr (.inl h);exact .inl h;exact .inr (.inr h);split;rename_i a;subst a;simp;simp
theorem D8 {v:V2}:∀{l:LV},JS l->JS (gH l v)
 |[],_=>by simp[gH,JS]
 |x::r,h=>by simp only[gH];split;rename_i c;refine⟨λy a=>?_,D8 h.2⟩;rcases wY.1 a with rfl|a;exact c;exact h.1 y a;rename_i f;split;exact h;rename_i g;have b:bu v x=true:=(by rcases nX x v with k|k|k;exact absurd k f;exact absurd k g;exact k);refine⟨λy a=>?_,h⟩;rcases XF.1 a with rfl|a;exact b;exact mr b (h.1 y a)
theorem eN (l:LV):JS (ix l)/\∀e,e∈ix l↔e∈l:=by
 have:∀(l o:LV),JS o->JS (l.foldl gH o)/\∀e,e∈l.foldl gH o↔e∈l\/e∈o:=by
  intro l;induction l with
  |nil=>intro o h;exact⟨h,λe=>by simp⟩
  |cons x l c=>intro o h;obtain⟨a,b⟩:=c (gH o x) (D8 h);refine⟨a,λe=>?_⟩;rw[ZP,b e,wY,XF];constructor;rintro(h|h|h);exact .inl (.inr h);exact .inl (.inl h);exact .inr h;rintro((h|h)|h);exact .inr (.inl h);exact .inl h;exact .inr (.inr h)
 obtain⟨a,b⟩:=this l [] trivial;exact⟨a,λe=>by rw[show ix l=l.foldl gH [] from rfl,b e];simp⟩
variable {p:V2}
theorem lj {l:LV} (h:∀e,e∈l↔e=p):ix l=[p]:=by
 obtain⟨b,c⟩:=eN l;generalize ix l=m at b c;have a:∀e,e∈m↔e=p:=λe=>(c e).trans (h e)
 match m,b,a with
 |[],_,a=>exact absurd ((a p).2 rfl) (by simp)
 |[x],_,a=>rw[(a x).1 (by simp)]
 |x::y::r,b,a=>have f:=(a x).1 (by simp);have g:=(a y).1 (by simp);have:=b.1 y (by simp);rw[f,g,eT]at this;cases this
theorem ln {l:LV} (h:∀e,e∉l):ix l=[]:=by
 obtain⟨_,a⟩:=eN l;exact Wp.2 λe b=>h e ((a e).1 b)
theorem JG:∀{l:LV} {p:V2},JS l->p∈l->(∀e∈l,bu e p=false)->l.getD 0 v0=p
 |[],_,_,h,_=>by simp at h
 |x::r,p,a,h,b=>by simp only[W2];rcases XF.1 h with h|h;exact h.symm;have:=a.1 p h;rw[b x (by simp)]at this;cases this
theorem D7:∀{l:LV} {p:V2},JS l->p∈l->(∀e∈l,bu p e=false)->l.getD (l.length-1) v0=p
 |[],_,_,h,_=>by simp at h
 |[x],p,_,h,_=>by simp at h;simp[h]
 |x::y::r,p,a,h,b=>by have c:p∈y::r:=(by rcases XF.1 h with h|h;subst h;have:=a.1 y (by simp);rw[b y (by simp)]at this;cases this;exact h);have:=D7 (l:=y::r) a.2 c (λe f=>b e (by simp[f]));simpa using this
theorem KA {l:LV} {q:V2} (j:p∈l) (k:q∈l) (g:bu p q=true) (h:∀e∈l,bu e p=false/\bu q e=false):
  (ix l).length>1/\(ix l).getD 0 v0=p/\(ix l).getD ((ix l).length-1) v0=q:=by
 obtain⟨i,c⟩:=eN l;have a:=(c p).2 j;have b:=(c q).2 k;refine⟨?_,JG i a (λe f=>(h e ((c e).1 f)).1),D7 i b (λe f=>(h e ((c e).1 f)).2)⟩;generalize ix l=m at a b
 match m,a,b with
 |[],a,_=>simp at a
 |[x],a,b=>simp at a b;rw[a,b,eT]at g;cases g
 |x::y::r,_,_=>simp
theorem Hp (a b c:Int):c>=cK a b↔a<=c\/b<=c:=by
 unfold cK;split<;>omega
theorem Hz (a b c:Int):c<=cG a b↔c<=a\/c<=b:=by
 unfold cG;split<;>omega
variable {s:cc}
theorem fO:jM s p=true↔(s.a.x<=p.x\/s.b.x<=p.x)/\(p.x<=s.a.x\/p.x<=s.b.x)/\(s.a.y<=p.y\/s.b.y<=p.y)/\(p.y<=s.a.y\/p.y<=s.b.y):=by
 simp only[jM,XH,XU,Hp,Hz];omega
theorem Dj {m:Int} (a:In m s.a) (b:In m s.b) (h:jM s p=true):In m p:=by
 obtain⟨c,f,g,i⟩:=fO.1 h;obtain⟨j,k,l,o⟩:=a;obtain⟨q,r,t,u⟩:=b;exact⟨by omega,by omega,by omega,by omega⟩
theorem gE (hs:az s=true):iY s p=true↔jM s p=true/\ck s p=0:=by
 obtain⟨c,f⟩:=cF hs;simp only[iY,hs,Zh,XH,aac];constructor;rintro⟨a,b⟩;refine⟨a,?_⟩;rw[oH hs (Dj c f a)]at b;exact q7.1 b;rintro⟨a,b⟩;refine⟨a,?_⟩;rw[oH hs (Dj c f a),b];rfl
theorem Fk (hs:az s=true):iY s s.a=true:=by
 rw[gE hs,fO];refine⟨by omega,?_⟩;simp only[ck,aa,af];simp
theorem OR (hs:az s=true):iY s s.b=true:=by
 rw[gE hs,fO];refine⟨by omega,?_⟩;simp only[ck,aa,af];grind
variable {D k:Int}
theorem Ia {e v:Int} (a:0<D) (h:D*e=k*v):(v≠0->((0<=e\/v<=e)/\(e<=0\/e<=v)↔0<=k/\k<=D))/\(v=0->e=0):=by
 refine⟨λf=>?_,λf=>?_⟩
 ·have b:∀{x y z:Int},0<z->(x*z<=y*z↔x<=y):=λg=>⟨λh=>Int.le_of_mul_le_mul_right h g,λh=>Yp h (by omega)⟩;have c:∀{x y z:Int},0<z->(z*x<=z*y↔x<=y):=λg=>⟨λh=>YX h g,λh=>XT h (by omega)⟩;rcases Yi f with m|i;have j:(e<=0)↔0<=k:=(by rw[<-c (z:=D) a,h,Yh];have:=b (x:= -k) (y:=0) (z:= -v) (by omega);rw[WJ,Yb]at this;omega);have l:(v<=e)↔k<=D:=(by rw[<-c (z:=D) a,h];have:=b (x:=k) (y:=D) (z:= -v) (by omega);rw[YH,YH]at this;omega);omega;have j:(0<=e)↔0<=k:=(by rw[<-c (z:=D) a,h,Yh];have:=b (x:=0) (y:=k) (z:=v) i;rw[Yb]at this;exact this);have l:(e<=v)↔k<=D:=(by rw[<-c (z:=D) a,h];exact b i);omega
 ·subst f;rw[Yh]at h;rcases Zy.1 h with h|h;omega;exact h
theorem gM {t:cc} {e:V2} (b:0<D) (g:D*(e.x-t.a.x)=k*(t.b.x-t.a.x)) (h:D*(e.y-t.a.y)=k*(t.b.y-t.a.y)) (i:t.a≠t.b):jM t e=true↔0<=k/\k<=D:=by
 rw[fO];obtain⟨j,l⟩:=Ia b g;obtain⟨c,m⟩:=Ia b h;rw[Ne,V2.eq_iff]at i;by_cases f:t.b.x-t.a.x=0;have:=l f;have a:t.b.y-t.a.y≠0:=(by omega);have:=c a;omega;have:=j f;by_cases a:t.b.y-t.a.y=0;have:=m a;omega;have:=c a;omega
variable {s:cc} {e:V2}
theorem LQ {t:cc}:e∈eV s t↔e=s.a\/e=s.b\/e=t.a\/e=t.b:=by simp[eV]
theorem dt {t:cc}:e∈(eV s t).filter (fK s t)↔(e=s.a\/e=s.b\/e=t.a\/e=t.b)/\iY s e=true/\iY t e=true:=by
 rw[Wx,LQ,fK,XH]
structure qe (s t:cc) (A B D:Int):Prop where
 pos:0<D
 gx:D*(t.a.x-s.a.x)=A*(s.b.x-s.a.x)-B*(t.b.x-t.a.x)
 gy:D*(t.a.y-s.a.y)=A*(s.b.y-s.a.y)-B*(t.b.y-t.a.y)
 ta:∃k,k≠0/\ck s t.a= -B*k/\ck s t.b=(D-B)*k/\ck t s.a=A*k/\ck t s.b=(A-D)*k
 sne:s.a≠s.b
 tne:t.a≠t.b
theorem yW {t:cc} (h:gl s t≠0:=by omega):s.a≠s.b/\t.a≠t.b:=by
 refine⟨λe=>h ?_,λe=>h ?_⟩;simp only[gl,aa,af,e];grind;simp only[gl,aa,af,e];grind
theorem y6 {t:cc} (h:0<gl s t):qe s t (aa (af t.a s.a) (af t.b t.a)) (aa (af t.a s.a) (af s.b s.a)) (gl s t):=by
 obtain⟨a,b⟩:=yW (s:=s) (t:=t);refine⟨h,?_,?_,⟨1,by decide,?_,?_,?_,?_⟩,a,b⟩;all_goals simp only[gl,aa,af,ck]
 all_goals grind
theorem y7 {t:cc} (h:gl s t<0):qe s t (-aa (af t.a s.a) (af t.b t.a)) (-aa (af t.a s.a) (af s.b s.a)) (-gl s t):=by
 obtain⟨a,b⟩:=yW (s:=s) (t:=t);refine⟨by omega,?_,?_,⟨-1,by decide,?_,?_,?_,?_⟩,a,b⟩;all_goals simp only[gl,aa,af,ck]
 all_goals grind
theorem jb {a k:Int} (b:k≠0):a*k=0↔a=0:=by
 constructor;intro h;rcases Zy.1 h with h|h;exact h;exact absurd h b;intro h;rw[h,Yb]
theorem O6 (x k:Int):(x*k<0↔(x<0/\0<k)\/(0<x/\k<0))/\(0<x*k↔(0<x/\0<k)\/(x<0/\k<0)):=by
 rcases YF x 0 with a|a|a<;>rcases YF k 0 with hk|hk|hk
 ·have:=Zl a hk;omega
 ·subst hk;rw[Yh];omega
 ·have:=X2 a hk;omega
 ·subst a;rw[Yb];omega
 ·subst a;rw[Yb];omega
 ·subst a;rw[Yb];omega
 ·have:=Ya a hk;omega
 ·subst hk;rw[Yh];omega
 ·have:=XC a hk;omega
section
variable {s t:cc} {A B D:Int}
theorem qe.ends (L:qe s t A B D) (hs:az s=true) (i:az t=true):
  (iY t s.a=true↔A=0/\0<=B/\B<=D)/\(iY t s.b=true↔A=D/\0<=B/\B<=D)/\(iY s t.a=true↔B=0/\0<=A/\A<=D)/\(iY s t.b=true↔B=D/\0<=A/\A<=D):=by
 obtain⟨c,gx,gy,⟨k,f,j,l,m,o⟩,g,h⟩:=L;refine⟨?_,?_,?_,?_⟩;rw[gE i,m,jb f];constructor;rintro⟨b,a⟩;exact⟨a,(gM (k:=B) c (by subst a;grind) (by subst a;grind) h).1 b⟩;rintro⟨a,b⟩;exact⟨(gM (k:=B) c (by subst a;grind) (by subst a;grind) h).2 b,a⟩;rw[gE i,o,jb f];constructor;rintro⟨b,a⟩;have a:A=D:=(by omega);exact⟨a,(gM (k:=B) c (by subst a;grind) (by subst a;grind) h).1 b⟩;rintro⟨a,b⟩;exact⟨(gM (k:=B) c (by subst a;grind) (by subst a;grind) h).2 b,by omega⟩;rw[gE hs,j,ZF,Int.neg_eq_zero,jb f];constructor;rintro⟨b,a⟩;exact⟨a,(gM (k:=A) c (by subst a;grind) (by subst a;grind) g).1 b⟩;rintro⟨a,b⟩;exact⟨(gM (k:=A) c (by subst a;grind) (by subst a;grind) g).2 b,a⟩;rw[gE hs,l,jb f];constructor;rintro⟨b,a⟩;have a:B=D:=(by omega);exact⟨a,(gM (k:=A) c (by subst a;grind) (by subst a;grind) g).1 b⟩;rintro⟨a,b⟩;exact⟨(gM (k:=A) c (by subst a;grind) (by subst a;grind) g).2 b,by omega⟩
theorem qe.QC (L:qe s t A B D) (c:(e=s.a/\A=0)\/(e=s.b/\A=D)\/(e=t.a/\B=0)\/(e=t.b/\B=D)):D*e.x=s.a.x*D+A*(s.b.x-s.a.x)/\D*e.y=s.a.y*D+A*(s.b.y-s.a.y):=by
 obtain⟨f,gx,gy,_⟩:=L;rcases c with⟨a,b⟩|⟨a,b⟩|⟨a,b⟩|⟨a,b⟩;(subst a b;constructor<;>grind)
 ·subst a b;constructor<;>grind
 ·subst a b;constructor<;>grind
 ·subst a b;constructor<;>grind
theorem qe.QM (L:qe s t A B D) (hs:az s=true) (b:az t=true):dR s t=true↔0<A/\A<D/\0<B/\B<D:=by
 obtain⟨c,f⟩:=cF hs;obtain⟨ta,g⟩:=cF b;obtain⟨m,gx,gy,⟨k,o,h,i,j,l⟩,p,q⟩:=L;simp only[dR,XH,XU,dH hs ta,dH hs g,dH b c,dH b f,uR,h,i,j,l];have a:=λx:Int=>O6 x k;rw[(a (-B)).1,(a (-B)).2,(a (D-B)).1,(a (D-B)).2,(a A).1,(a A).2,(a (A-D)).1,(a (A-D)).2];omega
end
variable {D:Int}
theorem MB (x y:Int) (h:0<D):Int.gcd (Int.gcd (D*x) (D*y):Nat) D=D.natAbs:=by
 refine Nat.dvd_antisymm ?_ ?_;exact Nat.gcd_dvd_right _ _;refine Nat.dvd_gcd ?_ (Nat.dvd_refl _);show D.natAbs∣(Int.natAbs (Int.gcd (D*x) (D*y):Nat));rw[Int.natAbs_natCast];refine Nat.dvd_gcd ?_ ?_;rw[aaI];exact Nat.dvd_mul_right _ _;rw[aaI];exact Nat.dvd_mul_right _ _
theorem Pd (p:V2) {X Y:Int} (h:0<D) (a:D*p.x=X) (b:D*p.y=Y):low X Y D=cb p:=by
 subst a b;unfold low;rw[MB p.x p.y h,aaa (by omega),Int.mul_tdiv_cancel_left _ (by omega),Int.mul_tdiv_cancel_left _ (by omega),Int.tdiv_self (by omega)]
theorem tS {t:cc} {A B:Int} (L:qe s t A B D) (hs:az s=true) (g:az t=true):
  (eS s (af s.b s.a) A B D).kind=aI s t/\(aI s t=1->(eS s (af s.b s.a) A B D).p=cb ((aN s t).getD 0 v0))/\
   (aI s t=2->(eS s (af s.b s.a) A B D).p=low (s.a.x*D+A*(af s.b s.a).x) (s.a.y*D+A*(af s.b s.a).y) D)/\(aI s t=0->(eS s (af s.b s.a) A B D).p=p0)/\aI s t≠3:=by
 obtain⟨l,m,o,q⟩:=L.ends hs g;have w:=L.QM hs g;have F:=Fk hs;have G:=OR hs;have H:=Fk g;have I:=OR g;have J:=L.pos;have K:¬(az s=false\/az t=false):=by simp[hs,g]
 have r:aI s t=if(aN s t).length>1 then 3 else if(aN s t).length=1 then 1 else if dR s t=true then 2 else 0:=by rw[aI,XD K]
 by_cases c:qy A B D
 ·have u:aN s t=[]:=(by refine ln λe i=>?_;obtain⟨f,a,b⟩:=dt.1 i;unfold qy at c;rcases f with rfl|rfl|rfl|rfl;have:=l.1 b;omega;have:=m.1 b;omega;have:=o.1 a;omega;have:=q.1 a;omega);have M:¬dR s t=true:=λh=>by have:=w.1 h;unfold qy at c;omega
  have N:aI s t=0:=(by rw[r,u];simp[M]);have j:eS s (af s.b s.a) A B D=hG:=(by rw[eS,XG c]);rw[j,N];exact⟨rfl,λh=>by omega,λh=>by omega,λ_=>rfl,by omega⟩
 ·by_cases k:uB A B D
  ·have x:0<=A/\A<=D/\0<=B/\B<=D:=(by unfold qy at c;omega);have O:∃e:V2,((e=s.a/\A=0)\/(e=s.b/\A=D)\/(e=t.a/\B=0)\/(e=t.b/\B=D)):=(by unfold uB at k;rcases k with h|h|h|h;exact⟨s.a,.inl ⟨rfl,h⟩⟩;exact⟨s.b,.inr (.inl ⟨rfl,h⟩)⟩;exact⟨t.a,.inr (.inr (.inl ⟨rfl,h⟩))⟩;exact⟨t.b,.inr (.inr (.inr ⟨rfl,h⟩))⟩);obtain⟨p,y⟩:=O;obtain⟨z,C⟩:=L.QC y;have E:aN s t=[p]:=(by refine lj λe=>?_;rw[dt];constructor;rintro⟨f,a,b⟩;have i:(e=s.a/\A=0)\/(e=s.b/\A=D)\/(e=t.a/\B=0)\/(e=t.b/\B=D):=(by rcases f with rfl|rfl|rfl|rfl;exact .inl ⟨rfl,(l.1 b).1⟩;exact .inr (.inl ⟨rfl,(m.1 b).1⟩);exact .inr (.inr (.inl ⟨rfl,(o.1 a).1⟩));exact .inr (.inr (.inr ⟨rfl,(q.1 a).1⟩)));obtain⟨ex,P⟩:=L.QC i;exact V2.ext (Y7 (show D≠0 by omega) (by rw[ex,z])) (Y7 (show D≠0 by omega) (by rw[P,C]));rintro rfl;rcases y with⟨rfl,h⟩|⟨rfl,h⟩|⟨rfl,h⟩|⟨rfl,h⟩;exact⟨.inl rfl,F,l.2 (by omega)⟩;exact⟨.inr (.inl rfl),G,m.2 (by omega)⟩;exact⟨.inr (.inr (.inl rfl)),o.2 (by omega),H⟩;exact⟨.inr (.inr (.inr rfl)),q.2 (by omega),I⟩);have f:aI s t=1:=(by rw[r,E];simp);have j:eS s (af s.b s.a) A B D=⟨1,cb p,s0⟩:=(by rw[eS,XD c,XG k,Pd p J (X:=s.a.x*D+A*(af s.b s.a).x) (Y:=s.a.y*D+A*(af s.b s.a).y) z C]);rw[j,f,E];exact⟨rfl,λ_=>rfl,λh=>by omega,λh=>by omega,by omega⟩
  ·have x:0<A/\A<D/\0<B/\B<D:=(by unfold qy at c;unfold uB at k;omega);have u:aN s t=[]:=(by refine ln λe i=>?_;obtain⟨f,a,b⟩:=dt.1 i;rcases f with rfl|rfl|rfl|rfl;have:=l.1 b;omega;have:=m.1 b;omega;have:=o.1 a;omega;have:=q.1 a;omega);have a:aI s t=2:=(by rw[r,u];simp[w.2 x]);have j:eS s (af s.b s.a) A B D=⟨2,low (s.a.x*D+A*(af s.b s.a).x) (s.a.y*D+A*(af s.b s.a).y) D,s0⟩:=(by rw[eS,XD c,XD k]);rw[j,a];exact⟨rfl,λh=>by omega,λ_=>rfl,λh=>by omega,by omega⟩
theorem zt {u v w:V2} (h:aa u v=0) (k:aa v w=0) (a:v≠v0):aa u w=0:=by
 have c:v.x*aa u w=u.x*aa v w+w.x*aa u v:=by simp only[aa];grind
 have f:v.y*aa u w=u.y*aa v w+w.y*aa u v:=by simp only[aa];grind
 rw[h,k]at c f;rw[Ne,V2.eq_iff]at a;by_cases b:v.x=0;have g:v.y≠0:=λh=>a ⟨b,h⟩;rcases Zy.1 (show v.y*aa u w=0 by omega)with h|h;exact absurd h g;exact h;rcases Zy.1 (show v.x*aa u w=0 by omega)with h|h;exact absurd h b;exact h
theorem Kq {a b:V2} (h:a≠b):af b a≠v0:=by
 rw[Ne,V2.eq_iff]at*;simp only[af];omega
variable {p:V2}
section
variable {s t:cc}
theorem FG (hs:az s=true) (a:az t=true) (g:gl s t=0):dR s t=false:=by
 obtain⟨b,c⟩:=cF a;rw[YL];intro h;simp only[dR,XH,XU]at h;have f:=h.1;rw[dH hs b,dH hs c,uR]at f;have:=sv s t;omega
theorem xP (hs:az s=true) (b:az t=true) (c:gl s t=0) (h:aN s t=[]):aI s t=0/\pK s t=p0/\ey s t=s0:=by
 have f:=FG hs b c;have a:aI s t=0:=by rw[aI,h,f,hs,b];rfl
 exact⟨a,by rw[pK,a];rfl,by rw[ey,a];rfl⟩
theorem lN (hs:az s=true) (b:az t=true) (h:aN s t=[p]):aI s t=1/\pK s t=cb p/\ey s t=s0:=by
 have a:aI s t=1:=by rw[aI,h,hs,b];rfl
 exact⟨a,by rw[pK,a,h];rfl,by rw[ey,a];rfl⟩
theorem JI (hs:az s=true) (b:az t=true) {q:V2} (h:(aN s t).length>1) (c:(aN s t).getD 0 v0=p) (f:(aN s t).getD ((aN s t).length-1) v0=q):aI s t=3/\pK s t=p0/\ey s t=⟨p,q⟩:=by
 have a:aI s t=3:=by rw[aI,XD (by simp[hs,b]),XG h]
 exact⟨a,by rw[pK,a];rfl,by rw[ey,a,c,f];rfl⟩
theorem rj (hs:az s=true) (h:s.a=s.b):iY s p=true↔p=s.a:=by
 rw[gE hs,fO,<-h,V2.eq_iff];constructor;rintro⟨a,_⟩;omega;rintro⟨a,b⟩;refine⟨by omega,?_⟩;simp only[ck,aa,af,a,b];grind
theorem Db (s:cc):(gv s=s.a/\gb s=s.b/\bu s.b s.a=false)\/(gv s=s.b/\gb s=s.a/\bu s.b s.a=true):=by
 unfold gv gb;cases h:bu s.b s.a with
 |true=>exact .inr ⟨rfl,rfl,rfl⟩
 |false=>exact .inl ⟨rfl,rfl,rfl⟩
theorem wE (hs:az s=true) (h:s.a≠s.b) (o:ck s p=0):iY s p=true↔bu p (gv s)=false/\bu (gb s) p=false:=by
 rw[gE hs];have a:(s.b.x-s.a.x)*(p.y-s.a.y)=(s.b.y-s.a.y)*(p.x-s.a.x):=by simp only[ck,aa,af]at o;omega
 have t:jM s p=true↔bu p (gv s)=false/\bu (gb s) p=false:=by
  rw[fO];rw[Ne,V2.eq_iff]at h;have q:s.b.y-s.a.y≠0->((p.y-s.a.y=0->p.x-s.a.x=0)/\(p.y=s.b.y->p.x=s.b.x)/\((0<=p.y-s.a.y\/s.b.y-s.a.y<=p.y-s.a.y)/\(p.y-s.a.y<=0\/p.y-s.a.y<=s.b.y-s.a.y)->(0<=p.x-s.a.x\/s.b.x-s.a.x<=p.x-s.a.x)/\(p.x-s.a.x<=0\/p.x-s.a.x<=s.b.x-s.a.x))):=λb=>by
   refine⟨λf=>?_,λf=>?_,λx=>?_⟩;rw[f,Yh]at a;rcases Zy.1 a.symm with h|h;exact absurd h b;exact h;rw[f,Yd]at a;have:=Y7 b a;omega
   ·
    rcases Yi b with y|u;by_cases g:s.b.x-s.a.x=0;rw[g,Yb]at a;rcases Zy.1 a.symm with h|h;exact absurd h b;omega;have c:=(Ia (D:= -(s.b.y-s.a.y)) (k:= -(p.y-s.a.y)) (e:=p.x-s.a.x) (v:=s.b.x-s.a.x) (by omega) (by rw[ZF,ZF,<-a,Yd])).1 g;exact c.2 (by omega);by_cases g:s.b.x-s.a.x=0;rw[g,Yb]at a;rcases Zy.1 a.symm with h|h;exact absurd h b;omega;have c:=(Ia (D:=s.b.y-s.a.y) (k:=p.y-s.a.y) (e:=p.x-s.a.x) (v:=s.b.x-s.a.x) u (by rw[<-a,Yd])).1 g;exact c.2 (by omega)
  have r:s.b.y-s.a.y=0->p.y=s.a.y:=λf=>by rw[f,Yb]at a;rcases Zy.1 a with w|w;exact absurd ⟨by omega,by omega⟩ h;omega
  rw[YL,YL,Ne,Ne,cN,cN];rcases Db s with⟨j,l,m⟩|⟨j,l,m⟩;rw[j,l];rw[YL,Ne,cN]at m;by_cases i:s.b.y-s.a.y=0;have:=r i;omega;have:=q i;omega;rw[j,l];rw[cN]at m;by_cases i:s.b.y-s.a.y=0;have:=r i;omega;have:=q i;omega
 rw[t];exact⟨λh=>h.1,λh=>⟨h,o⟩⟩
end
variable {a e:V2}
theorem L7 {b:V2}:bu e (lC a b)=false↔bu e a=false/\bu e b=false:=by
 unfold lC;cases h:bu a b with
 |true=>simp only[WH];rw[cN]at h;simp only[YL,Ne,cN];omega
 |false=>simp only[Y4,Z3];rw[YL,Ne,cN]at h;simp only[YL,Ne,cN];omega
theorem L6 {b:V2}:bu (jA a b) e=false↔bu a e=false/\bu b e=false:=by
 unfold jA;cases h:bu b a with
 |true=>simp only[WH];rw[cN]at h;simp only[YL,Ne,cN];omega
 |false=>simp only[Y4,Z3];rw[YL,Ne,cN]at h;simp only[YL,Ne,cN];omega
theorem RY (a b:V2):lC a b=a\/lC a b=b:=by
 unfold lC;split;exact .inr rfl;exact .inl rfl
theorem RW (a b:V2):jA a b=a\/jA a b=b:=by
 unfold jA;split;exact .inr rfl;exact .inl rfl
theorem FL {b:V2} (h:bu a b=false) (k:bu b a=false):a=b:=by
 rcases nX a b with l|l|l;rw[h]at l;cases l;exact l;rw[k]at l;cases l
section
variable {s t:cc}
theorem Fi (hs:az s=true) (y:az t=true) (D:gl s t=0) (A:s.a≠s.b) (E:t.a≠t.b) (F:ck s t.a=0):
  (ki s t).kind=aI s t/\(ki s t).p=pK s t/\(ki s t).s=ey s t:=by
 have M:ck s t.b=0:=by have:=sv s t;omega
 have G:aa (af t.b t.a) (af s.b s.a)=0:=by have:aa (af t.b t.a) (af s.b s.a)= -gl s t:=(by simp only[gl,aa];grind);omega
 have N:ck t s.a=0:=by have:=zt G (w:=af t.a s.a) F (Kq A);have e:ck t s.a= -aa (af t.b t.a) (af t.a s.a):=(by simp only[ck,aa,af];grind);omega
 have O:ck t s.b=0:=by have e:ck t s.b=ck t s.a+aa (af t.b t.a) (af s.b s.a):=(by simp only[ck,aa,af];grind);omega
 have P:ck s s.a=0:=by simp only[ck,aa,af];grind
 have Q:ck s s.b=0:=by simp only[ck,aa,af];grind
 have R:ck t t.a=0:=by simp only[ck,aa,af];grind
 have S:ck t t.b=0:=by simp only[ck,aa,af];grind
 have B:∀e,(e=s.a\/e=s.b\/e=t.a\/e=t.b)->(iY s e=true/\iY t e=true↔bu e (lC (gv s) (gv t))=false/\bu (jA (gb s) (gb t)) e=false):=λe i=>by have z:ck s e=0:=(by rcases i with rfl|rfl|rfl|rfl<;>assumption);have j:ck t e=0:=(by rcases i with rfl|rfl|rfl|rfl<;>assumption);rw[wE hs A z,wE y E j,L7,L6];exact⟨λ⟨⟨a,b⟩,c,d⟩=>⟨⟨a,c⟩,b,d⟩,λ⟨⟨a,c⟩,b,d⟩=>⟨⟨a,b⟩,c,d⟩⟩
 have C:lC (gv s) (gv t)=s.a\/lC (gv s) (gv t)=s.b\/lC (gv s) (gv t)=t.a\/lC (gv s) (gv t)=t.b:=by
  rcases RY (gv s) (gv t)with e|e<;>rw[e]
  ·rcases Db s with⟨f,_⟩|⟨f,_⟩<;>rw[f]<;>simp
  ·rcases Db t with⟨f,_⟩|⟨f,_⟩<;>rw[f]<;>simp
 have H:jA (gb s) (gb t)=s.a\/jA (gb s) (gb t)=s.b\/jA (gb s) (gb t)=t.a\/jA (gb s) (gb t)=t.b:=by
  rcases RW (gb s) (gb t)with e|e<;>rw[e]
  ·rcases Db s with⟨_,f,_⟩|⟨_,f,_⟩<;>rw[f]<;>simp
  ·rcases Db t with⟨_,f,_⟩|⟨_,f,_⟩<;>rw[f]<;>simp
 unfold ki;generalize lC (gv s) (gv t)=g at*;generalize jA (gb s) (gb t)=m at*;have o:∀e,e∈(eV s t).filter (fK s t)↔(e=s.a\/e=s.b\/e=t.a\/e=t.b)/\bu e g=false/\bu m e=false:=λe=>by rw[dt];exact⟨λh=>⟨h.1,(B e h.1).1 h.2⟩,λh=>⟨h.1,(B e h.1).2 h.2⟩⟩
 rcases nX g m with k|k|k;have p:gm g m= -1:=(by rw[gm,XG k]);obtain⟨q,I,J⟩:=KA (l:=(eV s t).filter (fK s t)) ((o g).2 ⟨C,eT _,mu k⟩) ((o m).2 ⟨H,mu k,eT _⟩) k (λe i=>((o e).1 i).2);obtain⟨r,u,x⟩:=JI hs y q I J;rw[p,r,u,x];exact⟨rfl,rfl,rfl⟩
 ·subst k;have p:gm g g=0:=(by rw[gm,eT,XD (by decide),XG rfl]);have q:aN s t=[g]:=lj λe=>by rw[o];exact⟨λh=>FL h.2.1 h.2.2,λh=>by rw[h];exact⟨C,eT _,eT _⟩⟩
  obtain⟨r,u,x⟩:=lN hs y q;rw[p,r,u,x];exact⟨rfl,rfl,rfl⟩
 ·have K:g≠m:=λe=>by rw[e,eT]at k;cases k
  have p:gm g m=1:=(by rw[gm,mu k,XD (by decide),XD K]);have q:aN s t=[]:=ln λe i=>by obtain⟨_,z,j⟩:=(o e).1 i;rcases nX e g with l|l|l;rw[z]at l;cases l;rw[l,k]at j;cases j;rw[mr k l]at j;cases j
  obtain⟨r,u,x⟩:=xP hs y D q;rw[p,r,u,x];exact⟨rfl,rfl,rfl⟩
theorem FH (hs:az s=true) (a:az t=true) (q:gl s t=0):(eC s t).kind=aI s t/\(eC s t).p=pK s t/\(eC s t).s=ey s t:=by
 have D:=Fk hs;have E:=Fk a;by_cases b:s.a=s.b/\iY t s.a=true
 ·have c:eC s t=im s.a:=(by rw[eC,XG b]);have i:aN s t=[s.a]:=lj λe=>by rw[dt,rj hs b.1];exact⟨λh=>h.2.1,λh=>by rw[h];exact⟨.inl rfl,rfl,b.2⟩⟩
  obtain⟨j,k,l⟩:=lN hs a i;rw[c,j,k,l];exact⟨rfl,rfl,rfl⟩
 by_cases f:t.a=t.b/\iY s t.a=true
 ·have c:eC s t=im t.a:=(by rw[eC,XD b,XG f]);have i:aN s t=[t.a]:=lj λe=>by rw[dt,rj a f.1];exact⟨λh=>h.2.2,λh=>by rw[h];exact⟨.inr (.inr (.inl rfl)),f.2,rfl⟩⟩
  obtain⟨j,k,l⟩:=lN hs a i;rw[c,j,k,l];exact⟨rfl,rfl,rfl⟩
 by_cases g:s.a=s.b\/t.a=t.b\/cQ s.a s.b t.a≠0
 ·have c:eC s t=hG:=(by rw[eC,XD b,XD f,XG g]);have i:aN s t=[]:=ln λe x=>by obtain⟨x,m,o⟩:=dt.1 x;by_cases r:s.a=s.b;rw[rj hs r]at m;subst m;exact b ⟨r,o⟩;by_cases p:t.a=t.b;rw[rj a p]at o;subst o;exact f ⟨p,m⟩;have y:cQ s.a s.b t.a≠0:=(by rcases g with h|h|h;exact absurd h r;exact absurd h p;exact h);rw[oH hs (cF a).1,Ne,q7]at y;have F:=(gE hs).1 m;have z:=(gE a).1 o;have:=zt (u:=af s.b s.a) (v:=af t.b t.a) (w:=af e t.a) q z.2 (Kq p);have G:ck s t.a=ck s e-aa (af s.b s.a) (af e t.a):=(by simp only[ck,aa,af];grind);omega
  obtain⟨j,k,l⟩:=xP hs a q i;rw[c,j,k,l];exact⟨rfl,rfl,rfl⟩
 ·have c:eC s t=ki s t:=(by rw[eC,XD b,XD f,XD g]);have A:s.a≠s.b:=λh=>g (.inl h);have B:t.a≠t.b:=λh=>g (.inr (.inl h));have C:ck s t.a=0:=(by refine Xz λh=>g (.inr (.inr ?_));rw[oH hs (cF a).1,Ne,q7];exact h);rw[c];exact Fi hs a q A B C
end
theorem fG (s t:cc):(dz s t).kind=aI s t/\(dz s t).p=pK s t/\(dz s t).s=ey s t:=by
 by_cases i:az s=false\/az t=false;have j:dz s t=hG:=(by rw[dz,XG i]);have l:aI s t=0:=(by rw[aI,XG i]);rw[j];exact⟨l.symm,by rw[pK,l];rfl,by rw[ey,l];rfl⟩;have m:az s=true:=by
  cases h:az s with
  |true=>rfl
  |false=>exact absurd (.inl h) i
 have o:az t=true:=by
  cases h:az t with
  |true=>rfl
  |false=>exact absurd (.inr h) i
 by_cases k:gl s t=0;have j:dz s t=eC s t:=(by rw[dz,XD i,XD (by simpa using k)]);rw[j];exact FH m o k
 ·have j:dz s t=fg s t:=(by rw[dz,XD i,XG k]);rw[j];have C:∀A B D,(eS s (af s.b s.a) A B D).s=s0:=λA B D=>by unfold eS;split<;>rfl
  rcases Yi k with p|E
  ·have q:fg s t=eS s (af s.b s.a) (-aa (af t.a s.a) (af t.b t.a)) (-aa (af t.a s.a) (af s.b s.a)) (-gl s t):=(by rw[fg,XG p]);obtain⟨r,u,w,x,c⟩:=tS (y7 p) m o;rw[q];refine⟨r,?_,by rw[C,ey,XD c]⟩;unfold pK;by_cases b:aI s t=1;rw[XG b];exact u b
   ·rw[XD b];by_cases a:aI s t=2;(rw[XG a,w a,Jg,XG p];congr 1<;>grind)
    ·rw[XD a];refine x ?_;unfold aI at b a c|-;split;rfl;rename_i y;rw[XD y]at b a c;split;rename_i f;rw[XG f]at c;exact absurd rfl c;rename_i f;rw[XD f]at b a;split;rename_i g;rw[XG g]at b;exact absurd rfl b;rename_i g;rw[XD g]at a;split;rename_i z;rw[XG z]at a;exact absurd rfl a;rfl
  ·have q:fg s t=eS s (af s.b s.a) (aa (af t.a s.a) (af t.b t.a)) (aa (af t.a s.a) (af s.b s.a)) (gl s t):=(by rw[fg,XD (by simp only[gl]at E;omega)]);obtain⟨r,u,w,x,c⟩:=tS (y6 E) m o;rw[q];refine⟨r,?_,by rw[C,ey,XD c]⟩;unfold pK;by_cases b:aI s t=1;rw[XG b];exact u b
   ·rw[XD b];by_cases a:aI s t=2;(rw[XG a,w a,Jg,iN];congr 1<;>grind)
    ·rw[XD a];refine x ?_;unfold aI at b a c|-;split;rfl;rename_i y;rw[XD y]at b a c;split;rename_i f;rw[XG f]at c;exact absurd rfl c;rename_i f;rw[XD f]at b a;split;rename_i g;rw[XG g]at b;exact absurd rfl b;rename_i g;rw[XD g]at a;split;rename_i z;rw[XG z]at a;exact absurd rfl a;rfl
end Sg
end Go.Vm
namespace Go.Vm
open Go Go.RowKit Go.Proofs
namespace Sg
theorem DT (l:LV) (c:l.length<=100000):oC Tryz.prog 93 [.d (.one (aS l))] [] (.aL (.n 3000) 0) [] (.aJ 0 l.length 2 50 (vG l)):=by
 refine dC kL mixed Tryz.func93 rfl rfl [0] (XJ rfl) (XJ rfl) (gQ rfl) ?_;refine Cut.id ?_;refine SF.mk ?_ (λb=>?_);refine aj.mk (aY) ?_;refine Cut.id ?_;exact lS.mk ⟨.n 5,.one (.aL rfl rfl rfl),.nil _,.inr ⟨.bj (X6 _) (λh=>absurd h (by decide)) (λi a j f=>aC.of_eq (by rw[hM (XL i)];rfl)),rfl⟩⟩;obtain rfl:l=[]:=Y1 b;refine Cut.mk (aH.nil 2 7 2 50 (vG []) rfl rfl (aH.id ?_));exact lS.mk ⟨.n 7,.one (.aL rfl rfl rfl),.nil _,.inr ⟨.aJ (λh=>absurd h (by decide)) (λi a=>absurd a (XL i)),rfl⟩⟩
abbrev gt (l:LV) (i:Nat):V2:=l.getD i ⟨0,0⟩
def bw (l:LV) (i:Nat):V2:=gt l ((i+1)%l.length)
def I9 (l:LV) (i:Nat):V2:=gt l ((i+2)%l.length)
def iZ (l:LV) (i:Nat):V2:=gt l ((i+l.length-1)%l.length)
def rZ (l:LV):Nat->Int
 |0=>0
 |k+1=>cp (rZ l k+fI (gt l k) (bw l k))
def rY (l:LV):Int:=rZ l l.length
def dJ (l:LV):Bool:=l.all (aP · 2000)
def bN (l:LV) (i:Nat):cc:=⟨gt l i,bw l i⟩
def aw (l:LV):List cc:=if l.length<2 then[]else(List.range l.length).map (bN l)
abbrev bm (l:List cc) (i:Nat):cc:=l.getD i ⟨⟨0,0⟩,⟨0,0⟩⟩
abbrev sG (l:List cc):Nat->Nat->SV:=λi j=>match j with
 |0=>i64 (bm l i).a.x
 |1=>i64 (bm l i).a.y
 |2=>i64 (bm l i).b.x
 |_=>i64 (bm l i).b.y
abbrev nh (l:List cc):SV:= .sl l.length 4 (sG l)
theorem KQ {l a:List cc} {i b:Nat} (h:bm l i=bm a b) (j:Nat):sG l i j=sG a b j:=by
 unfold sG;rw[h]
theorem hw (n:Int) (a: -1000000<=n:=by omega) (h2:n<=1000000:=by omega):IntKind.i64.wrap n=n:=wid
theorem kX (a n:Nat):((a:Int).tmod n).toNat=a%n:=by
 rw[<-aaH];exact Yw _
theorem kY (a n:Nat) (h:0<n:=by omega):0<=(a:Int).tmod n/\(a:Int).tmod n<n:=by
 rw[<-aaH];have:=ZJ a h;omega
theorem qB (a b:Nat) (h:a<=100000:=by omega) (c:b<=100000:=by omega):IntKind.i64.wrap ((a:Int)+b)=((a+b:Nat):Int):=by rw[hw _];omega
theorem wL (l:LV) (i:Nat) (hi:i<l.length) (b:l.length<=40000):DP 113 [.one (aS l),.one (i64 i)] (.d (vD (bw l i))):=by
 refine dg Tryz.func113 [] ?_;have e:=qB i 1;have a:=kY (i+1) l.length;refine aj.o ?_;refine aj.mk (by rw[show(1:Int)=(1:Nat) from rfl,e];exact a) ?_;refine Fin.eq ?_;show TV.d (vD (gt l (Int.toNat ((IntKind.i64.wrap ((i:Int)+(1:Nat))).tmod l.length))))=_;rw[e,kX];rfl
theorem Mb (l:LV) (i:Nat) (hi:i<l.length) (b:l.length<=40000):DP 112 [.one (aS l),.one (i64 i)] (.d (vD (iZ l i))):=by
 refine dg Tryz.func112 [] ?_;have e:IntKind.i64.wrap (IntKind.i64.wrap ((i:Int)+l.length)-1)=((i+l.length-1:Nat):Int):=by rw[hw ((i:Int)+l.length),hw _];omega
 have a:=kY (i+l.length-1) l.length;refine aj.o ?_;refine aj.mk (by rw[e];exact a) ?_;refine Fin.eq ?_;show TV.d (vD (gt l (Int.toNat ((IntKind.i64.wrap (IntKind.i64.wrap ((i:Int)+l.length)-1)).tmod l.length))))=_;rw[e,kX];rfl
theorem Nu (l:LV) (a:l.length<=40000):DP 111 [.one (aS l)] (an (rY l)):=by
 refine dg Tryz.func111 [] ?_;refine Loop.by (α:=Nat) (λk=>[(0,.d (.one (aS l))),(6,.d (.one (aS l))),(7,an l.length),(8,an k),(3,an (rZ l k))]) (λ_=>[]) (λk=>k<=l.length) (λk=>l.length-k)
  (aH.at 0 (XS _) .nil (.cS (.cS (.cS (.cS (.cS .nil)))))) (λk j=>?_)
 refine ab.mk (λh=>?_) (λh=>?_);have b:k<l.length:=(by simpa using h);refine aj.o ?_;refine ah.v (wL l k b a) (λv f=>?_);refine ah.int (dW (gt l k) v) (λc g=>?_);refine aj.n ?_;refine aH.back (x:=k) (k+1) (by omega) (by omega) .nil (.cS (.cS (.cS (.cons (ao.int ?_) (.cons (ao.int ?_) .nil)))));rw[hw _];omega;rw[g,f];rfl;have i:k=l.length:=(by have:¬k<l.length:=(by simpa using h);omega);refine Fin.int ?_;rw[i];rfl
theorem EX (l:LV) (g:l.length<=40000):DP 126 [.one (aS l)] (an (rY l)):=by
 refine dg Tryz.func126 [] ?_;refine Loop.by (α:=Nat) (λk=>[(0,.d (.one (aS l))),(4,an k),(3,an (rZ l k))]) (λ_=>[]) (λk=>k<=l.length) (λk=>l.length-k)
  (aH.at 0 (XS _) .nil (.cS (.cS (.cS .nil)))) (λk i=>?_)
 refine ab.mk (λh=>?_) (λh=>?_);have j:k<l.length:=(by simpa using h);have e:=qB k 1;have a:=kY (k+1) l.length;refine aj.o ?_;refine aj.o ?_;refine aj.mk (by rw[show(1:Int)=(1:Nat) from rfl,e];exact a) ?_;refine ah.int (zv (gt l k) (gt l (Int.toNat ((IntKind.i64.wrap ((k:Int)+(1:Nat))).tmod l.length)))) (λc b=>?_);refine aj.n ?_;refine aH.back (x:=k) (k+1) (by omega) (by omega) .nil (.cS (.cons (ao.int ?_) (.cons (ao.int ?_) .nil)));rw[hw _];omega;rw[b,e,kX];rfl;have f:k=l.length:=(by have:¬k<l.length:=(by simpa using h);omega);refine Fin.int ?_;rw[f];rfl
theorem wP {l:LV} {k:Nat} (a:k<l.length) (h:aP (gt l k) 2000=false):dJ l=false:=by
 cases b:dJ l with
 |false=>rfl
 |true=>have:=Zj.1 b (gt l k) (by simp[gt,List.getD,a]);rw[h]at this;cases this
theorem lx {l:LV} (h:∀i,i<l.length->aP (gt l i) 2000=true):dJ l=true:=by
 refine Zj.2 (λv b=>?_);obtain⟨i,a⟩:=ZT b;have c:=(Ye.1 a).1;have:=h i c;simpa[gt,List.getD,a]using this
theorem CO (v:V2):DP 129 [vD v] (aD (!aP v 2000)):=by
 refine dg Tryz.func129 [] ?_;refine ah.bool (cA v 2000) (λb a=>?_);refine Fin.bool (by rw[a])
theorem CP (l:LV) (t:l.length<=40000):DP 194 [.one (aS l),.one (.fn 129 0 λ_=> .v Go.undef)] (an (if dJ l=true then-1 else((l.findIdx λv=>!aP v 2000):Nat))):=by
 refine dg Tryz.func194 [] ?_;refine Loop.by (α:=Nat) (λk=>[(0,.d (.one (aS l))),(1,.d (.one (.fn 129 0 λ_=> .v Go.undef))),(7,an l.length),(8,an k)]) (λ_=>[]) (λk=>k<=l.length/\∀i,i<k->aP (gt l i) 2000=true) (λk=>l.length-k)
  (aH.at 0 ⟨XS _,λ_ h=>absurd h (XL _)⟩ .nil (.cS (.cS (.cS (.cS .nil))))) (λk o=>?_)
 obtain⟨o,c⟩:=o;refine ab.mk (λh=>?_) (λh=>?_);have f:k<l.length:=(by simpa using h);refine aj.o ?_;refine ah.bool (CO (gt l k)) (λb a=>?_);refine ab.mk (λg=>?_) (λg=>?_);refine Fin.int ?_;rw[g]at a;have p:aP (gt l k) 2000=false:=(by simpa using a.symm);rw[XD (by rw[wP f p];simp)];have:l.findIdx (λv=>!aP v 2000)=k:=(by rw[List.findIdx_eq f];have e:l[k]=gt l k:=(by simp[gt,List.getD,f]);refine⟨by rw[e,p];rfl,λj q=>?_⟩;have e:l[j]=gt l j:=(by simp[gt,List.getD,show j<l.length by omega]);rw[e,c j q];rfl);rw[this];refine aH.back (x:=k) (k+1) ⟨by omega,λi m=>?_⟩ (by omega) .nil (.cS (.cS (.cS (.cons (ao.int ?_) .nil))));rcases YP.1 m with m|rfl;exact c i m;rw[g]at a;simpa using a;rw[hw _];omega;have r:k=l.length:=(by have:¬k<l.length:=(by simpa using h);omega);subst r;refine Fin.int ?_;rw[XG (lx c)]
theorem Fu (l:LV) (a:l.length<=40000):DP 128 [.one (aS l),.one (.fn 129 0 λ_=> .v Go.undef)] (aD (!dJ l)):=by
 refine dg Tryz.func128 [] ?_;refine ah.int (CP l a) (λn b=>?_);refine Fin.bool ?_;subst b;cases dJ l with
 |true=>simp
 |false=>simp
theorem yV (l:LV) (a:l.length<=40000):DP 76 [.one (aS l)] (aD (dJ l)):=by
 refine dg Tryz.func76 [] ?_;refine ah.bool (Fu l a) (λb c=>?_);refine Fin.bool ?_;rw[c];simp
theorem Co (l:LV) (q:l.length<=40000):DP 122 [.one (aS l)] (aD (dJ l)):=by
 refine dg Tryz.func122 [] ?_;refine Loop.by (α:=Nat) (λk=>[(0,.d (.one (aS l))),(3,an k)]) (λ_=>[]) (λk=>k<=l.length/\∀i,i<k->aP (gt l i) 2000=true) (λk=>l.length-k)
  (aH.at 0 ⟨XS _,λ_ h=>absurd h (XL _)⟩ .nil (.cS (.cS .nil))) (λk g=>?_)
 obtain⟨g,j⟩:=g;refine ab.mk (λh=>?_) (λh=>?_);have o:k<l.length:=(by simpa using h);refine aj.o ?_;refine ah.bool (eK (gt l k) 2000) (λb m=>?_);refine ab.mk (λa=>?_) (λa=>?_);refine Fin.bool ?_;have c:b=false:=(by simpa using a);rw[wP o (by rw[<-m,c])];refine aH.back (x:=k) (k+1) ⟨by omega,λi f=>?_⟩ (by omega) .nil (.cS (.cons (ao.int ?_) .nil));rcases YP.1 f with f|rfl;exact j i f;have c:b=true:=(by simpa using a);rw[<-m,c];rw[hw _];omega;have p:k=l.length:=(by have:¬k<l.length:=(by simpa using h);omega);subst p;refine Fin.bool ?_;rw[lx j]
theorem dB {l:LV} (h:¬l.length<2) (i:Nat) (hi:i<l.length):bm (aw l) i=bN l i:=by
 simp[aw,h,bm,List.getD,hi]
theorem gL {l:LV} (h:¬l.length<2):(aw l).length=l.length:=by simp[aw,h]
theorem KR (E:List cc) (s:cc) (k i j:Nat) (hi:i<k+1) (a:j<4) (hs:s=bm E k):aC (bif Nat.blt i k then sG E i j else(sL s).getD ((i-k)*4+j) (.v Go.undef)) (sG E i j):=by
 refine aC.bif (λ_=>aC.refl _) (λh=>?_);have e:i=k:=by omega
 subst e;subst hs;rw[YM,W6,X6]
 match j,a with
 |0,_=>exact aC.refl _
 |1,_=>exact aC.refl _
 |2,_=>exact aC.refl _
 |3,_=>exact aC.refl _
theorem lI (l:LV) (g:l.length<=40000:=by omega):DP 114 [.one (aS l)] (.d (.one (nh (aw l)))):=by
 refine dg Tryz.func114 [] ?_;refine ab.mk (λh=>?_) (λh=>?_);have a:l.length<2:=(by have:=XB h;omega);refine Fin.one ?_;rw[show aw l=[] by simp[aw,a]];exact aC.nil _ _;have b:¬l.length<2:=by have:=XA h;omega
 refine Loop.by (α:=Nat) (λk=>[(0,.d (.one (aS l))),(9,.d (.one (aS l))),(10,an l.length),(11,an k),(3,.aL 23 0)]) (λk=>[(23,.aJ 0 k 4 163 (sG (aw l)))]) (λk=>k<=l.length) (λk=>l.length-k)
  (aH.nil 3 23 4 163 (sG (aw l)) rfl rfl (aH.at 0 (XS _) (.cons (.aJ (λ_ h=>absurd h (XL _))) .nil) (.cS (.cS (.cS (.cS (.cH .nil))))))) (λk p=>?_)
 refine ab.mk (λh=>?_) (λh=>?_);have a:k<l.length:=(by simpa using h);refine aj.o ?_;refine ah.v (wL l k a g) (λv m=>?_);refine aj.mk (aY) ?_;refine aj.n ?_;refine aH.back (x:=k) (k+1) (by omega) (by omega) (.cons (.aJ (λi c j f=>KR (aw l) ⟨gt l k,v⟩ k i j c f ?_)) .nil) (.cS (.cS (.cS (.cons (ao.int ?_) (.cH .nil)))));rw[dB b k a,m];rfl;rw[hw _];omega;have o:k=l.length:=(by have:¬k<l.length:=(by simpa using h);omega);refine Fin.one ?_;refine aC.qo (by rw[gL b,o]) (λi c j f=>aC.refl _)
theorem mf (l:LV) (o:l.length<=40000):DP 124 [.one (aS l)] (.d (.one (nh (aw l)))):=by
 refine dg Tryz.func124 [] ?_;refine ab.mk (λh=>?_) (λh=>?_);have a:l.length<2:=(by have:=XB h;omega);refine Fin.one ?_;rw[show aw l=[] by simp[aw,a]];exact aC.nil _ _;have b:¬l.length<2:=by have:=XA h;omega
 refine Loop.by (α:=Nat) (λk=>[(0,.d (.one (aS l))),(4,an k),(3,.aL 29 0)]) (λk=>[(29,.aJ 0 k 4 163 (sG (aw l)))]) (λk=>k<=l.length) (λk=>l.length-k)
  (aH.nil 3 29 4 163 (sG (aw l)) rfl rfl (aH.at 0 (XS _) (.cons (.aJ (λ_ h=>absurd h (XL _))) .nil) (.cS (.cS (.cH .nil))))) (λk p=>?_)
 refine ab.mk (λh=>?_) (λh=>?_);have a:k<l.length:=(by simpa using h);have e:=qB k 1;have g:=kY (k+1) l.length;refine aj.o ?_;refine aj.o ?_;refine aj.mk (by rw[show(1:Int)=(1:Nat) from rfl,e];exact g) ?_;refine aj.mk (aY) ?_;refine aj.n ?_;refine aH.back (x:=k) (k+1) (by omega) (by omega) (.cons (.aJ (λi c j f=>KR (aw l) ⟨gt l k,gt l (Int.toNat ((IntKind.i64.wrap ((k:Int)+(1:Nat))).tmod l.length))⟩ k i j c f ?_)) .nil) (.cS (.cons (ao.int ?_) (.cH .nil)));rw[dB b k a,e,kX];rfl;rw[hw _];omega;have m:k=l.length:=(by have:¬k<l.length:=(by simpa using h);omega);refine Fin.one ?_;refine aC.qo (by rw[gL b,m]) (λi c j f=>aC.refl _)
def bJ (n:Nat) (f:Nat->Bool):Bool:=(List.range n).all f
theorem aE {n:Nat} {f:Nat->Bool}:bJ n f=true↔∀i,i<n->f i=true:=by simp[bJ]
theorem bS {n:Nat} {f:Nat->Bool} (i:Nat) (hi:i<n) (h:f i=false):bJ n f=false:=by
 cases a:bJ n f with
 |false=>rfl
 |true=>rw[aE.1 a i hi]at h;cases h
def hD (n i k:Nat):Bool:=decide (k=i+1)||(decide (i=0)&&decide (k=n-1))
def lZ (l:LV):Bool:=bJ l.length λi=>decide (cQ (iZ l i) (gt l i) (bw l i)≠0)
def xM (l:LV):Bool:=bJ l.length λi=>bJ l.length λk=>decide (k<=i)||hD l.length i k||decide ((dz (bN l i) (bN l k)).kind=0)
def hI (l:LV):Bool:=decide (3<=l.length)&&decide (l.length<=40)&&dJ l
def bV (l:LV):Bool:=hI l&&decide (0<rY l)&&lZ l&&xM l
def pW (l:LV) (i k:Nat):Bool:=decide (k<=i)||hD l.length i k||decide ((dz (bN l i) (bN l k)).kind=0)
theorem jq (l:LV) (z:l.length<=40000:=by omega):DP 60 [.one (aS l)] (aD (bV l)):=by
 refine dg Tryz.func60 [] ?_;refine ab.mk (λh=>?_) (λh=>?_)
 ·have g:l.length<3:=(by have:=XB h;omega);repeat' first|apply ab.t|apply ab.f
  refine Fin.bool ?_;simp[bV,hI,show¬3<=l.length by omega]
 have g:3<=l.length:=by have:=XA h;omega
 repeat' first|apply ab.t|apply ab.f
 refine ab.mk (λh=>?_) (λh=>?_)
 ·have H:¬l.length<=40:=(by have:=XB h;omega);repeat' first|apply ab.t|apply ab.f
  refine Fin.bool ?_;simp[bV,hI,H]
 have H:l.length<=40:=by have:=XA h;omega
 repeat' first|apply ab.t|apply ab.f
 refine ah.bool (yV l z) (λb Q=>?_);repeat' first|apply ab.t|apply ab.f
 refine ab.mk (λh=>?_) (λh=>?_)
 ·have I:dJ l=false:=(by rw[<-Q];simpa using h);repeat' first|apply ab.t|apply ab.f
  refine Fin.bool ?_;simp[bV,hI,I]
 have I:dJ l=true:=by rw[<-Q];simpa using h
 repeat' first|apply ab.t|apply ab.f
 refine ah.int (Nu l z) (λa R=>?_);repeat' first|apply ab.t|apply ab.f
 refine ab.mk (λh=>?_) (λh=>?_);have J:¬0<rY l:=(by have:=XB h;omega);refine Fin.bool ?_;simp[bV,J];have J:0<rY l:=by have:=XA h;omega
 have D:bV l=(lZ l&&xM l):=by simp[bV,hI,g,H,I,J]
 rw[D];refine Loop.by (α:=Nat) (λk=>[(0,.d (.one (aS l))),(3,an l.length),(27,.d (.one (aS l))),(28,an l.length),(29,an k)]) (λ_=>[]) (λk=>k<=l.length/\∀i,i<k->cQ (iZ l i) (gt l i) (bw l i)≠0) (λk=>l.length-k)
  (aH.at 0 ⟨XS _,λ_ h=>absurd h (XL _)⟩ .nil (.cS (.cS (.cS (.cS (.cS .nil)))))) (λk A=>?_)
 obtain⟨A,S⟩:=A;refine ab.mk (λh=>?_) (λh=>?_);have r:k<l.length:=(by have:=XB h;omega);refine aj.o ?_;refine ah.v (Mb l k r z) (λu T=>?_);refine ah.v (wL l k r z) (λv D=>?_);refine ah.int (hN u (gt l k) v) (λc o=>?_);refine aj.n ?_;refine ab.mk (λp=>?_) (λp=>?_);refine Fin.bool ?_;have a3:cQ (iZ l k) (gt l k) (bw l k)=0:=(by rw[<-T,<-D,<-o];simpa using p);rw[lZ,bS k r (by rw[a3];rfl),Zp];refine aH.back (x:=k) (k+1) ⟨by omega,λi f=>?_⟩ (by omega) .nil (.cS (.cS (.cS (.cS (.cons (ao.int ?_) .nil)))));rcases YP.1 f with f|rfl;exact S i f;rw[<-T,<-D,<-o];simpa using p;rw[hw _];omega;have B:k=l.length:=by have:=XA h;omega
 subst B;have a4:lZ l=true:=aE.2 (λi f=>by simpa using S i f);rw[a4,Zh];refine ah.mk' (lI l z) ?_;have K:¬l.length<2:=by omega
 have a8:=gL K;refine Loop.by (α:=Nat) (λk=>[(3,an l.length),(6,.d (.one (nh (aw l)))),(46,an l.length),(47,an k)]) (λ_=>[]) (λk=>k<=l.length/\∀i,i<k->∀j,j<l.length->pW l i j=true) (λk=>l.length-k)
  (aH.at 0 ⟨XS _,λ_ h=>absurd h (XL _)⟩ .nil (.cS (.cS (.cS (.cS .nil))))) (λk A=>?_)
 obtain⟨A,U⟩:=A;refine ab.mk (λh=>?_) (λh=>?_)
 ·have r:k<l.length:=(by have:=XB h;omega);have E:IntKind.i64.wrap ((k:Int)+1)=((k+1:Nat):Int):=qB k 1;refine Loop.by (α:=Nat) (λq=>[(3,an l.length),(6,.d (.one (nh (aw l)))),(46,an l.length),(47,an k),(7,an k),(8,an q)]) (λ_=>[]) (λq=>k<q/\q<=l.length/\∀j,j<q->pW l k j=true) (λq=>l.length-q)
   (aH.at (k+1) ⟨by omega,by omega,λj w=>by simp[pW,show j<=k by omega]⟩ .nil (.cS (.cS (.cS (.cS (.cS (.cons (ao.int E) .nil))))))) (λq V=>?_)
  obtain⟨a9,V,X⟩:=V;refine ab.mk (λh=>?_) (λh=>?_)
  ·have Y:q<l.length:=(by have:=XB h;omega);have F:∀(t:Nat->TV) (m:Id->Mem),fk t m (aX []) [(3,an l.length),(6,.d (.one (nh (aw l)))),(46,an l.length),(47,an k),(7,an k),(8,an (IntKind.i64.wrap ((q:Int)+1)))]->pW l k q=true->
     aH t m (λa5 a6=>∃y,Kept (λq=>[(3,an l.length),(6,.d (.one (nh (aw l)))),(46,an l.length),(47,an k),(7,an k),(8,an ((q:Nat):Int))]) (λ_=>[]) (λq=>k<q/\q<=l.length/\∀j,j<q->pW l k j=true) y a5 a6/\l.length-y<l.length-q):=by
    intro t m Z a7;rw[show IntKind.i64.wrap ((q:Int)+1)=((q+1:Nat):Int) from qB q 1]at Z;exact aH.back (rank:=λq=>l.length-q) (q+1) ⟨by omega,by omega,λj w=>by
     rcases YP.1 w with w|rfl;exact X j w
     ·exact a7⟩ (by omega) .nil Z
   have a0:∀c,c=(dz (bm (aw l) k) (bm (aw l) q)).kind->hD l.length k q=false->pW l k q=decide (c=0):=(by intro c o R;rw[o,dB K k r,dB K q Y];simp[pW,R,show¬q<=k by omega]);have a1:pW l k q=false->xM l=false:=λh=>bS k r (bS q Y h);refine ab.mk (λp=>?_) (λp=>?_)
   ·have G:q≠k+1:=(by have:(q:Int)≠IntKind.i64.wrap ((k:Int)+1):=(by simpa using p);rw[E]at this;omega);repeat' first|apply ab.t|apply ab.f
    refine ab.mk (λM=>?_) (λM=>?_)
    ·have N:k≠0:=(by have:(k:Int)≠0:=(by simpa using M);omega);repeat' first|apply ab.t|apply ab.f
     refine aj.o ?_;repeat' first|apply ab.t|apply ab.f
     refine aj.o ?_;repeat' first|apply ab.t|apply ab.f
     refine ah.int (kS (bm (aw l) k) (bm (aw l) q)) (λc o=>?_);repeat' first|apply ab.t|apply ab.f
     refine aj.n ?_;have C:=a0 c o (by simp[hD,G,N]);refine ab.mk (λg=>?_) (λg=>?_);have:c≠0:=(by simpa using g);refine Fin.bool ?_;rw[a1 (by rw[C];simpa using this)];have:c=0:=(by simpa using g);exact F _ _ (.cS (.cS (.cS (.cS (.cS (.cS .nil)))))) (by rw[C];simpa using this)
    ·have N:k=0:=(by have:(k:Int)=0:=(by simpa using M);omega);have a2:IntKind.i64.wrap ((l.length:Int)-1)=((l.length-1:Nat):Int):=(by rw[hw _];omega);repeat' first|apply ab.t|apply ab.f
     refine ab.mk (λO=>?_) (λO=>?_)
     ·have P:q≠l.length-1:=(by have:(q:Int)≠IntKind.i64.wrap ((l.length:Int)-1):=(by simpa using O);rw[a2]at this;omega);repeat' first|apply ab.t|apply ab.f
      refine aj.o ?_;repeat' first|apply ab.t|apply ab.f
      refine aj.o ?_;repeat' first|apply ab.t|apply ab.f
      refine ah.int (kS (bm (aw l) k) (bm (aw l) q)) (λc o=>?_);repeat' first|apply ab.t|apply ab.f
      refine aj.n ?_;have C:=a0 c o (by simp[hD,G,P]);refine ab.mk (λg=>?_) (λg=>?_);have:c≠0:=(by simpa using g);refine Fin.bool ?_;rw[a1 (by rw[C];simpa using this)];have:c=0:=(by simpa using g);exact F _ _ (.cS (.cS (.cS (.cS (.cS (.cS .nil)))))) (by rw[C];simpa using this)
     ·have P:q=l.length-1:=(by have:(q:Int)=IntKind.i64.wrap ((l.length:Int)-1):=(by simpa using O);rw[a2]at this;omega);repeat' first|apply ab.t|apply ab.f
      refine aj.n ?_;repeat' first|apply ab.t|apply ab.f
      exact F _ _ (.cS (.cS (.cS (.cS (.cS (.cS .nil)))))) (by simp[pW,hD,N,P])
   ·have G:q=k+1:=(by have:(q:Int)=IntKind.i64.wrap ((k:Int)+1):=(by simpa using p);rw[E]at this;omega);repeat' first|apply ab.t|apply ab.f
    refine aj.n ?_;repeat' first|apply ab.t|apply ab.f
    exact F _ _ (.cS (.cS (.cS (.cS (.cS (.cS .nil)))))) (by simp[pW,hD,G])
  ·have B:q=l.length:=(by have:=XA h;omega);subst B;refine aH.back (x:=k) (k+1) ⟨by omega,λi f=>?_⟩ (by omega) .nil (.cS (.cS (.cS (.cons (ao.int E) .nil))));rcases YP.1 f with f|rfl;exact U i f;exact X
 ·have B:k=l.length:=(by have:=XA h;omega);subst B;refine Fin.bool ?_;exact(aE.2 (λi f=>aE.2 (λj w=>U i f j w))).symm
end Sg
end Go.Vm
