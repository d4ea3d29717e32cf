import Derived.Test.YtobmlkopbmakcaaGreatMB
import Derived.RangeFuncNested
import Derived.RangeFuncLeaves
import Derived.TacticsIn
import Derived.OrdersIn
import Derived.Scope
import Derived.WalkKit
import Derived.ProofKit
import Derived.OpenShut
import Derived.ShutString
import Derived.ChangeOld
import Derived.Test.YtobmlkopbmakcaaGreatProg
import Derived.RangeFuncBox
import Derived.Shelf.Abstract
import Derived.OwnWalkIn
import Derived.TacticsInMore
import Derived.LoopNIn
import Derived.LoopIn
set_option linter.unusedVariables false
set_option linter.unusedSimpArgs false
set_option maxRecDepth 20000
namespace Go.Vm
open Go Go.RowKit
def jg:Code->List Nat
 | .region _ f _=>f.toList.filterMap (·.dst)
 | .seq a b=>jg a++jg b
 | .cond _ a b=>jg a++jg b
 | .block _ c=>jg c
 | .loop c=>jg c
 |_=>[]
def jE (o:Oper):Bool:=match o.op with
 | .defer _=>false
 |_=>true
def eG:Code->Bool
 | .skip=>true
 | .region _ f _=>f.toList.all jE
 | .seq a b=>eG a&&eG b
 | .cond _ a b=>eG a&&eG b
 | .block _ c=>eG c
 | .loop c=>eG c
 | .exit _=>true
 | .ret=>true
 |_=>false
def BQ (P:Program) (g:FuncId) (j f:List Value) (Sx:Nat->Prop) (w:World):Prop:=
 ∀(l:Nat) (J:Nat->World->Prop) (h:World->Prop) (W:World),(∀b,Sx b->W.heap[b]? =w.heap[b]?)->
  (∀k a i,J k a->Below a.heap.size a i->J k i)->
  (∀k v a,f[k]? =some v->J k a->YieldAt Fence.wide 0 P l #[v] a λe c=>
   (e= .returned (.bool true)/\J (k+1) c/\(∀b,Sx b->c.heap[b]? =a.heap[b]?))\/(e= .returned (.bool false)/\h c))->
  J 0 W->CallsIn Fence.wide 0 P g (#[.func (.yield l) #[] #[]]++j.toArray) W λe c=>(∃v,e= .returned v)/\(J f.length c\/h c)
def Iter (P:Program) (g:FuncId) (f:List SV) (xs:List DV):Prop:=
 Enters P g/\∀(w:World) (S:Nat->Prop) (a:List Value),(∀b,S b->b<w.heap.size)->eA S w a f->∃c,dA S w c xs/\BQ P g a c S w
def BP (P:Program) (g:FuncId) (m h:List Value) (Sx:Nat->Prop) (w:World):Prop:=
 ∀(l:Nat) (J:Nat->(Nat->Prop)->World->Prop) (i:World->Prop) (W:World) (C:Nat->Prop),(∀b,Sx b->W.heap[b]? =w.heap[b]?)->
  (∀k C W,J k C W->∀b,(C b->b<W.heap.size)/\(Sx b->b<W.heap.size/\¬C b))->
  (∀k C a j,J k C a->Below a.heap.size a j->J k C j)->
  (∀k C v a,h[k]? =some v->J k C a->YieldAt Fence.wide 0 P l #[v] a λe c=>
   (e= .returned (.bool true)/\∃f,J (k+1) f c/\a.heap.size<=c.heap.size/\∀b,b<a.heap.size->¬C b->¬f b/\c.heap[b]? =a.heap[b]?)\/(e= .returned (.bool false)/\i c))->
  J 0 C W->CallsIn Fence.wide 0 P g (#[.func (.yield l) #[] #[]]++m.toArray) W λe c=>(∃v,e= .returned v)/\((∃f,J h.length f c)\/i c)
def zX (P:Program) (g:FuncId) (f:List SV) (xs:List DV):Prop:=
 Enters P g/\∀(w:World) (S:Nat->Prop) (a:List Value),(∀b,S b->b<w.heap.size)->eA S w a f->∃c,dA S w c xs/\BP P g a c S w
variable {P:Program}
theorem Iter.up {g:FuncId} {f:List SV} {xs:List DV} (h:Iter P g f xs):zX P g f xs:=by
 refine⟨h.1,λw S m hS o=>?_⟩;obtain⟨p,r,t⟩:=h.2 w S m hS o;refine⟨p,r,λl J u W C A i B D E=>?_⟩;refine t l (λk W=>∃C,J k C W) u W A (λk a F ⟨C,q⟩ c=>⟨C,B k C a F q c⟩) (λk v a G ⟨C,q⟩=>?_) ⟨C,E⟩;obtain⟨fn,H,x,y,z,I⟩:=D k C v a G q;refine⟨fn,H,x,y,z,I.mono λe Q K=>?_⟩;rcases K with⟨M,N,j,_,O⟩|q;exact .inl ⟨M,⟨N,j⟩,λb c=>(O b (i k C a q b|>.2 c).1 (i k C a q b|>.2 c).2).2⟩;exact .inr q
inductive Ex where
 |normal
 |exit (id:Nat)
 |ret
abbrev iW:=Ex->(Nat->TV)->(Id->Mem)->Prop
def Wk (t:Nat->TV) (m:Id->Mem) (t':Nat->TV) (m':Id->Mem):Prop:=
 ∀(E:Env) (ρ:Id->Option (Nat×Nat)) (a:Act) (w:World),Rel E ρ t m a w->∃ρ',Rel E ρ' t' m' a w
def aG (t:Nat->TV) (m:Id->Mem) (J:(Nat->TV)->(Id->Mem)->Prop):Prop:=∃t' m',Wk t m t' m'/\J t' m'
structure Cut (t:Nat->TV) (m:Id->Mem) (J:(Nat->TV)->(Id->Mem)->Prop):Prop where
 h:aG t m J
structure Loop (body:iW->(Nat->TV)->(Id->Mem)->Prop) (Q:iW) (t:Nat->TV) (m:Id->Mem):Prop where
 h:∃(α:Type) (I J:α->(Nat->TV)->(Id->Mem)->Prop) (μ:α->Nat),aG t m (λt m=>∃x,I x t m)/\
  (∀x t m,J x t m->aG t m λt m=>∃y,I y t m/\μ y<μ x)/\
  ∀x t' m',I x t' m'->body (λe Xc Xh=>match e with
   | .normal=>J x Xc Xh
   |e=>Q e Xc Xh) t' m'
def nY:Code->Nat
 | .region id _ _=>id+1
 | .seq a _=>nY a
 | .block _ c=>nY c
 | .loop c=>nY c
 |_=>0
def WC (eP:List Nat) (b:Code) (a:iW->(Nat->TV)->(Id->Mem)->Prop) (Q:iW):iW:=λe t' m'=>match e with
 | .normal=>bif eP.any (Nat.beq (nY b))then Cut t' m' (λt' m'=>a Q t' m')else a Q t' m'
 | .exit i=>Q (.exit i) t' m'
 | .ret=>Q .ret t' m'
def Ti (id:Nat) (Q:iW):iW:=λe t' m'=>match e with
 | .normal=>Q .normal t' m'
 | .exit i=>bif Nat.beq i id then Q .normal t' m' else Q (.exit i) t' m'
 | .ret=>Q .ret t' m'
structure Tw (n:Nat) (neg:Bool) (K:Bool->Prop):Prop where
 f:K neg
 t:n=0->K (!neg)
def DN (t:Nat->TV) (c:Operand) (K:Bool->Prop):Prop:=match bE t c with
 | .d (.one (.v (.bool b)))=>af b K
 | .nb n a=>Tw n a K
 |_=>False
def uF (W:List Nat) (t:Nat->TV):Prop:=∀i,W.any (Nat.beq i)=true->t i= .any
structure hD (P:Program) (N:Nat) (f:Operand) (ps:Array Tmp) (Wq bd:Code) (iha ihb:iW->(Nat->TV)->(Id->Mem)->Prop) (Q:iW) (t:Nat->TV) (m:Id->Mem):Prop where
 h:∃(g:FuncId) (n:Nat) (cap:Nat->SV) (xs:List DV) (p:Nat) (T:Nat->Nat->TV) (M:Nat->Id->Mem) (inv:Nat->Prop),
  bE t f= .d (.one (.fn g n cap))/\zX P g (cells n cap) xs/\ps=#[p]/\p<N/\(eG Wq&&eG bd)=true/\(∀k,uF (p::(jg Wq++jg bd)) (T k))/\
  Wk t m (T 0) (M 0)/\inv 0/\
  (∀k x,xs[k]? =some x->inv k->iha (λe t1 m1=>match e with
   | .normal=>ihb (λe t2 m2=>match e with
    | .normal=>aG t2 m2 λt3 m3=>t3=T (k+1)/\m3=M (k+1)/\inv (k+1)
    | .exit i=>aG t2 m2 λt3 m3=>uF (p::(jg Wq++jg bd)) t3/\Q (.exit i) t3 m3
    | .ret=>aG t2 m2 λt3 m3=>uF (p::(jg Wq++jg bd)) t3/\Q .ret t3 m3) t1 m1
   |_=>False) (bj (T k) p (.d x)) (M k))/\
  (inv xs.length->Q .normal (T xs.length) (M xs.length))
def vv (P:Program) (TT:iw) (N:Nat) (eP:List Nat) (c:Code):iW->(Nat->TV)->(Id->Mem)->Prop:=
 Code.rec (motive:=λ_=>iW->(Nat->TV)->(Id->Mem)->Prop)
  (λQ t m=>Q .normal t m)
  (λ_ g j Q t m=>Lh P TT eP N g j g.toList t m [] λt' m' k=>bif j then ak (Wp g.toList k.reverse=true) (Q .normal t' m')else Q .normal t' m')
  (λ_ b h i Q t m=>h (WC eP b i Q) t m)
  (λc _ _ l o Q t m=>DN t c λb=>bif b then l Q t m else o Q t m)
  (λid _ a Q t m=>a (Ti id Q) t m)
  (λ_ a Q t m=>Loop a Q t m)
  (λf p q r h i Q t m=>hD P N f p q r h i Q t m)
  (λid Q t m=>Q (.exit id) t m)
  (λ_ a Q t m=>a Q t m)
  (λ_ Q t m=>Q .normal t m)
  (λ_ _ _ _=>False)
  (λQ t m=>Q .ret t m)
  (λ_ _ _ _=>False) c
def jX (E:Env) (Q:iW):Exit->Act->World->Prop
 | .normal,a,w=>∃ρ t m,Q .normal t m/\Rel E ρ t m a w
 | .exit id,a,w=>∃ρ t m,Q (.exit id) t m/\Rel E ρ t m a w
 | .ret,a,w=>∃ρ t m,Q .ret t m/\Rel E ρ t m a w
 |_,_,_=>False
theorem least (p:Nat->Prop) (h:∃n,p n):∃n,p n/\∀k,p k->n<=k:=by
 obtain⟨n,b⟩:=h;induction n using Nat.strongRecOn with
 |_ n c=>by_cases a:∃k,k<n/\p k;obtain⟨k,f,g⟩:=a;exact c k f g;exact⟨n,b,λk i=>aa8 λj=>a ⟨k,j,i⟩⟩
noncomputable def leastOf (p:Nat->Prop):Nat:=Classical.epsilon λn=>p n/\∀k,p k->n<=k
theorem leastOf_spec {p:Nat->Prop} (h:∃n,p n):p (leastOf p)/\∀k,p k->leastOf p<=k:=Classical.epsilon_spec (least p h)
def jS:Obj->Bool
 | .cells .. =>true
 | .map .. =>true
 |_=>false
theorem M9 {o:Obj} (h:o.isCells=true):jS o=true:=by cases o<;>first|rfl|cases h
variable {x:Value} {xs:List Value} {cs:List DV}
section
variable {S S':Nat->Prop} {w w':World}
theorem zG {b i:Nat} {v:Value} (h:∀o,w.heap[b]? =some o->jS o=true->w'.heap[b]? =w.heap[b]?) (a:w.cell? ⟨b,i,none⟩=some v):w'.cell? ⟨b,i,none⟩=some v:=by
 obtain⟨o,c,f⟩:=cells_of_cell a;rw[World.cell?_of_block (w:=w) (h o c (M9 f))];exact a
theorem Rd.eC (h:∀b,S b->S' b/\∀o,w.heap[b]? =some o->jS o=true->w'.heap[b]? =w.heap[b]?) {c:SV} (m:Rd S w x c):Rd S' w' x c:=by
 induction m with
 |v p=>exact .v p
 |nil k get=>exact .nil k get
 |emp a q k get=>exact .emp a q k get
 |sl xs hS r t g _ f=>exact .sl xs (h _ hS).1 r t (λi hi j l=>zG (h _ hS).2 (g i hi j l)) f
 |ad xs hS g _ f=>exact .ad xs (h _ hS).1 (λj l=>zG (h _ hS).2 (g j l)) f
 |fn xs _ f=>exact .fn xs f
theorem eA.eC (h:∀b,S b->S' b/\∀o,w.heap[b]? =some o->jS o=true->w'.heap[b]? =w.heap[b]?) {cs:List SV} (c:eA S w xs cs):eA S' w' xs cs:=by
 induction c with
 |nil=>exact .nil
 |cons a _ f=>exact .cons (a.eC h) f
theorem lU.eC (h:∀b,S b->S' b/\∀o,w.heap[b]? =some o->jS o=true->w'.heap[b]? =w.heap[b]?) {c:DV} (a:lU S w x c):lU S' w' x c:=by
 cases c with
 |one c=>exact Rd.eC h a
 |agg cs=>obtain⟨xs,f,g⟩:=a;exact⟨xs,f,g.eC h⟩
theorem dA.eC (h:∀b,S b->S' b/\∀o,w.heap[b]? =some o->jS o=true->w'.heap[b]? =w.heap[b]?) (c:dA S w xs cs):dA S' w' xs cs:=by
 induction c with
 |nil=>exact .nil
 |cons a _ f=>exact .cons (a.eC h) f
variable {m:Id->Mem} {ρ:Id->Option (Nat×Nat)}
theorem qF.eC (h:∀b,S b->S' b/\∀o,w.heap[b]? =some o->jS o=true->w'.heap[b]? =w.heap[b]?) {cs:List CR} (f:qF S m ρ w xs cs):qF S' m ρ w' xs cs:=by
 induction f with
 |nil=>exact .nil
 |@cons x c xs cs a _ g=>
  refine .cons ?_ g;cases c with
  |s c=>exact Rd.eC h a
  |ptr o p=>exact a
theorem jZ.eC (h:∀b,S b->S' b/\∀o,w.heap[b]? =some o->jS o=true->w'.heap[b]? =w.heap[b]?) {f:FuncId} {a:List CR} (c:jZ S m ρ w x f a):jZ S' m ρ w' x f a:=by
 obtain⟨xs,g,i⟩:=c;exact⟨xs,g,i.eC h⟩
theorem kR.eC (h:∀b,S b->S' b/\∀o,w.heap[b]? =some o->jS o=true->w'.heap[b]? =w.heap[b]?) {c:CV} (a:kR S m ρ w x c):kR S' m ρ w' x c:=by
 cases c with
 |s c=>exact Rd.eC h a
 |ptr o p=>exact a
 |aJ o g=>exact a
 |cP f i=>exact jZ.eC h a
theorem fV.eC (h:∀b,S b->S' b/\∀o,w.heap[b]? =some o->jS o=true->w'.heap[b]? =w.heap[b]?) {cs:List CV} (c:fV S m ρ w xs cs):fV S' m ρ w' xs cs:=by
 induction c with
 |nil=>exact .nil
 |cons a _ f=>exact .cons (a.eC h) f
end
variable {E:Env} {ρ:Id->Option (Nat×Nat)} {m:Id->Mem} {a a':Act} {w:World}
theorem Rel.cells {t:Nat->TV} {w':World} (h:Rel E ρ t m a w) (O:a'.tmps=a.tmps) (Q:Marks E m ρ w' a'.defers)
  (F:Bx E.w0.heap.size E.X w w') (C:∀(c:Nat) (o:Obj),w.heap[c]? =some o->jS o=true->w'.heap[c]? =w.heap[c]?):Rel E ρ t m a' w':=by
 have B:∀b,L E m ρ w b->L E m ρ w' b/\∀o,w.heap[b]? =some o->jS o=true->w'.heap[b]? =w.heap[b]?:=λb P=>
  ⟨⟨P.1.imp id (λu=>u.imp id (λu=>⟨u.1,Yc u.2 F.size⟩)),P.2⟩,λo u q=>C b o u q⟩
 refine{below:=h.below.trans F,defers:=Q,size:=by rw[O];exact h.size,inj:=h.inj,lo:=λo b c l r=>⟨(h.lo o b c l r).1,Yc (h.lo o b c l r).2 F.size⟩,clean:=h.clean,cleanM:=h.cleanM,mem:=?_,slots:=?_,carry:=h.carry}
 ·intro o;have D:=h.mem o;generalize m o=v at D;cases v with
  |none=>trivial
  |dead=>trivial
  |ro cs=>obtain⟨b,c,xs,e,u,R,q,z⟩:=D;exact⟨b,c,xs,e,u,(B b R).1,by rw[C b _ q rfl,q],z.eC B⟩
  |box cs=>obtain⟨b,c,xs,e,u,q,z⟩:=D;exact⟨b,c,xs,e,u,by rw[C b _ q rfl,q],z.eC B⟩
  |aL g n k e get=>rcases D with⟨u,q⟩|⟨b,G,arr,u,q,z,H,I,J⟩;exact .inl ⟨u,q⟩;refine .inr ⟨b,G,arr,u,by rw[C b _ q rfl,q],z,H,I,λi hi j K=>?_⟩;obtain⟨x,M,N⟩:=J i hi j K;exact⟨x,M,N.eC B⟩
  |obj cs=>obtain⟨b,c,xs,e,u,q,z⟩:=D;exact⟨b,c,xs,e,u,by rw[C b _ q rfl,q],z.eC B⟩
  |bm g n k e get=>rcases D with⟨u,q⟩|⟨b,G,arr,u,q,z,H,I,J⟩;exact .inl ⟨u,q⟩;refine .inr ⟨b,G,arr,u,by rw[C b _ q rfl,q],z,H,I,λi hi j K=>?_⟩;obtain⟨x,M,N⟩:=J i hi j K;exact⟨x,M,N.eC B⟩
  |map V=>obtain⟨b,c,S,T,u,q,z⟩:=D;exact⟨b,c,S,T,u,by rw[C b _ q rfl,q],z⟩
 ·intro i;have A:=h.slots i;rw[O];generalize t i=v at A;cases v with
  |any=>trivial
  |undef=>exact A
  |d v=>exact lU.eC B A
  |eD U=>obtain⟨xs,u,q⟩:=A;exact⟨xs,u,q.eC B⟩
  |ptr o p=>exact A
  |aJ o g=>exact A
  |sub o g lo n=>exact A
  |nb n neg=>exact A
  |ep o g i X=>exact A
  |cP f Y=>exact jZ.eC B A
  |jC o U=>obtain⟨y,xs,u,q,z⟩:=A;exact⟨y,xs,u,q,z.eC B⟩
  |rW cs=>obtain⟨xs,u,q⟩:=A;exact⟨xs,u,q.eC B⟩
theorem zL {B l:Nat} {X:Nat->Prop} (w:World) (o:Obj) (h:B<=l):Bx B X w (w.putObj l o):=
 ⟨rfl,rfl,rfl,by simp,λk a _=>World.putObj_heap_other (by omega),XU _⟩
theorem Rel.close (u:E.w0.heap.size<=E.B) {t:Nat->TV} (h:Rel E ρ t m a w) {b:Nat} {g:List Deferred} (f:a.defers={target:= .collected b,args:=#[]}::g):
  w.heap[b]? =some (.deferred (some []))/\Rel E ρ t m {a with defers:=g} (w.putObj b (.deferred none)):=by
 have i:=h.defers;rw[f]at i;cases i with
 |cons x F j k r=>
  refine⟨j,h.cells rfl ?_ (zL w _ (Yg u x)) (λc o l y=>World.putObj_heap_other (λe=>by rw[e,j]at l;cases l;cases y))⟩;show Marks E m ρ (w.putObj b (.deferred none)) g;clear f h;induction r with
  |nil=>exact .nil
  |@cons p G z q A B _ C=>have D:p≠b:=λe=>k {target:= .collected p,args:=#[]} (by simp) (by rw[e]);refine .cons z ⟨q.1.imp id (λh=>h.imp id (λh=>⟨h.1,by simpa using h.2⟩)),q.2⟩ ((World.putObj_heap_other D).trans A) B (C (λd f=>k d (by simp[f])))
theorem mB {P:Program} {n:Nat} {i:Func} {R:Ending->World->Prop} {E:Env} (j:E.w0.heap.size<=E.B) {ρ:Id->Option (Nat×Nat)} {t:Nat->TV} {m:Id->Mem}:∀(c:List Deferred) (a:Act) (w:World),a.defers=c->Rel E ρ t m a w->
  (∀w',Rel E ρ t m {a with defers:=[]} w'->∃v,(results i a.tmps).run P w'= .ok v w'/\R (.returned v) w')->LeavesInM Fence.wide n P i a.tmps R c .returning w
 |[],a,w,f,g,h=>by obtain⟨p,c⟩:=a;simp only at f;subst f;exact h w g
 |d::c,a,w,f,g,h=>by
  have k:=g.defers;rw[f]at k;cases k with
  |@cons b _ q u x y r=>obtain⟨l,o⟩:=g.close j f;exact⟨by simp,.inl ⟨b,_,rfl,run_takeDeferred l,mB j c {a with defers:=c} _ rfl o h⟩⟩
theorem UG {o:Oper} {K:Act->World->Prop} {Q Q':Exit->Act->World->Prop} (l n:Nat) (b:jE o=true) (g:∀i a w,¬Q (.panic i) a w) (k:¬LetsOut Q)
  (h:o.wp P a w K Q):o.wpIn (Fence.wide.inRound l) n P a w (λa' w'=>K a' w'/\∃v,a'.tmps=(a.put o.dst v).tmps) Q':=by
 refine⟨λ_ _=>trivial,?_⟩;have e:o.semAt (Fence.wide.inRound l).round a.eval=execOp a.eval o:=Oper.semAt_some l a.eval o (λc m=>by unfold jE at b;rw[m]at b;cases b);rw[e];unfold Oper.wp at h;generalize (execOp a.eval o).run P w=r at h;unfold Oper.upon at h;split at h;exact⟨h,_,rfl⟩;exact⟨h,_,rfl⟩;(refine⟨h,undef,?_⟩;cases t:o.dst<;>rfl)
 ·refine⟨(λh=>by cases h),CallsIn.inRound l ((callsIn_wide (n:=n-1)).2 (h.mono ?_))⟩;intro e j f;cases e with
  |returned v=>exact⟨f,v,rfl⟩
  |panicked i=>exact absurd f (g _ _ _)
  |outgrown=>exact absurd f k
 ·refine⟨(λh=>by cases h),λc cs u=>?_⟩;obtain⟨v,j,p,q⟩:=h c cs;exact⟨v,j,⟨p,v,rfl⟩,stepsIn_wide.2 q⟩
 ·exact absurd h (g _ _ _)
 ·exact h.elim
def dM (W:List Nat) (a a':Act):Prop:=∀i,i∉W->a'.tmps.getD i Go.undef=a.tmps.getD i Go.undef
theorem dM.refl (W:List Nat) (a:Act):dM W a a:=λ_ _=>rfl
variable {V:List Nat}
theorem dM.trans {W:List Nat} {b c:Act} (h:dM V a b) (k:dM W b c):dM (V++W) a c:=λi hi=>by
 rw[k i (λh=>hi (by simp[h])),h i (λh=>hi (by simp[h]))]
theorem dM.mono {W:List Nat} {b:Act} (h:dM V a b) (hs:∀i,i∈V->i∈W):dM W a b:=λi hi=>h i (λk=>hi (hs i k))
theorem s3 {d:Option Nat} {v:Value} (h:a'.tmps=(a.put d v).tmps) {W:List Nat} (b:∀k,d=some k->k∈W):dM W a a':=λi c=>by
 rw[h];cases d with
 |none=>rfl
 |some k=>have f:i≠k:=λe=>c (by rw[e];exact b k rfl);simp only[Act.put,YC];rw[Array.getElem?_setIfInBounds_ne (Zf f)]
theorem Md {P:Program} {c:Array Oper} {Q:Exit->Act->World->Prop} (l n:Nat) (q:∀u a w,¬Q (.panic u) a w) (f:¬LetsOut Q):∀(b:List Oper) (a:Act) (w:World) (Q':Exit->Act->World->Prop),b.all jE=true->
  (∀e a' w',Q e a' w'->dM (b.filterMap (·.dst)) a a'->Q' e a' w')->wpList P c Q b a w->wpListIn (Fence.wide.inRound l) n P c Q' b a w
 |[],a,w,Q',_,g,h=>g _ _ _ h (dM.refl _ _)
 |o::b,a,w,Q',j,g,h=>by
  simp only[List.all_cons,XJ]at j;have x:∀k,o.dst=some k->k∈(o::b).filterMap (·.dst):=λk m=>by simp[m]
  have y:∀i,i∈b.filterMap (·.dst)->i∈(o::b).filterMap (·.dst):=λi p=>by rw[List.filterMap_cons];split<;>simp[p]
  have r:∀a' w' v,a'.tmps=(a.put o.dst v).tmps->wpList P c Q b a' w'->wpListIn (Fence.wide.inRound l) n P c Q' b a' w':=(by intro a' w' v z hw;refine Md l n q f b a' w' Q' j.2 (λe t A B m=>g e t A B ?_) hw;have C:dM ((o::b).filterMap (·.dst)) a a':=s3 z x;have D:dM ((o::b).filterMap (·.dst)) a' t:=m.mono y;exact(C.trans D).mono (λi p=>by simpa using p));unfold wpList at h;unfold wpListIn;split;rename_i hw;rw[XL hw]at h;rcases h with h|⟨_,h⟩;refine Oper.wpIn_mono ?_ (UG (Q':=Q') l n j.1 q f h);rintro a' w' ⟨E,v,F⟩;exact r a' w' v F E;exact absurd h f;rename_i hw;rw[XG hw]at h;exact⟨λ_ _=>trivial,r _ _ undef rfl h⟩
theorem NG {P:Program} {c:Array Oper} {Q:Exit->Act->World->Prop} (l n:Nat) (m:∀y a w,¬Q (.panic y) a w) (j:¬LetsOut Q) (p:c.toList.all jE=true):∀(fuel:Nat) (f:Array Bool) (a:Act) (w:World) (Q':Exit->Act->World->Prop),
  (∀e a' w',Q e a' w'->dM (c.toList.filterMap (·.dst)) a a'->Q' e a' w')->wpAny P .any c Q fuel f a w->wpAnyIn (Fence.wide.inRound l) n P .any c Q' fuel f a w
 |0,f,a,w,Q',g,h=>⟨h.1,g _ _ _ h.2 (dM.refl _ _)⟩
 |fuel+1,f,a,w,Q',g,h=>by
  refine⟨λz=>g _ _ _ (h.1 z) (dM.refl _ _),λi q=>?_⟩;have b:=h.2 i q;unfold wpOp at b;unfold wpOpIn;cases r:c[i]? with
  |none=>rw[r]at b;exact NG l n m j p fuel _ a w Q' g b
  |some o=>
   rw[r]at b;have u:o∈c.toList:=(by have:=Array.mem_of_getElem? r;simpa using this);have A:jE o=true:=Zz.1 p o u;have B:∀k,o.dst=some k->k∈c.toList.filterMap (·.dst):=λk t=>List.mem_filterMap.2 ⟨o,u,t⟩;have x:∀a' w' v,a'.tmps=(a.put o.dst v).tmps->wpAny P .any c Q fuel (f.setIfInBounds i true) a' w'->wpAnyIn (Fence.wide.inRound l) n P .any c Q' fuel (f.setIfInBounds i true) a' w':=λa' w' v C hw=>
    NG l n m j p fuel _ a' w' Q' (λe D E F t=>g e D E F (((s3 C B).trans t).mono (λi q=>by simpa using q))) hw
   simp only at b|-;split;rename_i hw;rw[XL hw]at b;rcases b with b|⟨_,b⟩;refine Oper.wpIn_mono ?_ (UG (Q':=Q') l n A m j b);rintro a' w' ⟨G,v,H⟩;exact x a' w' v H G;exact absurd b j;rename_i hw;rw[XG hw]at b;exact⟨λ_ _=>trivial,x _ _ undef rfl b⟩
variable {Q:iW}
theorem tP:∀b a w,¬jX E Q (.panic b) a w:=λ_ _ _ h=>h
theorem yZ:¬LetsOut (jX E Q):=λ⟨_,_,h⟩=>h
variable {N:Nat}
theorem HX {b:Array Oper} {c:List kb} {t t':Nat->TV} {m':Id->Mem} (j:rZ P N b b.toList c t m t' m')
  (k:Wp b.toList (c.map kb.mask)=true) (l:Q .normal t' m') {E:Env} {ρ:Id->Option (Nat×Nat)} {a:Act} {w:World} (p:E.P=P) (q:E.N=N) (r:Rel E ρ t m a w):
  wpAny P .any b (jX E Q) b.size (Array.replicate b.size false) a {w with drawn:=w.drawn+1}:=by
 have g:∀i,(Array.replicate b.size false).getD i false=false:=by intro i;by_cases f:i<b.size;simp[YC,f];rw[YC,Z6 (by simp;omega)];rfl
 have hS:(λi=>(Array.replicate b.size false).getD i false)=λ_=>false:=funext g;refine MR j k p q (λρ' a' w' u=>⟨ρ',t',m',l,u⟩) b.size _ ρ a _ (by simp) ?_ ?_ ?_;unfold ri;have:(List.range b.size).filter (λi=>!(Array.replicate b.size false).getD i true)=List.range b.size:=(by rw[List.filter_eq_self];intro i f;have:i<b.size:=(by simpa using f);simp[YC,this]);rw[this];simp;intro i o _ h;rw[g]at h;simp at h;have x:fT c (λi=>(Array.replicate b.size false).getD i false) 0 t=t:=(by rw[hS];funext s;exact FF _ _ _ _ _ (λ_ _ _ _=>rfl));have y:fM c (λi=>(Array.replicate b.size false).getD i false) 0 m=m:=(by rw[hS];funext s;exact FG _ _ _ _ _ (λ_ _ _ _=>rfl));rw[x,y];exact r.grow ((Below.refl w.heap.size w).drew)
variable {eP:List Nat}
theorem uf {TT:iw} (a9:cG P TT) (b0:P.follows .mixedOrders=true) (l n:Nat):∀(c:Code) (Q:iW) (t:Nat->TV) (m:Id->Mem),eG c=true->vv P TT N eP c Q t m->
  ∀(E:Env) (ρ:Id->Option (Nat×Nat)) (a:Act) (w:World),E.P=P->E.N=N->Rel E ρ t m a w->c.wpIn (Fence.wide.inRound l) n P (λe a' w'=>jX E Q e a' w'/\dM (jg c) a a') a w:=by
 intro c;induction c with
 |skip=>intro Q t m _ h E ρ a w _ _ o;exact wpIn_skip ⟨⟨ρ,t,m,h,o⟩,dM.refl _ _⟩
 |region id R b1=>
  intro Q t m j h E ρ a w u z o;obtain⟨d6,t',m',Y,Z,d7⟩:=sN a9 R.toList t m [] _ h;replace j:R.toList.all jE=true:=j;cases b1 with
  |false=>exact wpIn_region_list (Md l n tP yZ R.toList a w _ j (λe a' w' g k=>⟨g,k⟩) (zt Y E ρ a w u z o (jX E Q) (λρ' a' w' D=>⟨ρ',t',m',Z,D⟩)))
  |true=>obtain⟨a0,g⟩:=(show ak _ _ from Z);simp only[ZD,Y4,List.reverse_reverse]at a0;exact wpIn_region_any b0 (NG l n tP yZ j _ _ a _ _ (λe a' w' g k=>⟨g,k⟩) (HX Y a0 g u z o))
 |seq x y F S=>
  intro Q t m j h E ρ a w u z o;simp only[eG,XJ]at j;have left:∀a',dM (jg x) a a'->dM (jg (x.seq y)) a a':=λa' k=>k.mono (λi A=>by simp[jg,A]);refine wpIn_seq (wpIn_mono (F _ t m j.1 h E ρ a w u z o) ?_);rintro e a' w' ⟨g,k⟩;cases e with
  |normal=>
   obtain⟨ρ',t',m',g,D⟩:=g;have a1:∀G H m2,vv P TT N eP y Q H m2->Rel E G H m2 a' w'->y.wpIn (Fence.wide.inRound l) n P (λe q r=>jX E Q e q r/\dM (jg (x.seq y)) a q) a' w':=λG H m2 b2 M=>
    wpIn_mono (S Q H m2 j.2 b2 E G a' w' u z M) (λe q r C=>⟨C.1,k.trans C.2⟩)
   show y.wpIn _ n P _ a' w';replace g:bif eP.any (Nat.beq (nY y))then Cut t' m' (λt' m'=>vv P TT N eP y Q t' m')else vv P TT N eP y Q t' m':=g;cases a2:eP.any (Nat.beq (nY y))with
   |false=>rw[a2]at g;exact a1 ρ' t' m' g D
   |true=>rw[a2]at g;obtain⟨H,m2,T,g⟩:=(show Cut _ _ _ from g).h;obtain⟨G,M⟩:=T E ρ' a' w' D;exact a1 G H m2 g M
  |exit i=>exact⟨g,left a' k⟩
  |ret=>exact⟨g,left a' k⟩
  |goto l=>exact g.elim
  |panic a3=>exact g.elim
  |outgrown=>exact g.elim
 |cond c x y F S=>
  intro Q t m j h E ρ a w u z o;simp only[eG,XJ]at j;have a4:vv P TT N eP x Q t m->x.wpIn (Fence.wide.inRound l) n P (λe q r=>jX E Q e q r/\dM (jg (.cond c x y)) a q) a w:=λg=>
   wpIn_mono (F Q t m j.1 g E ρ a w u z o) (λe q r C=>⟨C.1,C.2.mono (λi A=>by simp[jg,A])⟩)
  have a5:vv P TT N eP y Q t m->y.wpIn (Fence.wide.inRound l) n P (λe q r=>jX E Q e q r/\dM (jg (.cond c x y)) a q) a w:=λg=>
   wpIn_mono (S Q t m j.2 g E ρ a w u z o) (λe q r C=>⟨C.1,C.2.mono (λi A=>by simp[jg,A])⟩)
  replace h:DN t c λb=>bif b then vv P TT N eP x Q t m else vv P TT N eP y Q t m:=h;unfold DN at h;split at h
  ·rename_i b U;have O:=(az o c).1;rw[U]at O;have V:=(Rd.bT (show Rd _ _ _ _ from O)).1;have h:=h.elim;refine wpIn_cond (t:=b) V ?_;cases b with
   |true=>exact a4 h
   |false=>exact a5 h
  ·rename_i d8 B U;have O:=(az o c).1;rw[U]at O;obtain⟨b,V,b3⟩:=O;refine wpIn_cond (t:=(b !=B)) V ?_;have k:(bif (b !=B)then vv P TT N eP x Q t m else vv P TT N eP y Q t m):=by
    cases b with
    |false=>have:=h.f;rwa [show(false !=B)=B by cases B<;>rfl]
    |true=>have:=h.t (b3 rfl);rwa [show(true !=B)=!B by cases B<;>rfl]
   revert k;cases g:(b !=B)with
   |true=>intro k;exact a4 k
   |false=>intro k;exact a5 k
  ·exact h.elim
 |block id x F=>
  intro Q t m j h E ρ a w u z o;simp only[eG]at j;refine wpIn_block (wpIn_mono (F _ t m j h E ρ a w u z o) ?_);rintro e a' w' ⟨g,k⟩;replace k:dM (jg (.block id x)) a a':=k;cases e with
  |normal=>exact⟨g,k⟩
  |exit i=>obtain⟨ρ',t',m',g,D⟩:=g;show(if i=id then(jX E Q .normal a' w'/\dM (jg (.block id x)) a a')else(jX E Q (.exit i) a' w'/\dM (jg (.block id x)) a a'));replace g:bif Nat.beq i id then Q .normal t' m' else Q (.exit i) t' m':=g;by_cases A:i=id;subst A;rw[XL rfl];have:Nat.beq i i=true:=ZE i;simp only[this,ZD]at g;exact⟨⟨ρ',t',m',g,D⟩,k⟩;rw[XG A];simp only[pX A,ZG]at g;exact⟨⟨ρ',t',m',g,D⟩,k⟩
  |ret=>exact⟨g,k⟩
  |goto l=>exact g.elim
  |panic a3=>exact g.elim
  |outgrown=>exact g.elim
 |loop x F=>
  intro Q t m j h E ρ a w u z o;simp only[eG]at j;obtain⟨α,I,J,μ,⟨b4,b5,T,b6,b7⟩,b8,b9⟩:=(show Loop _ _ _ _ from h).h;obtain⟨c0,c1⟩:=T E ρ a w o;let K:Act->World->Nat->Prop:=λa w n=>∃ρ t m x,I x t m/\Rel E ρ t m a w/\μ x=n;refine wpIn_loop (λa' w=>(∃n,K a' w n)/\dM (jg (.loop x)) a a') (λa w=>leastOf (K a w)) ⟨⟨_,c0,b4,b5,b6,b7,c1,rfl⟩,dM.refl _ _⟩ ?_;rintro a' w' ⟨c2,c3⟩;obtain⟨c4,_⟩:=leastOf_spec c2;obtain⟨c5,a7,a8,c6,c7,c8,e0⟩:=c4;refine wpIn_mono (F _ a7 a8 j (b9 c6 a7 a8 c7) E c5 a' w' u z c8) ?_;rintro e q r ⟨g,k⟩;replace k:dM (jg (.loop x)) a q:=(c3.trans k).mono (λi A=>by rcases XP.1 A with h|h<;>exact h);cases e with
  |normal=>obtain⟨G,H,m2,c9,M⟩:=g;obtain⟨d0,d1,d2,y,d3,e1⟩:=b8 _ _ _ c9;obtain⟨ρ3,d4⟩:=d2 E G q r M;have X:K q r (μ y):=⟨ρ3,d0,d1,y,d3,d4,rfl⟩;refine⟨⟨⟨_,X⟩,k⟩,?_⟩;have:=(leastOf_spec (p:=K q r) ⟨_,X⟩).2 _ X;show leastOf (K q r)<leastOf (K a' w');omega
  |exit i=>exact⟨g,k⟩
  |ret=>exact⟨g,k⟩
  |goto l=>exact g.elim
  |panic a3=>exact g.elim
  |outgrown=>exact g.elim
 |exit id=>intro Q t m _ h E ρ a w _ _ o;exact wpIn_exit ⟨⟨ρ,t,m,h,o⟩,dM.refl _ _⟩
 |ret=>intro Q t m _ h E ρ a w _ _ o;exact wpIn_ret ⟨⟨ρ,t,m,h,o⟩,dM.refl _ _⟩
 |rangeFunc f e2 e3 d5 _ _=>intro Q t m j;cases j
 |scope d5 _=>intro Q t m j;cases j
 |label l=>intro Q t m j;cases j
 |goto l=>intro Q t m j;cases j
 |refuse e4=>intro Q t m j;cases j
def Env.re (E:Env) (ρ:Id->Option (Nat×Nat)) (m:Id->Mem) (w:World):Env:=
 {E with
  w0:=w
  S0:=λb=>b<w.heap.size/\(E.S0 b\/E.X b\/E.w0.heap.size<=b)
  hS:=λ_ h=>h.1
  X:=λb=>b<w.heap.size/\∃o c,(m o).live/\ρ o=some (b,c)
  hX:=λ_ h=>h.1}
variable {E':Env} {ob:Obj}
section
variable {E:Env} {ρ ρ':Id->Option (Nat×Nat)} {t t':Nat->TV} {m m':Id->Mem} {a a':Act} {w w':World}
theorem OM (h:Rel E ρ t m a w) (hw:w.heap.size<=w'.heap.size) (m':Id->Mem) (ρ':Id->Option (Nat×Nat)):L (E.re ρ m w) m' ρ' w'=L E m' ρ' w':=by
 funext b;have g:=h.below.size;apply propext;unfold L Env.re;simp only;constructor;rintro⟨h1,i⟩;refine⟨?_,i⟩;rcases h1 with⟨f,h1⟩|⟨f,o,c,l,r⟩|⟨h1,f⟩;exact h1.imp id (λh1=>h1.imp id (λh1=>⟨h1,Yc f hw⟩));rcases(h.lo o b c l r).1 with k|k;exact .inr (.inl k);exact .inr (.inr ⟨k,Yc f hw⟩);exact .inr (.inr ⟨Yg g h1,f⟩);rintro⟨h1,i⟩;refine⟨?_,i⟩;rcases h1 with h1|h1|⟨h1,f⟩;exact .inl ⟨Yc (E.hS b h1) g,.inl h1⟩;exact .inl ⟨Yc (E.hX b h1) g,.inr (.inl h1)⟩;by_cases k:b<w.heap.size;exact .inl ⟨k,.inr (.inr h1)⟩;exact .inr (.inr ⟨aa8 k,f⟩)
theorem Hj {E:Env} (a:L E m ρ w=L E' m ρ w) (o:Id) (v:Mem) (h:iL E m ρ w o v):iL E' m ρ w o v:=by
 cases v<;>simp only[iL,a]at h|- <;>exact h
theorem QQ {E:Env} (a:L E m ρ w=L E' m ρ w) (x:Value) (v:TV) (h:dj E m ρ w x v):dj E' m ρ w x v:=by
 cases v<;>simp only[dj,a]at h|- <;>exact h
theorem Hn {E:Env} (c:∀b,L E m ρ w b->L E' m ρ w b) (f:E'.B=E.B) {a:List Deferred} (g:Marks E m ρ w a):Marks E' m ρ w a:=by
 induction g with
 |nil=>exact .nil
 |cons h i j k _ l=>exact .cons (by rw[f];exact h) (c _ i) j k l
theorem Rel.re (h:Rel E ρ t m a w):Rel (E.re ρ m w) ρ t m a w:=by
 have f:=OM h (XU _) m ρ;exact{below:=Bx.refl _ _ _,defers:=Hn (E:=E) (E':=E.re ρ m w) (λb g=>by rw[f];exact g) rfl h.defers,size:=h.size,inj:=h.inj,lo:=λo b c l r=>⟨.inl ⟨(h.lo o b c l r).2,o,c,l,r⟩,(h.lo o b c l r).2⟩,clean:=h.clean,cleanM:=h.cleanM,mem:=λo=>Hj f.symm o _ (h.mem o),slots:=λi=>QQ f.symm _ _ (h.slots i),carry:=h.carry}
theorem Rel.Iw (h:Rel E ρ t m a w) (k:Rel (E.re ρ m w) ρ' t' m' a' w'):Rel E ρ' t' m' a' w':=by
 have g:=OM h k.below.size m' ρ';refine{below:=h.below.trans (k.below.mono h.below.size (λb f ⟨_,o,c,l,r⟩=>((h.lo o b c l r).1).resolve_right (λq=>absurd f (abg.2 q)))),defers:=Hn (E:=E.re ρ m w) (E':=E) (λb f=>by rw[g]at f;exact f) rfl k.defers,size:=k.size,inj:=k.inj,lo:=λo b c l r=>⟨?_,(k.lo o b c l r).2⟩,clean:=k.clean,cleanM:=k.cleanM,mem:=λo=>Hj g o _ (k.mem o),slots:=λi=>QQ g _ _ (k.slots i),carry:=k.carry};rcases(k.lo o b c l r).1 with⟨_,j,p,u,x⟩|q;exact(h.lo j b p u x).1;exact .inr (Yg h.below.size q)
theorem oM (h:Rel E ρ t m a w) (k:Rel (E.re ρ m w) ρ' t' m' a' w') {b:Nat} (f:b<w.heap.size) (g:∀o c,(m o).live->ρ o≠some (b,c)):w'.heap[b]? =w.heap[b]?/\∀o c,(m' o).live->ρ' o≠some (b,c):=by
 refine⟨k.below.block b f (λ⟨_,o,c,l,r⟩=>g o c l r),λo c l r=>?_⟩;rcases(k.lo o b c l r).1 with⟨_,i,j,p,u⟩|q;exact g i j p u;exact absurd f (abg.2 q)
theorem Rel.I5 (h:Rel E ρ t m a w) {o:Id} {b c:Nat} (l:(m o).live) (r:ρ o=some (b,c)):∃ob:Obj,w.heap[b]? =some ob/\jS ob=true:=by
 have j:=h.mem o;generalize m o=v at j l;cases v with
 |none=>exact l.elim
 |dead=>exact l.elim
 |ro cs=>exact l.elim
 |box cs=>obtain⟨p,q,xs,e,f,i,_⟩:=j;rw[r]at f;cases f;exact⟨_,i,rfl⟩
 |aL g n k e get=>rcases j with⟨f,_⟩|⟨p,u,arr,f,i,_⟩;rw[r]at f;cases f;rw[r]at f;cases f;exact⟨_,i,rfl⟩
 |obj cs=>obtain⟨p,q,xs,e,f,i,_⟩:=j;rw[r]at f;cases f;exact⟨_,i,rfl⟩
 |bm g n k e get=>rcases j with⟨f,_⟩|⟨p,u,arr,f,i,_⟩;rw[r]at f;cases f;rw[r]at f;cases f;exact⟨_,i,rfl⟩
 |map x=>obtain⟨p,q,y,z,f,i,_⟩:=j;rw[r]at f;cases f;exact⟨_,i,rfl⟩
theorem Rel.G4 (h:Rel E ρ t m a w) {b:Nat} (i:w.heap[b]? =some ob) (j:jS ob=false):∀o c,(m o).live->ρ o≠some (b,c):=λo c l r=>by
 obtain⟨k,f,g⟩:=h.I5 l r;rw[i]at f;cases f;rw[j]at g;cases g
theorem AL (h:Rel E ρ t m a w) (k:Rel (E.re ρ m w) ρ' t' m' a' w') {b:Nat} (c:w.heap[b]? =some ob) (f:jS ob=false):w'.heap[b]? =some ob:=
 (oM h k (YR.1 c).1 (h.G4 c f)).1.trans c
theorem Marks.later (h:Rel E ρ t m a w) (k:Rel (E.re ρ m w) ρ' t' m' a' w') {c:List Deferred} (i:Marks E m ρ w c):Marks E m' ρ' w' c:=by
 induction i with
 |nil=>exact .nil
 |@cons b c j f g l _ o=>obtain⟨p,q⟩:=oM h k (YR.1 g).1 f.2;exact .cons j ⟨f.1.imp id (λh=>h.imp id (λh=>⟨h.1,Yc h.2 k.below.size⟩)),q⟩ (p.trans g) l o
theorem Marks.lt {c:List Deferred} (a:Marks E m ρ w c) {D:Nat} (h:w.heap.size<=D):∀d∈c,d.target≠ .collected D:=by
 induction a with
 |nil=>intro d a;simp at a
 |@cons b c i j f k _ g=>intro d a;rcases XD.1 a with rfl|a;intro e;have:=(YR.1 f).1;simp only[Target.collected.injEq]at e;omega;exact g d a
theorem Rel.other (h:Rel E ρ t m a w) {W:List Nat} (c:uF W t) {b:Act} (hs:b.tmps.size=E.N) (f:Marks E m ρ w b.defers) (g:∀i,i∉W->b.tmps.getD i Go.undef=a.tmps.getD i Go.undef):Rel E ρ t m b w:=by
 refine{h with defers:=f,size:=hs,clean:=h.clean,slots:=λi=>?_};by_cases hi:i∈W;rw[c i (List.any_eq_true.2 ⟨i,hi,ZE i⟩)];trivial;rw[g i hi];exact h.slots i
end
theorem Lz {t:Nat->TV} (c:Rel E ρ t m a w) {f:Operand} {g n:Nat} {cap:Nat->SV} (h:bE t f= .d (.one (.fn g n cap))):
  ∃xs:Nat->Value,a.eval f= .func (.func g) #[] ((List.range n).map xs).toArray/\∀j,j<n->Rd (L E m ρ w) w (xs j) (cap j):=by
 have b:=(az c f).1;rw[h]at b;exact Rd.jN b
variable {S:Nat->Prop}
theorem dA.get' (a:dA S w xs cs):∀(j:Nat) (x:Value),xs[j]? =some x->∃c,cs[j]? =some c/\lU S w x c:=by
 induction a with
 |nil=>intro j x h;simp at h
 |@cons x c xs cs b _ f=>
  intro j y h;cases j with
  |zero=>simp at h;subst h;exact⟨c,by simp,b⟩
  |succ j=>simpa using f j y (by simpa using h)
theorem CB {TT:iw} (e7:cG P TT) (e8:P.follows .mixedOrders=true) {f:Operand} {ps:Array Tmp} {a4 a5:Code} {t:Nat->TV}
  (h:hD P N f ps a4 a5 (vv P TT N eP a4) (vv P TT N eP a5) Q t m) (E:Env) (ρ:Id->Option (Nat×Nat)) (a:Act) (w:World) (h5:E.P=P) (h6:E.B<=E.w0.heap.size) (e9:E.N=N) (O:Rel E ρ t m a w):
  (Code.rangeFunc f ps a4 a5).wp P (jX E Q) a w:=by
 obtain⟨g,f0,h7,xs,p,T,M,h8,h9,f1,rfl,i0,f2,i1,i2,i3,i4,i5⟩:=h.h;simp only[XJ]at f2;obtain⟨i6,i7⟩:=f2;obtain⟨f3,f4,i8⟩:=Lz O h9;obtain⟨b5,f5⟩:∃b5,b5=(List.range f0).map f3:=⟨_,rfl⟩;rw[<-f5]at f4;have c5:∀b,L E m ρ w b->b<w.heap.size:=λb z=>tx O z;obtain⟨o3,f6,i9⟩:=f1.2 w (L E m ρ w) b5 c5 (by rw[f5];exact pw f0 h7 f3 i8);obtain⟨U,b6⟩:∃U:Act,U={tmps:=a.tmps,defers:=[]}:=⟨_,rfl⟩;have j0:Rel (E.re ρ m w) ρ t m U w:=by rw[b6];exact{O.re with defers:= .nil,size:=O.size,clean:=O.clean,slots:=O.re.slots}
 obtain⟨d6,j1⟩:=i2 (E.re ρ m w) ρ _ w j0;generalize b7:E.re ρ m w=u at*;have j2:u.w0=w:=by rw[<-b7];rfl
 have c6:u.N=N:=by rw[<-b7];exact e9
 have f7:u.P=P:=by rw[<-b7];exact h5
 have f8:∀{ρ' t' m' a' w'},Rel u ρ' t' m' a' w'->∀b,L E m ρ w b->L u m' ρ' w' b/\w'.heap[b]? =w.heap[b]?:=by intro ρ' t' m' a' w' k b z;rw[<-b7]at k|-;obtain⟨a8,a9⟩:=oM O k (c5 b z) z.2;rw[OM O k.below.size m' ρ'];refine⟨⟨z.1.imp id (λh=>h.imp id (λh=>⟨h.1,Yc h.2 k.below.size⟩)),a9⟩,a8⟩
 obtain⟨l,f9⟩:∃l,l=w.heap.size+1:=⟨_,rfl⟩;obtain⟨D,c7⟩:∃D,D=w.heap.size:=⟨_,rfl⟩;refine wpIn_wide.1 (wpIn_rangeFunc (F:=Fence.wide) (n:=0) ?_);intro fn _;obtain⟨I,a3⟩:∃I:LoopState->Option Code->Go.Loop,I=λj3 j4=>{state:=j3,pending:=j4,fn,tmps:=a.tmps,params:=#[p],assign:=a4,body:=a5,defers:=w.heap.size}:=⟨_,rfl⟩;obtain⟨a2,c8⟩:∃a2,(w.alloc (.deferred (some []))).alloc (.loop (I .ready none))=a2:=⟨_,rfl⟩;have j5:a2.heap[l]? =some (.loop (I .ready none)):=by rw[<-c8,f9];have:=World.alloc_heap_new (w.alloc (.deferred (some []))) (.loop (I .ready none));rwa [World.size_alloc]at this
 have j6:a2.heap[D]? =some (.deferred (some [])):=by rw[<-c8,c7];exact(Below.heap_alloc _ _ _ (by simp)).trans (World.alloc_heap_new w _)
 have g0:Below w.heap.size w a2:=by rw[<-c8];exact((Below.refl _ w).alloc (XU _) _).alloc (by simp) _
 have c9:D≠l:=by omega
 have j7:Rel u d6 (T 0) (M 0) U a2:=j1.grow g0;have d0:∀{ρ' t' m'} {a':Act} {W:World} (r:Go.Loop) (o:Obj),Rel u ρ' t' m' a' W->W.heap[l]? =some (.loop r)->Rel u ρ' t' m' a' (W.putObj l o):=by
  intro ρ' t' m' a' W r o k V;have g1:∀c (ob:Obj),W.heap[c]? =some ob->(∀d7,ob≠ .loop d7)->(W.putObj l o).heap[c]? =W.heap[c]?:=λc ob X j8=>World.putObj_heap_other (λe=>by rw[e,V]at X;cases X;exact j8 r rfl);refine k.cells rfl ?_ (zL W o (by rw[j2];omega)) (λc ob X d1=>g1 c ob X (λd7 e=>by rw[e]at d1;cases d1));have g2:=k.defers;generalize a'.defers=j9 at g2;induction g2 with
  |nil=>exact .nil
  |@cons b j9 k0 g3 h k1 _ k2=>exact .cons k0 ⟨g3.1.imp id (λh=>h.imp id (λh=>⟨h.1,by simpa using h.2⟩)),g3.2⟩ ((g1 b _ h (λd7 e=>by cases e)).trans h) k1 k2
 let J:Nat->(Nat->Prop)->World->Prop:=λk C W=>h8 k/\(∃H,Rel u H (T k) (M k) U W/\∀b,C b↔b=l\/b=D\/∃o c,(M k o).live/\H o=some (b,c))/\W.heap[l]? =some (.loop (I .ready none))/\W.heap[D]? =some (.deferred (some []));let k3:World->Prop:=λW=>∃c,(∃H K R,Rel u H K R U W/\((c= .ret/\Q .ret K R)\/∃i,c= .exit i/\Q (.exit i) K R))/\W.heap[l]? =some (.loop (I .done (some c)))/\W.heap[D]? =some (.deferred (some []));refine⟨l,[{target:= .collected D,args:=#[]}],a2,{target:= .fn (.func g) b5.toArray,args:=#[.func (.yield l) #[] #[]]},a2,g,#[.func (.yield l) #[] #[]]++b5.toArray,a2,?_,?_,λ_ _=>trivial,?_,(λh=>by cases h),?_⟩;rw[<-c8,a3,f9,c7];exact run_enterLoop_outer _ _ _ _ _;simp only[resolve,f4];simp[go_sem];simp[invoke,go_sem,da f1.1];refine(i9 l J k3 a2 (λb=>b=l\/b=D\/∃o c,(M 0 o).live/\d6 o=some (b,c)) (λb z=>g0.block b (c5 b z)) ?_ ?_ ?_ ⟨i3,⟨d6,j7,λb=>ZB⟩,j5,j6⟩).mono ?_;rintro k C W ⟨_,⟨H,G,a6⟩,V,Z⟩ b;have d2:=(YR.1 V).1;refine⟨λz=>?_,λz=>?_⟩;rcases(a6 b).1 z with rfl|rfl|⟨o,c,a8,a9⟩;exact d2;exact(YR.1 Z).1;exact(G.lo o b c a8 a9).2;have q:=c5 b z;refine⟨by omega,λX=>?_⟩;rcases(a6 b).1 X with e|e|⟨o,c,a8,a9⟩;omega;omega;exact(f8 G b z).1.2 o c a8 a9;rintro k C A B ⟨d8,⟨H,G,a6⟩,V,Z⟩ z;exact⟨d8,⟨H,G.grow z,a6⟩,(z.block l (YR.1 V).1).trans V,(z.block D (YR.1 Z).1).trans Z⟩
 ·
  rintro k C v W k4 ⟨k5,⟨H,G,a6⟩,g4,k6⟩;obtain⟨x,k7,k8⟩:=f6.get' k v k4;have g5:=run_yield (P:=P) (args:=#[v]) g4 (by rw[a3];rfl);rw[a3]at g5;refine⟨fn,_,a4,a5,g5,roundIn_of_wpIn (F:=Fence.wide) trivial ?_⟩;have k9:=G.re;have l0:dj (u.re H (M k) W) (M k) H W v (.d x):=(by show lU (L (u.re H (M k) W) (M k) H W) W v x;rw[OM G (XU _)];exact k8.mono (λb z=>f8 G b z));have l5:=k9.put (d:=some p) (λq j=>by cases j;show p<u.N;rw[c6];exact i0) (v:=v) (x:= .d x) l0 (λ_ l6=>l6.elim);have l7:(U.put (some p) v)={tmps:=((#[p]:Array Tmp).zip #[v]).foldl (λt (x:Tmp×Value)=>t.setIfInBounds x.1 x.2) a.tmps,defers:=[]}:=(by rw[b6];simp[Act.put]);have g6:dM [p] U (U.put (some p) v):=s3 (d:=some p) rfl (λq j=>by cases j;simp);have g7:=uf e7 e8 l 0 a4 _ _ _ i6 (i4 k x k7 k5) (u.re H (M k) W) H _ W f7 c6 l5;rw[l7]at g7 g6;refine wpIn_mono g7 ?_;rintro e g8 d3 ⟨j,l8⟩;cases e with
  |normal=>
   obtain⟨d4,l9,d9,m1,b2⟩:=j;have e0:=AL G b2 g4 rfl;have m3:=AL G b2 k6 rfl;have m4:=G.Iw b2;refine⟨_,run_beginRound e0 (by rw[a3]),?_⟩;obtain⟨a0,b0⟩:∃a0,a0=d3.putObj l (.loop {I .ready none with state:= .busy}):=⟨_,rfl⟩;have m5:=(YR.1 e0).1;have m6:a0.heap[l]? =some (.loop {I .ready none with state:= .busy}):=(by rw[b0];exact World.putObj_heap_same m5);have m7:a0.heap[D]? =some (.deferred (some [])):=(by rw[b0];exact(World.putObj_heap_other c9).trans m3);have b1:Rel u d4 l9 d9 g8 a0:=(by rw[b0];exact d0 _ _ m4 e0);rw[<-b0];have m8:=uf e7 e8 l 0 a5 _ _ _ i7 m1 (u.re d4 d9 a0) d4 g8 a0 f7 c6 b1.re;refine wpIn_mono m8 ?_;rintro e b3 Y ⟨j,m9⟩;have n0:∀i,i∉p::(jg a4++jg a5)->U.tmps.getD i Go.undef=b3.tmps.getD i Go.undef:=λi d8=>by have:=((g6.trans l8).trans m9) i (λh=>d8 (by simpa[or_assoc]using h));exact this.symm
   have e1:∀{a7 b8 m2 ρ3 K R},Rel (u.re d4 d9 a0) a7 b8 m2 b3 Y->Rel u ρ3 K R b3 Y->uF (p::(jg a4++jg a5)) K->∀S:Option Code,
     (Instr.endRound l S).run P Y= .ok (.bool S.isNone) (Y.putObj l (.loop (I (if S.isNone then .ready else .done) S)))/\
     Rel u ρ3 K R U (Y.putObj l (.loop (I (if S.isNone then .ready else .done) S)))/\
     (Y.putObj l (.loop (I (if S.isNone then .ready else .done) S))).heap[l]? =some (.loop (I (if S.isNone then .ready else .done) S))/\
     (Y.putObj l (.loop (I (if S.isNone then .ready else .done) S))).heap[D]? =some (.deferred (some [])):=by
    intro a7 b8 m2 ρ3 K R Z n1 d1 S;have e2:=AL b1 Z m6 rfl;have n3:=AL b1 Z m7 rfl;have g9:=run_endRound (P:=P) S e2;have n4:Rel u ρ3 K R U Y:=n1.other d1 (by rw[b6,c6,<-e9];exact O.size) (by rw[b6];exact .nil) n0;refine⟨?_,d0 _ _ n4 e2,World.putObj_heap_same (YR.1 e2).1,(World.putObj_heap_other c9).trans n3⟩;rw[a3]at g9|-;exact g9
   cases e with
   |normal=>obtain⟨a7,b8,m2,⟨K,R,b9,rfl,rfl,n5⟩,a1⟩:=j;have e3:=b1.Iw a1;obtain⟨ρ3,b4⟩:=b9 _ a7 b3 Y e3.re;obtain⟨c0,c1,c2,c3⟩:=e1 a1 (e3.Iw b4) (i1 _) none;refine⟨_,_,c0,.inl ⟨rfl,λb=>b=l\/b=D\/∃o c,(M (k+1) o).live/\ρ3 o=some (b,c),⟨n5,⟨ρ3,c1,λb=>ZB⟩,c2,c3⟩,?_,λb z X=>?_⟩⟩;have d2:=b2.below.size;have o4:a0.heap.size<=Y.heap.size:=a1.below.size;have d2:W.heap.size<=d3.heap.size:=d2;have o5:a0.heap.size=d3.heap.size:=(by rw[b0];exact World.putObj_size);rw[World.putObj_size];omega;have e4:b≠l:=λq=>X ((a6 b).2 (.inl q));have n6:b≠D:=λq=>X ((a6 b).2 (.inr (.inl q)));obtain⟨a8,a9⟩:=oM G b2 z (λo c x y=>X ((a6 b).2 (.inr (.inr ⟨o,c,x,y⟩))));have n7:b<d3.heap.size:=Yc z b2.below.size;have h0:b<a0.heap.size:=(by rw[b0,World.putObj_size];exact n7);obtain⟨n8,n9⟩:=oM b1 a1 h0 a9;obtain⟨_,o0⟩:=oM e3 b4 (Yc h0 a1.below.size) n9;refine⟨λq=>?_,?_⟩;rcases q with e|e|⟨o,c,x,y⟩;exact e4 e;exact n6 e;exact o0 o c x y;rw[World.putObj_heap_other e4,n8,b0,World.putObj_heap_other e4,a8]
   |ret=>obtain⟨a7,b8,m2,⟨K,R,b9,e5,e6⟩,a1⟩:=j;obtain⟨ρ3,b4⟩:=b9 u a7 b3 Y (b1.Iw a1);obtain⟨c0,c1,c2,c3⟩:=e1 a1 b4 e5 (some .ret);exact⟨_,_,c0,.inr ⟨rfl,.ret,⟨ρ3,K,R,c1,.inl ⟨rfl,e6⟩⟩,c2,c3⟩⟩
   |exit i=>obtain⟨a7,b8,m2,⟨K,R,b9,e5,e6⟩,a1⟩:=j;obtain⟨ρ3,b4⟩:=b9 u a7 b3 Y (b1.Iw a1);obtain⟨c0,c1,c2,c3⟩:=e1 a1 b4 e5 (some (.exit i));exact⟨_,_,c0,.inr ⟨rfl,.exit i,⟨ρ3,K,R,c1,.inr ⟨i,rfl,e6⟩⟩,c2,c3⟩⟩
   |goto t=>exact j.elim
   |panic o1=>exact j.elim
   |outgrown=>exact j.elim
  |exit i=>obtain⟨_,_,_,j,_⟩:=j;exact j.elim
  |ret=>obtain⟨_,_,_,j,_⟩:=j;exact j.elim
  |goto t=>exact j.elim
  |panic o1=>exact j.elim
  |outgrown=>exact j.elim
 ·
  have h1:∀{ρ' t' m'} {W:World},Rel u ρ' t' m' U W->W.heap[D]? =some (.deferred (some []))->Rel E ρ' t' m' {a with defers:=[{target:= .collected D,args:=#[]}]++a.defers} W:=(by intro ρ' t' m' W k G;rw[<-b7]at k;have d5:=O.Iw k;refine{d5 with defers:=?_,size:=O.size,clean:=d5.clean,slots:=λi=>by have:=d5.slots i;rw[b6]at this;exact this};exact .cons (by rw[c7];exact Yg h6 O.below.size) ⟨.inr (.inr ⟨by rw[c7];exact O.below.size,(YR.1 G).1⟩),d5.G4 G rfl⟩ G (O.defers.lt (by omega)) (Marks.later O k O.defers));rintro e h2 ⟨⟨v,rfl⟩,o2⟩;rcases o2 with⟨_,h3,⟨H,G,_⟩,V,Z⟩|⟨c,⟨H,K,R,G,X⟩,V,Z⟩;have c4:=run_endLoop (P:=P) V (by rw[a3];simp);refine⟨none,h2.putObj l (.loop {I .ready none with state:= .exhausted}),by rw[a3]at c4|-;exact c4,?_⟩;rw[f6.length]at G h3;exact⟨H,_,_,i5 h3,h1 (d0 _ _ G V) ((World.putObj_heap_other c9).trans Z)⟩;have c4:=run_endLoop (P:=P) V (by rw[a3];simp);refine⟨some c,h2.putObj l (.loop {I .done (some c)with state:= .exhausted}),by rw[a3]at c4|-;exact c4,?_⟩;have h4:=h1 (d0 (I .done (some c)) (.loop {I .done (some c)with state:= .exhausted}) G V) ((World.putObj_heap_other c9).trans Z);rcases X with⟨rfl,j⟩|⟨i,rfl,j⟩;exact wpIn_ret ⟨H,K,R,j,h4⟩;exact wpIn_exit ⟨H,K,R,j,h4⟩
theorem zP {TT:iw} (U:cG P TT) (V:P.follows .mixedOrders=true):∀(c:Code) (Q:iW) (t:Nat->TV) (m:Id->Mem),vv P TT N eP c Q t m->
  ∀(E:Env) (ρ:Id->Option (Nat×Nat)) (a:Act) (w:World),E.P=P/\E.B<=E.w0.heap.size->E.N=N->Rel E ρ t m a w->c.wp P (jX E Q) a w:=by
 intro c;induction c with
 |skip=>intro Q t m h E ρ a w _ _ j;exact wp_skip ⟨ρ,t,m,h,j⟩
 |region id a5 a6=>
  intro Q t m h E ρ a w k o j;obtain⟨d0,t',m',X,Y,d1⟩:=sN U a5.toList t m [] _ h;cases a6 with
  |false=>refine wp_region_list (zt X E ρ a w k.1 o j _ (λρ' a' w' u=>⟨ρ',t',m',Y,u⟩))
  |true=>obtain⟨Z,g⟩:=(show ak _ _ from Y);simp only[ZD,Y4,List.reverse_reverse]at Z;exact wp_region_any V (HX X Z g k.1 o j)
 |seq x y r A=>
  intro Q t m h E ρ a w k o j;refine wp_seq (wp_mono (r _ t m h E ρ a w k o j) ?_);intro e a' w' g;cases e with
  |normal=>
   obtain⟨ρ',t',m',g,u⟩:=g;show y.wp P (jX E Q) a' w';replace g:bif eP.any (Nat.beq (nY y))then Cut t' m' (λt' m'=>vv P TT N eP y Q t' m')else vv P TT N eP y Q t' m':=g;cases a0:eP.any (Nat.beq (nY y))with
   |false=>rw[a0]at g;exact A Q t' m' g E ρ' a' w' k o u
   |true=>rw[a0]at g;obtain⟨a1,m2,G,g⟩:=(show Cut _ _ _ from g).h;obtain⟨H,K⟩:=G E ρ' a' w' u;exact A Q a1 m2 g E H a' w' k o K
  |exit i=>exact g
  |ret=>exact g
  |goto l=>exact g.elim
  |panic M=>exact g.elim
  |outgrown=>exact g.elim
 |cond c x y r A=>
  intro Q t m h E ρ a w k o j;replace h:DN t c λb=>bif b then vv P TT N eP x Q t m else vv P TT N eP y Q t m:=h;unfold DN at h;split at h
  ·rename_i b O;have B:=(az j c).1;rw[O]at B;have R:=(Rd.bT (show Rd _ _ _ _ from B)).1;have h:=h.elim;refine wp_cond (t:=b) R ?_;cases b with
   |true=>exact r Q t m h E ρ a w k o j
   |false=>exact A Q t m h E ρ a w k o j
  ·rename_i n q O;have B:=(az j c).1;rw[O]at B;obtain⟨b,R,a7⟩:=B;refine wp_cond (t:=(b !=q)) R ?_;have C:(bif (b !=q)then vv P TT N eP x Q t m else vv P TT N eP y Q t m):=by
    cases b with
    |false=>have:=h.f;rwa [show(false !=q)=q by cases q<;>rfl]
    |true=>have:=h.t (a7 rfl);rwa [show(true !=q)=!q by cases q<;>rfl]
   revert C;cases g:(b !=q)with
   |true=>intro C;exact r Q t m C E ρ a w k o j
   |false=>intro C;exact A Q t m C E ρ a w k o j
  ·exact h.elim
 |block id x r=>
  intro Q t m h E ρ a w k o j;refine wp_block (wp_mono (r _ t m h E ρ a w k o j) ?_);intro e a' w' g;cases e with
  |normal=>exact g
  |exit i=>obtain⟨ρ',t',m',g,u⟩:=g;show(if i=id then jX E Q .normal a' w' else jX E Q (.exit i) a' w');replace g:bif Nat.beq i id then Q .normal t' m' else Q (.exit i) t' m':=g;by_cases S:i=id;subst S;rw[XL rfl];have:Nat.beq i i=true:=ZE i;simp only[this,ZD]at g;exact⟨ρ',t',m',g,u⟩;rw[XG S];simp only[pX S,ZG]at g;exact⟨ρ',t',m',g,u⟩
  |ret=>exact g
  |goto l=>exact g.elim
  |panic M=>exact g.elim
  |outgrown=>exact g.elim
 |loop x r=>
  intro Q t m h E ρ a w k o j;obtain⟨α,I,J,μ,⟨a8,a9,G,b0,b1⟩,b2,b3⟩:=(show Loop _ _ _ _ from h).h;obtain⟨b4,b5⟩:=G E ρ a w j;let z:Act->World->Nat->Prop:=λa w n=>∃ρ t m x,I x t m/\Rel E ρ t m a w/\μ x=n;refine wp_loop (λa w=>∃n,z a w n) (λa w=>leastOf (z a w)) ⟨_,b4,a8,a9,b0,b1,b5,rfl⟩ ?_;intro a' w' b6;obtain⟨b7,_⟩:=leastOf_spec b6;obtain⟨b8,a3,a4,b9,c0,c1,d3⟩:=b7;refine wp_mono (r _ a3 a4 (b3 b9 a3 a4 c0) E b8 a' w' k o c1) ?_;intro e D F g;cases e with
  |normal=>obtain⟨H,a1,m2,c2,K⟩:=g;obtain⟨c3,c4,c5,y,c6,d4⟩:=b2 _ _ _ c2;obtain⟨ρ3,c7⟩:=c5 E H D F K;have T:z D F (μ y):=⟨ρ3,c3,c4,y,c6,c7,rfl⟩;refine⟨⟨_,T⟩,?_⟩;have:=(leastOf_spec (p:=z D F) ⟨_,T⟩).2 _ T;show leastOf (z D F)<leastOf (z a' w');omega
  |exit i=>exact g
  |ret=>exact g
  |goto l=>exact g.elim
  |panic M=>exact g.elim
  |outgrown=>exact g.elim
 |exit id=>intro Q t m h E ρ a w _ _ j;exact wp_exit ⟨ρ,t,m,h,j⟩
 |ret=>intro Q t m h E ρ a w _ _ j;exact wp_ret ⟨ρ,t,m,h,j⟩
 |rangeFunc f d5 d6 c8 _ _=>intro Q t m h E ρ a w k o j;exact CB U V h E ρ a w k.1 k.2 o j
 |scope c8 c9=>
  intro Q t m h E ρ a w k o j;refine wp_scope_straight (wp_mono (c9 Q t m h E ρ a w k o j) ?_);intro e a' w' g;cases e with
  |goto l=>exact g.elim
  |panic M=>exact g.elim
  |outgrown=>exact g.elim
  |_=>exact g
 |label l=>intro Q t m h E ρ a w _ _ j;exact wp_label ⟨ρ,t,m,h,j⟩
 |goto l=>intro Q t m h;exact h.elim
 |refuse d7=>intro Q t m h;exact h.elim
def yc (TT:iw) (t:Nat->TV) (m:Id->Mem):List ResultVar->(List DV->Prop)->Prop
 |[],K=>K []
 | .tmp s::r,K=>Qk m (t s) λv _ _ _=>yc TT t m r λl=>K (v::l)
 | .cell a b::r,K=>match TT b with
  |some T=>pV T m (t a) λx _ _=>match x with
   | .d v=>yc TT t m r λl=>K (v::l)
   |_=>False
  |none=>False
structure Fin (x r:TV):Prop where
 h:∀(S:Nat->Prop) (w:World) (v:Value),Ee S w v x->Ee S w v r
def MO (r:TV) (l:List DV):Prop:=
 match l with
 |[x]=>Fin (.d x) r
 |l=>Fin (.eD l) r
def Df (args:List DV):Nat->TV:=λi=>match args[i]? with
 |some v=> .d v
 |none=> .undef
def yd (tmps:Array Value):ResultVar->Sem Value
 | .tmp s=>pure (tmps.getD s Go.undef)
 | .cell a b=>do loadVar b (<-asAddr (tmps.getD a Go.undef))
theorem C7 {TT:iw} (k:cG P TT) {t:Nat->TV} {f:TypeId} {T:Ty} (l:TT f=some T) {g:Nat} {K:fa} (h:pV T m (t g) K):
  ∃x i,K x [] i/\∀(E:Env) (ρ:Id->Option (Nat×Nat)) (a:Act) (w:World),E.P=P->Rel E ρ t m a w->∃u,(yd a.tmps (.cell g f)).run P w= .ok u w/\dj E m ρ w u x/\∀b,x.refs b->m b≠ .none:=by
 let o:Oper:=⟨none,.load f (.tmp g),0, "",#[],none⟩;obtain⟨y,i,h,q⟩:=zb (P:=P) (o:=o) (t:=t) k l rfl h;refine⟨y,i,h,λE ρ a w r A=>?_⟩;obtain⟨u,B,C,D⟩:=q E ρ t m a w r (λ_ _=>rfl) (λ_ _=>rfl) A;refine⟨u,?_,C,D⟩;have c:((do let v<-Instr.loadAt f (a.tmps.getD g Go.undef);pure (Next.value v):Sem Next)).run P w= .ok (.value u) w:=B;show(do loadVar f (<-asAddr (a.tmps.getD g Go.undef)):Sem Value).run P w= .ok u w;revert c;generalize a.tmps.getD g Go.undef=z;intro c;have F:∃p,z= .pointer (some p):=by
  cases z with
  |pointer p=>
   cases p with
   |some p=>exact⟨p,rfl⟩
   |none=>simp[Instr.loadAt,Instr.sureAddr]at c
  |_=>simp[Instr.loadAt,Instr.sureAddr]at c
 obtain⟨p,rfl⟩:=F;simp only[Instr.loadAt,Instr.sureAddr,asAddr,Sem.run_bind,Sem.run_pure,Result.andThen_ok]at c|-;cases j:(loadVar f p).run P w with
 |ok v w'=>rw[j]at c;simp only[Result.andThen_ok,Result.ok.injEq,Next.value.injEq]at c;rw[c.1,c.2]
 |halt x w'=>rw[j]at c;simp[Result.andThen]at c
theorem AI {P:Program} {TT:iw} (j:cG P TT) {t:Nat->TV} {m:Id->Mem} {E:Env} {ρ:Id->Option (Nat×Nat)} {a:Act} {w:World} (g:Rel E ρ t m a w) (k:E.P=P):
  ∀(A:List ResultVar) (K:List DV->Prop),yc TT t m A K->∃l f,K l/\dA (λb=>E.S0 b\/E.X b\/(E.w0.heap.size<=b/\b<w.heap.size)) w f l/\
   (A.mapM (yd a.tmps)).run P w= .ok f w
 |[],K,h=>⟨[],[],h,.nil,rfl⟩
 | .tmp s::r,K,h=>by simp only[yc]at h;have B:eV (⟨none,.move (.tmp s),0, "",#[],none⟩:Oper) t t:=λ_ _=>rfl;obtain⟨v,N,C,O,h,_,Q,D⟩:=Ia (o:=(⟨none,.move (.tmp s),0, "",#[],none⟩:Oper)) (t:=t) (x:= .tmp s) (by simp[Op.operands]) h;obtain⟨l,f,hK,p,q⟩:=AI j g k r _ h;have F:=D E ρ t m a w B (λ_ _=>rfl) g;refine⟨v::l,a.tmps.getD s Go.undef::f,hK,.cons (lU.mono (λb i=>⟨?_,rfl⟩) F) p,?_⟩;rcases i with i|⟨o,_,l,c,r⟩;exact i.1;obtain⟨z,G⟩:=g.lo o b c l r;exact .inr (z.imp id (λz=>⟨z,G⟩));simp only[abp,yd,Sem.run_bind,Sem.run_pure,Result.andThen_ok];rw[show(List.mapM (yd a.tmps) r).run P w=_ from q];rfl
 | .cell R S::r,K,h=>by simp only[yc]at h;split at h;rename_i T H;obtain⟨y,C,h,I⟩:=C7 (P:=P) j H h;split at h;rename_i v;obtain⟨l,f,hK,p,q⟩:=AI j g k r _ h;obtain⟨u,J,M,_⟩:=I E ρ a w k g;refine⟨v::l,u::f,hK,.cons (lU.mono (λb i=>⟨i.1,rfl⟩) M) p,?_⟩;rw[abp,Sem.run_bind,J,Result.andThen_ok,Sem.run_bind,q];rfl;exact h.elim;exact h.elim
theorem tN {b:Func} {tmps:Array Value} {a:List Value} (c:(b.results.toList.mapM (yd tmps)).run P w= .ok a w):
  (results b tmps).run P w= .ok (if h:a.toArray.size=1 then a.toArray[0]else .tuple a.toArray) w:=by
 have f:(b.results.mapM (yd tmps)).run P w= .ok a.toArray w:=by rw[Array.mapM_eq_mapM_toList,Sem.run_map];simp[c]
 have g:(results b tmps).run P w=((b.results.mapM (yd tmps)).run P w).andThen λa w=> .ok (if h:a.size=1 then a[0]else .tuple a) w:=by unfold results;rw[Sem.run_bind];rfl
 rw[g,f,Result.andThen_ok]
variable {c:Code}
theorem ig {TT:iw} (D:cG P TT) (N:P.follows .mixedOrders=true) {f:FuncId} {a:Func} (G:P.funcs[f]? =some a) (q:a.body=some c) (O:(a.name== "runtime.NumGoroutine")=false)
  (eP:List Nat) {args:List DV} (a2:args.length<=a.ntmps) {r:TV}
  (h:vv P TT a.ntmps eP c (λe t m=>match e with
   | .exit _=>False
   | .normal=>yc TT t m a.results.toList (MO r)
   | .ret=>yc TT t m a.results.toList (MO r)) (Df args) (λ_=> .none)):lY P f args r:=by
 refine⟨⟨a,G,O,by rw[q];rfl⟩,λw S k hS H=>?_⟩;refine callsIn_wide.1 (callsIn_of_wp_marks (F:=Fence.wide) (n:=0) G q trivial (wpIn_wide.2 ?_));let E:Env:=⟨P,a.ntmps,w,S,hS,λ_=>False,λ_ h=>h.elim,λ_=> .none,λ_=>none,λ_ _=>rfl,λ_ _=>rfl,λ_ _ _=>rfl,w.heap.size⟩;have a3:=H.length;have Q:Rel E (λ_=>none) (Df args) (λ_=> .none) {tmps:=k.toArray++Array.replicate (a.ntmps-k.toArray.size) Go.undef,defers:=[]} w:=by
  refine{below:=Bx.refl _ _ _,defers:= .nil,size:=?_,inj:=λ_ _ _ _ _ l=>l.elim,lo:=λ_ _ _ l=>l.elim,clean:=?_,cleanM:=λ_ _ h=>h.elim,mem:=λ_=>trivial,slots:=?_,carry:=λ_ h=>absurd rfl h};show(k.toArray++Array.replicate (a.ntmps-k.toArray.size) Go.undef).size=a.ntmps;simp;omega;(intro i o A;unfold Df at A;split at A<;>exact A.elim)
  ·intro i;unfold Df;split;rename_i v B;obtain⟨x,I,R⟩:=H.get i v B;have T:=(Ye.1 I).1;have U:(k.toArray++Array.replicate (a.ntmps-k.toArray.size) Go.undef).getD i Go.undef=x:=(by rw[YC,YV,XL (by simpa using T)];simp[I]);rw[U];exact lU.mono (λb q=>⟨⟨.inl q,λ_ _ l=>l.elim⟩,rfl⟩) R;rename_i B;have a4:args.length<=i:=ab2.1 B;show _=Go.undef;rw[YC,YV,XG (by simp;omega)];by_cases J:i-k.toArray.size<a.ntmps-k.toArray.size;rw[ZV (by simpa using J)];simp;rw[Z6 (by simpa using J)];rfl
 have V:=zP D N c _ _ _ h E (λ_=>none) _ w ⟨rfl,XU _⟩ rfl Q;refine wp_mono V ?_;intro e a' w' g;have K:∀ρ t m,yc TT t m a.results.toList (MO r)->Rel E ρ t m a' w'->LeavesInM Fence.wide 0 P a a'.tmps (λe w'=>∃v,e= .returned v/\Below w.heap.size w w'/\Ee (λb=>S b\/(w.heap.size<=b/\b<w'.heap.size)) w' v r) a'.defers .returning w':=by
  intro ρ t m g M;refine mB (XU _) _ a' w' rfl M (λw' p=>?_);clear M;obtain⟨l,z,hK,j,X⟩:=AI D p rfl a.results.toList _ g;replace j:dA (λb=>S b\/(w.heap.size<=b/\b<w'.heap.size)) w' z l:=j.mono (λb q=>⟨q.imp id (λh=>h.resolve_left id),rfl⟩);have Y:=j.length;have Z:∃u,(results a a'.tmps).run P w'= .ok u w'/\Ee (λb=>S b\/(w.heap.size<=b/\b<w'.heap.size)) w' u r:=by
   rw[tN X]
   match l,z,hK,j,Y with
   |[x],[v],hK,j,_=>
    cases j with
    |cons C _=>exact⟨v,by simp,(show Fin _ _ from hK).h _ _ _ C⟩
   |[],[],hK,j,_=>exact⟨.tuple #[],by simp,(show Fin _ _ from hK).h _ _ _ ⟨[],rfl,j⟩⟩
   |x::y::l,v::a0::z,hK,j,_=>exact⟨.tuple (v::a0::z).toArray,by simp,(show Fin _ _ from hK).h _ _ _ ⟨_,rfl,j⟩⟩
  obtain⟨u,C,a1⟩:=Z;exact⟨u,C,u,rfl,p.below.below (λ_ h=>h),a1⟩
 cases e with
 |normal=>obtain⟨ρ,t,m,g,p⟩:=g;exact K ρ t m g p
 |ret=>obtain⟨ρ,t,m,g,p⟩:=g;exact K ρ t m g p
 |exit id=>obtain⟨ρ,t,m,g,p⟩:=g;exact g.elim
 |goto l=>exact g.elim
 |panic a5=>exact g.elim
 |outgrown=>exact g.elim
def uB (TT:iw) (t:Nat->TV) (m:Id->Mem):List ResultVar->(List TV->Prop)->Prop
 |[],K=>K []
 | .tmp s::r,K=>uB TT t m r λl=>K (t s::l)
 | .cell a b::r,K=>match TT b with
  |some T=>pV T m (t a) λx _ _=>uB TT t m r λl=>K (x::l)
  |none=>False
theorem AJ {P:Program} {TT:iw} (f:cG P TT) {t:Nat->TV} {m:Id->Mem} {E:Env} {ρ:Id->Option (Nat×Nat)} {a:Act} {w:World} (c:Rel E ρ t m a w) (g:E.P=P):
  ∀(k:List ResultVar) (K:List TV->Prop),uB TT t m k K->∃l b,K l/\jW E m ρ w b l/\(k.mapM (yd a.tmps)).run P w= .ok b w
 |[],K,h=>⟨[],[],h,.nil,rfl⟩
 | .tmp s::r,K,h=>by simp only[uB]at h;obtain⟨l,b,hK,i,j⟩:=AJ f c g r _ h;refine⟨_,a.tmps.getD s Go.undef::b,hK,.cons (c.slots s) i,?_⟩;simp only[abp,yd,Sem.run_bind,Sem.run_pure,Result.andThen_ok];rw[show(List.mapM (yd a.tmps) r).run P w=_ from j];rfl
 | .cell z A::r,K,h=>by simp only[uB]at h;split at h;rename_i T o;obtain⟨y,B,h,p⟩:=C7 (P:=P) f o h;obtain⟨l,b,hK,i,j⟩:=AJ f c g r _ h;obtain⟨u,q,x,_⟩:=p E ρ a w g c;refine⟨_,u::b,hK,.cons x i,?_⟩;rw[abp,Sem.run_bind,q,Result.andThen_ok,Sem.run_bind,j];rfl;exact h.elim
def yf (d:Id):Id->Id
 | .n k=>bif Nat.beq k 3000 then d else .n k
 | .s k i=> .s k i
inductive N3 (τ:Id->Id):CR->CR->Prop where
 |s {c c':SV} (h:aD c c'):N3 τ (.s c) (.s c')
 |ptr {o o':Id} {p:Nat} (h:o=τ o'):N3 τ (.ptr o p) (.ptr o' p)
inductive mV (τ:Id->Id):List CR->List CR->Prop where
 |nil:mV τ [] []
 |cons {c c':CR} {l l':List CR} (h:N3 τ c c') (r:mV τ l l'):mV τ (c::l) (c'::l')
inductive qa (m m2:Id->Mem) (τ:Id->Id):CV->CV->Prop where
 |s {c c':SV} (h:aD c c'):qa m m2 τ (.s c) (.s c')
 |ptr {o o':Id} {p:Nat} (h:o=τ o'):qa m m2 τ (.ptr o p) (.ptr o' p)
 |aJ {o o':Id} {g g':Nat} (h:o=τ o') (hg:g=(m o).gen) (Xo:g'=(m2 o').gen):qa m m2 τ (.aJ o g) (.aJ o' g')
 |cP {f:FuncId} {c c':List CR} (h:mV τ c c'):qa m m2 τ (.cP f c) (.cP f c')
inductive mU (m m2:Id->Mem) (τ:Id->Id):List CV->List CV->Prop where
 |nil:mU m m2 τ [] []
 |cons {c c':CV} {l l':List CV} (h:qa m m2 τ c c') (r:mU m m2 τ l l'):mU m m2 τ (c::l) (c'::l')
inductive jf (m m2:Id->Mem) (τ:Id->Id):Mem->Mem->Prop where
 |dead (x:Mem):jf m m2 τ x .dead
 |ro {l l':List SV} (h:iy l l'):jf m m2 τ (.ro l) (.ro l')
 |box {l l':List SV} (h:iy l l'):jf m m2 τ (.box l) (.box l')
 |tl {l:List SV} {l':List CV} (h:mU m m2 τ (l.map .s) l'):jf m m2 τ (.box l) (.obj l')
 |obj {l l':List CV} (h:mU m m2 τ l l'):jf m m2 τ (.obj l) (.obj l')
 |aL {g g' n k:Nat} {e:TypeId} {get get':Nat->Nat->SV} (hg:g'=1->g=1) (h:∀i,i<n->∀j,j<k->aD (get i j) (get' i j)):jf m m2 τ (.aL g n k e get) (.aL g' n k e get')
 |bm {g g' n k:Nat} {e:TypeId} {get get':Nat->Nat->CV} (hg:g'=1->g=1) (h:∀i,i<n->∀j,j<k->qa m m2 τ (get i j) (get' i j)):jf m m2 τ (.bm g n k e get) (.bm g' n k e get')
inductive zW (m m2:Id->Mem) (τ:Id->Id):Nat->List Mem->Prop where
 |nil (k:Nat):zW m m2 τ k []
 |cons {k:Nat} {x:Mem} {l:List Mem} (h:jf m m2 τ (m (.n k)) x) (t:zW m m2 τ (k+1) l):zW m m2 τ k (x::l)
inductive NT (m m2:Id->Mem) (τ:Id->Id):TV->TV->Prop where
 |d {v v':DV} (h:dX v v'):NT m m2 τ (.d v) (.d v')
 |ptr {o o':Id} {p:Nat} (h:o=τ o'):NT m m2 τ (.ptr o p) (.ptr o' p)
 |aJ {o o':Id} {g g':Nat} (h:o=τ o') (hg:g=(m o).gen) (Xo:g'=(m2 o').gen):NT m m2 τ (.aJ o g) (.aJ o' g')
 |cP {f:FuncId} {c c':List CR} (h:mV τ c c'):NT m m2 τ (.cP f c) (.cP f c')
inductive pZ:List TV->List DV->Prop where
 |nil:pZ [] []
 |cons {v v':DV} {l:List TV} {l':List DV} (h:dX v v') (r:pZ l l'):pZ (.d v::l) (v'::l')
inductive zU (m m2:Id->Mem) (τ:Id->Id):List TV->TV->Prop where
 |one {x r:TV} (h:NT m m2 τ x r):zU m m2 τ [x] r
 |none:zU m m2 τ [] (.eD [])
 |jC {o o':Id} {x:TV} {l:List TV} {l':List DV} (h:o=τ o') (hd:pZ (x::l) l'):zU m m2 τ (.ptr o 0::x::l) (.jC o' l')
 |two {x y:TV} {l:List TV} {v v':DV} {l':List DV} (h:pZ (x::y::l) (v::v'::l')):zU m m2 τ (x::y::l) (.eD (v::v'::l'))
structure ke (m:Id->Mem) (gE:List Mem) (r:TV) (fr:Mem) (l:List TV):Prop where
 h:∃d,zU m (fE gE fr) (yf d) l r/\zW m (fE gE fr) (yf d) 2000 gE/\(fr= .none\/(jf m (fE gE fr) (yf d) (m d) fr/\Nat.blt d.key 2000=true))
structure NX (args:List TV) (ms:List Mem) (r:TV) (gE:List Mem) (fr:Mem):Prop where
 zq:Nat.ble ms.length 1000=true
 Dd:Dc ms gE=true
 cur:r.cur (fE gE fr)
 tf:∀o,(fE gE fr o).cur (fE gE fr)
 closed:∀o o',(jJ 2000 ms o).refs o'->jJ 2000 ms o'≠ .none
 fU:∀x∈args,∀o',x.refs o'->jJ 2000 ms o'≠ .none
 clean:∀o,r.refs o->fE gE fr o≠ .none
 pq:∀o o',(fE gE fr o).refs o'->fE gE fr o'≠ .none
def zj (args:List TV):Nat->TV:=λi=>match args[i]? with
 |some v=>v
 |none=> .undef
variable {ts:List TV}
theorem jW.length (h:jW E m ρ w xs ts):xs.length=ts.length:=by
 induction h with
 |nil=>rfl
 |cons _ _ a=>simp[a]
theorem jW.get (h:jW E m ρ w xs ts):∀(j:Nat) (c:TV),ts[j]? =some c->∃x,xs[j]? =some x/\dj E m ρ w x c:=by
 induction h with
 |nil=>intro j c h;simp at h
 |@cons x c xs cs a _ b=>
  intro j f h;cases j with
  |zero=>simp at h;subst h;exact⟨x,by simp,a⟩
  |succ j=>simpa using b j f (by simpa using h)
theorem zW.at {m m2:Id->Mem} {τ:Id->Id} {k:Nat} {l:List Mem} (h:zW m m2 τ k l):∀(j:Nat) (x:Mem),l[j]? =some x->jf m m2 τ (m (.n (k+j))) x:=by
 induction h with
 |nil k=>intro j x h;simp at h
 |@cons k x l a _ b=>
  intro j y h;cases j with
  |zero=>simp at h;subst h;exact a
  |succ j=>have:=b j y (by simpa using h);rwa [show k+1+j=k+(j+1) by omega]at this
variable {S':Nat->Prop} {m2:Id->Mem} {ρ3:Id->Option (Nat×Nat)} {τ:Id->Id}
theorem mV.rd (k:∀b,S b->S' b):∀{cs f:List CR} (_:mV τ cs f) {xs:List Value} (_:qF S m ρ w xs cs),
  (∀o p x,(∃c∈f,c.refs o)->bg m ρ x (τ o) p->bg m2 ρ3 x o p)->qF S' m2 ρ3 w xs f:=by
 intro cs f q;induction q with
 |nil=>intro xs h _;cases h;exact .nil
 |@cons c g l A h _ r=>
  intro xs t i;cases t with
  |cons a b=>
   refine .cons ?_ (r b (λo p x ⟨g,u,y⟩=>i o p x ⟨g,by simp[u],y⟩));cases h with
   |s h=>exact h _ _ _ (Rd.mono (λb z=>⟨k b z,rfl⟩) a)
   |@ptr o j p h=>subst h;exact i j p _ ⟨.ptr j p,by simp,rfl⟩ a
theorem qa.rd (k:∀b,S b->S' b) {c a:CV} (q:qa m m2 τ c a) (h:kR S m ρ w x c)
  (l:∀o p x,a.refs o->bg m ρ x (τ o) p->bg m2 ρ3 x o p) (r:∀o x,a.refs o->bB m ρ x (τ o) (m (τ o)).gen->bB m2 ρ3 x o (m2 o).gen):kR S' m2 ρ3 w x a:=by
 cases q with
 |s t=>exact t _ _ _ (Rd.mono (λb u=>⟨k b u,rfl⟩) h)
 |@ptr o i p j=>subst j;exact l i p _ rfl h
 |@aJ o i g E j y z=>subst j y z;exact r i _ rfl h
 |@cP f c a A=>obtain⟨B,C,D⟩:=h;exact⟨B,C,mV.rd k A D l⟩
theorem mU.rd (r:∀b,S b->S' b):∀{cs i:List CV} (_:mU m m2 τ cs i) {xs:List Value} (_:fV S m ρ w xs cs),
  (∀o p x,(∃c∈i,c.refs o)->bg m ρ x (τ o) p->bg m2 ρ3 x o p)->(∀o x,(∃c∈i,c.refs o)->bB m ρ x (τ o) (m (τ o)).gen->bB m2 ρ3 x o (m2 o).gen)->fV S' m2 ρ3 w xs i:=by
 intro cs i t;induction t with
 |nil=>intro xs h _ _;cases h;exact .nil
 |@cons c g l z h _ u=>
  intro xs y k q;cases y with
  |cons a b=>
   exact .cons (qa.rd r h a (λo p x f=>k o p x ⟨g,by simp,f⟩) (λo x f=>q o x ⟨g,by simp,f⟩))
    (u b (λo p x ⟨g,j,f⟩=>k o p x ⟨g,by simp[j],f⟩) (λo x ⟨g,j,f⟩=>q o x ⟨g,by simp[j],f⟩))
theorem pZ.rd {l:List TV} {i:List DV} (h:pZ l i):∀{f:List Value},jW E m ρ w f l->dA (L E m ρ w) w f i:=by
 induction h with
 |nil=>intro f g;cases g;exact .nil
 |cons a _ j=>intro f g;cases g with|cons b c=>exact .cons (a _ _ _ b) (j c)
variable {y:Mem}
theorem jf.live {x:Mem} (h:jf m m2 τ x y):y.live->x.live:=by cases h<;>first|exact id|exact λh=>h.elim
theorem jf.shape {x:Mem} (h:jf m m2 τ x y):y= .dead\/(x.dr=true/\y.dr=true)\/∃g b n k,x.bF=some (g,n,k)/\y.bF=some (b,n,k)/\(b=1->g=1):=by
 cases h with
 |dead x=>exact .inl rfl
 |aL a _=>exact .inr (.inr ⟨_,_,_,_,rfl,rfl,a⟩)
 |bm a _=>exact .inr (.inr ⟨_,_,_,_,rfl,rfl,a⟩)
 |_=>exact .inr (.inl ⟨rfl,rfl⟩)
section
open Classical
noncomputable def Uy (ρ:Id->Option (Nat×Nat)) (m2:Id->Mem) (τ:Id->Id) (o:Id):Option (Nat×Nat):=if m2 o= .none then none else ρ (τ o)
theorem uY {o:Id} (h:m2 o≠ .none):Uy ρ m2 τ o=ρ (τ o):=XG h
end
structure F9 (M0 M1:Id->Mem) (m:Id->Mem) (r:TV) (l:List TV):Prop where
 h:∃τ,zU m M1 τ l r/\(∀o,M1 o≠ .none->jf m M1 τ (m (τ o)) (M1 o))/\(∀o o',M1 o≠ .none->M1 o'≠ .none->τ o=τ o'->o=o')/\∀o,M0 o≠ .none->τ o=o
structure Ec (args:List TV) (M0:Id->Mem) (r:TV) (M1:Id->Mem):Prop where
 hi:∀o,M0 o≠ .none->¬Lo o
 Dd:∀o,M0 o≠ .none->M1 o= .dead\/((M1 o).kind=(M0 o).kind/\0<(M0 o).kind)
 cur:r.cur M1
 tf:∀o,(M1 o).cur M1
 closed:∀o o',(M0 o).refs o'->M0 o'≠ .none
 fU:∀x∈args,∀o',x.refs o'->M0 o'≠ .none
 clean:∀o,r.refs o->M1 o≠ .none
 pq:∀o o',(M1 o).refs o'->M1 o'≠ .none
variable {args:List TV} {M0:Id->Mem}
theorem Ec.ne {r:TV} {a:Id->Mem} (h:Ec args M0 r a) {o:Id} (c:M0 o≠ .none):a o≠ .none:=by
 rcases h.Dd o c with k|⟨k,b⟩;rw[k];simp;intro e;rw[e]at k;rw[<-k]at b;simp[Mem.kind]at b
set_option maxHeartbeats 1000000 in
theorem Ly (Q:Own E ρ m w) {r:TV} (hs:Ec args M0 r m2) (uH:E.m0=M0) {l:List TV} (c7:F9 M0 m2 m r l):
  ∃ρ3,Own E ρ3 m2 w/\∀R,jW E m ρ w R l->dj E m2 ρ3 w (if h:R.toArray.size=1 then R.toArray[0]else .tuple R.toArray) r:=by
 obtain⟨τ,c8,T,c9,d0⟩:=c7.h;have e0:=hs.tf;have c2:=hs.pq;let ρ3:=Uy ρ m2 τ;have a1:∀j,(m2 j).live->m2 j≠ .none:=λj l e=>by rw[e]at l;exact l
 have a2:∀j b c,(m2 j).live->ρ3 j=some (b,c)->(m (τ j)).live/\ρ (τ j)=some (b,c):=λj b c l A=>
  ⟨(T j (a1 j l)).live l,by have:=A;rwa [show ρ3 j=_ from uY (a1 j l)]at this⟩
 have H:∀b,L E m ρ w b->L E m2 ρ3 w b:=λb D=>⟨D.1,λj c l A=>by obtain⟨u,z⟩:=a2 j b c l A;exact D.2 _ c u z⟩;have U:∀j p x,m2 j≠ .none->bg m ρ x (τ j) p->bg m2 ρ3 x j p:=by
  intro j p x B I;rcases(T j B).shape with h|⟨u,z⟩|⟨g,V,n,k,u,_,_⟩;simp only[bg,h];exact I.bG
  ·rw[bO z];have:=(bO u).1 I
   rwa [<-uY (ρ:=ρ) B]at this
  ·exact absurd I (hV u)
 have a6:∀j x g,m2 j≠ .none->g=(m (τ j)).gen->bB m ρ x (τ j) g->bB m2 ρ3 x j (m2 j).gen:=by intro j x g B G I;rcases(T j B).shape with h|⟨u,z⟩|⟨d1,V,n,k,u,z,_⟩;simp only[bB,h];exact⟨I.1,trivial⟩;rw[fF z];exact I.1;rw[cN u]at G;subst G;rw[br z,cN z];obtain⟨X,_,d2⟩:=(br u).1 I;refine⟨X,XU _,λ_=>?_⟩;have:=d2 rfl;simp only[cu]at this|-;rw[show ρ3 j=_ from uY B];exact this
 refine⟨ρ3,{below:=Q.below,inj:=?_,lo:=?_,cleanM:=c2,mem:=?_,carry:=?_},?_⟩;intro a7 a8 b c a9 c3 c4 b0 d3;obtain⟨X,b1⟩:=a2 a7 b c c3 b0;obtain⟨d4,d5⟩:=a2 a8 b a9 c4 d3;exact c9 a7 a8 (a1 a7 c3) (a1 a8 c4) (Q.inj _ _ b c a9 X d4 b1 d5);intro j b c l A;obtain⟨X,b1⟩:=a2 j b c l A;exact Q.lo _ b c X b1
 ·intro j;by_cases B:m2 j= .none;rw[B];trivial;have K:=Q.mem (τ j);have P:=T j B;have a3:∀t,(m2 j).refs t->m2 t≠ .none:=c2 j;have M:ρ3 j=ρ (τ j):=uY B;have b2:=B;revert K P a3 b2;generalize m2 j=y;generalize m (τ j)=x;intro K P a3 _;have b3:∀t p x,y.refs t->bg m ρ x (τ t) p->bg m2 ρ3 x t p:=λt p x A=>U t p x (a3 t A);have b4:∀t x,y.refs t->bB m ρ x (τ t) (m (τ t)).gen->bB m2 ρ3 x t (m2 t).gen:=λt x A=>a6 t x _ (a3 t A) rfl;cases P with
  |dead=>trivial
  |ro C=>obtain⟨b,c,J,e,u,b2,z,F⟩:=K;exact⟨b,c,J,e,by rw[M,u],H b b2,z,C.Wc (F.mono (λb D=>⟨H b D,rfl⟩))⟩
  |box C=>obtain⟨b,c,J,e,u,z,F⟩:=K;exact⟨b,c,J,e,by rw[M,u],z,C.Wc (F.mono (λb D=>⟨H b D,rfl⟩))⟩
  |@tl l c5 C=>obtain⟨b,c,J,e,u,z,F⟩:=K;exact⟨b,c,J,e,by rw[M,u],z,mU.rd (S:=L E m ρ w) (m:=m) (ρ:=ρ) H C (fV.LB F) (λt p x A=>b3 t p x A) (λt x A=>b4 t x A)⟩
  |@obj l c5 C=>obtain⟨b,c,J,e,u,z,F⟩:=K;exact⟨b,c,J,e,by rw[M,u],z,mU.rd H C F (λt p x A=>b3 t p x A) (λt x A=>b4 t x A)⟩
  |@aL g V n k e d6 d7 G C=>rcases K with⟨u,z⟩|⟨b,b5,b6,u,z,F,Y,b7,b8⟩;exact .inl ⟨by rw[M,u],z⟩;refine .inr ⟨b,b5,b6,by rw[M,u],z,F,Y,b7,λi N q O=>?_⟩;obtain⟨x,b9,A⟩:=b8 i N q O;exact⟨x,b9,C i N q O _ _ _ (A.mono (λb D=>⟨H b D,rfl⟩))⟩
  |@bm g V n k e d6 d7 G C=>rcases K with⟨u,z⟩|⟨b,b5,b6,u,z,F,Y,b7,b8⟩;exact .inl ⟨by rw[M,u],z⟩;refine .inr ⟨b,b5,b6,by rw[M,u],z,F,Y,b7,λi N q O=>?_⟩;obtain⟨x,b9,A⟩:=b8 i N q O;exact⟨x,b9,qa.rd H (C i N q O) A (λt p x A=>b3 t p x ⟨i,q,N,O,A⟩) (λt x A=>b4 t x ⟨i,q,N,O,A⟩)⟩
 ·intro o B;have c6:=Q.carry o B;rw[uH]at B;have c0:=hs.ne B;have P:=T _ c0;have a4:=d0 o B;rw[a4]at P;refine⟨λx p I=>U _ p x c0 (by rw[a4];exact c6.ptr x p I),λx G I=>?_⟩;rcases P.shape with h|⟨_,z⟩|⟨d1,V,n,k,u,z,F⟩;rw[h]at G;simp[Mem.gen]at G;rw[od z]at G;omega
  ·have Z:=G;rw[cN z]at Z;have Y:=c6.aJ x (by rw[cN u];exact F Z) I;have:=a6 o x 1 c0 (by rw[a4,cN u];exact(F Z).symm) (by rw[a4];exact Y)
   rwa [G]at this
 ·intro R a0;have a5:=hs.clean;cases c8 with
  |none=>cases a0;exact⟨[],rfl,.nil⟩
  |@jC o j x l c5 h c1=>
   subst h;cases a0 with
   |@cons v _ J _ a b=>
    have C:=c1.rd b;cases b with
    |cons c e=>exact⟨_,_,by simp,U j 0 v (a5 j rfl) a,C.mono (λb D=>⟨H b D,rfl⟩)⟩
  |two c1=>
   have C:=c1.rd a0;cases a0 with
   |cons a b=>cases b with
    |cons c e=>exact⟨_,by simp,C.mono (λb D=>⟨H b D,rfl⟩)⟩
  |one d8=>
   cases a0 with
   |@cons v _ _ _ a b=>
    cases b;show dj E m2 ρ3 w v r;cases d8 with
    |d h=>exact h _ _ _ (lU.mono (λb D=>⟨H b D,rfl⟩) a)
    |@ptr o j p h=>subst h;exact U j p v (a5 j rfl) a
    |@aJ o j g V h G Z=>subst h Z;exact a6 j v g (a5 j rfl) G a
    |@cP f c a9 h=>obtain⟨J,d9,b0⟩:=a;exact⟨J,d9,mV.rd H h b0 (λj p x A=>U j p x (a5 j A))⟩
variable {ms gE:List Mem} {fr:Mem}
theorem NX.Uh {r:TV} (h:NX args ms r gE fr):Ec args (jJ 2000 ms) r (fE gE fr) where
 hi:=λo a f=>by obtain⟨j,x,g,rfl⟩:=gj ms 2000 o a;exact absurd (show 2000+j<2000 from f) (by omega)
 Dd:=λo a=>by obtain⟨g,i⟩:=oZ _ _ h.Dd;have k:=XI h.zq;obtain⟨j,x,b,rfl⟩:=gj ms 2000 o a;have l:=(Ye.1 b).1;have c:gE[j]? =some (gE[j]'(by omega)):=XY (by omega);rw[ku ms 2000 j x b,kt (by omega) c];exact i j x _ b c
 cur:=h.cur
 tf:=h.tf
 closed:=h.closed
 fU:=h.fU
 clean:=h.clean
 pq:=h.pq
theorem ke.Uh {r:TV} (hs:NX args ms r gE fr) {l:List TV} (u:ke m gE r fr l):F9 (jJ 2000 ms) (fE gE fr) m r l:=by
 obtain⟨d,w,z,A⟩:=u.h;obtain⟨I,J⟩:=oZ _ _ hs.Dd;have K:=XI hs.zq;have g:∀a,fE gE fr a≠ .none->jf m (fE gE fr) (yf d) (m (yf d a)) (fE gE fr a)/\((a= .n 3000/\d.key<2000)\/∃j,a= .n (2000+j)/\yf d a=a):=by intro a b;rcases w4 b with⟨rfl,B⟩|⟨j,y,c,rfl⟩;have f:=A.resolve_left B;exact⟨by rw[oV];exact f.1,.inl ⟨rfl,bR f.2⟩⟩;have C:=(Ye.1 c).1;have i:yf d (.n (2000+j))= .n (2000+j):=(by simp only[yf,pX (show 2000+j≠3000 by omega),ZG]);exact⟨by rw[i,kt (by omega) c];exact z.at j y c,.inr ⟨j,rfl,i⟩⟩
 refine⟨yf d,w,λo b=>(g o b).1,λD E c f e=>?_,λo b=>?_⟩
 ·rcases(g D c).2 with⟨rfl,k⟩|⟨F,rfl,p⟩<;>rcases(g E f).2 with⟨rfl,q⟩|⟨G,rfl,t⟩
  ·rfl
  ·rw[t]at e;have:d= .n (2000+G):=e;rw[this]at k;simp only[Id.key]at k;omega
  ·rw[p]at e;have: .n (2000+F)=d:=e;rw[<-this]at q;simp only[Id.key]at q;omega
  ·rw[p,t]at e;exact e
 ·obtain⟨j,x,H,rfl⟩:=gj ms 2000 o b;have C:=(Ye.1 H).1;simp only[yf,pX (show 2000+j≠3000 by omega),ZG]
theorem ub {TT:iw} (C:cG P TT) (Q:P.follows .mixedOrders=true) {f:FuncId} {a:Func} (D:P.funcs[f]? =some a) (G:a.body=some c) (R:(a.name== "runtime.NumGoroutine")=false)
  (eP:List Nat) {args:List TV} (a6:args.length<=a.ntmps) (a7:a.ntmps<2000) {M0:Id->Mem} {r:TV} {u:Id->Mem} (hs:Ec args M0 r u) (X:(Id->Mem)->List TV->Prop) (S:∀m l,X m l->F9 M0 u m r l)
  (h:vv P TT a.ntmps eP c (λe t m=>match e with
   | .exit _=>False
   | .normal=>uB TT t m a.results.toList (X m)
   | .ret=>uB TT t m a.results.toList (X m)) (zj args) M0):Eh P f args M0 r u:=by
 have T:∀o,Lo o->M0 o= .none:=λo h=>Xz λU=>hs.hi o U h;refine⟨⟨a,D,R,by rw[G];rfl⟩,hs.hi,hs.Dd,hs.cur,hs.tf,hs.closed,hs.fU,hs.clean,λw g z uH p H=>?_⟩;refine callsIn_wide.1 (callsIn_of_wp_marks (F:=Fence.wide) (n:=0) D G trivial (wpIn_wide.2 ?_));let E:Env:={w with N:=a.ntmps,B:=w.w0.heap.size,uH:=λk a8=>by rw[uH];exact T (.n k) (show k<2000 by omega)};have V:Own E E.ρ0 E.m0 E.w0:={below:=p.below,inj:=p.inj,lo:=p.lo,cleanM:=p.cleanM,mem:=p.mem,carry:=p.carry};have a9:=H.length;have Y:Rel E E.ρ0 (zj args) E.m0 {tmps:=g.toArray++Array.replicate (a.ntmps-g.toArray.size) Go.undef,defers:=[]} E.w0:=by
  refine{V with defers:= .nil,size:=?_,clean:=?_,slots:=?_};show(g.toArray++Array.replicate (a.ntmps-g.toArray.size) Go.undef).size=a.ntmps;simp;omega;intro i o A;unfold zj at A;split at A;rename_i v y;rw[show E.m0=_ from uH];exact hs.fU v (Zj y) o A;exact A.elim
  ·intro i;unfold zj;split;(rename_i v y;obtain⟨x,I,Z⟩:=H.get i v y;have a0:=(Ye.1 I).1;have a1:(g.toArray++Array.replicate (a.ntmps-g.toArray.size) Go.undef).getD i Go.undef=x:=(by rw[YC,YV,XL (by simpa using a0)];simp[I]);rw[a1];cases v<;>exact Z)
   ·rename_i y;have b0:args.length<=i:=ab2.1 y;show _=Go.undef;rw[YC,YV,XG (by simp;omega)];by_cases J:i-g.toArray.size<a.ntmps-g.toArray.size;rw[ZV (by simpa using J)];simp;rw[Z6 (by simpa using J)];rfl
 have K:=zP C Q c _ _ _ h E E.ρ0 _ E.w0 ⟨z,XU _⟩ rfl (by rw[<-uH];exact Y);rw[<-z]at K|-;refine wp_mono K ?_;intro e a' w' b;have M:∀ρ t m,uB TT t m a.results.toList (X m)->Rel E ρ t m a' w'->LeavesInM Fence.wide 0 w.P a a'.tmps (λe w'=>∃v ρ',e= .returned v/\Own w ρ' u w'/\dj w u ρ' w' v r) a'.defers .returning w':=by intro ρ t m b O;refine mB (XU _) _ a' w' rfl O (λw' j=>?_);clear O;obtain⟨l,a2,hK,a3,a4⟩:=AJ C j z a.results.toList _ b;obtain⟨ρ3,q,a5⟩:=Ly j.toOwn hs uH (S _ _ hK);refine⟨_,by rw[z];exact tN a4,_,ρ3,rfl,{below:=q.below,inj:=q.inj,lo:=q.lo,cleanM:=q.cleanM,mem:=q.mem,carry:=q.carry},?_⟩;have:=a5 a2 a3;cases r<;>exact this
 cases e with
 |normal=>obtain⟨ρ,t,m,b,j⟩:=b;exact M ρ t m b j
 |ret=>obtain⟨ρ,t,m,b,j⟩:=b;exact M ρ t m b j
 |exit id=>obtain⟨ρ,t,m,b,j⟩:=b;exact b.elim
 |goto l=>exact b.elim
 |panic b1=>exact b.elim
 |outgrown=>exact b.elim
theorem cF {TT:iw} (g:cG P TT) (i:P.follows .mixedOrders=true) {f:FuncId} {a:Func} (j:P.funcs[f]? =some a) (k:a.body=some c) (o:(a.name== "runtime.NumGoroutine")=false)
  (eP:List Nat) {args:List TV} (p:args.length<=a.ntmps) (q:a.ntmps<2000) {ms:List Mem} {r:TV} {gE:List Mem} {fr:Mem} (hs:NX args ms r gE fr)
  (h:vv P TT a.ntmps eP c (λe t m=>match e with
   | .exit _=>False
   | .normal=>uB TT t m a.results.toList (ke m gE r fr)
   | .ret=>uB TT t m a.results.toList (ke m gE r fr)) (zj args) (jJ 2000 ms)):lT P f args ms r gE fr:=by
 have b:=ub g i j k o eP p q hs.Uh (λm=>ke m gE r fr) (λm l u=>u.Uh hs) h;exact⟨b.enters,hs.Dd,hs.cur,hs.tf,hs.closed,hs.fU,hs.clean,b.calls⟩
theorem om {TT:iw} (g:cG P TT) (i:P.follows .mixedOrders=true) {f:FuncId} {a:Func} (j:P.funcs[f]? =some a) (k:a.body=some c) (l:(a.name== "runtime.NumGoroutine")=false)
  (eP:List Nat) {args:List TV} (o:args.length<=a.ntmps) (p:a.ntmps<2000) {M0:Id->Mem} {r:TV} {b:Id->Mem} (hs:Ec args M0 r b)
  (h:vv P TT a.ntmps eP c (λe t m=>match e with
   | .exit _=>False
   | .normal=>uB TT t m a.results.toList (F9 M0 b m r)
   | .ret=>uB TT t m a.results.toList (F9 M0 b m r)) (zj args) M0):Eh P f args M0 r b:=
 ub g i j k l eP o p hs (F9 M0 b · r) (λ_ _ h=>h) h
end Go.Vm
namespace Go.Vm
open Go Go.RowKit Go.ChangeShapes Go.WideShapes Go.ChangeAt
inductive ju (P:Program):TypeId->List SV->Prop where
 |bool {t:TypeId} (b:Bool) (h:P.underlying t=some .bool):ju P t [.v (.bool b)]
 |int {t:TypeId} {k:IntKind} {n:Int} (h:P.underlying t=some (.int k)) (hw:(Lit.int k n).wf=true):ju P t [.v (.int k n)]
 |str {t:TypeId} {s:ByteArray} (h:P.underlying t=some .string) (hs:s.size<=maxLen):ju P t [.v (.string s)]
 |jz {t e:TypeId} {n k:Nat} {get:Nat->Nat->SV} (h:P.underlying t=some (.slice e)) (hk:k=P.cellsOf e) (hn:n<=maxLen) (hr:∀i,i<n->ju P e (cells k (get i))):ju P t [.sl n k get]
 |struct {t:TypeId} {fs:Array Field} {cs:List SV} (h:P.underlying t=some (.struct fs)) (hl:cs.length=P.cellsOf t) (hf:∀f∈fs.toList,ju P f.type ((cs.drop f.offset).take (P.cellsOf f.type))):ju P t cs
 |arr {t e:TypeId} {n:Nat} {cs:List SV} (h:P.underlying t=some (.array n e)) (hl:cs.length=P.cellsOf t) (hf:∀i,i<n->ju P e ((cs.drop (i*P.cellsOf e)).take (P.cellsOf e))):ju P t cs
def packed (P:Program) (off:Nat):List Field->Option Nat
 |[]=>some off
 |f::a=>bif Nat.beq f.offset off then packed P (off+P.cellsOf f.type) a else none
def gV (P:Program):Nat->TypeId->Bool
 |0,_=>false
 |n+1,t=>match P.underlying t with
  |some .bool=>true
  |some (.int _)=>true
  |some .string=>true
  |some (.slice e)=>Nat.blt 0 (P.cellsOf e)&&gV P n e
  |some (.struct a)=>(packed P 0 a.toList==some (P.cellsOf t))&&a.toList.all λf=>gV P n f.type
  |some (.array k e)=>Nat.beq (k*P.cellsOf e) (P.cellsOf t)&&gV P n e
  |_=>false
theorem glue {S:Nat->Prop} {w:World} (P:Program):∀(a:List Field) (off j:Nat) (xs:List Value),packed P off a=some j->off+xs.length=j->
  (∀f∈a,∃b,ju P f.type b/\eA S w ((xs.drop (f.offset-off)).take (P.cellsOf f.type)) b)->
  ∃b,eA S w xs b/\∀f∈a,off<=f.offset/\ju P f.type ((b.drop (f.offset-off)).take (P.cellsOf f.type))
 |[],off,j,xs,h,u,_=>by simp only[packed,Ze]at h;obtain rfl:xs=[]:=Y0 (by omega);exact⟨[],.nil,by simp⟩
 |f::a,off,j,xs,h,u,q=>by
  simp only[packed]at h;cases c:Nat.beq f.offset off with
  |false=>rw[c]at h;simp at h
  |true=>
   rw[c]at h;simp only[ZD]at h;have r:f.offset=off:=XE c;have x:∀(a:List Field) (o t:Nat),packed P o a=some t->o<=t/\∀g∈a,o<=g.offset:=by
    intro a;induction a with
    |nil=>intro o t h;simp only[packed,Ze]at h;exact⟨by omega,by simp⟩
    |cons g K y=>
     intro o t h;simp only[packed]at h;cases c:Nat.beq g.offset o with
     |false=>rw[c]at h;simp at h
     |true=>rw[c]at h;simp only[ZD]at h;obtain⟨M,z⟩:=y _ _ h;have N:g.offset=o:=XE c;refine⟨by omega,λA k=>?_⟩;rcases XD.1 k with rfl|k;omega;have:=z A k;omega
   obtain⟨O,B⟩:=x a _ _ h;obtain⟨l,C,m⟩:=q f (by simp);rw[r,Zb,aaY]at m;obtain⟨p,D,E⟩:=glue P a (off+P.cellsOf f.type) j (xs.drop (P.cellsOf f.type)) h (by simp;omega) (λg i=>by obtain⟨b,F,G⟩:=q g (by simp[i]);have:=B g i;rw[abX];rw[show P.cellsOf f.type+(g.offset-(off+P.cellsOf f.type))=g.offset-off by omega];exact⟨b,F,G⟩);have H:l.length=P.cellsOf f.type:=(by have:=m.length;simp at this;omega);refine⟨l++p,?_,λg i=>?_⟩
   ·have:=m.append D
    rwa [ZJ]at this
   ·rcases XD.1 i with rfl|i;refine⟨by omega,?_⟩;rw[r,Zb,aaY,<-H,abV];exact C;obtain⟨Q,I⟩:=E g i;refine⟨by omega,?_⟩;have J:(l++p).drop (g.offset-off)=p.drop (g.offset-(off+P.cellsOf f.type)):=(by rw[List.drop_append,List.drop_eq_nil_of_le (by omega),Z1];congr 1;omega);rw[J];exact I
theorem HI {S:Nat->Prop} {w:World} (P:Program) (e:TypeId):∀(n:Nat) (xs:List Value),xs.length=n*P.cellsOf e->
  (∀i,i<n->∃a,ju P e a/\eA S w ((xs.drop (i*P.cellsOf e)).take (P.cellsOf e)) a)->
  ∃a,eA S w xs a/\∀i,i<n->ju P e ((a.drop (i*P.cellsOf e)).take (P.cellsOf e))
 |0,xs,g,_=>by obtain rfl:xs=[]:=Y0 (by omega);exact⟨[],.nil,by simp⟩
 |n+1,xs,g,h=>by
  have t:xs.length=n*P.cellsOf e+P.cellsOf e:=(by rw[g,Yq,Nat.one_mul]);obtain⟨b,j,c⟩:=h 0 (by omega);rw[aaV,aaY]at c;obtain⟨f,k,l⟩:=HI P e n (xs.drop (P.cellsOf e)) (by simp;omega) (λi m=>by obtain⟨a,o,p⟩:=h (i+1) (by omega);rw[abX,show P.cellsOf e+i*P.cellsOf e=(i+1)*P.cellsOf e by rw[Yq];omega];exact⟨a,o,p⟩);have q:b.length=P.cellsOf e:=(by have:=c.length;simp at this;omega);refine⟨b++f,?_,λi m=>?_⟩
  ·have:=c.append k
   rwa [ZJ]at this
  ·cases i with
   |zero=>rw[aaV,aaY,<-q,abV];exact j
   |succ i=>have:=l i (by omega);have r:(b++f).drop ((i+1)*P.cellsOf e)=f.drop (i*P.cellsOf e):=(by rw[List.drop_append,List.drop_eq_nil_of_le (by rw[Yq];omega),Z1];congr 1;rw[Yq];omega);rw[r];exact this
variable {H:Type} {P:Program} {w:World}
theorem BX {enc:TypeId×Value->H}:∀(n u:Nat) (t:TypeId) (xs:List Value) (x:DataW H×List MemPlace),gV P n t=true->
  DataW.trod enc P w 0 (λ_=>true) true u t xs=some x->∃o,ju P t o/\eA (λb=>b<w.heap.size) w xs o:=by
 intro n;induction n with
 |zero=>intro u t xs x h;simp[gV]at h
 |succ n K=>
  intro u t xs x p h;unfold gV at p;split at p
  ·rename_i g;cases u with
   |zero=>simp[DataW.trod]at h
   |succ u=>
    unfold DataW.trod at h;rw[g]at h;split at h<;>simp_all
    rename_i b;exact⟨_,.bool b g,.cons (.v rfl) .nil⟩
  ·rename_i k g;obtain⟨q,rfl,rfl,hw⟩:=DataW.trod_int g h;exact⟨_,.int g hw,.cons (.v rfl) .nil⟩
  ·rename_i g;cases u with
   |zero=>simp[DataW.trod]at h
   |succ u=>
    unfold DataW.trod at h;rw[g]at h;split at h<;>simp_all
    rename_i s;exact⟨_,.str g h.1,.cons (.v rfl) .nil⟩
  ·rename_i e g;simp only[XJ]at p;obtain⟨a4,p⟩:=p;have a5:=bR a4;rcases DataW.trod_slice g h with⟨rfl,rfl⟩|⟨a,r,a6,a7,c3,a8,_,rfl,rfl,c4,M,a9,Z,b0,c5,_⟩;exact⟨[.sl 0 (P.cellsOf e) λ_ _=> .v Go.undef],.jz g rfl (XR _) (λi c=>absurd c (XO i)),.cons (.nil _ _) .nil⟩
   ·
    have N:∀i,i<r->∃o A,ju P e o/\eA (λb=>b<w.heap.size) w A o/\A.length=P.cellsOf e/\∀j,j<P.cellsOf e->w.cell? ((a.add (i*P.cellsOf e)).add j)=A[j]?:=by
     intro i c;have l:=b0 i c;have D:i<a7.length:=(by omega);rw[XY D]at l;cases O:w.cells? 0 (a.add (i*P.cellsOf e)) (P.cellsOf e)with
     |none=>rw[O]at l;simp at l
     |some A=>rw[O]at l;simp only[Option.bind_some]at l;obtain⟨o,z,E⟩:=K a8 e A _ p l;obtain⟨_,B,b1⟩:=World.cells?_some O;exact⟨o,A,z,E,B,b1⟩
    rcases ZM r with Q|Q;subst Q;exact⟨[.sl 0 (P.cellsOf e) λ_ _=> .v Go.undef],.jz g rfl (XR _) (λi c=>absurd c (XO i)),.cons (.emp a a6 _ _) .nil⟩
    ·have b2:∃(C:Nat->List SV) (U:Nat->List Value),∀i,i<r->ju P e (C i)/\eA (λb=>b<w.heap.size) w (U i) (C i)/\(U i).length=P.cellsOf e/\∀j,j<P.cellsOf e->w.cell? ((a.add (i*P.cellsOf e)).add j)=(U i)[j]?:=(by refine⟨λi=>if h:i<r then(N i h).choose else[],λi=>if h:i<r then(N i h).choose_spec.choose else[],λi c=>?_⟩;simp only[c,dite_true];exact(N i c).choose_spec.choose_spec);obtain⟨C,U,F⟩:=b2;have a0:∀i,i<r->(C i).length=P.cellsOf e:=λi c=>by obtain⟨_,z,E,_⟩:=F i c;have:=z.length;omega
     have b3:∀i,i<r->cells (P.cellsOf e) (λj=>(C i).getD j (.v Go.undef))=C i:=(by intro i c;apply aa3;intro j;rw[oa];have:=a0 i c;by_cases G:j<P.cellsOf e;rw[XL G];have R:j<(C i).length:=(by omega);simp[List.getD,R];rw[XG G,YU (by omega)]);refine⟨[.sl r (P.cellsOf e) λi j=>(C i).getD j (.v Go.undef)],.jz g rfl (by omega) (λi c=>by rw[b3 i c];exact(F i c).1),.cons ?_ .nil⟩;obtain⟨_,z,E,B⟩:=F 0 Q;have b4:∃v,w.cell? a=some v:=(by have:=B 0 a5;rw[aaV]at this;have b5:0<(U 0).length:=(by omega);rw[XY b5]at this;exact⟨_,this⟩);obtain⟨v0,a1⟩:=b4;obtain⟨b,c6,b6⟩:=a;have b7:b6=none:=World.cell?_spot a1;subst b7;have b8:=World.block_lt_of_cell? w _ a1;refine Rd.sl (λi j=>((U i)[j]?).getD Go.undef) b8 M a9 (λi c j G=>?_) (λi c j G=>?_);obtain⟨_,z,E,B⟩:=F i c;have:=B j G;rw[ey,ey,YE]at this;have R:j<(U i).length:=(by omega);rw[this,XY R];rfl;obtain⟨_,z,E,B⟩:=F i c;obtain⟨y,b9,c0⟩:=z.dp j (by have:=a0 i c;omega);simp only[b9,Yt];exact c0
  ·rename_i a2 g;simp only[XJ,abA,Zz]at p;obtain⟨T,c1⟩:=p;obtain⟨V,m,_,rfl,M,Z,X⟩:=DataW.trod_struct g h;obtain⟨o,I,Y⟩:=glue (S:=λb=>b<w.heap.size) (w:=w) P a2.toList 0 (P.cellsOf t) xs T (by omega) (λf J=>by obtain⟨i,c⟩:=ZZ J;have a3:a2[i]? =some f:=(by simpa using c);have l:=X i f a3;have D:i<V.length:=(by have:=(YR.1 a3).1;omega);rw[XY D]at l;rw[abf];exact K m f.type _ _ (c1 f J) l);refine⟨o,.struct g (by have:=I.length;omega) (λf J=>?_),I⟩;have:=(Y f J).2
   rwa [abf]at this
  ·rename_i k e g;simp only[XJ]at p;obtain⟨T,c2⟩:=p;have c7:=XE T;obtain⟨V,m,_,rfl,M,Z,X⟩:=DataW.trod_array g h;obtain⟨o,I,Y⟩:=HI (S:=λb=>b<w.heap.size) (w:=w) P e k xs (by omega) (λi c=>by have l:=X i c;have D:i<V.length:=(by omega);rw[XY D]at l;exact K m e _ _ c2 l);exact⟨o,.arr g (by have:=I.length;omega) Y,I⟩
  ·simp at p
def ui (P:Program) (t:TypeId):Bool:=match P.underlying t with
 |some (.struct _)=>true
 |some (.array _ _)=>true
 |_=>false
def tp (P:Program) (t:TypeId):DV->Prop
 | .one c=>ui P t=false/\ju P t [c]
 | .agg a=>ui P t=true/\ju P t a
inductive uO (P:Program):List TypeId->List DV->Prop where
 |nil:uO P [] []
 |cons {t:TypeId} {v:DV} {ts:List TypeId} {vs:List DV} (h:tp P t v) (r:uO P ts vs):uO P (t::ts) (v::vs)
theorem Oj {enc:TypeId×Value->H} {n:Nat} {t:TypeId} {v:Value} {d:DataW H} {ps:List MemPlace} {q:Nat} (g:gV P n t=true)
  (f:Value.okWide P w .any q t v) (h:DataW.Trod enc P w 0 (λ_=>true) true t v d ps):∃m,tp P t m/\lU (λb=>b<w.heap.size) w v m:=by
 obtain⟨r,h⟩:=h;obtain⟨o,p,k⟩:=BX n r t _ _ g h;cases a:ui P t with
 |true=>
  have:∃i,v= .agg i:=by
   unfold ui at a;unfold Value.okWide at f;cases j:P.underlying t with
   |none=>rw[j]at a;simp at a
   |some l=>
    rw[j]at a f;cases l<;>simp at a
    ·obtain⟨i,e,_⟩:=f;exact⟨i,e⟩
    ·obtain⟨i,e,_⟩:=f;exact⟨i,e⟩
  obtain⟨i,rfl⟩:=this;exact⟨.agg o,⟨a,p⟩,i.toList,by simp,k⟩
 |false=>
  have u:v.cells.toList=[v]:=by
   unfold ui at a;unfold Value.okWide at f;cases n with
   |zero=>simp[gV]at g
   |succ n=>
    unfold gV at g;cases j:P.underlying t with
    |none=>rw[j]at g;simp at g
    |some l=>rw[j]at a f g;simp only[Cell.okWide,j]at f;cases l<;>simp at a g<;>cases v<;>first|rfl|(simp[Cell.ok,j]at f)
  rw[u]at k;have x:=k.length
  match o,x with
  |[c],_=>
   refine⟨.one c,⟨a,p⟩,?_⟩;cases k with
   |cons y _=>exact y
theorem Ge {H:Type} {enc:TypeId×Value->H} {P:Program} {w:World} {n:Nat} {o:Nat}:∀(c:List TypeId) (f:List Value) (i:List (DataW H)) (k:List MemPlace),(∀t∈c,gV P n t=true)->
  (∀(j:Nat) t v,c[j]? =some t->f[j]? =some v->Value.okWide P w .any o t v)->DataW.TrodAll enc P w 0 (λ_=>true) true c f i k->∃g,uO P c g/\dA (λb=>b<w.heap.size) w f g
 |[],f,i,k,_,_,h=>by obtain⟨rfl,_,_⟩:=trodAll_nil h;exact⟨[],.nil,.nil⟩
 |t::c,f,i,k,l,m,h=>by obtain⟨v,r,d,u,p,q,rfl,rfl,rfl,x,y⟩:=trodAll_cons h;obtain⟨z,A,B⟩:=Oj (l t (by simp)) (m 0 t v rfl rfl) x;obtain⟨g,C,D⟩:=Ge c r u q (λt E=>l t (by simp[E])) (λj t v a b=>m (j+1) t v (by simpa using a) (by simpa using b)) y;exact⟨z::g,.cons A C,.cons B D⟩
theorem pM {H:Type} {enc:TypeId×Value->H} {P:Program} (k:laidOutB P=true) {W i:World} (l:Below W.heap.size W i):∀(a:List TypeId) (c:List Value) (f:List (DataW H)) (g:List MemPlace),(∀t∈a,P.readableRec t=true/\t<P.types.size)->
  DataW.TrodAll enc P W 0 (λ_=>true) true a c f g->DataW.TrodAll enc P i 0 (λb=>decide (b<W.heap.size)) true a c f g
 |[],c,f,g,_,h=>by obtain⟨rfl,rfl,rfl⟩:=trodAll_nil h;exact trodAll_mk0
 |t::a,c,f,g,j,h=>by obtain⟨v,r,d,u,p,q,rfl,rfl,rfl,o,w⟩:=trodAll_cons h;have y:DataW.Trod enc P i 0 (λb=>decide (b<W.heap.size)) true t v d p:=Below.trod k (j t (by simp)).1 (j t (by simp)).2 o l.toBelow (λx z=>by obtain⟨m,A⟩:=o;exact DataW.trod_lt m _ _ _ A x z);exact trodAll_cons_mk y (pM k l a r u q (λt B=>j t (by simp[B])) w)
theorem A7 {F:FuncId} {f:Func} {s:ChangeSpec} (w:s.vars=[]) {x:TypeId} (C:f.resultTypes=#[x]) (D:P.underlying x=some .bool) {n:Nat} (E:f.params.toList.all (gV P n)=true)
  (G:f.params.toList.all (λt=>P.readableRec t&&Nat.blt t P.types.size)=true) (I:laidOutB P=true) {H:Type} {enc:TypeId×Value->H}
  (J:∀c:List (DataW H),c.length=f.params.size->(s.fn H (c++[])).results=[.lit (.bool true)]/\(s.fn H (c++[])).args=c/\(s.fn H (c++[])).vars=[])
  (K:∀i,uO P f.params.toList i->lY P F i (aE true)) (W:World) (M:Nat) (args:Array Value) (c N:List (DataW H)) (O:List MemPlace)
  (Q:∀(j:Nat) t v,f.params[j]? =some t->args[j]? =some v->Value.okWide P W .any M t v)
  (y:DataW.Whole enc P f.params.toList s.vars false W args.toList c N O):
  Calls P F args W λe z=>∃v,e= .returned v/\s.post enc P f false true false false W args v z:=by
 have R:=y;obtain⟨p,q,l,A,rfl,a1,a2⟩:=y;rw[w]at A;obtain⟨rfl,rfl⟩:=trodVars_none A;have S:∀(g:List TypeId) (m:List Value) (c:List (DataW H)) (o:List MemPlace),DataW.TrodAll enc P W 0 (λ_=>true) true g m c o->c.length=g.length:=by
  intro g;induction g with
  |nil=>intro m c o h;obtain⟨_,rfl,_⟩:=trodAll_nil h;rfl
  |cons t g T=>intro m c o h;obtain⟨v,a3,d,a4,p,q,rfl,rfl,rfl,a5,r⟩:=trodAll_cons h;simp[T _ _ _ r]
 obtain⟨U,V,X⟩:=J c (by simpa using S _ _ _ _ l);obtain⟨i,Y,Z⟩:=Ge (n:=n) f.params.toList args.toList c p (λt u=>Zz.1 E t u) (λj t v a b=>Q j t v (by simpa using a) (by simpa using b)) l;have B:=(K i Y).2 W (λb=>b<W.heap.size) args.toList (λb k=>k) Z;rw[Ys]at B;refine B.mono ?_;rintro e z ⟨v,rfl,k,r⟩;have a0:v= .bool true:=(Rd.bT (show Rd _ _ _ _ from r)).1;subst a0;refine⟨_,rfl,c,[],p++[],[],p,[],R,?_,?_,?_,k.frame _,λh=>by cases h⟩;rw[U,C];exact trodAll_mk1 (shut_bool D true);rw[V];exact pM I k _ _ _ _ (λt u=>by have:=Zz.1 G t u;simp only[XJ]at this;exact⟨this.1,bR this.2⟩) l;rw[X,w];rfl
end Go.Vm
namespace Go.Vm
open Go Go.RowKit
def Kp:List (TypeId×Ty)->iw
 |[]=>λ_=>none
 |p::r=>λt=>bif Nat.beq t p.1 then some p.2 else Kp r t
inductive Ij (P:Program):List (TypeId×Ty)->Prop where
 |nil:Ij P []
 |cons {t:TypeId} {T:Ty} {r:List (TypeId×Ty)} (h:cO P t T) (hr:Ij P r):Ij P ((t,T)::r)
variable {P:Program}
theorem Ou {l:List (TypeId×Ty)} (h:Ij P l):cG P (Kp l):=by
 induction h with
 |nil=>intro t T h;simp[Kp]at h
 |@cons c g r h _ f=>
  intro t T a;simp only[Kp]at a;cases b:Nat.beq t c with
  |true=>rw[b]at a;simp only[ZD,Ze]at a;obtain rfl:=XE b;subst a;exact h
  |false=>rw[b]at a;exact f t T a
variable {K:Bool->Prop}
theorem af.t (h:K true):af true K:=⟨λ_=>h,λh=>by cases h⟩
theorem af.f (h:K false):af false K:=⟨λh=>(by cases h),λ_=>h⟩
theorem af.gF {b:Bool} (c:b=true) (h:K true):af b K:=⟨λ_=>h,λa=>by rw[c]at a;cases a⟩
theorem af.fh {b:Bool} (c:b=false) (h:K false):af b K:=⟨λa=>(by rw[c]at a;cases a),λ_=>h⟩
theorem aD.of_eq {a b:SV} (h:a=b):aD a b:=h▸aD.refl a
theorem aD.nil (k:Nat) (get:Nat->Nat->SV):aD (.v (.slice none 0 0)) (.sl 0 k get):=λS w x r=>by
 rw[(Rd.bT r).1];exact .nil k get
theorem aD.sl {n k:Nat} {g g':Nat->Nat->SV} (h:∀i,i<n->∀j,j<k->aD (g i j) (g' i j)):aD (.sl n k g) (.sl n k g'):=λS w x r=>by
 rcases Rd.nV r with⟨rfl,rfl⟩|⟨a,f,rfl,rfl⟩|⟨b,t,f,xs,rfl,l,m,o,p,q⟩;exact .nil _ _;exact .emp _ _ _ _;exact .sl xs l m o p (λi hi j c=>h i hi j c S w _ (q i hi j c))
theorem iy.refl:∀(l:List SV),iy l l
 |[]=> .nil
 |c::l=> .cons (aD.refl c) (iy.refl l)
variable {l':List SV} {S:Nat->Prop} {w:World} {xs:List Value}
theorem iy.rd {l:List SV} (h:iy l l') (r:eA S w xs l):eA S w xs l':=by
 induction h generalizing xs with
 |nil=>exact r
 |cons h _ c=>
  cases r with
  |cons a b=>exact .cons (h S w _ a) (c b)
theorem iy.of_eq {a b:List SV} (h:a=b):iy a b:=h▸iy.refl a
theorem dX.refl (v:DV):dX v v:=λ_ _ _ h=>h
theorem dX.of_eq {a b:DV} (h:a=b):dX a b:=h▸dX.refl a
variable {c c':SV}
theorem dX.one (h:aD c c'):dX (.one c) (.one c'):=λS w x r=>h S w x r
theorem dX.agg {l:List SV} (h:iy l l'):dX (.agg l) (.agg l'):=λS w x r=>by
 obtain⟨xs,a,b⟩:=r;exact⟨xs,a,h.rd b⟩
theorem xX.rd {l l':List DV} (h:xX l l') (r:dA S w xs l):dA S w xs l':=by
 induction h generalizing xs with
 |nil=>exact r
 |cons h _ c=>
  cases r with
  |cons a b=>exact .cons (h S w _ a) (c b)
variable {args:List DV}
theorem ai.mk' {f:FuncId} {K:TV->Prop} {r:TV} (h:lY P f args r) (k:K r):ai P f args K:=⟨r,h,k⟩
theorem lY.le {f:FuncId} {uh:List DV} {r:TV} (a:xX args uh) (h:lY P f uh r):lY P f args r:=
 ⟨h.1,λw S b hS c=>h.2 w S b hS (a.rd c)⟩
theorem lY.eq {f:FuncId} {r a:TV} (h:lY P f args r) (e:r=a):lY P f args a:=e▸h
variable {k:IntKind}
theorem ai.int {f:FuncId} {K:TV->Prop} {e:Int} (h:lY P f args (.d (.one (.v (.int k e))))) (a:∀n,n=e->K (.d (.one (.v (.int k n))))):ai P f args K:=⟨_,h,a e rfl⟩
theorem ai.bool {f:FuncId} {K:TV->Prop} {e:Bool} (h:lY P f args (aE e)) (a:∀b,b=e->K (aE b)):ai P f args K:=⟨_,h,a e rfl⟩
theorem rY.b {P:Program} {T:TypeId} {xs a:List SV} {K:Bool->Prop} {e:Bool} (h:xW P T xs a e) (k:∀b,b=e->K b):rY P T xs a K:=⟨e,h,k e rfl⟩
theorem Fin.rfl' {x:TV}:Fin x x:=⟨λ_ _ _ h=>h⟩
theorem Fin.eq {x r:TV} (h:x=r):Fin x r:=h▸Fin.rfl'
theorem Fin.d {x r:DV} (h:dX x r):Fin (.d x) (.d r):=⟨λS w v k=>h S w v k⟩
theorem Fin.bool {b a:Bool} (h:b=a):Fin (aE b) (aE a):=h▸Fin.rfl'
variable {n':Int}
theorem Fin.int {n:Int} (h:n=n'):Fin (.d (.one (.v (.int k n)))) (.d (.one (.v (.int k n')))):=h▸Fin.rfl'
theorem Fin.agg {l:List SV} (h:iy l l'):Fin (.d (.agg l)) (.d (.agg l')):=Fin.d (dX.agg h)
theorem Fin.one (h:aD c c'):Fin (.d (.one c)) (.d (.one c')):=Fin.d (dX.one h)
theorem Fin.eD {l l':List DV} (h:xX l l'):Fin (.eD l) (.eD l'):=⟨λ_ _ _ ⟨xs,a,b⟩=>⟨xs,a,h.rd b⟩⟩
def cE:List (Nat×TV)->Nat->TV
 |[]=>λ_=> .any
 |p::r=>match p with
  |(k,x)=>bj (cE r) k x
def aQ:List (Id×Mem)->Id->Mem
 |[]=>λ_=> .none
 |p::r=>match p with
  |(k,x)=>bj (aQ r) k x
inductive TA (m':Id->Mem):CR->CR->Prop where
 |s {c c':SV} (h:aD c c'):TA m' (.s c) (.s c')
 |ptr {o:Id} {p:Nat} (h:m' o≠ .none):TA m' (.ptr o p) (.ptr o p)
inductive r4 (m':Id->Mem):List CR->List CR->Prop where
 |nil:r4 m' [] []
 |cons {c c':CR} {l l':List CR} (h:TA m' c c') (r:r4 m' l l'):r4 m' (c::l) (c'::l')
inductive xY (m m':Id->Mem):CV->CV->Prop where
 |s {c c':SV} (h:aD c c'):xY m m' (.s c) (.s c')
 |ptr {o:Id} {p:Nat} (h:m' o≠ .none):xY m m' (.ptr o p) (.ptr o p)
 |aJ {o:Id} {g g':Nat} (h:m' o≠ .none) (hg:g=(m o).gen) (Xo:g'=(m' o).gen):xY m m' (.aJ o g) (.aJ o g')
 |cP {f:FuncId} {c c':List CR} (h:r4 m' c c'):xY m m' (.cP f c) (.cP f c')
inductive r3 (m m':Id->Mem):List CV->List CV->Prop where
 |nil:r3 m m' [] []
 |cons {c c':CV} {l l':List CV} (h:xY m m' c c') (r:r3 m m' l l'):r3 m m' (c::l) (c'::l')
inductive eU (m m':Id->Mem):Mem->Mem->Prop where
 |dead (x:Mem):eU m m' x .dead
 |box {l l':List SV} (h:iy l l'):eU m m' (.box l) (.box l')
 |ro {l l':List SV} (h:iy l l'):eU m m' (.ro l) (.ro l')
 |map (ks:List (List Int)):eU m m' (.map ks) (.map ks)
 |tl {l:List SV} {l':List CV} (h:r3 m m' (l.map .s) l'):eU m m' (.box l) (.obj l')
 |obj {l l':List CV} (h:r3 m m' l l'):eU m m' (.obj l) (.obj l')
 |aL {g g' n k:Nat} {e:TypeId} {get get':Nat->Nat->SV} (h:∀i,i<n->∀j,j<k->aD (get i j) (get' i j)) (hg:g'=1->g=1:=by first|exact λh=>h|exact λh=>absurd h (by decide)):eU m m' (.aL g n k e get) (.aL g' n k e get')
 |FZ {g g' n k:Nat} {e:TypeId} {get:Nat->Nat->SV} {get':Nat->Nat->CV} (h:∀i,i<n->∀j,j<k->xY m m' (.s (get i j)) (get' i j)) (hg:g'=1->g=1:=by first|exact λh=>h|exact λh=>absurd h (by decide)):eU m m' (.aL g n k e get) (.bm g' n k e get')
 |bm {g g' n k:Nat} {e:TypeId} {get get':Nat->Nat->CV} (h:∀i,i<n->∀j,j<k->xY m m' (get i j) (get' i j)) (hg:g'=1->g=1:=by first|exact λh=>h|exact λh=>absurd h (by decide)):eU m m' (.bm g n k e get) (.bm g' n k e get')
variable {m m':Id->Mem}
theorem eU.aR {g g' n n' k:Nat} {e:TypeId} {get get':Nat->Nat->SV} (a:n=n') (h:∀i,i<n->∀j,j<k->aD (get i j) (get' i j)) (b:g'=1->g=1:=by first|exact λh=>h|exact λh=>absurd h (by decide)):eU m m' (.aL g n k e get) (.aL g' n' k e get'):=by
 subst a;exact .aL h b
inductive fk (m m':Id->Mem):List (Id×Mem)->Prop where
 |nil:fk m m' []
 |cons {o:Id} {x:Mem} {r:List (Id×Mem)} (h:eU m m' (m o) x) (hr:fk m m' r):fk m m' ((o,x)::r)
 |none {o:Id} {r:List (Id×Mem)} (hr:fk m m' r):fk m m' ((o,.none)::r)
inductive ar (m:Id->Mem) (m':Id->Mem):TV->TV->Prop where
 |any (x:TV):ar m m' x .any
 |undef:ar m m' .undef .undef
 |data {v v':DV} (h:dX v v'):ar m m' (.d v) (.d v')
 |box {o:Id} {p:Nat} {l l':List SV} (h:m o= .box l) (h':m' o= .box l'):ar m m' (.ptr o p) (.ptr o p)
 |ro {o:Id} {p:Nat} {l l':List SV} (h:m o= .ro l) (h':m' o= .ro l'):ar m m' (.ptr o p) (.ptr o p)
 |ptr {o:Id} {p:Nat} (h:m' o≠ .none):ar m m' (.ptr o p) (.ptr o p)
 |aJ {o:Id} {g g' n k n' k':Nat} (h:(m o).bF=some (g,n,k)) (h':(m' o).bF=some (g',n',k')):ar m m' (.aJ o g) (.aJ o g')
 |sub {o:Id} {g g' lo c n k n' k':Nat} (h:(m o).bF=some (g,n,k)) (h':(m' o).bF=some (g',n',k')):ar m m' (.sub o g lo c) (.sub o g' lo c)
 |ep {o:Id} {g g' i off n k n' k':Nat} (h:(m o).bF=some (g,n,k)) (h':(m' o).bF=some (g',n',k')):ar m m' (.ep o g i off) (.ep o g' i off)
 |cP {f:FuncId} {c c':List CR} (h:r4 m' c c'):ar m m' (.cP f c) (.cP f c')
theorem ar.int {n:Int} (h:n=n'):ar m m' (.d (.one (.v (.int k n)))) (.d (.one (.v (.int k n')))):=h▸ .data (dX.refl _)
theorem ar.same {v:DV}:ar m m' (.d v) (.d v):= .data (dX.refl _)
inductive fj (t:Nat->TV) (m m':Id->Mem):List (Nat×TV)->Prop where
 |nil:fj t m m' []
 |cons {s:Nat} {x:TV} {r:List (Nat×TV)} (h:ar m m' (t s) x) (hr:fj t m m' r):fj t m m' ((s,x)::r)
variable {ms:List (Id×Mem)}
theorem fk.at (h:fk m m' ms) (o:Id):aQ ms o= .none\/eU m m' (m o) (aQ ms o):=by
 induction h with
 |nil=>exact .inl rfl
 |@cons k x r h _ a=>by_cases e:o=k;subst e;right;simp only[aQ,aq];exact h;simp only[aQ,aw _ _ _ e];exact a
 |@none k r _ a=>by_cases e:o=k;subst e;left;simp only[aQ,aq];simp only[aQ,aw _ _ _ e];exact a
variable {ks:List (Nat×TV)}
theorem fj.at {t:Nat->TV} (h:fj t m m' ks) (s:Nat):ar m m' (t s) (cE ks s):=by
 induction h with
 |nil=>exact .any _
 |@cons k x r h _ a=>by_cases e:s=k;subst e;simp only[cE,aq];exact h;simp only[cE,aw _ _ _ e];exact a
variable {x y:Mem}
theorem eU.live (h:eU m m' x y):y.live->x.live:=by cases h<;>first|exact id|exact λh=>h.elim
theorem eU.ne (h:eU m m' x y):y≠ .none:=by cases h<;>simp
theorem eU.shape (h:eU m m' x y):y= .dead\/(x.dr=true/\y.dr=true)\/(∃g b n k,x.bF=some (g,n,k)/\y.bF=some (b,n,k)/\(b=1->g=1))\/(∃ks,x= .map ks/\y= .map ks):=by
 cases h with
 |dead x=>exact .inl rfl
 |map ks=>exact .inr (.inr (.inr ⟨ks,rfl,rfl⟩))
 |aL _ a=>exact .inr (.inr (.inl ⟨_,_,_,_,rfl,rfl,a⟩))
 |FZ _ a=>exact .inr (.inr (.inl ⟨_,_,_,_,rfl,rfl,a⟩))
 |bm _ a=>exact .inr (.inr (.inl ⟨_,_,_,_,rfl,rfl,a⟩))
 |_=>exact .inr (.inl ⟨rfl,rfl⟩)
theorem r4.refs {c c':List CR} (h:r4 m' c c'):∀o,(∃x∈c',x.refs o)->m' o≠ .none:=by
 induction h with
 |nil=>rintro o ⟨x,b,_⟩;simp at b
 |cons a _ g=>
  rintro o ⟨x,b,f⟩;rcases XD.1 b with rfl|b
  ·cases a with
   |s h=>exact f.elim
   |ptr h=>cases f;exact h
  ·exact g o ⟨x,b,f⟩
theorem xY.refs {c c':CV} (h:xY m m' c c'):∀o,c'.refs o->m' o≠ .none:=by
 intro o a;cases h with
 |s h=>exact a.elim
 |ptr h=>cases a;exact h
 |aJ h _ _=>cases a;exact h
 |cP h=>exact h.refs o a
theorem r3.refs {c c':List CV} (h:r3 m m' c c'):∀o,(∃x∈c',x.refs o)->m' o≠ .none:=by
 induction h with
 |nil=>rintro o ⟨x,b,_⟩;simp at b
 |cons a _ g=>rintro o ⟨x,b,f⟩;rcases XD.1 b with rfl|b;exact a.refs o f;exact g o ⟨x,b,f⟩
theorem eU.refs (h:eU m m' x y):∀o,y.refs o->m' o≠ .none:=by
 intro o a;cases h with
 |tl h=>exact h.refs o a
 |obj h=>exact h.refs o a
 |FZ h _=>obtain⟨i,j,hi,b,a⟩:=a;exact(h i hi j b).refs o a
 |bm h _=>obtain⟨i,j,hi,b,a⟩:=a;exact(h i hi j b).refs o a
 |_=>exact a.elim
section
variable {S S':Nat->Prop} {m m':Id->Mem} {ρ:Id->Option (Nat×Nat)} {w:World}
theorem r4.rd (g:∀b,S b->S' b) (i:∀o p x,m' o≠ .none->bg m ρ x o p->bg m' ρ x o p) {c c':List CR} (h:r4 m' c c'):∀{xs:List Value},qF S m ρ w xs c->qF S' m' ρ w xs c':=by
 induction h with
 |nil=>intro xs f;cases f;exact .nil
 |cons a _ j=>
  intro xs f;cases f with
  |cons p q=>
   refine .cons ?_ (j q);cases a with
   |s h=>exact h _ _ _ (Rd.mono (λb k=>⟨g b k,rfl⟩) p)
   |ptr h=>exact i _ _ _ h p
theorem xY.rd (f:∀b,S b->S' b) (g:∀o p x,m' o≠ .none->bg m ρ x o p->bg m' ρ x o p) (i:∀o x,m' o≠ .none->bB m ρ x o (m o).gen->bB m' ρ x o (m' o).gen) {c c':CV} (h:xY m m' c c') {x:Value} (a:kR S m ρ w x c):kR S' m' ρ w x c':=by
 cases h with
 |s h=>exact h _ _ _ (Rd.mono (λb j=>⟨f b j,rfl⟩) a)
 |ptr h=>exact g _ _ _ h a
 |aJ h k l=>subst k l;exact i _ _ h a
 |cP h=>obtain⟨q,r,t⟩:=a;exact⟨q,r,h.rd f g t⟩
theorem r3.rd (g:∀b,S b->S' b) (i:∀o p x,m' o≠ .none->bg m ρ x o p->bg m' ρ x o p) (j:∀o x,m' o≠ .none->bB m ρ x o (m o).gen->bB m' ρ x o (m' o).gen) {c c':List CV} (h:r3 m m' c c'):∀{xs:List Value},fV S m ρ w xs c->fV S' m' ρ w xs c':=by
 induction h with
 |nil=>intro xs f;cases f;exact .nil
 |cons a _ k=>
  intro xs f;cases f with
  |cons p q=>exact .cons (a.rd g i j p) (k q)
end
theorem qJ {t:Nat->TV} (b0:fk m (aQ ms) ms) (a6:fj t m (aQ ms) ks):Wk t m (cE ks) (aQ ms):=by
 intro E ρ a w J;generalize b1:aQ ms=m' at*;have T:∀o,m' o= .none\/eU m m' (m o) (m' o):=λo=>by have:=b0.at o;rwa [b1]at this
 have a3:∀o,m' o≠ .none->eU m m' (m o) (m' o):=λo O=>(T o).resolve_left O;have a1:∀o,(m' o).live->(m o).live:=λo l=>by rcases T o with h|h;rw[h]at l;exact l.elim;exact h.live l
 have C:∀b,L E m ρ w b->L E m' ρ w b:=λb a7=>⟨a7.1,λo c l r=>a7.2 o c (a1 o l) r⟩;have H:∀o p x,m' o≠ .none->bg m ρ x o p->bg m' ρ x o p:=by intro o p x O h;rcases(a3 o O).shape with e|⟨f,u⟩|⟨g,K,n,k,f,_,_⟩|⟨ks,f,u⟩;simp only[bg,e];exact h.bG;exact(bO u).2 ((bO f).1 h);exact absurd h (hV f);simp only[bg,f,u]at h|-;exact h
 have P:∀o x,m' o≠ .none->bB m ρ x o (m o).gen->bB m' ρ x o (m' o).gen:=by intro o x O h;rcases(a3 o O).shape with e|⟨f,u⟩|⟨g,K,n,k,f,u,_⟩|⟨ks,f,u⟩;simp only[bB,e];exact⟨h.1,trivial⟩;exact(fF u).2 h.1;rw[cN f,br f]at h;rw[cN u,br u];exact⟨h.1,XU _,λ_=>h.2.2 rfl⟩;simp only[bB,u];exact⟨h.1,trivial⟩
 have a8:∀o g n k K n' Q,(m o).bF=some (g,n,k)->(m' o).bF=some (K,n',Q)->n=n'/\k=Q:=by
  intro o g n k K n' Q h z;rcases(a3 o (cM z).2).shape with e|⟨f,u⟩|⟨q,b7,b8,b9,f,u,_⟩|⟨ks,f,u⟩
  rotate_left 3
  ·rw[u]at z;simp[Mem.bF]at z
  ·rw[e]at z;simp[Mem.bF]at z
  ·exfalso;revert f h;cases m o<;>simp[Mem.dr,Mem.bF]
  ·rw[h]at f;rw[z]at u;simp at f u;exact⟨f.2.1.trans u.2.1.symm,f.2.2.trans u.2.2.symm⟩
 refine⟨ρ,{below:=J.below,defers:=J.defers.mono (λb I=>⟨C b I,rfl⟩),size:=J.size,inj:=λo a2 b c c' l l'=>J.inj o a2 b c c' (a1 o l) (a1 a2 l'),lo:=λo b c l=>J.lo o b c (a1 o l),clean:=?clean,cleanM:=?cleanM,mem:=?mem,slots:=?slots,carry:=?carry}⟩
 case clean=>
  intro s o A;have h:=a6.at s;generalize cE ks s=y at h A;generalize t s=x at h;cases h with
  |box h z=>cases A;rw[z];simp
  |ro h z=>cases A;rw[z];simp
  |ptr h=>cases A;exact h
  |aJ h z=>cases A;exact(cM z).2
  |sub h z=>cases A;exact(cM z).2
  |ep h z=>cases A;exact(cM z).2
  |cP h=>exact h.refs o A
  |_=>exact A.elim
 case cleanM=>
  intro o a2 A;rcases T o with h|h;rw[h]at A;exact A.elim;exact h.refs a2 A
 case mem=>
  intro o;rcases T o with h|h;rw[h];trivial
  ·have F:=J.mem o;revert F h;generalize m o=x;generalize m' o=y;intro h F;cases h with
   |dead=>trivial
   |map ks=>exact F
   |box h=>obtain⟨b,c,xs,e,f,u,B⟩:=F;exact⟨b,c,xs,e,f,u,h.rd (B.mono (λb I=>⟨C b I,rfl⟩))⟩
   |ro h=>obtain⟨b,c,xs,e,f,b2,u,B⟩:=F;exact⟨b,c,xs,e,f,C b b2,u,h.rd (B.mono (λb I=>⟨C b I,rfl⟩))⟩
   |tl h=>obtain⟨b,c,xs,e,f,u,B⟩:=F;exact⟨b,c,xs,e,f,u,h.rd (S:=L E m ρ w) C H P (fV.LB B)⟩
   |obj h=>obtain⟨b,c,xs,e,f,u,B⟩:=F;exact⟨b,c,xs,e,f,u,h.rd C H P B⟩
   |aL h _=>rcases F with f|⟨b,U,V,f,u,B,X,Y,Z⟩;exact .inl f;refine .inr ⟨b,U,V,f,u,B,X,Y,λi M j N=>?_⟩;obtain⟨x,a0,A⟩:=Z i M j N;exact⟨x,a0,h i M j N _ _ _ (A.mono (λb I=>⟨C b I,rfl⟩))⟩
   |FZ h _=>rcases F with f|⟨b,U,V,f,u,B,X,Y,Z⟩;exact .inl f;refine .inr ⟨b,U,V,f,u,B,X,Y,λi M j N=>?_⟩;obtain⟨x,a0,A⟩:=Z i M j N;exact⟨x,a0,(h i M j N).rd (S:=L E m ρ w) C H P A⟩
   |bm h _=>rcases F with f|⟨b,U,V,f,u,B,X,Y,Z⟩;exact .inl f;refine .inr ⟨b,U,V,f,u,B,X,Y,λi M j N=>?_⟩;obtain⟨x,a0,A⟩:=Z i M j N;exact⟨x,a0,(h i M j N).rd C H P A⟩
 case slots=>
  intro s;have G:=J.slots s;have h:=a6.at s;generalize cE ks s=y at h;generalize t s=x at h G;cases h with
  |any=>trivial
  |undef=>exact G
  |data h=>exact h _ _ _ (lU.mono (λb I=>⟨C b I,rfl⟩) G)
  |box h z=>exact H _ _ _ (by rw[z];simp) G
  |ro h z=>exact H _ _ _ (by rw[z];simp) G
  |ptr h=>exact H _ _ _ h G
  |@aJ o g K n k n' Q h z=>have:=P o _ (cM z).2 (by rw[cN h];exact G);rw[cN z]at this;exact this
  |@sub o g K lo c n k n' Q h z=>obtain⟨rfl,rfl⟩:=a8 o _ _ _ _ _ _ h z;obtain⟨b3,_,a4⟩:=(dk h).1 G;exact(dk z).2 ⟨b3,XU _,λ_=>a4 rfl⟩
  |@ep o g K i c0 n k n' Q h z=>obtain⟨rfl,rfl⟩:=a8 o _ _ _ _ _ _ h z;obtain⟨_,a4⟩:=(dq h).1 G;exact(dq z).2 ⟨XU _,λ_=>a4 rfl⟩
  |cP h=>obtain⟨b4,b5,b6⟩:=G;exact⟨b4,b5,h.rd C H b6⟩
 case carry=>
  intro o O;have a5:=J.carry o O;rcases T o with h|h;refine⟨λx p R=>?_,λx D R=>?_⟩;have:=(a5.ptr x p R).bG;simp only[bg,h];exact this;rw[h]at D;simp[Mem.gen]at D
  ·refine⟨λx p R=>H o p x h.ne (a5.ptr x p R),λx D R=>?_⟩;have a9:(m o).gen=1:=by
    rcases h.shape with e|⟨f,u⟩|⟨g,K,n,k,f,u,B⟩|⟨ks,f,u⟩
    rotate_left 3
    ·rw[u]at D;simp[Mem.gen]at D
    ·rw[e]at D;simp[Mem.gen]at D
    ·rw[od u]at D;omega
    ·rw[cN u]at D;rw[cN f];exact B D
   have:=P o x h.ne (by rw[a9];exact a5.aJ x a9 R)
   rwa [D]at this
variable {J:(Nat->TV)->(Id->Mem)->Prop}
theorem aG.ic {t:Nat->TV} (ks:List (Nat×TV)) (ms:List (Id×Mem)) (a:fk m (aQ ms) ms) (b:fj t m (aQ ms) ks) (h:J (cE ks) (aQ ms)):aG t m J:=
 ⟨_,_,qJ a b,h⟩
theorem aG.nil {t:Nat->TV} (s o k:Nat) (e:TypeId) (get:Nat->Nat->SV) (hs:t s= .d (.one (.v (.slice none 0 0)))) (g:m (.n o)= .none)
  (h:aG (bj t s (.aJ (.n o) 0)) (bj m (.n o) (.aL 0 0 k e get)) J) (j:o<2000:=by decide):aG t m J:=by
 obtain⟨l,m',p,q⟩:=h;refine⟨l,m',λE ρ a w r=>?_,q⟩;obtain⟨b,u⟩:=r.wP (.n o) 0 k e get ⟨by omega,.inl ⟨g,E.PG o j⟩⟩;refine p E (bj ρ (.n o) none) a w {b with clean:=?_,slots:=?_};intro i x c;by_cases hi:i=s;subst hi;rw[aq]at c;cases c;rw[aq];simp;rw[aw _ _ _ hi]at c;exact b.clean i x c;intro i;by_cases hi:i=s;subst hi;rw[aq];have f:=b.slots i;rw[hs]at f;have y:=(Rd.bT (show Rd _ _ _ _ from f)).1;rw[y];exact u;rw[aw _ _ _ hi];exact b.slots i
theorem aG.freeze {t:Nat->TV} (s:Nat) (o:Id) (g n k:Nat) (e:TypeId) (get:Nat->Nat->SV) (hs:t s= .aJ o g) (u:m o= .aL g n k e get)
  (h:aG (bj t s (.d (.one (.sl n k get)))) (bj m o .dead) J):aG t m J:=by
 obtain⟨Q,m',R,S⟩:=h;refine⟨Q,m',λE ρ a w f=>?_,S⟩;have T:Rd (Sx E m ρ w [o] false) w (a.tmps.getD s Go.undef) (.sl n k get):=by have D:=f.slots s;rw[hs]at D;have a2:=(lR.aL (m:=m) (ks:=[o.key]) (o:=o) (by simp) u).rd (E:=E) (ρ:=ρ) (λ_ _=>rfl) f.toOwn _ D;have U:(m o).bF=some (g,n,k):=(by rw[u];rfl);have A:=((br U).1 D).2.2 rfl;have N:=f.mem o;rw[u]at N;rcases N with⟨B,V⟩|⟨a3,X,arr,B,Y,a4,Z,a0,O⟩;simp only[cu,B]at A;rw[A,V];exact Rd.nil k get;simp only[cu,B]at A;rw[A];refine Rd.sl (λi j=>(arr[i*k+j]?).getD Go.undef) (.inr ⟨o,.inl (by simp),cT u,X,B⟩) Z a0 (λi hi j F=>?_) (λi hi j F=>?_);obtain⟨y,G,_⟩:=O i hi j F;simp[World.cell?,Y,G];obtain⟨y,G,p⟩:=O i hi j F;simp only[G,Yt];exact p.mono (λb q=>⟨.inl q,rfl⟩)
 have H:=f.Be o (by rw[u];simp);refine R E ρ a w {H with clean:=?_,slots:=?_};intro i x p;by_cases hi:i=s;subst hi;rw[aq]at p;exact p.elim;rw[aw _ _ _ hi]at p;exact H.clean i x p;intro i;by_cases hi:i=s;subst hi;rw[aq];refine Rd.mono (λb q=>⟨?_,rfl⟩) T;rcases q with q|⟨x,C,l,c',P⟩;refine⟨q.1,λz I c K=>?_⟩;by_cases r:z=o;subst r;rw[aq]at c;exact c.elim;rw[aw _ _ _ r]at c;exact q.2 z I c K;have C:=C.resolve_right (λe=>by cases e);simp only[Yr]at C;subst C;obtain⟨M,a1⟩:=f.lo x b c' l P;refine⟨.inr (M.imp id (λM=>⟨M,a1⟩)),λz I c K=>?_⟩;by_cases r:z=x;subst r;rw[aq]at c;exact c.elim;rw[aw _ _ _ r]at c;exact r (f.inj z x b I c' c l K P);rw[aw _ _ _ hi];exact H.slots i
def Kept {α:Type} (ks:α->List (Nat×TV)) (ms:α->List (Id×Mem)) (a:α->Prop) (x:α) (t:Nat->TV) (m:Id->Mem):Prop:=a x/\t=cE (ks x)/\m=aQ (ms x)
variable {α:Type}
theorem aG.at {t:Nat->TV} {ks:α->List (Nat×TV)} {ms:α->List (Id×Mem)} {inv:α->Prop} (y:α) (hi:inv y) (a:fk m (aQ (ms y)) (ms y)) (b:fj t m (aQ (ms y)) (ks y)):
  aG t m (λt m=>∃x,Kept ks ms inv x t m):=⟨_,_,qJ a b,y,hi,rfl,rfl⟩
theorem aG.back {t:Nat->TV} {ks:α->List (Nat×TV)} {ms:α->List (Id×Mem)} {inv:α->Prop} {rank:α->Nat} {x:α} (y:α) (hi:inv y) (a:rank y<rank x) (b:fk m (aQ (ms y)) (ms y)) (c:fj t m (aQ (ms y)) (ks y)):
  aG t m (λf g=>∃y,Kept ks ms inv y f g/\rank y<rank x):=⟨_,_,qJ b c,y,⟨hi,rfl,rfl⟩,a⟩
variable {Q:iW}
theorem Loop.by {body:iW->(Nat->TV)->(Id->Mem)->Prop} {t:Nat->TV} (ks:α->List (Nat×TV)) (ms:α->List (Id×Mem)) (inv:α->Prop) (rank:α->Nat) (g:aG t m λt m=>∃x,Kept ks ms inv x t m)
  (i:∀x,inv x->body (λe c f=>match e with
   | .normal=>aG c f λa b=>∃y,Kept ks ms inv y a b/\rank y<rank x
   |e=>Q e c f) (cE (ks x)) (aQ (ms x))):Loop body Q t m:=
 ⟨α,Kept ks ms inv,λx t m=>aG t m λa b=>∃y,Kept ks ms inv y a b/\rank y<rank x,rank,g,λ_ _ _ h=>h,λx l m' ⟨hi,j,k⟩=>by subst j k;exact i x hi⟩
def Il (body:iW->(Nat->TV)->(Id->Mem)->Prop) (Q:iW):Nat->(Nat->TV)->(Id->Mem)->Prop
 |0,_,_=>False
 |n+1,t,m=>body (λe t m=>match e with
   | .normal=>Il body Q n t m
   |e=>Q e t m) t m
theorem Wk.refl (t:Nat->TV) (m:Id->Mem):Wk t m t m:=λ_ ρ _ _ h=>⟨ρ,h⟩
theorem Loop.vH {body:iW->(Nat->TV)->(Id->Mem)->Prop} {t:Nat->TV} (n:Nat) (h:Il body Q n t m):Loop body Q t m:=by
 refine⟨Nat,Il body Q,λx t m=>match x with|0=>False|k+1=>Il body Q k t m,id,⟨t,m,Wk.refl t m,n,h⟩,λx t m a=>?_,λx b m' hi=>?_⟩
 ·cases x with
  |zero=>exact a.elim
  |succ k=>exact⟨t,m,Wk.refl t m,k,a,Nat.lt_succ_self k⟩
 ·cases x with
  |zero=>exact hi.elim
  |succ k=>exact hi
abbrev iv (n:Int):Value:= .int .i64 n
open Classical in
def pK (P:Program) (k:Nat) (t:TypeId) (T:Ty) (C:List Value->Prop):Prop:=(∀xs,C xs->xs.length=T.size)/\∀d,k<=d->∀(w:World) (xs a:List Value),C xs->C a->
 (Op.equalIn d t (pack T.kind.isAgg xs) (pack T.kind.isAgg a)).run P w= .ok (decide (xs=a)) w
abbrev TB (xs:List Value):Prop:=∃a,xs=[iv a]
variable {P:Program} {T:Ty}
theorem pK.int {t:TypeId} (c:P.underlying t=some (.int .i64)) (f:T.kind.isAgg=false) (g:T.size=1):pK P 1 t T TB:=by
 refine⟨λi ⟨a,e⟩=>by rw[e,g];rfl,?_⟩;rintro d j w i k ⟨a,rfl⟩ ⟨b,rfl⟩;obtain⟨d,rfl⟩:∃e,d=e+1:=⟨d-1,by omega⟩;rw[f];have:=run_equalIn_int (P:=P) w d t .i64 .i64 a b c;simp only[pack];refine this.trans ?_;congr 1;by_cases h:a=b<;>simp[h]
variable {k:Nat} {C:List Value->Prop}
theorem pK.mono {a:Nat} {t:TypeId} (h:pK P k t T C) (b:k<=a):pK P a t T C:=⟨h.1,λd c=>h.2 d (Yg b c)⟩
inductive lS (P:Program) (k:Nat):Nat->List Field->Nat->(List Value->Prop)->Prop where
 |nil (off:Nat):lS P k off [] off (λxs=>xs=[])
 |cons {off Xb:Nat} {f:Field} {fs:List Field} {TF:Ty} {C CS:List Value->Prop} (hn:f.name≠ "_") (ho:f.offset=off) (hT:cO P f.type TF) (h1:TF.kind.isAgg=false->TF.size=1) (he:pK P k f.type TF C)
   (r:lS P k (off+TF.size) fs Xb CS):lS P k off (f::fs) Xb (λxs=>∃a b,xs=a++b/\C a/\CS b)
variable {CS:List Value->Prop}
open Classical in
theorem lS.run {off o:Nat} {r:List Field} (h:lS P k off r o CS):(∀xs,CS xs->off+xs.length=o)/\∀d,k<=d->∀(w:World) (p q xs c:List Value),p.length=off->q.length=off->CS xs->CS c->
  (Op.eqFields d (p++xs).toArray (q++c).toArray r).run P w= .ok (decide (xs=c)) w:=by
 induction h with
 |nil off=>refine⟨λxs h=>by subst h;rfl,λd _ w p q xs c _ _ H I=>?_⟩;subst H I;simp[Op.eqFields]
 |@cons off o f r t C CS J K M N l _ u=>
  obtain⟨O,u⟩:=u;refine⟨?_,?_⟩;rintro xs ⟨a,b,rfl,m,x⟩;have y:=l.1 a m;have R:=O b x;simp only[XQ];omega
  ·rintro d B w p q xs c g D ⟨a,b,rfl,m,x⟩ ⟨i,z,rfl,E,Q⟩;have j:=l.1 a m;have F:=l.1 i E;have G:=λ(p a b:List Value) (g:p.length=off) (j:a.length=t.size)=>wh M w (p++(a++b)) f.offset (by simp;omega) N;have y:∀p a b:List Value,p.length=off->a.length=t.size->((p++(a++b)).drop f.offset).take t.size=a:=λp a b g j=>by rw[K,<-g,List.drop_left,<-j,abV]
   simp only[Op.eqFields,Sem.run_ite,Sem.run_bind,XL J,G p a b g j,G q i z D F,Result.andThen_ok,y p a b g j,y q i z D F];rw[l.2 d B w a i m E];simp only[Result.andThen_ok];by_cases A:a=i;subst A;simp only[decide_true,Bool.not_true,Y6,aaa];rw[<-Yk,<-Yk,u d B w (p++a) (q++a) b z (by simp;omega) (by simp;omega) x Q];congr 2;simp;simp only[A,decide_false,Bool.not_false,aaD,Sem.run_pure];congr 1;symm;rw[Zm];intro h;exact A (List.append_inj_left h (by omega))
theorem pK.str {t:TypeId} (f:T.kind.isAgg=true) (g:P.underlying t=some (.struct (P.fieldsOf t))) (hs:P.stoodInHeld t=false) (b:lS P k 0 (P.fieldsOf t).toList T.size CS):pK P (k+1) t T CS:=by
 refine⟨λa h=>by have:=(b.run).1 a h;omega,λd l w a c i j=>?_⟩;obtain⟨d,rfl⟩:∃e,d=e+1:=⟨d-1,by omega⟩;rw[f];show(Op.equalIn (d+1) t (.agg a.toArray) (.agg c.toArray)).run P w=_;rw[run_equalIn_struct w d t _ _ g hs];exact(b.run).2 d (by omega) w [] [] a c rfl rfl i j
theorem eA.Rw {S:Nat->Prop} {w:World}:∀{us:List Value} {xs:List Value},eA S w us (xs.map SV.v)->us=xs
 |us,[],h=>by cases h;rfl
 |us,x::xs,h=>by
  cases h with
  |cons a b=>rw[(Rd.bT a).1,eA.Rw b]
theorem pK.fact {t:TypeId} (h:pK P k t T C) (c:k<=10000) (f:T.kind.isAgg=true) (g:P.eqGuardType P.depth t=false) (xs a:List Value) (i:C xs) (j:C a) (b:Bool) (l:b=true↔xs=a):
  xW P t (xs.map SV.v) (a.map SV.v) b:=by
 refine⟨g,λS w p q m o=>?_⟩;rw[eA.Rw m,eA.Rw o];have:=h.2 10000 c w xs a i j;rw[f]at this;refine Eq.trans this ?_;congr 1
 classical
 rw[Zw,X0,l]
abbrev TN (k:IntKind) (n:Int):Prop:=(Lit.int k n).wf=true
abbrev VZ (n:Int):Prop:= -9223372036854775808<=n/\n<9223372036854775808
theorem TN.i64 {n:Int} (h:TN .i64 n):VZ n:=by
 simp[TN,Lit.wf,IntKind.min,IntKind.max,IntKind.bits,IntKind.signed]at h;omega
abbrev bW (n:Int):Int:=IntKind.i64.wrap n
theorem Oh (n:Int):bW n=if n%18446744073709551616>=9223372036854775808 then n%18446744073709551616-18446744073709551616 else n%18446744073709551616:=by
 simp[bW,IntKind.wrap,IntKind.bits,IntKind.signed]
theorem r8 {n:Int} (h:VZ n):bW n=n:=by
 rw[Oh];obtain⟨a,b⟩:=h;split<;>omega
variable {cs:List SV}
theorem ju.Hx {t:TypeId} {k:IntKind} (a:P.underlying t=some (.int k)) (h:ju P t cs):∃n,cs=[.v (.int k n)]/\TN k n:=by
 cases h with
 |bool b h=>rw[a]at h;cases h
 |int h hw=>rw[a]at h;cases h;exact⟨_,rfl,hw⟩
 |str h _=>rw[a]at h;cases h
 |jz h _ _ _=>rw[a]at h;cases h
 |struct h _ _=>rw[a]at h;cases h
 |arr h _ _=>rw[a]at h;cases h
theorem ju.Hy {t:TypeId} (a:P.underlying t=some (.int .i64)) (h:ju P t cs):∃n,cs=[i64 n]/\VZ n:=by
 obtain⟨n,e,h⟩:=ju.Hx a h;exact⟨n,e,h.i64⟩
theorem ju.Hw {t e:TypeId} (a:P.underlying t=some (.slice e)) (h:ju P t cs):∃n get,cs=[.sl n (P.cellsOf e) get]/\n<=maxLen/\∀i,i<n->ju P e (cells (P.cellsOf e) (get i)):=by
 cases h with
 |bool b h=>rw[a]at h;cases h
 |int h hw=>rw[a]at h;cases h
 |str h _=>rw[a]at h;cases h
 |jz h c f g=>rw[a]at h;cases h;subst c;exact⟨_,_,rfl,f,g⟩
 |struct h _ _=>rw[a]at h;cases h
 |arr h _ _=>rw[a]at h;cases h
theorem ju.vk {t:TypeId} {c:Array Field} (a:P.underlying t=some (.struct c)) (h:ju P t cs):cs.length=P.cellsOf t/\∀f∈c.toList,ju P f.type ((cs.drop f.offset).take (P.cellsOf f.type)):=by
 cases h with
 |bool b h=>rw[a]at h;cases h
 |int h hw=>rw[a]at h;cases h
 |str h _=>rw[a]at h;cases h
 |jz h _ _ _=>rw[a]at h;cases h
 |struct h g i=>rw[a]at h;cases h;exact⟨g,i⟩
 |arr h _ _=>rw[a]at h;cases h
theorem ju.field {t:TypeId} (h:ju P t cs) {F:Array Field} (c:P.underlying t=some (.struct F)) (i off size:Nat) (b:TypeId) (hi:(F[i]?).map (λf=>(f.offset,f.type,P.cellsOf f.type))=some (off,b,size)):
  ju P b ((cs.drop off).take size):=by
 cases a:F[i]? with
 |none=>rw[a]at hi;cases hi
 |some f=>rw[a]at hi;simp only[aaA,Ze,Zx]at hi;obtain⟨rfl,rfl,rfl⟩:=hi;exact(ju.vk c h).2 f (aby.2 (Array.mem_of_getElem? a))
theorem tp.agg {t:TypeId} {v:DV} (a:ui P t=true) (h:tp P t v):∃cs,v= .agg cs/\ju P t cs:=by
 cases v with
 |one c=>have:=h.1;rw[a]at this;cases this
 |agg cs=>exact⟨cs,rfl,h.2⟩
theorem tp.one {t:TypeId} {v:DV} (a:ui P t=false) (h:tp P t v):∃c,v= .one c/\ju P t [c]:=by
 cases v with
 |one c=>exact⟨c,rfl,h.2⟩
 |agg cs=>have:=h.1;rw[a]at this;cases this
theorem tp.int {t:TypeId} {k:IntKind} {v:DV} (a:ui P t=false) (b:P.underlying t=some (.int k)) (h:tp P t v):∃n,v= .one (.v (.int k n))/\TN k n:=by
 obtain⟨c,rfl,f⟩:=tp.one a h;obtain⟨n,e,g⟩:=ju.Hx b f;cases e;exact⟨n,rfl,g⟩
theorem uO.w9 {t:TypeId} {a:List TypeId} {b:List DV} (h:uO P (t::a) b):∃v r,b=v::r/\tp P t v/\uO P a r:=by
 cases h with
 |cons h r=>exact⟨_,_,rfl,h,r⟩
def wI (n:Nat) (f:Bool):Id->Bool
 | .n k=>(Nat.ble 2000 k&&Nat.blt k (2000+n))||(f&&Nat.beq k 3000)
 | .s _ _=>false
def CR.okB (a:Id->Bool):CR->Bool
 | .s _=>true
 | .ptr o _=>a o
def Ng (a:Id->Bool):List CR->Bool
 |[]=>true
 |c::r=>c.okB a&&Ng a r
def CV.okB (a:Id->Bool) (gen:Id->Nat):CV->Bool
 | .s _=>true
 | .ptr o _=>a o
 | .aJ o g=>a o&&Nat.beq g (gen o)
 | .cP _ b=>Ng a b
def P0 (a:Id->Bool) (gen:Id->Nat):List CV->Bool
 |[]=>true
 |c::r=>c.okB a gen&&P0 a gen r
def Mem.okB (a:Id->Bool) (gen:Id->Nat):Mem->Bool
 | .obj b=>P0 a gen b
 | .bm .. =>false
 |_=>true
def CZ (a:Id->Bool) (gen:Id->Nat):List Mem->Bool
 |[]=>true
 |c::r=>c.okB a gen&&CZ a gen r
def TV.okB (a:Id->Bool) (gen:Id->Nat):TV->Bool
 | .ptr o _=>a o
 | .aJ o g=>a o&&Nat.beq g (gen o)
 | .cP _ b=>Ng a b
 | .d _=>true
 | .eD _=>true
 |_=>false
def Ol (a:Id->Bool) (gen:Id->Nat):List TV->Bool
 |[]=>true
 |c::r=>c.okB a gen&&Ol a gen r
def Mem.isNone:Mem->Bool
 | .none=>true
 |_=>false
def TG:List Mem->Bool
 |[]=>true
 |x::r=>Nat.blt 0 x.kind&&TG r
def Us (args:List TV) (ms:List Mem) (r:TV) (gE:List Mem) (fr:Mem):Bool:=
 Nat.ble ms.length 1000&&Dc ms gE&&TG ms&&Ol (wI ms.length false) (λo=>(jJ 2000 ms o).gen) args&&CZ (wI ms.length false) (λo=>(jJ 2000 ms o).gen) ms&&
  r.okB (wI ms.length (!fr.isNone)) (λo=>(fE gE fr o).gen)&&CZ (wI ms.length (!fr.isNone)) (λo=>(fE gE fr o).gen) (fr::gE)
theorem Bu {f:Id->Bool}:∀{l:List CR},Ng f l=true->∀o,(∃c∈l,c.refs o)->f o=true
 |[],_,o,⟨c,a,_⟩=>by simp at a
 |g::r,h,o,⟨c,a,b⟩=>by
  simp only[Ng,XJ]at h;rcases XD.1 a with rfl|a
  ·cases c with
   |s c=>exact b.elim
   |ptr i p=>cases b;exact h.1
  ·exact Bu h.2 o ⟨c,a,b⟩
theorem CV.kJ {b:Id->Bool} {gen:Id->Nat} {c:CV} (h:c.okB b gen=true):(∀o,c.refs o->b o=true)/\∀m:Id->Mem,(∀o,(m o).gen=gen o)->c.cur m:=by
 cases c with
 |s c=>exact⟨λo a=>a.elim,λ_ _=>trivial⟩
 |ptr o p=>exact⟨λo a=>by cases a;exact h,λ_ _=>trivial⟩
 |aJ o g=>simp only[CV.okB,XJ]at h;exact⟨λo a=>by cases a;exact h.1,λm i=>by show g=_;rw[i];exact XE h.2⟩
 |cP f j=>exact⟨λo a=>Bu h o a,λ_ _=>trivial⟩
theorem Br {b:Id->Bool} {gen:Id->Nat}:∀{l:List CV},P0 b gen l=true->∀c∈l,c.okB b gen=true
 |[],_,c,a=>by simp at a
 |f::r,h,c,a=>by simp only[P0,XJ]at h;rcases XD.1 a with rfl|a;exact h.1;exact Br h.2 c a
theorem Mem.kJ {f:Id->Bool} {gen:Id->Nat} {x:Mem} (h:x.okB f gen=true):(∀o,x.refs o->f o=true)/\∀m:Id->Mem,(∀o,(m o).gen=gen o)->x.cur m:=by
 cases x with
 |obj i=>exact⟨λo ⟨c,a,b⟩=>(CV.kJ (Br h c a)).1 o b,λm g c a=>(CV.kJ (Br h c a)).2 m g⟩
 |bm=>simp[Mem.okB]at h
 |_=>exact⟨λo b=>b.elim,λ_ _=>trivial⟩
theorem ra {b:Id->Bool} {gen:Id->Nat}:∀{l:List Mem},CZ b gen l=true->∀c∈l,c.okB b gen=true
 |[],_,c,a=>by simp at a
 |f::r,h,c,a=>by simp only[CZ,XJ]at h;rcases XD.1 a with rfl|a;exact h.1;exact ra h.2 c a
theorem TV.kJ {b:Id->Bool} {gen:Id->Nat} {c:TV} (h:c.okB b gen=true):(∀o,c.refs o->b o=true)/\∀m:Id->Mem,(∀o,(m o).gen=gen o)->c.cur m:=by
 cases c with
 |ptr o p=>exact⟨λo a=>by cases a;exact h,λ_ _=>trivial⟩
 |aJ o g=>simp only[TV.okB,XJ]at h;exact⟨λo a=>by cases a;exact h.1,λm i=>by show g=_;rw[i];exact XE h.2⟩
 |cP f j=>exact⟨λo a=>Bu h o a,λ_ _=>trivial⟩
 |d v=>exact⟨λo a=>a.elim,λ_ _=>trivial⟩
 |eD v=>exact⟨λo a=>a.elim,λ_ _=>trivial⟩
 |_=>simp[TV.okB]at h
theorem Gg {b:Id->Bool} {gen:Id->Nat}:∀{l:List TV},Ol b gen l=true->∀c∈l,c.okB b gen=true
 |[],_,c,a=>by simp at a
 |f::r,h,c,a=>by simp only[Ol,XJ]at h;rcases XD.1 a with rfl|a;exact h.1;exact Gg h.2 c a
theorem LF:∀{l:List Mem},TG l=true->∀x∈l,x≠ .none
 |[],_,c,a=>by simp at a
 |b::r,h,c,a=>by simp only[TG,XJ]at h;rcases XD.1 a with rfl|a;intro e;rw[e]at h;simp[Mem.kind,Nat.blt]at h;exact LF h.2 c a
variable {args:List TV} {ms gE:List Mem} {fr:Mem}
theorem fe {r:TV} (h:Us args ms r gE fr=true):NX args ms r gE fr:=by
 simp only[Us,XJ]at h;obtain⟨⟨⟨⟨⟨⟨l,m⟩,C⟩,D⟩,E⟩,p⟩,q⟩:=h;have H:=XI l;obtain⟨I,F⟩:=oZ _ _ m;have t:∀o,wI ms.length false o=true->jJ 2000 ms o≠ .none:=by
  intro o a;cases o with
  |s k i=>simp[wI]at a
  |n k=>simp only[wI,YN,Bool.or_false,XJ]at a;have G:=XI a.1;have u:=bR a.2;have b:ms[k-2000]? =some (ms[k-2000]'(by omega)):=XY (by omega);have:=ku ms 2000 (k-2000) _ b;rw[show 2000+(k-2000)=k by omega]at this;rw[this];exact LF C _ (Zj b)
 have w:∀o,wI ms.length (!fr.isNone) o=true->fE gE fr o≠ .none:=by
  intro o a;cases o with
  |s k i=>simp[wI]at a
  |n k=>simp only[wI,Zl,XJ]at a;by_cases y:k=3000;subst y;rw[oV];rcases a with a|a;have u:=bR a.2;omega;intro e;rw[e]at a;simp[Mem.isNone]at a;rcases a with a|a;have G:=XI a.1;have u:=bR a.2;have b:ms[k-2000]? =some (ms[k-2000]'(by omega)):=XY (by omega);have z:gE[k-2000]? =some (gE[k-2000]'(by omega)):=XY (by omega);have:=kt (fr:=fr) (by omega) z;rw[show 2000+(k-2000)=k by omega]at this;rw[this];rcases F _ _ _ b z with h|⟨h,A⟩;rw[h];simp;intro e;rw[e]at h;rw[<-h]at A;simp[Mem.kind]at A;exact absurd (XE a.2) y
 have B:∀o,(fE gE fr o).okB (wI ms.length (!fr.isNone)) (λo=>(fE gE fr o).gen)=true:=by intro o;by_cases f:fE gE fr o= .none;rw[f];rfl;rcases w4 f with⟨rfl,_⟩|⟨j,x,b,rfl⟩;rw[oV];exact ra q fr (by simp);have J:=(Ye.1 b).1;rw[kt (by omega) b];exact ra q x (by simp[Zj b])
 refine⟨l,m,(TV.kJ p).2 _ (λ_=>rfl),λo=>(Mem.kJ (B o)).2 _ (λ_=>rfl),?_,λx b o c=>t o ((TV.kJ (Gg D x b)).1 o c),λo c=>w o ((TV.kJ p).1 o c),λo g c=>w g ((Mem.kJ (B o)).1 g c)⟩;intro o g c;by_cases f:jJ 2000 ms o= .none;rw[f]at c;exact c.elim;obtain⟨j,x,b,rfl⟩:=gj ms 2000 o f;rw[ku ms 2000 j x b]at c;exact t g ((Mem.kJ (ra E x (Zj b))).1 g c)
variable {m:Id->Mem}
theorem fp.mk' {P:Program} {f:FuncId} {xs:List TV} {d:Id} {K:fa} {r:TV} (os:List Id) (h:lT P f args ms r gE fr) (a:Fits m os d xs args ms fr)
  (k:K (Le (pB os d) (wx m os d gE) r) (ye (pB os d) (wx m os d gE) 2000 os gE++IY (pB os d) (wx m os d gE) d fr) (d.key::os.map Id.key)):fp P f xs d m K:=⟨os,args,ms,r,gE,fr,h,a,k⟩
variable {J:(Nat->TV)->(Id->Mem)->Prop}
theorem aG.id {t:Nat->TV} (h:J t m):aG t m J:=⟨t,m,Wk.refl t m,h⟩
theorem Cut.id {t:Nat->TV} (h:J t m):Cut t m J:=⟨aG.id h⟩
theorem jf.aR {b:Id->Mem} {d:Id->Id} {g g' n a k:Nat} {e:TypeId} {get get':Nat->Nat->SV} (c:n=a) (f:g'=1->g=1) (h:∀i,i<n->∀j,j<k->aD (get i j) (get' i j)):jf m b d (.aL g n k e get) (.aL g' a k e get'):=by
 subst c;exact .aL f h
end Go.Vm
namespace Go.Vm
open Go Go.RowKit Go.Proofs
def T3:Ty:=⟨1,8,.int .i64,[.v (.int .i64 0)]⟩
theorem Oo:cO Tryz.prog 3 T3:=⟨⟨_,_,rfl,rfl,rfl,rfl,rfl,rfl,rfl⟩,rfl⟩
def T4:Ty:=⟨1,1,.cell,[.v (.bool false)]⟩
theorem Ud:cO Tryz.prog 4 T4:=⟨⟨_,_,rfl,rfl,rfl,rfl,rfl,rfl,rfl⟩,_,rfl,rfl⟩
def T5:Ty:=⟨1,1,.int .u8,[.v (.int .u8 0)]⟩
theorem Ww:cO Tryz.prog 5 T5:=⟨⟨_,_,rfl,rfl,rfl,rfl,rfl,rfl,rfl⟩,rfl⟩
def T9:Ty:=⟨1,16,.cell,[.v (.string ⟨#[]⟩)]⟩
theorem Wv:cO Tryz.prog 9 T9:=⟨⟨_,_,rfl,rfl,rfl,rfl,rfl,rfl,rfl⟩,_,rfl,rfl⟩
def T22:Ty:=⟨1,24,.jz 3,[.v (.slice none 0 0)]⟩
theorem Ug:cO Tryz.prog 22 T22:=⟨⟨_,_,rfl,rfl,rfl,rfl,rfl,rfl,rfl⟩,rfl⟩
def T31:Ty:=⟨1,8,.int .i64,[.v (.int .i64 0)]⟩
theorem Uf:cO Tryz.prog 31 T31:=⟨⟨_,_,rfl,rfl,rfl,rfl,rfl,rfl,rfl⟩,rfl⟩
def T35:Ty:=⟨1,24,.jz 83,[.v (.slice none 0 0)]⟩
theorem Ue:cO Tryz.prog 35 T35:=⟨⟨_,_,rfl,rfl,rfl,rfl,rfl,rfl,rfl⟩,rfl⟩
def T41:Ty:=⟨1,24,.jz 50,[.v (.slice none 0 0)]⟩
theorem Uc:cO Tryz.prog 41 T41:=⟨⟨_,_,rfl,rfl,rfl,rfl,rfl,rfl,rfl⟩,rfl⟩
def T42:Ty:=⟨1,24,.jz 50,[.v (.slice none 0 0)]⟩
theorem Ub:cO Tryz.prog 42 T42:=⟨⟨_,_,rfl,rfl,rfl,rfl,rfl,rfl,rfl⟩,rfl⟩
def T43:Ty:=⟨1,24,.jz 42,[.v (.slice none 0 0)]⟩
theorem Ua:cO Tryz.prog 43 T43:=⟨⟨_,_,rfl,rfl,rfl,rfl,rfl,rfl,rfl⟩,rfl⟩
def T45:Ty:=⟨2,48,.str [(0,42,1),(1,43,1)],[.v (.slice none 0 0),.v (.slice none 0 0)]⟩
theorem T8:cO Tryz.prog 45 T45:=⟨⟨_,_,rfl,rfl,rfl,rfl,rfl,rfl,rfl⟩,_,rfl,rfl,rfl⟩
def T46:Ty:=⟨1,24,.jz 45,[.v (.slice none 0 0)]⟩
theorem T7:cO Tryz.prog 46 T46:=⟨⟨_,_,rfl,rfl,rfl,rfl,rfl,rfl,rfl⟩,rfl⟩
def T48:Ty:=⟨5,120,.str [(0,45,2),(2,46,1),(3,45,2)],[.v (.slice none 0 0),.v (.slice none 0 0),.v (.slice none 0 0),.v (.slice none 0 0),.v (.slice none 0 0)]⟩
theorem T6:cO Tryz.prog 48 T48:=⟨⟨_,_,rfl,rfl,rfl,rfl,rfl,rfl,rfl⟩,_,rfl,rfl,rfl⟩
def W9:Ty:=⟨2,16,.str [(0,3,1),(1,3,1)],[.v (.int .i64 0),.v (.int .i64 0)]⟩
theorem T2:cO Tryz.prog 50 W9:=⟨⟨_,_,rfl,rfl,rfl,rfl,rfl,rfl,rfl⟩,_,rfl,rfl,rfl⟩
def T58:Ty:=⟨4,32,.str [(0,50,2),(2,50,2)],[.v (.int .i64 0),.v (.int .i64 0),.v (.int .i64 0),.v (.int .i64 0)]⟩
theorem T1:cO Tryz.prog 58 T58:=⟨⟨_,_,rfl,rfl,rfl,rfl,rfl,rfl,rfl⟩,_,rfl,rfl,rfl⟩
def T59:Ty:=⟨1,24,.jz 42,[.v (.slice none 0 0)]⟩
theorem T0:cO Tryz.prog 59 T59:=⟨⟨_,_,rfl,rfl,rfl,rfl,rfl,rfl,rfl⟩,rfl⟩
def T61:Ty:=⟨5,56,.str [(0,58,4),(4,59,1)],[.v (.int .i64 0),.v (.int .i64 0),.v (.int .i64 0),.v (.int .i64 0),.v (.slice none 0 0)]⟩
theorem TZ:cO Tryz.prog 61 T61:=⟨⟨_,_,rfl,rfl,rfl,rfl,rfl,rfl,rfl⟩,_,rfl,rfl,rfl⟩
def T83:Ty:=⟨2,16,.arr 2 3,[.v (.int .i64 0),.v (.int .i64 0)]⟩
theorem TY:cO Tryz.prog 83 T83:=⟨⟨_,_,rfl,rfl,rfl,rfl,rfl,rfl,rfl⟩,rfl⟩
def T85:Ty:=⟨1,8,.cell,[.v .nilFunc]⟩
theorem TX:cO Tryz.prog 85 T85:=⟨⟨_,_,rfl,rfl,rfl,rfl,rfl,rfl,rfl⟩,_,rfl,rfl⟩
def T97:Ty:=⟨1,8,.cell,[.v (.pointer none)]⟩
theorem TW:cO Tryz.prog 97 T97:=⟨⟨_,_,rfl,rfl,rfl,rfl,rfl,rfl,rfl⟩,_,rfl,rfl⟩
def VW:Ty:=⟨1,24,.jz 22,[.v (.slice none 0 0)]⟩
theorem R0:cO Tryz.prog 100 VW:=⟨⟨_,_,rfl,rfl,rfl,rfl,rfl,rfl,rfl⟩,rfl⟩
def VV:Ty:=⟨3,72,.str [(0,41,1),(1,100,1),(2,22,1)],[.v (.slice none 0 0),.v (.slice none 0 0),.v (.slice none 0 0)]⟩
theorem RZ:cO Tryz.prog 102 VV:=⟨⟨_,_,rfl,rfl,rfl,rfl,rfl,rfl,rfl⟩,_,rfl,rfl,rfl⟩
def VU:Ty:=⟨1,8,.cell,[.v .nilFunc]⟩
theorem RY:cO Tryz.prog 107 VU:=⟨⟨_,_,rfl,rfl,rfl,rfl,rfl,rfl,rfl⟩,_,rfl,rfl⟩
def VT:Ty:=⟨1,8,.cell,[.v .nilFunc]⟩
theorem RX:cO Tryz.prog 109 VT:=⟨⟨_,_,rfl,rfl,rfl,rfl,rfl,rfl,rfl⟩,_,rfl,rfl⟩
def VR:Ty:=⟨4,32,.str [(0,50,2),(2,50,2)],[.v (.int .i64 0),.v (.int .i64 0),.v (.int .i64 0),.v (.int .i64 0)]⟩
theorem RW:cO Tryz.prog 131 VR:=⟨⟨_,_,rfl,rfl,rfl,rfl,rfl,rfl,rfl⟩,_,rfl,rfl,rfl⟩
def VQ:Ty:=⟨1,8,.cell,[.v .nilFunc]⟩
theorem RV:cO Tryz.prog 134 VQ:=⟨⟨_,_,rfl,rfl,rfl,rfl,rfl,rfl,rfl⟩,_,rfl,rfl⟩
def VP:Ty:=⟨1,8,.cell,[.v .nilFunc]⟩
theorem RU:cO Tryz.prog 140 VP:=⟨⟨_,_,rfl,rfl,rfl,rfl,rfl,rfl,rfl⟩,_,rfl,rfl⟩
def VO:Ty:=⟨1,8,.int .u64,[.v (.int .u64 0)]⟩
theorem RT:cO Tryz.prog 145 VO:=⟨⟨_,_,rfl,rfl,rfl,rfl,rfl,rfl,rfl⟩,rfl⟩
def VN:Ty:=⟨1,8,.cell,[.v .nilFunc]⟩
theorem RS:cO Tryz.prog 151 VN:=⟨⟨_,_,rfl,rfl,rfl,rfl,rfl,rfl,rfl⟩,_,rfl,rfl⟩
def VM:Ty:=⟨1,24,.jz 163,[.v (.slice none 0 0)]⟩
theorem RR:cO Tryz.prog 159 VM:=⟨⟨_,_,rfl,rfl,rfl,rfl,rfl,rfl,rfl⟩,rfl⟩
def VL:Ty:=⟨4,32,.str [(0,50,2),(2,50,2)],[.v (.int .i64 0),.v (.int .i64 0),.v (.int .i64 0),.v (.int .i64 0)]⟩
theorem RQ:cO Tryz.prog 163 VL:=⟨⟨_,_,rfl,rfl,rfl,rfl,rfl,rfl,rfl⟩,_,rfl,rfl,rfl⟩
def VK:Ty:=⟨1,8,.cell,[.v .nilFunc]⟩
theorem RP:cO Tryz.prog 165 VK:=⟨⟨_,_,rfl,rfl,rfl,rfl,rfl,rfl,rfl⟩,_,rfl,rfl⟩
def VJ:Ty:=⟨1,8,.cell,[.v .nilFunc]⟩
theorem RO:cO Tryz.prog 184 VJ:=⟨⟨_,_,rfl,rfl,rfl,rfl,rfl,rfl,rfl⟩,_,rfl,rfl⟩
def VI:Ty:=⟨1,8,.int .i64,[.v (.int .i64 0)]⟩
theorem RN:cO Tryz.prog 187 VI:=⟨⟨_,_,rfl,rfl,rfl,rfl,rfl,rfl,rfl⟩,rfl⟩
def VH:Ty:=⟨1,4,.int .u32,[.v (.int .u32 0)]⟩
theorem RM:cO Tryz.prog 194 VH:=⟨⟨_,_,rfl,rfl,rfl,rfl,rfl,rfl,rfl⟩,rfl⟩
def VG:Ty:=⟨1,8,.int .u64,[.v (.int .u64 0)]⟩
theorem RL:cO Tryz.prog 196 VG:=⟨⟨_,_,rfl,rfl,rfl,rfl,rfl,rfl,rfl⟩,rfl⟩
def VF:Ty:=⟨8,64,.arr 4 50,[.v (.int .i64 0),.v (.int .i64 0),.v (.int .i64 0),.v (.int .i64 0),.v (.int .i64 0),.v (.int .i64 0),.v (.int .i64 0),.v (.int .i64 0)]⟩
theorem RK:cO Tryz.prog 197 VF:=⟨⟨_,_,rfl,rfl,rfl,rfl,rfl,rfl,rfl⟩,rfl⟩
def VE:Ty:=⟨1,8,.cell,[.v .nilFunc]⟩
theorem RJ:cO Tryz.prog 206 VE:=⟨⟨_,_,rfl,rfl,rfl,rfl,rfl,rfl,rfl⟩,_,rfl,rfl⟩
def VD:Ty:=⟨1,8,.cell,[.v .nilFunc]⟩
theorem RI:cO Tryz.prog 209 VD:=⟨⟨_,_,rfl,rfl,rfl,rfl,rfl,rfl,rfl⟩,_,rfl,rfl⟩
def VC:Ty:=⟨3,24,.str [(0,3,1),(1,3,1),(2,3,1)],[.v (.int .i64 0),.v (.int .i64 0),.v (.int .i64 0)]⟩
theorem RH:cO Tryz.prog 212 VC:=⟨⟨_,_,rfl,rfl,rfl,rfl,rfl,rfl,rfl⟩,_,rfl,rfl,rfl⟩
def VB:Ty:=⟨8,64,.str [(0,3,1),(1,212,3),(4,163,4)],[.v (.int .i64 0),.v (.int .i64 0),.v (.int .i64 0),.v (.int .i64 0),.v (.int .i64 0),.v (.int .i64 0),.v (.int .i64 0),.v (.int .i64 0)]⟩
theorem RG:cO Tryz.prog 214 VB:=⟨⟨_,_,rfl,rfl,rfl,rfl,rfl,rfl,rfl⟩,_,rfl,rfl,rfl⟩
def VA:Ty:=⟨1,8,.int .u64,[.v (.int .u64 0)]⟩
theorem RF:cO Tryz.prog 227 VA:=⟨⟨_,_,rfl,rfl,rfl,rfl,rfl,rfl,rfl⟩,rfl⟩
def Vz:Ty:=⟨1,8,.cell,[.v (.pointer none)]⟩
theorem RE:cO Tryz.prog 231 Vz:=⟨⟨_,_,rfl,rfl,rfl,rfl,rfl,rfl,rfl⟩,_,rfl,rfl⟩
def Vy:Ty:=⟨1,8,.cell,[.v (.pointer none)]⟩
theorem RD:cO Tryz.prog 245 Vy:=⟨⟨_,_,rfl,rfl,rfl,rfl,rfl,rfl,rfl⟩,_,rfl,rfl⟩
abbrev TT:iw:=Kp [(3,T3),(4,T4),(5,T5),(9,T9),(22,T22),(31,T31),(35,T35),(41,T41),(42,T42),(43,T43),(45,T45),(46,T46),(48,T48),(50,W9),(58,T58),(59,T59),(61,T61),(83,T83),(85,T85),(97,T97),(100,VW),(102,VV),(107,VU),(109,VT),(131,VR),(134,VQ),(140,VP),(145,VO),(151,VN),(159,VM),(163,VL),(165,VK),(184,VJ),(187,VI),(194,VH),(196,VG),(197,VF),(206,VE),(209,VD),(212,VC),(214,VB),(227,VA),(231,Vz),(245,Vy)]
theorem je:cG Tryz.prog TT:=Ou (.cons Oo (.cons Ud (.cons Ww (.cons Wv (.cons Ug (.cons Uf (.cons Ue (.cons Uc (.cons Ub (.cons Ua (.cons T8 (.cons T7 (.cons T6 (.cons T2 (.cons T1 (.cons T0 (.cons TZ (.cons TY (.cons TX (.cons TW (.cons R0 (.cons RZ (.cons RY (.cons RX (.cons RW (.cons RV (.cons RU (.cons RT (.cons RS (.cons RR (.cons RQ (.cons RP (.cons RO (.cons RN (.cons RM (.cons RL (.cons RK (.cons RJ (.cons RI (.cons RH (.cons RG (.cons RF (.cons RE (.cons RD (.nil)))))))))))))))))))))))))))))))))))))))))))))
abbrev C50:List Value->Prop:=λc=>∃a b,c=a++b/\TB a/\(λc=>∃a b,c=a++b/\TB a/\(λc=>c=[]) b) b
theorem S3:pK Tryz.prog 2 50 W9 C50:=pK.str rfl rfl (by kernel_rfl) (.cons (TF:=T3) (by decide) rfl Oo (by decide) (pK.mono (pK.int rfl rfl rfl) (XI rfl)) (.cons (TF:=T3) (by decide) rfl Oo (by decide) (pK.mono (pK.int rfl rfl rfl) (XI rfl)) (.nil _)))
theorem WX (a:Int) (b:Int) (c:Int) (f:Int):xW Tryz.prog 50 [i64 a,i64 b] [i64 c,i64 f] (decide ([a,b]=[c,f])):=S3.fact (XI rfl) rfl (by kernel_rfl) [iv a,iv b] [iv c,iv f] ⟨[iv a],_,rfl,⟨a,rfl⟩,⟨[iv b],_,rfl,⟨b,rfl⟩,rfl⟩⟩ ⟨[iv c],_,rfl,⟨c,rfl⟩,⟨[iv f],_,rfl,⟨f,rfl⟩,rfl⟩⟩ _ (by simp)
theorem TQ {cs:List SV} (h:ju Tryz.prog 50 cs):∃a b,cs=[i64 a,i64 b]/\VZ a/\VZ b:=by
 have c:cs.length=2:=(ju.vk rfl h).1
 match cs,c,h with
 |[f,g],_,h=>obtain⟨a,i,j⟩:=ju.Hy rfl (h.field rfl 0 0 1 3 rfl);cases (show[f]=[i64 a] from i);obtain⟨b,k,l⟩:=ju.Hy rfl (h.field rfl 1 1 1 3 rfl);cases (show[g]=[i64 b] from k);exact⟨a,b,rfl,j,l⟩
theorem mixed:Tryz.prog.follows .mixedOrders=true:=by kernel_rfl
variable {m m':Id->Mem} {s:Nat} {x:TV}
theorem fj.cS {t:Nat->TV} {r:List (Nat×TV)} (h:fj t m m' r) (k:ar m m' (t s) x:=by exact .same):fj t m m' ((s,x)::r):= .cons k h
theorem fj.cB {t:Nat->TV} {r:List (Nat×TV)} (h:fj t m m' r) (k:ar m m' (t s) x:=by exact .box rfl rfl):fj t m m' ((s,x)::r):= .cons k h
theorem fj.cH {t:Nat->TV} {r:List (Nat×TV)} (h:fj t m m' r) (k:ar m m' (t s) x:=by exact .aJ rfl rfl):fj t m m' ((s,x)::r):= .cons k h
theorem fk.cX {o:Id} {x:Mem} {r:List (Id×Mem)} (h:fk m m' r) (k:eU m m' (m o) x:=by exact .box (iy.refl _)):fk m m' ((o,x)::r):= .cons k h
variable {k:List DV}
theorem xX.cR {c:DV} {l:List DV} (h:xX l k):xX (c::l) (c::k):= .cons (dX.refl _) h
variable {σ:Id->Id} {c:TV}
theorem lQ.cD {d:TV} {l k:List TV} (h:lQ m σ l k) (q:F7 m σ c d:=by exact .d (dX.refl _)):lQ m σ (c::l) (d::k):= .cons q h
theorem lQ.cH {d:TV} {l k:List TV} (h:lQ m σ l k) (q:F7 m σ c d:=by exact .aJ rfl rfl):lQ m σ (c::l) (d::k):= .cons q h
theorem iX.cH {c d:CV} {l k:List CV} (h:iX m σ l k) (q:uo m σ c d:=by exact .aJ rfl rfl):iX m σ (c::l) (d::k):= .cons q h
theorem pZ.cR {v:DV} {l:List TV} (h:pZ l k):pZ (.d v::l) (v::k):= .cons (dX.refl _) h
theorem af.is {b v:Bool} {K:Bool->Prop} (h:b=v) (k:K v):af b K:=by subst h;cases b;exact af.f k;exact af.t k
variable {K p:Prop}
theorem ak.n (k:K) (h:p:=by kernel_rfl):ak p K:=⟨h,k⟩
theorem ak.o (k:K) (h:p:=by omega):ak p K:=⟨h,k⟩
abbrev DP:=lY Tryz.prog
theorem dg {f:FuncId} {a:Func} {c:Code} (g:Tryz.prog.funcs[f]?=some a) (b:List Nat) {args:List DV} {r:TV} (h:vv Tryz.prog TT a.ntmps b c (λe t m=>match e with|.exit _=>False|.normal=>yc TT t m a.results.toList (MO r)|.ret=>yc TT t m a.results.toList (MO r)) (Df args) (λ_=>.none)) (i:a.body=some c:=by exact rfl) (j:(a.name=="runtime.NumGoroutine")=false:=by exact rfl) (k:args.length<=a.ntmps:=by exact XI rfl):DP f args r:=ig je mixed g i j b k h
end Go.Vm
namespace Go.Vm
namespace Sg
open Go Go.RowKit Go.Proofs
structure V2 where
 x:Int
 y:Int
abbrev LV:=List V2
structure cp where
 a:V2
 b:V2
structure P3 where
 x:Int
 y:Int
 d:Int
variable {a:V2}
theorem V2.ext {b:V2} (h:a.x=b.x) (k:a.y=b.y):a=b:=by
 cases a;cases b;simp only at h k;rw[h,k]
theorem V2.eq_iff {b:V2}:a=b↔a.x=b.x/\a.y=b.y:=⟨λh=>by rw[h];exact⟨rfl,rfl⟩,λh=>V2.ext h.1 h.2⟩
instance:DecidableEq V2:=λ_ _=>decidable_of_iff _ V2.eq_iff.symm
theorem P3.ext {a b:P3} (h:a.x=b.x) (k:a.y=b.y) (l:a.d=b.d):a=b:=by
 cases a;cases b;simp only at h k l;rw[h,k,l]
theorem cp.ext {a b:cp} (h:a.a=b.a) (k:a.b=b.b):a=b:=by
 cases a;cases b;simp only at h k;rw[h,k]
abbrev vL (v:V2):List SV:=[i64 v.x,i64 v.y]
abbrev vD (v:V2):DV:= .agg (vL v)
abbrev sL (s:cp):List SV:=[i64 s.a.x,i64 s.a.y,i64 s.b.x,i64 s.b.y]
abbrev sD (s:cp):DV:= .agg (sL s)
abbrev pL (p:P3):List SV:=[i64 p.x,i64 p.y,i64 p.d]
abbrev pD (p:P3):DV:= .agg (pL p)
abbrev Vn (a b c d:Int):List SV:=[i64 a,i64 b,i64 c,i64 d]
abbrev aN (l:LV):SV:= .sl l.length 2 λi j=>match j with
 |0=>i64 (l.getD i ⟨0,0⟩).x
 |_=>i64 (l.getD i ⟨0,0⟩).y
abbrev ng (x:Int):Int:=bW (0-x)
def bN (n:Int):Int:=if n>0 then 1 else if n<0 then-1 else 0
def bU (x y:Int):Int:=if y>x then y else x
def cQ (x y:Int):Int:=if y<x then y else x
def Qu (n:Int):Int:=if n>=0 then n else ng n
def cW (a b:V2):V2:=⟨bW (a.x-b.x),bW (a.y-b.y)⟩
def mO (a b:V2):V2:=⟨bW (a.x+b.x),bW (a.y+b.y)⟩
def eJ (a b:V2):Int:=bW (bW (a.x*b.y)-bW (a.y*b.x))
def ct (a b c:V2):Int:=bN (eJ (cW b a) (cW c a))
def bt (a b:V2):Bool:=decide (a.y<b.y)||(decide (a.y=b.y)&&decide (a.x<b.x))
def uL (a b:Int):Int:=if a<b then-1 else if a>b then 1 else 0
def gl (a b:V2):Int:=if bt a b=true then-1 else if a=b then 0 else 1
def aY (v:V2) (m:Int):Bool:=decide (v.x>=ng m)&&decide (v.x<=m)&&decide (v.y>=ng m)&&decide (v.y<=m)
theorem rY.v {K:Bool->Prop} (a b:V2) (k:∀q,(q=true↔a=b)->K q):rY Tryz.prog 50 (vL a) (vL b) K:=by
 refine rY.b (WX _ _ _ _) (λq c=>k q ?_);subst c;rw[X0,V2.eq_iff];simp
theorem ai.v {P:Program} {f:FuncId} {args:List DV} {K:TV->Prop} {e:V2} (h:lY P f args (.d (vD e))) (a:∀v,v=e->K (.d (vD v))):ai P f args K:=⟨_,h,a e rfl⟩
theorem Cg (n:Int):DP 186 [.one (i64 n)] (au (bN n)):=by
 refine dg Tryz.func186 [] ?_;repeat' first|apply af.t|apply af.f|refine af.mk (λ_=>?_) (λ_=>?_)|refine Fin.int ?_|fail
 all_goals simp_all [bN]
 all_goals try (intros;omega)
theorem Ie (n:Int):DP 240 [.one (i64 n)] (au (Qu n)):=by
 refine dg Tryz.func240 [] ?_;repeat' first|apply af.t|apply af.f|refine af.mk (λ_=>?_) (λ_=>?_)|refine Fin.int ?_|fail
 all_goals simp_all [Qu,ng,bW]<;>omega
theorem Pd (n:Int):DP 205 [.one (i64 n)] (aE false):=by
 refine dg Tryz.func205 [] ?_;refine Fin.bool ?_;simp
theorem mM (a b:Int):DP 148 [.one (i64 a),.one (i64 b)] (au (uL a b)):=by
 refine dg Tryz.func148 [] ?_;repeat' first|refine ai.mk' (Pd _) ?_|apply af.t|apply af.f|refine af.mk (λ_=>?_) (λ_=>?_)|refine Fin.int ?_|fail
 all_goals simp_all [uL]
 all_goals try (intros;omega)
theorem Nn (n:Int):uL n 0=bN n:=by
 unfold uL bN;split<;>split<;>omega
def Sm (a b:Int):Int:=if a≠0 then a else b
theorem E3 (a b:Int) (get:Nat->Nat->SV) (c:get 0 0=i64 a) (f:get 1 0=i64 b):DP 150 [.one (.sl 2 1 get)] (au (Sm a b)):=by
 refine lY.le (uh:=[.one (.sl 2 1 λi _=>match i with|0=>i64 a|_=>i64 b)]) (.cons (dX.one (aD.sl ?_)) .nil) ?_;intro i g j h;obtain rfl:j=0:=(by omega);rcases i with _|_|i;exact aD.of_eq c;exact aD.of_eq f;omega;refine dg Tryz.func150 [] ?_;refine Loop.vH 3 ?_;repeat' first|apply af.t|apply af.f|refine ak.mk (by decide) ?_|refine af.mk (λ_=>?_) (λ_=>?_)|refine Fin.int ?_|fail
 all_goals simp_all [Sm]
theorem fz (v:V2) (m:Int):DP 13 [vD v,.one (i64 m)] (aE (aY v m)):=by
 refine dg Tryz.func13 [] ?_;repeat' first|apply af.t|apply af.f|refine af.mk (λ_=>?_) (λ_=>?_)|refine ak.n ?_|refine Fin.bool ?_|fail
 all_goals
  simp_all [aY,ng,bW]
  try (intros;omega)
theorem ea (v:V2) (m:Int):DP 41 [vD v,.one (i64 m)] (aE (aY v m)):=by
 refine dg Tryz.func41 [] ?_;repeat' first|apply af.t|apply af.f|refine af.mk (λ_=>?_) (λ_=>?_)|refine ak.n ?_|refine Fin.bool ?_|fail
 all_goals
  simp_all [aY,ng,bW]
  try (intros;omega)
theorem Ag (a b:V2):DP 188 [vD a,vD b] (.d (vD (cW a b))):=by
 refine dg Tryz.func188 [] ?_;repeat' first|refine ak.n ?_|fail
 exact Fin.rfl'
theorem ca (a b:V2):DP 43 [vD a,vD b] (.d (vD (cW a b))):=by
 refine dg Tryz.func43 [] ?_;repeat' first|refine ak.n ?_|fail
 exact Fin.rfl'
theorem zA (a b:V2):DP 187 [vD a,vD b] (au (eJ a b)):=by
 refine dg Tryz.func187 [] ?_;repeat' first|refine ak.n ?_|fail
 exact Fin.rfl'
theorem dH (a b:V2):DP 149 [vD a,vD b] (au (eJ a b)):=by
 refine dg Tryz.func149 [] ?_;repeat' first|refine ak.n ?_|fail
 exact Fin.rfl'
theorem vJ (a b c:V2):DP 123 [vD a,vD b,vD c] (au (ct a b c)):=by
 refine dg Tryz.func123 [] ?_;refine ai.v (Ag b a) (λp f=>?_);refine ai.v (Ag c a) (λq g=>?_);refine ai.int (zA p q) (λn h=>?_);refine ai.int (Cg n) (λs i=>?_);repeat' first|refine ak.n ?_|fail
 refine Fin.int ?_;subst i h f g;rfl
theorem eW (a b c:V2):DP 89 [vD a,vD b,vD c] (au (ct a b c)):=by
 refine dg Tryz.func89 [] ?_;refine ai.v (ca b a) (λp g=>?_);refine ai.v (ca c a) (λq h=>?_);refine ai.int (dH p q) (λn i=>?_);refine ai.int (mM n 0) (λs f=>?_);repeat' first|refine ak.n ?_|fail
 refine Fin.int ?_;rw[Nn]at f;subst f i g h;rfl
theorem Mg (a b:V2):DP 238 [vD a,vD b] (aE (bt a b)):=by
 refine dg Tryz.func238 [] ?_;repeat' first|apply af.t|apply af.f|refine af.mk (λ_=>?_) (λ_=>?_)|refine ak.n ?_|refine Fin.bool ?_|fail
 all_goals simp_all [bt]
 all_goals try (intros;omega)
theorem OU (a b:V2):Sm (uL a.y b.y) (uL a.x b.x)=gl a b:=by
 unfold Sm gl uL bt;by_cases h:a=b;subst h;simp
 ·rw[XG h];rw[V2.eq_iff]at h;simp only[Zl,XJ,X0];repeat' split
  all_goals omega
theorem iz (a b:V2):DP 92 [vD a,vD b] (au (gl a b)):=by
 refine dg Tryz.func92 [] ?_;refine ai.int (mM _ _) (λp c=>?_);refine ai.int (mM _ _) (λq f=>?_);refine ai.int (E3 p q _ rfl rfl) (λr g=>?_);refine ak.n ?_;refine Fin.int ?_;rw[g,c,f];exact OU a b
theorem rM (a b:V2):decide (gl a b<0)=bt a b:=by
 unfold gl;cases h:bt a b with
 |true=>simp
 |false=>simp only[Y6,aaa];split<;>rfl
theorem jh (a b:V2):DP 213 [vD a,vD b] (aE (bt a b)):=by
 refine dg Tryz.func213 [] ?_;refine ai.int (iz a b) (λp c=>?_);refine Fin.bool ?_;rw[c];exact rM a b
end Sg
end Go.Vm
namespace Go.Vm
open Go Go.RowKit Go.Proofs Go.Shelf
namespace Sg
attribute [local go_sem] Oper.semAt_some
abbrev hS (l:List (LV)):SV:= .sl l.length 1 λi _=>aN (l.getD i [])
abbrev KL (o:LV) (h:List (LV)):Nat->SV:=λi=>match i with
 |0=>aN o
 |_=>hS h
set_option maxRecDepth 100000 in
set_option maxHeartbeats 2000000 in
theorem IN (Bs off n:Nat) (o:Value) (b Bc cap:Nat) (hv:Nat->Value) (Sx:Nat->Prop) (Wj:Sx b) (SQ:Sx Bs) (hn:n<=maxLen) (w:World)
  (ho:w.cell? ⟨Bs,off,none⟩=some o) (hh:w.cell? ⟨Bs,off+1,none⟩=some (.slice (some ⟨b,Bc,none⟩) n cap)) (hc:∀j,j<n->w.cell? ⟨b,Bc+j,none⟩=some (hv j))
  (WQ:o.oneCell'=true) (hv1:∀j,j<n->(hv j).oneCell'=true):
  BQ Tryz.prog 110 [.pointer (some ⟨Bs,off,none⟩)] (o::(List.range n).map hv) Sx w:=by
 intro l J Jx W hW hJ hY h0;refine callsIn_of_wp Tryz.func110 rfl trivial ?_ rfl;have hM:∀{W':World} {a:Addr} {v:Value},(∀b,Sx b->W'.heap[b]? =w.heap[b]?)->Sx a.block->w.cell? a=some v->W'.cell? a=some v:=λhk hS h=>by rw[World.cell?_of_block (w:=w) (hk _ hS)];exact h
 have WR:=hM (a:=⟨Bs,off,none⟩) hW SQ ho;obtain⟨fn,tmps,assign,body,hy,hR⟩:=hY 0 o W rfl h0;have nt:Tryz.f110.ntmps=22:=by kernel_rfl
 simp only[nt,ZR,XV,Z2,Nat.reduceAdd,Nat.reduceSub,aaP,aaO,aa2,aaU,Z1,YM]
 gi_wp2
 refine⟨rfl,hR.mono ?_⟩;rintro e W3 (⟨rfl,U2,WS⟩|⟨rfl,SR⟩)
 ·have Wi:∀b,Sx b->W3.heap[b]? =w.heap[b]?:=λb hb=>(WS b hb).trans (hW b hb);have hh':=hM (a:=⟨Bs,off+1,none⟩) Wi SQ hh
  gi_wp2
  gi_loopw [13] (λi wr=>∃k:Nat,k<=n/\i= .int .i64 k/\J (k+1) wr/\∀b,Sx b->wr.heap[b]? =w.heap[b]?)
   (λi _=>n-(intOf i).toNat)
  case atStart=>exact⟨0,XR _,rfl,U2,Wi⟩
  case round=>
   obtain⟨k,hk,rfl,Jw,My⟩:=hrel;by_cases Ju:k<n
   ·have Xp:=hM (a:=⟨b,Bc+k,none⟩) My Wj (hc k Ju);obtain⟨fn,tmps,assign,body,hy,hR⟩:=hY (k+1) (hv k) wr (by simp[Ju]) Jw
    gi_wp2
    refine⟨rfl,hR.mono ?_⟩;rintro e W4 (⟨rfl,U1,UT⟩|⟨rfl,MD⟩)
    ·gi_wp2
     go_roundw
     case rel=>
      refine⟨k+1,by omega,?_,U1,λb hb=>(UT b hb).trans (My b hb)⟩;have SL:wrap64 ((k:Int)+1)=((k+1:Nat):Int):=(by unfold maxLen at hn;unfold wrap64;omega);rw[SL]
     case measure=>
      have SL:wrap64 ((k:Int)+1)=((k+1:Nat):Int):=(by unfold maxLen at hn;unfold wrap64;omega);rw[SL];simp only[intOf];omega
    ·gi_wp2
     refine bodyPost_ret (results_none rfl _ _ _) rfl ?_;exact⟨⟨_,rfl⟩,.inr MD⟩
   ·obtain rfl:k=n:=by omega
    gi_wp2
    go_end0
    exact⟨⟨_,rfl⟩,.inl (by simpa using Jw)⟩
 ·gi_wp2
  refine bodyPost_ret (results_none rfl _ _ _) rfl ?_;exact⟨⟨_,rfl⟩,.inr SR⟩
set_option maxRecDepth 100000 in
set_option maxHeartbeats 2000000 in
theorem IP (Bs off:Nat) (o:Value) (ad:Option Addr) (cap:Nat) (Sx:Nat->Prop) (SQ:Sx Bs) (w:World)
  (ho:w.cell? ⟨Bs,off,none⟩=some o) (hh:w.cell? ⟨Bs,off+1,none⟩=some (.slice ad 0 cap)) (WQ:o.oneCell'=true):
  BQ Tryz.prog 110 [.pointer (some ⟨Bs,off,none⟩)] [o] Sx w:=by
 intro l J Jx W hW hJ hY h0;refine callsIn_of_wp Tryz.func110 rfl trivial ?_ rfl;have hM:∀{W':World} {a:Addr} {v:Value},(∀b,Sx b->W'.heap[b]? =w.heap[b]?)->Sx a.block->w.cell? a=some v->W'.cell? a=some v:=λhk hS h=>by rw[World.cell?_of_block (w:=w) (hk _ hS)];exact h
 have WR:=hM (a:=⟨Bs,off,none⟩) hW SQ ho;obtain⟨fn,tmps,assign,body,hy,hR⟩:=hY 0 o W rfl h0;have nt:Tryz.f110.ntmps=22:=by kernel_rfl
 simp only[nt,ZR,XV,Z2,Nat.reduceAdd,Nat.reduceSub,aaP,aaO,aa2,aaU,Z1,YM]
 gi_wp2
 refine⟨rfl,hR.mono ?_⟩;rintro e W3 (⟨rfl,U2,WS⟩|⟨rfl,SR⟩)
 ·have Wi:∀b,Sx b->W3.heap[b]? =w.heap[b]?:=λb hb=>(WS b hb).trans (hW b hb);have hh':=hM (a:=⟨Bs,off+1,none⟩) Wi SQ hh
  gi_wp2
  gi_loopw [13] (λi wr=>i= .int .i64 0/\J 1 wr) (λ_ _=>0)
  case atStart=>exact⟨rfl,U2⟩
  case round=>
   obtain⟨rfl,Jw⟩:=hrel
   gi_wp2
   go_end0
   exact⟨⟨_,rfl⟩,.inl Jw⟩
 ·gi_wp2
  refine bodyPost_ret (results_none rfl _ _ _) rfl ?_;exact⟨⟨_,rfl⟩,.inr SR⟩
theorem r0 {S:Nat->Prop} {w:World} {α:Type} (f:α->Value) (g:α->DV):∀l:List α,(∀x∈l,lU S w (f x) (g x))->dA S w (l.map f) (l.map g)
 |[],_=> .nil
 |x::l,h=> .cons (h x (by simp)) (r0 f g l (λy a=>h y (by simp[a])))
theorem qj (o:LV) (h:List (LV)):Iter Tryz.prog 110 (cells 1 λ_=> .ad 2 (KL o h)) (.one (aN o)::h.map (λr=> .one (aN r))):=by
 refine⟨⟨_,Tryz.func110,rfl,rfl⟩,λw S Q R D=>?_⟩;cases D with
 |cons E F=>cases F;obtain⟨k,l,c,rfl,t,u,x⟩:=Rd.mD E;have m:=u 0 (by omega);have y:=u 1 (by omega);have g:=x 0 (by omega);have G:Rd S w (c 1) (hS h):=x 1 (by omega);rw[YG]at m;have z:∀(p:Option Addr) (cap:Nat),c 1= .slice p 0 cap->h.length=0->∃A,dA S w A (.one (aN o)::h.map (λr=> .one (aN r)))/\BQ Tryz.prog 110 [.pointer (some ⟨k,l,none⟩)] A S w:=(by intro p cap e f;have:h=[]:=Y0 f;subst this;exact⟨[c 0],.cons g .nil,IP k l (c 0) p cap S t w m (by rw[<-e];exact y) g.bG⟩);rcases Rd.nV G with⟨e,f⟩|⟨a,cap,e,f⟩|⟨b,H,cap,B,e,I,J,K,M,C⟩;exact z _ _ e f;exact z _ _ e f;refine⟨c 0::(List.range h.length).map (λi=>B i 0),.cons g ?_,IN k l h.length (c 0) b H cap (λi=>B i 0) S I t (Yg J K) w m (by rw[<-e];exact y) (λj q=>?_) g.bG (λj q=>?_)⟩;have N:h.map (λr=>DV.one (aN r))=(List.range h.length).map (λi=>DV.one (aN (h.getD i []))):=(by apply Z7;simp;intro i O T;simp only[aaL,aaC];have:i<h.length:=(by simpa using O);simp[List.getD,this]);rw[N];exact r0 _ _ _ (λi P=>C i (by simpa using P) 0 (by omega));have:=M j q 0 (by omega);rw[abN,YG]at this;exact this;exact(C j q 0 (by omega)).bG
end Sg
end Go.Vm
namespace Go.Vm
namespace Sg
open Go Go.RowKit Go.Proofs
def aB (s:cp):Bool:=aY s.a 4000&&aY s.b 4000
def jP (s:cp) (p:V2):Bool:=decide (p.x>=cQ s.a.x s.b.x)&&decide (p.x<=bU s.a.x s.b.x)&&decide (p.y>=cQ s.a.y s.b.y)&&decide (p.y<=bU s.a.y s.b.y)
def ka (s:cp) (p:V2):Bool:=aB s&&jP s p&&(ct s.a s.b p==0)
def gH (s:cp) (p:V2):Int:=bif aB s&&aY p 4000 then ct s.a s.b p else 0
theorem r9 (s:cp):DP 218 [sD s] (aE (aB s)):=by
 refine dg Tryz.func218 [] ?_;repeat' first|refine ai.bool (ea s.a _) (λ_ _=>?_)|refine ai.bool (ea s.b _) (λ_ _=>?_)|apply af.t|apply af.f|refine af.mk (λ_=>?_) (λ_=>?_)|refine ak.n ?_|refine Fin.bool ?_|fail
 all_goals simp_all [aB]
theorem mj (s:cp):DP 189 [sD s] (aE (aB s)):=by
 refine dg Tryz.func189 [] ?_;repeat' first|refine ai.bool (fz s.a _) (λ_ _=>?_)|refine ai.bool (fz s.b _) (λ_ _=>?_)|apply af.t|apply af.f|refine af.mk (λ_=>?_) (λ_=>?_)|refine ak.n ?_|refine Fin.bool ?_|fail
 all_goals simp_all [aB]
theorem min_self (a:Int):cQ a a=a:=by simp[cQ]
theorem max_self (a:Int):bU a a=a:=by simp[bU]
abbrev Vl (a b c d:Int):TV:= .eD [.agg (Vn a b c d),.one (.v (.bool true))]
theorem Nu (a b:V2) (get:Nat->Nat->SV) (k:get 0 0=i64 a.x) (l:get 0 1=i64 a.y) (h2:get 1 0=i64 b.x) (m:get 1 1=i64 b.y):
  DP 138 [.one (.sl 2 2 get)] (Vl (cQ a.x b.x) (cQ a.y b.y) (bU a.x b.x) (bU a.y b.y)):=by
 refine lY.le (uh:=[.one (.sl 2 2 λi j=>match i with|0=>(match j with|0=>i64 a.x|_=>i64 a.y)|_=>(match j with|0=>i64 b.x|_=>i64 b.y))]) (.cons (dX.one (aD.sl ?_)) .nil) ?_;(intro i o j p;rcases i with _|_|i<;>rcases j with _|_|j<;>first|exact aD.of_eq (by assumption)|omega)
 have c:=min_self a.x;have f:=min_self a.y;have g:=max_self a.x;have h:=max_self a.y;refine dg Tryz.func138 [] ?_;refine af.f ?_;repeat' first|refine ak.n ?_|refine ak.mk (by decide) ?_|fail
 refine Loop.vH 3 ?_;repeat' first|apply af.t|apply af.f|apply af.is (by decide)|refine ak.n ?_|refine ak.mk (by decide) ?_|fail
 refine Fin.eq ?_;show Vl (cQ (cQ a.x a.x) b.x) (cQ (cQ a.y a.y) b.y) (bU (bU a.x a.x) b.x) (bU (bU a.y a.y) b.y)=_;rw[c,f,g,h]
theorem Jr (s:cp) (p:V2):DP 44 [.agg (Vn (cQ s.a.x s.b.x) (cQ s.a.y s.b.y) (bU s.a.x s.b.x) (bU s.a.y s.b.y)),vD p] (aE (jP s p)):=by
 refine dg Tryz.func44 [] ?_;unfold jP;generalize cQ s.a.x s.b.x=a;generalize cQ s.a.y s.b.y=b;generalize bU s.a.x s.b.x=c;generalize bU s.a.y s.b.y=d;repeat' first|apply af.t|apply af.f|refine af.mk (λ_=>?_) (λ_=>?_)|refine ak.n ?_|refine Fin.bool ?_|fail
 all_goals simp_all
 all_goals try (intros;omega)
theorem wG (s:cp) (p:V2):DP 196 [sD s,vD p] (aE (ka s p)):=by
 refine dg Tryz.func196 [] ?_;refine ai.mk' (Nu s.a s.b _ rfl rfl rfl rfl) ?_;repeat' first|refine ai.bool (r9 s) (λ_ _=>?_)|refine ai.bool (Jr s p) (λ_ _=>?_)|refine ai.int (eW s.a s.b p) (λ_ _=>?_)|apply af.t|apply af.f|refine af.mk (λ_=>?_) (λ_=>?_)|refine ak.n ?_|refine Fin.bool ?_|fail
 all_goals simp_all [ka]
theorem GF (s:cp) (p:V2):DP 223 [sD s,vD p] (aE (ka s p)):=by
 refine dg Tryz.func223 [] ?_;refine ai.bool (mj s) (λv g=>?_);apply af.mk<;>intro h
 ·refine Fin.bool ?_;have:aB s=false:=(by rw[<-g];simpa using h);simp[ka,this]
 have i:aB s=true:=by rw[<-g];simpa using h
 have e:ka s p=(jP s p&&(ct s.a s.b p==0)):=by rw[ka,i,Zd]
 rw[e];have j:jP s p=(decide (p.x>=cQ s.a.x s.b.x)&&decide (p.x<=bU s.a.x s.b.x)&&decide (p.y>=cQ s.a.y s.b.y)&&decide (p.y<=bU s.a.y s.b.y)):=rfl;rw[j];apply af.mk<;>intro a
 ·replace a:decide (p.x>=cQ s.a.x s.b.x)=true:=a;repeat' apply af.t
  apply af.mk<;>intro b
  ·replace b:decide (p.x<=bU s.a.x s.b.x)=true:=b;repeat' apply af.t
   apply af.mk<;>intro c
   ·replace c:decide (p.y>=cQ s.a.y s.b.y)=true:=c;repeat' apply af.t
    apply af.mk<;>intro f
    ·replace f:decide (p.y<=bU s.a.y s.b.y)=true:=f;repeat' first|refine ai.int (vJ s.a s.b p) (λ_ _=>?_)|apply af.t|refine Fin.bool ?_|fail
     rename_i n k;rw[a,b,c,f,k];rfl
    ·replace f:decide (p.y<=bU s.a.y s.b.y)=false:=f;repeat' first|apply af.f|refine Fin.bool ?_|fail
     rw[f];simp
   ·replace c:decide (p.y>=cQ s.a.y s.b.y)=false:=c;repeat' first|apply af.f|refine Fin.bool ?_|fail
    rw[c];simp
  ·replace b:decide (p.x<=bU s.a.x s.b.x)=false:=b;repeat' first|apply af.f|refine Fin.bool ?_|fail
   rw[b];simp
 ·replace a:decide (p.x>=cQ s.a.x s.b.x)=false:=a;repeat' first|apply af.f|refine Fin.bool ?_|fail
  rw[a];simp
theorem oI (s:cp) (p:V2):DP 191 [sD s,vD p] (au (gH s p)):=by
 refine dg Tryz.func191 [] ?_;repeat' first|refine ai.bool (mj s) (λ_ _=>?_)|refine ai.bool (fz p 4000) (λ_ _=>?_)|refine ai.int (vJ s.a s.b p) (λ_ _=>?_)|apply af.t|apply af.f|refine af.mk (λ_=>?_) (λ_=>?_)|refine ak.n ?_|refine Fin.int ?_|fail
 all_goals simp_all [gH]
abbrev cm (p:V2):P3:=⟨p.x,p.y,1⟩
theorem nH (p:V2):DP 185 [vD p] (.d (pD (cm p))):=by
 refine dg Tryz.func185 [] ?_;repeat' first|refine ak.n ?_|fail
 exact Fin.rfl'
theorem AB (p:V2):DP 193 [vD p] (.d (pD (cm p))):=by
 refine dg Tryz.func193 [] ?_;repeat' first|refine ak.n ?_|fail
 exact Fin.rfl'
theorem Du (a b:Int):Int.gcd b (a.tmod b)=Int.gcd a b:=by
 simp only[Int.gcd,abT];rw[Nat.gcd_comm b.natAbs,<-Nat.gcd_rec,Nat.gcd_comm]
variable {a:Int}
theorem Gm {b:Int} (h:b≠0):(a.tmod b).natAbs<b.natAbs:=by
 rw[abT];exact mLt
abbrev Ei (n:Int):Prop:= -4611686018427387904<=n/\n<=4611686018427387904
theorem Kl {b:Int} (f:Ei b) (c:Ei a):Ei (a.tmod b):=by
 have h:(a.tmod b).natAbs<=a.natAbs:=by rw[abT];exact Nat.mod_le _ _
 obtain⟨g,i⟩:=c;constructor<;>omega
theorem ML {b:Int} (c:Ei a) (h:b=0):bU a (ng a)=(Int.gcd a b:Int):=by
 subst h;obtain⟨f,g⟩:=c;have e:ng a= -a:=(r8 (n:=0-a) ⟨by omega,by omega⟩).trans (by omega);rw[e,Int.gcd_zero_right];unfold bU;split<;>omega
theorem pd (a b:Int) (j:Ei a) (k:Ei b):DP 236 [.one (i64 a),.one (i64 b)] (au (Int.gcd a b:Nat)):=by
 refine dg Tryz.func236 [] ?_;refine Loop.by (α:=Int×Int) (λx=>[(0,au x.1),(1,au x.2)]) (λ_=>[]) (λx=>Int.gcd x.1 x.2=Int.gcd a b/\Ei x.1/\Ei x.2) (λx=>x.2.natAbs)
  (aG.at (a,b) ⟨rfl,j,k⟩ .nil (.cS (.cS .nil))) (λx l=>?_)
 obtain⟨p,q⟩:=x;obtain⟨c,f,g⟩:=l;apply af.mk<;>intro h
 ·have i:q≠0:=(by simpa using h);refine ak.mk i ?_;refine ak.n ?_;exact aG.back (x:=(p,q)) (q,p.tmod q) ⟨(Du p q).trans c,g,Kl g f⟩ (Gm i) .nil (.cS (.cS .nil))
 ·have m:q=0:=(by simpa using h);refine Fin.int ?_;rw[<-c];exact ML f m
theorem Cx (a b:Int) (i:0<=a:=by omega) (j:0<=b:=by omega):DP 239 [.one (i64 a),.one (i64 b)] (au (Int.gcd a b:Nat)):=by
 refine dg Tryz.func239 [] ?_;refine Loop.by (α:=Int×Int) (λx=>[(0,au x.1),(1,au x.2)]) (λ_=>[]) (λx=>Int.gcd x.1 x.2=Int.gcd a b/\0<=x.1/\0<=x.2) (λx=>x.2.natAbs)
  (aG.at (a,b) ⟨rfl,i,j⟩ .nil (.cS (.cS .nil))) (λx k=>?_)
 obtain⟨p,q⟩:=x;obtain⟨f,c,l⟩:=k;apply af.mk<;>intro h
 ·have g:q≠0:=(by simpa using h);refine ak.mk g ?_;refine ak.n ?_;exact aG.back (x:=(p,q)) (q,p.tmod q) ⟨(Du p q).trans f,l,Int.tmod_nonneg _ c⟩ (Gm g) .nil (.cS (.cS .nil))
 ·have m:q=0:=(by simpa using h);refine Fin.int ?_;rw[<-f];replace c:0<=p:=c;subst m;rw[Int.gcd_zero_right];show p=_;omega
theorem wid {n:Int} (a: -9223372036854775808<=n:=by omega) (h2:n<9223372036854775808:=by omega):IntKind.i64.wrap n=n:=r8 ⟨a,h2⟩
theorem fq {n:Int} (a: -9223372036854775808<=n) (h2:n<9223372036854775808):bW n=n:=r8 ⟨a,h2⟩
variable {m:Int}
theorem nj {v:V2} (a:0<=m) (b:m<=4611686018427387904:=by omega):aY v m=true↔-m<=v.x/\v.x<=m/\ -m<=v.y/\v.y<=m:=by
 have e:ng m= -m:=by unfold ng;simp(disch:=omega) only[fq];omega
 simp only[aY,e,XJ,X0];omega
def kP (p:P3) (m:Int):Bool:=decide (1<=p.d)&&decide (p.d<=134217728)&&decide (-(m*p.d)<=p.x)&&decide (p.x<=m*p.d)&&decide (-(m*p.d)<=p.y)&&decide (p.y<=m*p.d)
def ed (p:P3):Bool:=kP p 4000&&decide (Int.gcd (Int.gcd p.x p.y) p.d=1)
variable {p:P3}
theorem fH:kP p m=true↔1<=p.d/\p.d<=134217728/\ -(m*p.d)<=p.x/\p.x<=m*p.d/\ -(m*p.d)<=p.y/\p.y<=m*p.d:=by
 simp only[kP,XJ,X0];omega
theorem D1 (p:P3) (m:Int) (c:0<=m:=by decide) (f:m<=4000:=by decide):DP 237 [pD p,.one (i64 m)] (aE (kP p m)):=by
 refine dg Tryz.func237 [] ?_;have b:¬(1<=p.d/\p.d<=134217728)->kP p m=false:=λh=>by rw[YQ];intro g;have:=fH.1 g;exact h ⟨this.1,this.2.1⟩
 apply af.mk<;>intro h
 ·replace h:decide (p.d<1)=true:=h;repeat' first|apply af.t|refine Fin.bool ?_|fail
  rw[b];have:=XA h;omega
 ·replace h:decide (p.d<1)=false:=h;repeat' apply af.f
  apply af.mk<;>intro a
  ·replace a:decide (p.d>134217728)=true:=a;refine Fin.bool ?_;rw[b];have:=XA a;omega
  ·replace a:decide (p.d>134217728)=false:=a;have k:=XB h;have l:=XB a;refine ai.bool (ea ⟨p.x,p.y⟩ (bW (m*p.d))) (λq i=>?_);refine Fin.bool ?_;rw[i,Zw,fH];have j:0<=m*p.d:=XF c (by omega);have o:m*p.d<=4000*134217728:=abw f (by omega) (by omega) (by omega);rw[fq (by omega) (by omega),nj j];show-(m*p.d)<=p.x/\p.x<=m*p.d/\ -(m*p.d)<=p.y/\p.y<=m*p.d↔_;omega
theorem tm (a:0<=m) (b:m<=4000) (h:kP p m=true):Ei p.x/\Ei p.y/\Ei p.d/\m*p.d<=536870912000/\0<=m*p.d:=by
 obtain⟨f,g,i,j,k,l⟩:=fH.1 h;have c:0<=m*p.d:=XF a (by omega);have o:m*p.d<=4000*134217728:=abw b (by omega) (by omega) (by omega);exact⟨⟨by omega,by omega⟩,⟨by omega,by omega⟩,⟨by omega,by omega⟩,by omega,c⟩
theorem zn {a b:Int} (m:Int) (c: -m<=a/\a<=m) (f: -m<=b/\b<=m) (_h0:0<=m:=by omega):((Int.gcd a b:Nat):Int)<=m:=by
 by_cases h:a=0;subst h;rw[Int.gcd_zero_left];omega;have:=Nat.le_of_dvd (by omega) (Nat.gcd_dvd_left a.natAbs b.natAbs);have e:Int.gcd a b=Nat.gcd a.natAbs b.natAbs:=rfl;omega
theorem PO (a:0<=m) (b:m<=4000) (h:kP p m=true):Ei (Int.gcd p.x p.y:Nat):=by
 obtain⟨c,f,g,i,j⟩:=tm a b h;have:=zn 4611686018427387904 c f;constructor<;>omega
theorem Et (p:P3):DP 221 [pD p] (aE (ed p)):=by
 refine dg Tryz.func221 [] ?_;refine ai.bool (D1 p 4000) (λq b=>?_);apply af.mk<;>intro h
 ·have a:kP p 4000=true:=(by rw[<-b,h]);obtain⟨c,f,g,_⟩:=tm (by decide) (by decide) a;have i:=PO (by decide) (by decide) a;repeat' first|refine ai.mk' (pd p.x p.y c f) ?_|refine ai.mk' (pd _ p.d i g) ?_|apply af.t|refine ak.n ?_|fail
  subst h;repeat' first|apply af.t|refine ak.n ?_|refine Fin.bool ?_|fail
  rw[ed,a,Zd,Zw];simp only[abA,X0];omega
 ·subst h;repeat' first|apply af.f|refine ak.n ?_|refine Fin.bool ?_|fail
  rw[ed,<-b];rfl
theorem Ig {n:Int} (h:Ei n):Qu n=(n.natAbs:Int):=by
 obtain⟨a,b⟩:=h;unfold Qu ng;simp(disch:=omega) only[fq];split<;>omega
theorem Co (p:P3):DP 225 [pD p] (aE (ed p)):=by
 refine dg Tryz.func225 [] ?_;have c:¬(1<=p.d/\p.d<=134217728/\ -(4000*p.d)<=p.x/\p.x<=4000*p.d/\ -(4000*p.d)<=p.y/\p.y<=4000*p.d)->ed p=false:=λh=>by rw[ed,show kP p 4000=false from ?_];rfl;rw[YQ];intro f;exact h (fH.1 f)
 apply af.mk<;>intro h
 ·replace h:=XA (show decide (p.d<1)=true from h);repeat' first|apply af.t|refine Fin.bool ?_|fail
  rw[c (by omega)]
 replace h:=XB (show decide (p.d<1)=false from h);repeat' apply af.f
 apply af.mk<;>intro g
 ·replace g:=XA (show decide (p.d>134217728)=true from g);repeat' first|apply af.t|refine Fin.bool ?_|fail
  rw[c (by omega)]
 replace g:=XB (show decide (p.d>134217728)=false from g);repeat' apply af.f
 have t:bW (-4000*p.d)= -(4000*p.d):=(fq (by omega) (by omega)).trans (by omega);have u:bW (4000*p.d)=4000*p.d:=fq (by omega) (by omega);apply af.mk<;>intro i
 ·replace i:=XA (show decide (p.x<bW (-4000*p.d))=true from i);repeat' first|apply af.t|refine Fin.bool ?_|fail
  rw[c (by omega)]
 replace i:=XB (show decide (p.x<bW (-4000*p.d))=false from i);repeat' apply af.f
 apply af.mk<;>intro j
 ·replace j:=XA (show decide (p.x>bW (4000*p.d))=true from j);repeat' first|apply af.t|refine Fin.bool ?_|fail
  rw[c (by omega)]
 replace j:=XB (show decide (p.x>bW (4000*p.d))=false from j);repeat' apply af.f
 apply af.mk<;>intro k
 ·replace k:=XA (show decide (p.y<bW (-4000*p.d))=true from k);repeat' first|apply af.t|refine Fin.bool ?_|fail
  rw[c (by omega)]
 replace k:=XB (show decide (p.y<bW (-4000*p.d))=false from k);repeat' apply af.f
 apply af.mk<;>intro l
 ·replace l:=XA (show decide (p.y>bW (4000*p.d))=true from l);repeat' first|apply af.t|refine Fin.bool ?_|fail
  rw[c (by omega)]
 replace l:=XB (show decide (p.y>bW (4000*p.d))=false from l);have f:kP p 4000=true:=fH.2 (by omega);obtain⟨q,r,w,_⟩:=tm (by decide) (by decide) f;refine ai.int (Ie p.x) (λa m=>?_);refine ai.int (Ie p.y) (λb o=>?_);rw[Ig q]at m;rw[Ig r]at o;refine ai.mk' (Cx a b) ?_;refine ai.mk' (Cx _ p.d) ?_;refine ak.n ?_;refine Fin.bool ?_;have eg:Int.gcd a b=Int.gcd p.x p.y:=by rw[m,o];rfl
 rw[eg,ed,f,Zd,Zw];simp only[abA,X0];omega
structure Fr (a m:Int):Prop where
 m1:1<=m
 m2:m<=134217728
 a1: -(2000*m)<=a
 a2:a<=2000*m
end Sg
end Go.Vm
namespace Go.Vm
open Go Go.RowKit Go.Proofs
variable {k:Nat}
theorem aD.pQ {n a:Nat} {g g':Nat->Nat->SV} (b:n=a) (h:∀i,i<n->∀j,j<k->aD (g i j) (g' i j)):aD (.sl n k g) (.sl a k g'):=by
 subst b;exact aD.sl h
variable {i:Nat}
theorem aD.bif {x y z:SV} (a:i<k->aD x z) (h2:k<=i->aD y z):aD (bif Nat.blt i k then x else y) z:=by
 cases h:Nat.blt i k with
 |true=>exact a (bR h)
 |false=>refine h2 (aa8 λb=>?_);have:Nat.blt i k=true:=hp b;rw[h]at this;cases this
theorem aS {n B:Nat} (h:n<=100000:=by omega) (a:B<=1000:=by decide):n*B<=140737488355328/\n<=maxLen:=by
 have:=aaE h a;simp only[maxLen];omega
namespace Sg
def iE:LV->V2->LV
 |[],v=>[v]
 |x::r,v=>if bt x v=true then x::iE r v else if x=v then x::r else v::x::r
def jx (l:LV):LV:=l.foldl iE []
theorem Hz {v:V2}:∀(l:LV) (k:Nat),k<=l.length->(∀i,i<k->bt (l.getD i ⟨0,0⟩) v=true)->(k<l.length->bt (l.getD k ⟨0,0⟩) v=false)->
  iE l v=if k<l.length/\l.getD k ⟨0,0⟩=v then l else l.take k++v::l.drop k
 |[],k,a,_,_=>by have:k=0:=(by simpa using a);subst this;simp[iE]
 |x::r,0,_,_,b=>by have:=b (by simp);simp only[aaS]at this;simp only[iE,this,Y6,aaa,XV,Nat.zero_lt_succ,abU,aaS,aas,aaY,Z1]
 |x::r,k+1,a,c,b=>by have f:=c 0 (by omega);simp only[aaS]at f;have g:=Hz (v:=v) r k (by simpa using a) (λi j=>by simpa using c (i+1) (by omega)) (λh=>by simpa using b (by simpa using h));simp only[iE,f,aaD,g,XV,Nat.add_lt_add_iff_right,List.getD_cons_succ,abz,List.drop_succ_cons];split<;>rfl
theorem nR (v:V2):∀l:LV,(iE l v).length<=l.length+1
 |[]=>by simp[iE]
 |x::r=>by simp only[iE];have:=nR v r;split;simp;omega;(split<;>simp)
abbrev vG (l:LV):Nat->Nat->SV:=λi j=>match j with
 |0=>i64 (l.getD i ⟨0,0⟩).x
 |_=>i64 (l.getD i ⟨0,0⟩).y
theorem fb {l a:LV} {b:Nat} (h:l.getD i ⟨0,0⟩=a.getD b ⟨0,0⟩) (j:Nat):vG l i j=vG a b j:=by
 unfold vG;rw[h]
theorem Cc (l:LV) (v:V2) (k i:Nat) (c:k<=l.length) (hi:i<l.length+1:=by omega):
  (l.take k++v::l.drop k).getD i ⟨0,0⟩=if i<k then l.getD i ⟨0,0⟩else if i=k then v else l.getD (i-1) ⟨0,0⟩:=by
 simp only[List.getD,Yl,Yj,abi c];by_cases a:i<k;simp[a,Y3]
 ·by_cases b:i=k;subst b;simp
  ·simp only[a,aaa,b];obtain⟨d,f⟩:∃d,i-k=d+1:=⟨i-k-1,by omega⟩;rw[f,List.getElem?_cons_succ,Zv,show k+d=i-1 by omega]
theorem Lp (o:LV) (v:V2) (q:Nat) (b:q<=o.length) {r:LV} (c:r=o.take q++v::o.drop q) (i:Nat) (hi:i<0+(q-0)+1+(o.length-q)) (j:Nat) (l:j<2):
  aD (bif Nat.blt i (0+(q-0)+1)then(bif Nat.blt i (0+(q-0))then(bif Nat.blt i 0 then .v Go.undef else vG o (0+(i-0)) j)else(vL v).getD ((i-(0+(q-0)))*2+j) (.v Go.undef))else vG o (q+(i-(0+(q-0)+1))) j) (vG r i j):=by
 have a:=Cc o v q i b;rw[<-c]at a;refine aD.bif (λf=>aD.bif (λg=>aD.bif (λh=>absurd h (XO _)) (λ_=>?_)) (λg=>?_)) (λf=>?_);rw[iP]at a;exact aD.of_eq (fb (by rw[a];congr 1;omega) j);have e:i=q:=(by omega);subst e;rw[iN,XL rfl]at a;have k:i-(0+(i-0))=0:=(by omega);rw[k];unfold vG;rw[a];rcases j with _|_|j;exact aD.refl _;exact aD.refl _;omega;rw[iN,iN]at a;exact aD.of_eq (fb (by rw[a];congr 1;omega) j)
theorem EG (l:LV) (H:l.length<=1000:=by omega):DP 224 [.one (aN l)] (.d (.one (aN (jx l)))):=by
 refine dg Tryz.func224 [] ?_;refine Loop.by (α:=Nat×LV) (λx=>[(0,.d (.one (aN l))),(4,au x.1),(3,.d (.one (aN x.2)))]) (λ_=>[]) (λx=>x.1<=l.length/\x.2=(l.take x.1).foldl iE []/\x.2.length<=x.1) (λx=>l.length-x.1)
  (aG.at (0,[]) ⟨XR _,rfl,XU _⟩ .nil (.cS (.cS (.cons (.data (dX.one (aD.nil _ _))) .nil)))) (λx b=>?_)
 obtain⟨k,o⟩:=x;obtain⟨w,g,y⟩:=b;replace w:k<=l.length:=w;replace g:o=(l.take k).foldl iE []:=g;replace y:o.length<=k:=y;apply af.mk<;>intro z
 ·have j:k<l.length:=(by have:=XA z;omega);have p:IntKind.i64.wrap ((k:Int)+1)=((k+1:Nat):Int):=(r8 ⟨by omega,by omega⟩).trans (by omega);have r:(l.take (k+1)).foldl iE []=iE o (l.getD k ⟨0,0⟩):=(by rw[YL,abF,<-g];simp[List.getD,XY j]);refine Loop.by (α:=Nat) (λq=>[(0,.d (.one (aN l))),(4,au k),(3,.d (.one (aN o))),(5,au q)]) (λ_=>[]) (λq=>q<=o.length/\∀i,i<q->bt (o.getD i ⟨0,0⟩) (l.getD k ⟨0,0⟩)=true) (λq=>o.length-q)
   (aG.at 0 ⟨XR _,λ_ h=>absurd h (XO _)⟩ .nil (.cS (.cS (.cS (.cS .nil))))) (λq b=>?_)
  obtain⟨t,b⟩:=b;have E:IntKind.i64.wrap ((q:Int)+1)=((q+1:Nat):Int):=(r8 ⟨by omega,by omega⟩).trans (by omega);have A:(q<o.length->bt (o.getD q ⟨0,0⟩) (l.getD k ⟨0,0⟩)=false)->iE o (l.getD k ⟨0,0⟩)=if q<o.length/\o.getD q ⟨0,0⟩=l.getD k ⟨0,0⟩then o else o.take q++l.getD k ⟨0,0⟩::o.drop q:=λh=>Hz o q t b h;apply af.mk<;>intro m
  ·have f:q<o.length:=(by have:=XA m;omega);repeat' first|apply af.t|refine ak.o ?_|fail
   refine ai.bool (Mg (o.getD q ⟨0,0⟩) (l.getD k ⟨0,0⟩)) (λc B=>?_);repeat' first|apply af.t|refine ak.n ?_|fail
   apply af.mk<;>intro C
   ·refine aG.back (x:=q) (q+1) ⟨f,λi I=>?_⟩ (by omega) .nil (.cS (.cS (.cS (.cons (ar.int E) .nil))));by_cases e:i=q;subst e;rw[<-B];exact C;exact b i (by omega)
   ·have F:bt (o.getD q ⟨0,0⟩) (l.getD k ⟨0,0⟩)=false:=(by rw[<-B];exact C);have a:=A (λ_=>F);repeat' first|apply af.t|refine ak.o ?_|apply af.gF m
    refine rY.v (o.getD q ⟨0,0⟩) (l.getD k ⟨0,0⟩) (λe D=>?_);repeat' first|apply af.t|refine ak.n ?_|fail
    apply af.mk<;>intro u
    ·refine aG.back (x:=(k,o)) (k+1,o) ⟨j,?_,?_⟩ (by show l.length-(k+1)<l.length-k;omega) .nil (.cS (.cons (ar.int p) (.cS .nil)));show o=_;rw[r,a,XL ⟨f,D.1 u⟩];show o.length<=k+1;omega
    ·have G:¬(q<o.length/\o.getD q ⟨0,0⟩=l.getD k ⟨0,0⟩):=λh=>by rw[D.2 h.2]at u;cases u
     rw[XG G]at a;refine ak.o ?_;refine ak.mk (aS) ?_;refine ak.o ?_;refine ak.mk (aS) ?_;refine ak.o ?_;refine ak.mk (aS) ?_;refine ak.n ?_;refine aG.freeze 3 44 _ _ 2 50 _ rfl rfl (aG.back (x:=(k,o)) (k+1,iE o (l.getD k ⟨0,0⟩)) ⟨j,r.symm,?_⟩ (by show l.length-(k+1)<l.length-k;omega) .nil (.cS (.cons (ar.int p) (.cons (.data (dX.one (aD.pQ ?_ ?_))) .nil))));exact Yg (nR _ _) (by omega);rw[a];simp only[XQ,Yj,XV,ZF,Yi];omega;exact Lp o (l.getD k ⟨0,0⟩) q t a
  ·have f:¬q<o.length:=(by have:=XB m;omega);have a:=A (λh=>absurd h f);rw[XG (λh=>f h.1)]at a;repeat' first|apply af.f|refine ak.n ?_|fail
   refine af.fh m ?_;repeat' first|apply af.f|refine ak.n ?_|fail
   refine ak.o ?_;refine ak.mk (aS) ?_;refine ak.o ?_;refine ak.mk (aS) ?_;refine ak.o ?_;refine ak.mk (aS) ?_;refine ak.n ?_;refine aG.freeze 3 44 _ _ 2 50 _ rfl rfl (aG.back (x:=(k,o)) (k+1,iE o (l.getD k ⟨0,0⟩)) ⟨j,r.symm,?_⟩ (by show l.length-(k+1)<l.length-k;omega) .nil (.cS (.cons (ar.int p) (.cons (.data (dX.one (aD.pQ ?_ ?_))) .nil))));exact Yg (nR _ _) (by omega);rw[a];simp only[XQ,Yj,XV,ZF,Yi];omega;exact Lp o (l.getD k ⟨0,0⟩) q t a
 ·have e:k=l.length:=(by have:=XB z;omega);refine Fin.eq ?_;show TV.d (.one (aN o))=_;rw[g,e,YX];rfl
end Sg
end Go.Vm
namespace Go.Vm
open Go Go.RowKit Go.Proofs
namespace Sg
def eN (s t:cp):LV:=[s.a,s.b,t.a,t.b]
def fI (s t:cp) (e:V2):Bool:=ka s e&&ka t e
def aT (s t:cp):LV:=jx ((eN s t).filter (fI s t))
theorem Dz (p:V2->Bool) (l:LV) (k:Nat) (a:k<l.length):(l.take (k+1)).filter p=(l.take k).filter p++(if p (l.getD k ⟨0,0⟩)=true then[l.getD k ⟨0,0⟩]else[]):=by
 rw[YL,abB];congr 1;simp only[List.getD,XY a,Option.toList_some,Yt,abb,abQ]
theorem Ry (o:LV) (v:V2) (i:Nat) (hi:i<o.length+1) (j:Nat) (b:j<2):aD (bif Nat.blt i o.length then vG o i j else(vL v).getD ((i-o.length)*2+j) (.v Go.undef)) (vG (o++[v]) i j):=by
 refine aD.bif (λh=>aD.of_eq (fb ?_ j)) (λh=>?_);simp[List.getD,Yl,h];have e:i=o.length:=(by omega);subst e;have a:(o++[v]).getD o.length ⟨0,0⟩=v:=(by simp[List.getD]);unfold vG;rw[a,Zb];rcases j with _|_|j;exact aD.refl _;exact aD.refl _;omega
theorem FO (s t:cp):DP 190 [sD s,sD t] (.d (.one (aN (aT s t)))):=by
 refine dg Tryz.func190 [] ?_;have y:∀i,i<4->∀j,j<2->aD ([i64 s.a.x,i64 s.a.y,i64 s.b.x,i64 s.b.y,i64 t.a.x,i64 t.a.y,i64 t.b.x,i64 t.b.y].getD (i*2+j) (.v Go.undef)) (vG (eN s t) i j):=by intro i g j l;rcases i with _|_|_|_|i<;>rcases j with _|_|j<;>first|exact aD.refl _|omega
 refine Loop.by (α:=Nat) (λk=>[(2,.ptr 2 0),(3,.ptr 3 0),(5,.d (.one (aN (eN s t)))),(7,au k),(6,.aJ 41 0)]) (λk=>[(2,.box (sL s)),(3,.box (sL t)),(41,.aL 0 (((eN s t).take k).filter (fI s t)).length 2 50 (vG (((eN s t).take k).filter (fI s t))))]) (λk=>k<=4) (λk=>4-k)
  (aG.nil 6 41 2 50 (λ_ _=> .v Go.undef) rfl rfl (aG.at 0 (XR _) (.cX (.cX (.cons (.aL (λ_ h=>absurd h (XO _))) .nil))) (.cB (.cB (.cons (.data (dX.one (aD.sl y))) (.cS (.cH .nil))))))) (λk A=>?_)
 apply af.mk<;>intro p
 ·have m:k<4:=(by have:=XA p;omega);have o:IntKind.i64.wrap ((k:Int)+1)=((k+1:Nat):Int):=(r8 ⟨by omega,by omega⟩).trans (by omega);have a:=Dz (fI s t) (eN s t) k m;have z:(((eN s t).take k).filter (fI s t)).length<=4:=(by refine Yg (ZK _ _) ?_;simp;omega);refine ak.mk (show 0<=(k:Int)/\(k:Int)<4 by omega) ?_;refine ai.bool (GF s ((eN s t).getD k ⟨0,0⟩)) (λb q=>?_);apply af.mk<;>intro r
  ·subst r;repeat' first|apply af.t|refine ak.mk (show 0<=(k:Int)/\(k:Int)<4 by omega) ?_|fail
   refine ai.bool (GF t ((eN s t).getD k ⟨0,0⟩)) (λc u=>?_);repeat' first|apply af.t|refine ak.n ?_|fail
   apply af.mk<;>intro w
   ·subst w;have f:fI s t ((eN s t).getD k ⟨0,0⟩)=true:=(by rw[fI,<-q,<-u];rfl);rw[XL f]at a;refine ak.mk (show 0<=(k:Int)/\(k:Int)<4 by omega) ?_;refine ak.mk (aS) ?_;refine aG.back (x:=k) (k+1) m (by omega) (.cX (.cX (.cons (.aR ?_ ?_) .nil))) (.cB (.cB (.cS (.cons (ar.int o) (.cH .nil)))));rw[a];simp;intro i g j l;rw[a];exact Ry _ _ i g j l
   ·subst w;have f:fI s t ((eN s t).getD k ⟨0,0⟩)=false:=(by rw[fI,<-u];simp);rw[f]at a;simp only[Y6,aaa,Y4]at a;refine aG.back (x:=k) (k+1) m (by omega) (.cX (.cX (.cons (.aR ?_ ?_) .nil))) (.cB (.cB (.cS (.cons (ar.int o) (.cH .nil)))));rw[a];intro i g j l;rw[a];exact aD.refl _
  ·subst r;have f:fI s t ((eN s t).getD k ⟨0,0⟩)=false:=(by rw[fI,<-q];rfl);rw[f]at a;simp only[Y6,aaa,Y4]at a;repeat' first|apply af.f|refine ak.n ?_|fail
   refine aG.back (x:=k) (k+1) m (by omega) (.cX (.cX (.cons (.aR ?_ ?_) .nil))) (.cB (.cB (.cS (.cons (ar.int o) (.cH .nil)))));rw[a];intro i g j l;rw[a];exact aD.refl _
 ·have e:k=4:=(by have:=XB p;omega);subst e;have z:((eN s t).filter (fI s t)).length<=4:=ZK _ _;refine ai.mk' (EG ((eN s t).filter (fI s t))) ?_;exact Fin.rfl'
def eh (s t:cp):Bool:=decide (gH s t.a*gH s t.b<0)&&decide (gH t s.a*gH t s.b<0)
def aH (s t:cp):Int:=if aB s=false\/aB t=false then 0 else if(aT s t).length>1 then 3 else if(aT s t).length=1 then 1 else if eh s t=true then 2 else 0
theorem KJ (s:cp) (p:V2): -1<=gH s p/\gH s p<=1:=by
 unfold gH;cases aB s&&aY p 4000;simp only[ZG];omega;(simp only[ZD,ct,bN];split;decide;(split<;>decide))
theorem Ch (s t:cp) (p q:V2):bW (gH s p*gH t q)=gH s p*gH t q:=by
 have b:=KJ s p;have c:=KJ t q;have a:gH s p= -1\/gH s p=0\/gH s p=1:=by omega
 rcases a with a|a|a<;>rw[a]<;>exact fq (by omega) (by omega)
theorem oJ (s t:cp):DP 125 [sD s,sD t] (au (aH s t)):=by
 refine dg Tryz.func125 [] ?_;refine ai.bool (mj s) (λa p=>?_);apply af.mk<;>intro h
 ·repeat' first|apply af.t|refine Fin.int ?_|fail
  rw[aH,XL (.inl (by rw[<-p];simpa using h))]
 repeat' apply af.f
 refine ai.bool (mj t) (λb q=>?_);repeat' apply af.f
 apply af.mk<;>intro l
 ·refine Fin.int ?_;rw[aH,XL (.inr (by rw[<-q];simpa using l))]
 have B:¬(aB s=false\/aB t=false):=by rw[<-p,<-q];simp at h l;simp[h,l]
 have C:aH s t=if(aT s t).length>1 then 3 else if(aT s t).length=1 then 1 else if eh s t=true then 2 else 0:=by rw[aH,XG B]
 rw[C];refine ai.mk' (FO s t) ?_;apply af.mk<;>intro k
 ·replace k:=XA k;refine Fin.int ?_;rw[iP]
 replace k:=XB k;rw[iN];apply af.mk<;>intro r
 ·have D:((aT s t).length:Int)=1:=(by simpa using r);refine Fin.int ?_;rw[iP]
 have D:((aT s t).length:Int)≠1:=by simpa using r
 rw[iN];refine ai.int (oI s t.a) (λg u=>?_);refine ai.int (oI s t.b) (λi w=>?_);have j:=Ch s s t.a t.b;have m:=Ch t t s.a s.b;rw[<-u,<-w]at j;have e:eh s t=(decide (g*i<0)&&decide (gH t s.a*gH t s.b<0)):=by rw[eh,u,w]
 rw[e];apply af.mk<;>intro c
 ·replace c:decide (bW (g*i)<0)=true:=c;rw[j]at c;repeat' apply af.t
  refine ai.int (oI t s.a) (λx y=>?_);have o:decide (bW (g*i)<0)=true:=(by rw[j];exact c);repeat' first|apply af.t|apply af.gF o|refine ai.int (oI t s.b) (λz A=>?_)|refine ak.n ?_|fail
  rw[<-y,<-A]at m;rw[<-y,<-A,c,Zd];apply af.mk<;>intro f
  ·replace f:decide (bW (x*z)<0)=true:=f;rw[m]at f;refine Fin.int ?_;rw[XL f]
  ·replace f:decide (bW (x*z)<0)=false:=f;rw[m]at f;refine Fin.int ?_;rw[f];rfl
 ·replace c:decide (bW (g*i)<0)=false:=c;rw[j]at c;rw[c,YN];have o:decide (bW (g*i)<0)=false:=(by rw[j];exact c);repeat' first|apply af.f|apply af.fh o|refine ak.n ?_|refine Fin.int ?_|fail
  rfl
end Sg
end Go.Vm
namespace Go.Vm
namespace Sg
open Go Go.RowKit Go.Proofs
def ag (a b:V2):V2:=⟨a.x-b.x,a.y-b.y⟩
def aa (a b:V2):Int:=a.x*b.y-a.y*b.x
structure In (m:Int) (v:V2):Prop where
 x0: -m<=v.x
 x1:v.x<=m
 y0: -m<=v.y
 y1:v.y<=m
variable {m:Int}
theorem In.of {v:V2} (a:0<=m) (b:m<=4611686018427387904) (h:aY v m=true):In m v:=by
 have:=(nj a b).1 h;exact⟨by omega,by omega,by omega,by omega⟩
theorem In.within {v:V2} (a:0<=m) (b:m<=4611686018427387904) (h:In m v):aY v m=true:=(nj a b).2 ⟨h.x0,h.x1,h.y0,h.y1⟩
variable {s:cp}
theorem du (h:aB s=true):In 4000 s.a/\In 4000 s.b:=by
 simp only[aB,XJ]at h;exact⟨In.of (by decide) (by decide) h.1,In.of (by decide) (by decide) h.2⟩
theorem jO (h:In 4000 s.a) (k:In 4000 s.b):aB s=true:=by
 simp only[aB,XJ];exact⟨h.within (by decide) (by decide),k.within (by decide) (by decide)⟩
variable {x:Int}
theorem ir {y X Y:Int} (a: -X<=x/\x<=X) (b: -Y<=y/\y<=Y): -(X*Y)<=x*y/\x*y<=X*Y:=by
 have c:(x*y).natAbs<=X.natAbs*Y.natAbs:=by rw[abZ];exact aaE (by omega) (by omega)
 have f:((X.natAbs*Y.natAbs:Nat):Int)=X*Y:=by rw[abm,abv (by omega),abv (by omega)]
 omega
variable {a:V2}
theorem fJ {b:V2} (g:m<=1000000000) (c:In m a) (f:In m b):cW a b=ag a b/\In (2*m) (ag a b):=by
 obtain⟨h,i,j,k⟩:=c;obtain⟨l,o,p,q⟩:=f;refine⟨?_,⟨?_,?_,?_,?_⟩⟩;unfold cW ag;simp(disch:=omega) only[fq];all_goals (simp only[ag];omega)
theorem fS {b:V2} (f:0<=m) (c:m<=1000000000) (g:In m a) (h:In m b):eJ a b=aa a b/\ -(2*(m*m))<=aa a b/\aa a b<=2*(m*m):=by
 obtain⟨i,j,k,l⟩:=g;obtain⟨o,p,q,r⟩:=h;have t:=ir (x:=a.x) (y:=b.y) (X:=m) (Y:=m) ⟨i,j⟩ ⟨q,r⟩;have u:=ir (x:=a.y) (y:=b.x) (X:=m) (Y:=m) ⟨k,l⟩ ⟨o,p⟩;have w:m*m<=1000000000*1000000000:=abw c c f (by omega);refine⟨?_,?_⟩;unfold eJ aa;simp(disch:=omega) only[fq];unfold aa;omega
def mW (a b c:V2):Int:=bN (aa (ag b a) (ag c a))
theorem jw {b c:V2} (o:0<=m) (p:m<=100000000) (f:In m a) (g:In m b) (h:In m c):ct a b c=mW a b c:=by
 unfold ct mW;obtain⟨i,j⟩:=fJ (by omega) g f;obtain⟨k,l⟩:=fJ (by omega) h f;rw[i,k,(fS (by omega) (by omega) j l).1]
def low (x y d:Int):P3:=⟨x.tdiv (Int.gcd (Int.gcd x y) d),y.tdiv (Int.gcd (Int.gcd x y) d),d.tdiv (Int.gcd (Int.gcd x y) d)⟩
def Jj (x y d:Int):P3:=if d<0 then low (-x) (-y) (-d)else low x y d
variable {g:Int}
theorem HK {d:Int} (h:d≠0:=by omega):((Int.gcd g d:Nat):Int)≠0:=by
 have:Int.gcd g d≠0:=λa=>h (Int.gcd_eq_zero_iff.1 a).2;omega
theorem kW (a:Ei x):Ei (x.tdiv g):=by
 have h:(x.tdiv g).natAbs<=x.natAbs:=by rw[Int.natAbs_tdiv];exact Nat.div_le_self _ _
 obtain⟨b,c⟩:=a;constructor<;>omega
theorem zO (h:Ei x):bW x=x:=fq (by have:=h.1;omega) (by have:=h.2;omega)
abbrev Small (n:Int):Prop:= -1000000000000000<=n/\n<=1000000000000000
theorem dC {n:Int} (h:Small n):Ei n:=⟨by omega,by omega⟩
theorem zm {a b:Int} (c:Small a) (f:Small b):Small (Int.gcd a b:Nat):=by
 have:=zn 1000000000000000 c f;constructor<;>omega
structure QD where
 kind:Int
 p:P3
 s:cp
abbrev Vd (c:QD):List SV:=[i64 c.kind,i64 c.p.x,i64 c.p.y,i64 c.p.d,i64 c.s.a.x,i64 c.s.a.y,i64 c.s.b.x,i64 c.s.b.y]
abbrev FQ (c:QD):DV:= .agg (Vd c)
abbrev p0:P3:=⟨0,0,0⟩
abbrev v0:V2:=⟨0,0⟩
abbrev s0:cp:=⟨v0,v0⟩
abbrev hG:QD:=⟨0,p0,s0⟩
abbrev iq (p:V2):QD:=⟨1,cm p,s0⟩
theorem gB (p:V2):DP 220 [vD p] (.d (FQ (iq p))):=by
 refine dg Tryz.func220 [] ?_;refine ai.mk' (nH p) ?_;repeat' first|refine ak.n ?_|fail
 exact Fin.rfl'
def qm (a b d:Int):Prop:=a<0\/a>d\/b<0\/b>d
instance (a b d:Int):Decidable (qm a b d):=by unfold qm;exact inferInstance
def uI (a b d:Int):Prop:=a=0\/a=d\/b=0\/b=d
instance (a b d:Int):Decidable (uI a b d):=by unfold uI;exact inferInstance
def eK (s:cp) (u:V2) (a b d:Int):QD:=if qm a b d then hG else⟨if uI a b d then 1 else 2,low (s.a.x*d+a*u.x) (s.a.y*d+a*u.y) d,s0⟩
def eY (s t:cp):QD:=
 let u:=ag s.b s.a;let v:=ag t.b t.a;let g:=ag t.a s.a
 if aa u v<0 then eK s u (-aa g v) (-aa g u) (-aa u v)else eK s u (aa g v) (aa g u) (aa u v)
theorem Jl (s t:cp) (hs:aB s=true) (c5:aB t=true) (d1:aa (ag s.b s.a) (ag t.b t.a)≠0):
  DP 219 [sD s,sD t,.one (i64 (aa (ag s.b s.a) (ag t.b t.a)))] (.d (FQ (eY s t))):=by
 obtain⟨J,c6⟩:=du hs;obtain⟨b3,c7⟩:=du c5;obtain⟨c8,w⟩:=fJ (by decide) c6 J;obtain⟨c9,iv⟩:=fJ (by decide) c7 b3;obtain⟨eg,b4⟩:=fJ (by decide) b3 J;obtain⟨a2,a3,a4⟩:=fS (by decide) (by decide) b4 iv;obtain⟨a5,a6,a7⟩:=fS (by decide) (by decide) b4 w;obtain⟨d2,d3,d4⟩:=fS (by decide) (by decide) w iv;have a8:∀D A B:Int,eY s t=eK s (ag s.b s.a) A B D->0<D->D<=128000000-> -128000000<=A->A<=128000000->
   ¬qm A B D->(Small (s.a.x*D+A*(ag s.b s.a).x)/\Small (s.a.y*D+A*(ag s.b s.a).y)/\bW (bW (s.a.x*D)+bW (A*(ag s.b s.a).x))=s.a.x*D+A*(ag s.b s.a).x/\bW (bW (s.a.y*D)+bW (A*(ag s.b s.a).y))=s.a.y*D+A*(ag s.b s.a).y):=λD A B _ d5 b5 b6 b7 _=>by
  have i:=ir (x:=s.a.x) (y:=D) (X:=4000) (Y:=128000000) ⟨J.x0,J.x1⟩ ⟨by omega,b5⟩;have c:=ir (x:=s.a.y) (y:=D) (X:=4000) (Y:=128000000) ⟨J.y0,J.y1⟩ ⟨by omega,b5⟩;have j:=ir (x:=A) (y:=(ag s.b s.a).x) (X:=128000000) (Y:=8000) ⟨b6,b7⟩ ⟨w.x0,w.x1⟩;have f:=ir (x:=A) (y:=(ag s.b s.a).y) (X:=128000000) (Y:=8000) ⟨b6,b7⟩ ⟨w.y0,w.y1⟩;refine⟨⟨by omega,by omega⟩,⟨by omega,by omega⟩,?_,?_⟩;simp(disch:=omega) only[fq];simp(disch:=omega) only[fq]
 have d6:aa (ag s.b s.a) (ag t.b t.a)=aa (ag s.b s.a) (ag t.b t.a):=rfl;generalize d0:aa (ag s.b s.a) (ag t.b t.a)=d at*;refine dg Tryz.func219 [] ?_;refine ai.v (c8▸ca s.b s.a) (λu b8=>?_);refine ai.v (c9▸ca t.b t.a) (λv b9=>?_);refine ak.n ?_;refine ai.v (eg▸ca t.a s.a) (λc0 c1=>?_);simp only[<-b8]at w a5 a6 a7 a8;simp only[<-b9]at iv a2 a3 a4;simp only[<-c1]at a2 a3 a4 a5 a6 a7;refine ai.int (a2▸dH c0 v) (λa c2=>?_);refine ai.int (a5▸dH c0 u) (λb c3=>?_);refine ak.n ?_;rw[<-c2]at a3 a4;rw[<-c3]at a6 a7;have c4:eY s t=if d<0 then eK s u (-a) (-b) (-d)else eK s u a b d:=by rw[c2,c3,<-d0,c1,b9,b8];rfl
 have o:IntKind.i64.wrap (0-a)= -a:=(wid).trans (by omega);have K:IntKind.i64.wrap (0-b)= -b:=(wid).trans (by omega);have l:IntKind.i64.wrap (0-d)= -d:=(wid).trans (by omega);have d7:a=a:=rfl;have d8:b=b:=rfl;have d9:d=d:=rfl;apply af.mk<;>intro h
 ·replace h:=XA (show decide (d<0)=true from h);have z:eY s t=eK s u (-a) (-b) (-d):=(by rw[c4,XL h]);have p:qm (-a) (-b) (-d)->eY s t=hG:=λh=>by rw[z,eK,XL h]
  apply af.mk<;>intro i
  ·replace i:=XA i;repeat' first|apply af.t|refine ak.n ?_|fail
   rw[p (.inl (o▸i))];exact Fin.rfl'
  replace i:=XB i;repeat' apply af.f
  apply af.mk<;>intro c
  ·replace c:=XA c;repeat' first|apply af.t|refine ak.n ?_|fail
   rw[p (.inr (.inl (o▸l▸c)))];exact Fin.rfl'
  replace c:=XB c;repeat' apply af.f
  apply af.mk<;>intro j
  ·replace j:=XA j;repeat' first|apply af.t|refine ak.n ?_|fail
   rw[p (.inr (.inr (.inl (K▸j))))];exact Fin.rfl'
  replace j:=XB j;repeat' apply af.f
  apply af.mk<;>intro f
  ·replace f:=XA f;repeat' first|apply af.t|refine ak.n ?_|fail
   rw[p (.inr (.inr (.inr (K▸l▸f))))];exact Fin.rfl'
  replace f:=XB f;rw[o]at i c;rw[l]at c f;rw[K]at j f;have O:¬qm (-a) (-b) (-d):=(by unfold qm;omega);obtain⟨a0,a1,q,r⟩:=a8 (-d) (-a) (-b) z (by omega) (by omega) (by omega) (by omega) O;have a9:eY s t=⟨if uI (-a) (-b) (-d)then 1 else 2,low (s.a.x*(-d)+(-a)*u.x) (s.a.y*(-d)+(-a)*u.y) (-d),s0⟩:=(by rw[z,eK,XG O]);rw[<-o,<-l]at q r;rw[<-o,<-l]at a0 a1;have C:Small (bW (bW (s.a.x*(IntKind.i64.wrap (0-d)))+bW ((IntKind.i64.wrap (0-a))*u.x))):=(by rw[q];exact a0);have E:Small (bW (bW (s.a.y*(IntKind.i64.wrap (0-d)))+bW ((IntKind.i64.wrap (0-a))*u.y))):=(by rw[r];exact a1);have P:Small (IntKind.i64.wrap (0-d)):=(by rw[l];constructor<;>omega);refine ak.n ?_;refine ai.int (pd _ _ (dC C) (dC E)) (λF Q=>?_);have b0:Small F:=(by rw[Q];exact zm C E);refine ai.int (pd F (IntKind.i64.wrap (0-d)) (dC b0) (dC P)) (λg R=>?_);have G:g≠0:=(by rw[R];exact HK (by rw[l];omega));refine ak.mk G ?_;refine ak.mk G ?_;refine ak.mk G ?_;refine ak.n ?_;have S:F=(Int.gcd (bW (bW (s.a.x*(IntKind.i64.wrap (0-d)))+bW ((IntKind.i64.wrap (0-a))*u.x))) (bW (bW (s.a.y*(IntKind.i64.wrap (0-d)))+bW ((IntKind.i64.wrap (0-a))*u.y))):Nat):=Q;rw[q,r]at S;have b1:(⟨bW ((bW (bW (s.a.x*(IntKind.i64.wrap (0-d)))+bW ((IntKind.i64.wrap (0-a))*u.x))).tdiv g),bW ((bW (bW (s.a.y*(IntKind.i64.wrap (0-d)))+bW ((IntKind.i64.wrap (0-a))*u.y))).tdiv g),bW ((IntKind.i64.wrap (0-d)).tdiv g)⟩:P3)=low (s.a.x*(-d)+(-a)*u.x) (s.a.y*(-d)+(-a)*u.y) (-d):=(by rw[zO (kW (dC C)),zO (kW (dC E)),zO (kW (dC P)),R,S,q,r,o,l];rfl);have m:∀k:Int,k=(if uI (-a) (-b) (-d)then 1 else 2)->Fin (.d (FQ ⟨k,⟨bW ((bW (bW (s.a.x*(IntKind.i64.wrap (0-d)))+bW ((IntKind.i64.wrap (0-a))*u.x))).tdiv g),bW ((bW (bW (s.a.y*(IntKind.i64.wrap (0-d)))+bW ((IntKind.i64.wrap (0-a))*u.y))).tdiv g),bW ((IntKind.i64.wrap (0-d)).tdiv g)⟩,s0⟩)) (.d (FQ (eY s t))):=λk b2=>by rw[a9,b1,b2];exact Fin.rfl'
  apply af.mk<;>intro T
  ·have M:(IntKind.i64.wrap (0-a))=0:=(by simpa using T);repeat' first|apply af.t|refine ak.n ?_|fail
   exact m 1 (by rw[XL (.inl (o▸M))])
  have M:(IntKind.i64.wrap (0-a))≠0:=(by simpa using T);repeat' apply af.f
  apply af.mk<;>intro U
  ·have H:(IntKind.i64.wrap (0-a))=(IntKind.i64.wrap (0-d)):=(by simpa using U);repeat' first|apply af.t|refine ak.n ?_|fail
   exact m 1 (by rw[XL (.inr (.inl (o▸l▸H)))])
  have H:(IntKind.i64.wrap (0-a))≠(IntKind.i64.wrap (0-d)):=(by simpa using U);repeat' apply af.f
  apply af.mk<;>intro V
  ·have N:(IntKind.i64.wrap (0-b))=0:=(by simpa using V);repeat' first|apply af.t|refine ak.n ?_|fail
   exact m 1 (by rw[XL (.inr (.inr (.inl (K▸N))))])
  have N:(IntKind.i64.wrap (0-b))≠0:=(by simpa using V);repeat' apply af.f
  apply af.mk<;>intro Z
  ·have I:(IntKind.i64.wrap (0-b))=(IntKind.i64.wrap (0-d)):=(by simpa using Z);repeat' first|apply af.t|refine ak.n ?_|fail
   exact m 1 (by rw[XL (.inr (.inr (.inr (K▸l▸I))))])
  have I:(IntKind.i64.wrap (0-b))≠(IntKind.i64.wrap (0-d)):=(by simpa using Z);refine m 2 ?_;rw[XG];rw[o]at M H;rw[K]at N I;rw[l]at H I;unfold uI;omega
 ·replace h:=XB (show decide (d<0)=false from h);have z:eY s t=eK s u a b d:=(by rw[c4,XG h]);have p:qm a b d->eY s t=hG:=λh=>by rw[z,eK,XL h]
  apply af.mk<;>intro i
  ·replace i:=XA i;repeat' first|apply af.t|refine ak.n ?_|fail
   rw[p (.inl (i))];exact Fin.rfl'
  replace i:=XB i;repeat' apply af.f
  apply af.mk<;>intro c
  ·replace c:=XA c;repeat' first|apply af.t|refine ak.n ?_|fail
   rw[p (.inr (.inl (c)))];exact Fin.rfl'
  replace c:=XB c;repeat' apply af.f
  apply af.mk<;>intro j
  ·replace j:=XA j;repeat' first|apply af.t|refine ak.n ?_|fail
   rw[p (.inr (.inr (.inl (j))))];exact Fin.rfl'
  replace j:=XB j;repeat' apply af.f
  apply af.mk<;>intro f
  ·replace f:=XA f;repeat' first|apply af.t|refine ak.n ?_|fail
   rw[p (.inr (.inr (.inr (f))))];exact Fin.rfl'
  replace f:=XB f;have O:¬qm a b d:=(by unfold qm;omega);obtain⟨a0,a1,q,r⟩:=a8 d a b z (by omega) (by omega) (by omega) (by omega) O;have a9:eY s t=⟨if uI a b d then 1 else 2,low (s.a.x*d+a*u.x) (s.a.y*d+a*u.y) d,s0⟩:=(by rw[z,eK,XG O]);have C:Small (bW (bW (s.a.x*d)+bW (a*u.x))):=(by rw[q];exact a0);have E:Small (bW (bW (s.a.y*d)+bW (a*u.y))):=(by rw[r];exact a1);have P:Small d:=(by constructor<;>omega);refine ak.n ?_;refine ai.int (pd _ _ (dC C) (dC E)) (λF Q=>?_);have b0:Small F:=(by rw[Q];exact zm C E);refine ai.int (pd F d (dC b0) (dC P)) (λg R=>?_);have G:g≠0:=(by rw[R];exact HK);refine ak.mk G ?_;refine ak.mk G ?_;refine ak.mk G ?_;refine ak.n ?_;have S:F=(Int.gcd (bW (bW (s.a.x*d)+bW (a*u.x))) (bW (bW (s.a.y*d)+bW (a*u.y))):Nat):=Q;rw[q,r]at S;have b1:(⟨bW ((bW (bW (s.a.x*d)+bW (a*u.x))).tdiv g),bW ((bW (bW (s.a.y*d)+bW (a*u.y))).tdiv g),bW (d.tdiv g)⟩:P3)=low (s.a.x*d+a*u.x) (s.a.y*d+a*u.y) d:=(by rw[zO (kW (dC C)),zO (kW (dC E)),zO (kW (dC P)),R,S,q,r];rfl);have m:∀k:Int,k=(if uI a b d then 1 else 2)->Fin (.d (FQ ⟨k,⟨bW ((bW (bW (s.a.x*d)+bW (a*u.x))).tdiv g),bW ((bW (bW (s.a.y*d)+bW (a*u.y))).tdiv g),bW (d.tdiv g)⟩,s0⟩)) (.d (FQ (eY s t))):=λk b2=>by rw[a9,b1,b2];exact Fin.rfl'
  apply af.mk<;>intro T
  ·have M:a=0:=(by simpa using T);repeat' first|apply af.t|refine ak.n ?_|fail
   exact m 1 (by rw[XL (.inl (M))])
  have M:a≠0:=(by simpa using T);repeat' apply af.f
  apply af.mk<;>intro U
  ·have H:a=d:=(by simpa using U);repeat' first|apply af.t|refine ak.n ?_|fail
   exact m 1 (by rw[XL (.inr (.inl (H)))])
  have H:a≠d:=(by simpa using U);repeat' apply af.f
  apply af.mk<;>intro V
  ·have N:b=0:=(by simpa using V);repeat' first|apply af.t|refine ak.n ?_|fail
   exact m 1 (by rw[XL (.inr (.inr (.inl (N))))])
  have N:b≠0:=(by simpa using V);repeat' apply af.f
  apply af.mk<;>intro Z
  ·have I:b=d:=(by simpa using Z);repeat' first|apply af.t|refine ak.n ?_|fail
   exact m 1 (by rw[XL (.inr (.inr (.inr (I))))])
  have I:b≠d:=(by simpa using Z);refine m 2 ?_;rw[XG];unfold uI;omega
def gp (s:cp):V2:=if bt s.b s.a=true then s.b else s.a
def gd (s:cp):V2:=if bt s.b s.a=true then s.a else s.b
def lC (a b:V2):V2:=if bt a b=true then b else a
def jG (a b:V2):V2:=if bt b a=true then b else a
def kn (s t:cp):QD:=
 if gl (lC (gp s) (gp t)) (jG (gd s) (gd t))=0 then iq (lC (gp s) (gp t))
 else if gl (lC (gp s) (gp t)) (jG (gd s) (gd t))= -1 then⟨3,p0,⟨lC (gp s) (gp t),jG (gd s) (gd t)⟩⟩else hG
def ev (s t:cp):QD:=
 if s.a=s.b/\ka t s.a=true then iq s.a
 else if t.a=t.b/\ka s t.a=true then iq t.a
 else if s.a=s.b\/t.a=t.b\/ct s.a s.b t.a≠0 then hG
 else kn s t
def cU (s t:cp):QD:=
 if aB s=false\/aB t=false then hG
 else if aa (ag s.b s.a) (ag t.b t.a)≠0 then eY s t
 else ev s t
theorem L5 (s t:cp):DP 182 [sD s,sD t] (.d (FQ (cU s t))):=by
 refine dg Tryz.func182 [] ?_;refine ai.bool (r9 s) (λb5 V=>?_);apply af.mk<;>intro h
 ·rw[show cU s t=hG by rw[cU,XL (.inl (by rw[<-V];simpa using h))]];repeat' first|apply af.t|refine ak.n ?_|fail
  exact Fin.rfl'
 repeat' apply af.f
 refine ai.bool (r9 t) (λb6 X=>?_);repeat' apply af.f
 apply af.mk<;>intro Y
 ·rw[show cU s t=hG by rw[cU,XL (.inr (by rw[<-X];simpa using Y))]];exact Fin.rfl'
 have P:aB s=true:=by rw[<-V];simpa using h
 have Q:aB t=true:=by rw[<-X];simpa using Y
 have Z:¬(aB s=false\/aB t=false):=by simp[P,Q]
 obtain⟨a6,a7⟩:=du P;obtain⟨a8,a9⟩:=du Q;obtain⟨b0,b1⟩:=fJ (by decide) a7 a6;obtain⟨b2,iv⟩:=fJ (by decide) a9 a8;obtain⟨b3,_⟩:=fS (by decide) (by decide) b1 iv;refine ai.mk' (b0▸ca s.b s.a) ?_;refine ai.mk' (b2▸ca t.b t.a) ?_;refine ai.int (b3▸dH (ag s.b s.a) (ag t.b t.a)) (λd a0=>?_);refine ak.n ?_;apply af.mk<;>intro a1
 ·have N:d≠0:=(by simpa using a1);subst a0;rw[show cU s t=eY s t by rw[cU,XG Z,XL N]];refine ai.mk' (Jl s t P Q N) ?_;exact Fin.rfl'
 have N:d=0:=by simpa using a1
 rw[show cU s t=ev s t by rw[cU,XG Z,XG (by rw[<-a0,N];simp)]];refine rY.v s.a s.b (λg a2=>?_);have F:(¬(s.a=s.b/\ka t s.a=true))->(¬(t.a=t.b/\ka s t.a=true))->ev s t=if s.a=s.b\/t.a=t.b\/ct s.a s.b t.a≠0 then hG else kn s t:=λh k=>by rw[ev,XG h,XG k]
 apply af.mk<;>intro G
 ·have r:s.a=s.b:=a2.1 G;subst G;repeat' apply af.t
  refine ai.bool (wG t s.a) (λb4 H=>?_);repeat' apply af.t
  apply af.mk<;>intro a3
  ·rw[show ev s t=iq s.a by rw[ev,XL ⟨r,by rw[<-H,a3]⟩]];refine ai.mk' (gB s.a) ?_;exact Fin.rfl'
  have z:¬(s.a=s.b/\ka t s.a=true):=λh=>by rw[<-H,a3]at h;exact absurd h.2 (by decide)
  refine rY.v t.a t.b (λa I=>?_);apply af.mk<;>intro i
  ·have j:t.a=t.b:=I.1 i;subst i;repeat' apply af.t
   refine ai.bool (wG s t.a) (λR l=>?_);repeat' apply af.t
   apply af.mk<;>intro J
   ·rw[show ev s t=iq t.a by rw[ev,XG z,XL ⟨j,by rw[<-l,J]⟩]];refine ai.mk' (gB t.a) ?_;exact Fin.rfl'
   have A:¬(t.a=t.b/\ka s t.a=true):=λh=>by rw[<-l,J]at h;exact absurd h.2 (by decide)
   rw[show ev s t=hG by rw[F z A,XL (.inl r)]];refine rY.v s.a s.b (λB C=>?_);obtain rfl:B=true:=C.2 r;repeat' apply af.t
   exact Fin.rfl'
  ·have j:¬t.a=t.b:=λh=>by rw[I.2 h]at i;cases i
   subst i;have A:¬(t.a=t.b/\ka s t.a=true):=λh=>j h.1;rw[show ev s t=hG by rw[F z A,XL (.inl r)]];repeat' apply af.f
   refine rY.v s.a s.b (λB C=>?_);obtain rfl:B=true:=C.2 r;repeat' apply af.t
   exact Fin.rfl'
 have r:¬s.a=s.b:=λh=>by rw[a2.2 h]at G;cases G
 subst G;have z:¬(s.a=s.b/\ka t s.a=true):=λh=>r h.1;repeat' apply af.f
 refine rY.v t.a t.b (λa I=>?_);apply af.mk<;>intro i
 ·have j:t.a=t.b:=I.1 i;subst i;repeat' apply af.t
  refine ai.bool (wG s t.a) (λR l=>?_);repeat' apply af.t
  apply af.mk<;>intro J
  ·rw[show ev s t=iq t.a by rw[ev,XG z,XL ⟨j,by rw[<-l,J]⟩]];refine ai.mk' (gB t.a) ?_;exact Fin.rfl'
  have A:¬(t.a=t.b/\ka s t.a=true):=λh=>by rw[<-l,J]at h;exact absurd h.2 (by decide)
  rw[show ev s t=hG by rw[F z A,XL (.inr (.inl j))]];refine rY.v s.a s.b (λB C=>?_);obtain rfl:B=false:=(by rw[YQ];exact λh=>r (C.1 h));repeat' apply af.f
  refine rY.v t.a t.b (λS T=>?_);obtain rfl:S=true:=T.2 j;repeat' first|apply af.t|apply af.f
  exact Fin.rfl'
 have j:¬t.a=t.b:=λh=>by rw[I.2 h]at i;cases i
 subst i;have A:¬(t.a=t.b/\ka s t.a=true):=λh=>j h.1;repeat' apply af.f
 refine rY.v s.a s.b (λB C=>?_);obtain rfl:B=false:=by rw[YQ];exact λh=>r (C.1 h)
 repeat' apply af.f
 refine rY.v t.a t.b (λS T=>?_);obtain rfl:S=false:=by rw[YQ];exact λh=>j (T.1 h)
 repeat' apply af.f
 refine ai.int (eW s.a s.b t.a) (λw hw=>?_);repeat' apply af.f
 apply af.mk<;>intro a4
 ·have U:w≠0:=(by simpa using a4);rw[show ev s t=hG by rw[F z A,XL (.inr (.inr (by rw[<-hw];exact U)))]];exact Fin.rfl'
 have U:w=0:=by simpa using a4
 rw[show ev s t=kn s t by rw[F z A,XG (by rw[<-hw];simp[r,j,U])]];refine Loop.by (α:=Nat) (λk=>[(2,.ptr 2 0),(3,.ptr 3 0),(4,.ptr 4 0),(6,.ptr 6 0),(7,au (2*k:Nat))])
  (λk=>[(2,.box (sL s)),(3,.box (sL t)),(4,.box (Vd hG)),(6,.box (match k with
   |0=>vL s.a++vL s.b++vL t.a++vL t.b
   |1=>vL (gp s)++vL (gd s)++vL t.a++vL t.b
   |_=>vL (gp s)++vL (gd s)++vL (gp t)++vL (gd t)))]) (λk=>k<=2) (λk=>2-k)
  (aG.at 0 (XR _) (.cX (.cX (.cons (.box (iy.of_eq rfl)) (.cons (.box (iy.of_eq rfl)) .nil)))) (.cB (.cB (.cB (.cB (.cS .nil)))))) (λk b7=>?_)
 rcases k with _|_|k
 ·refine af.t ?_;repeat' first|refine ak.mk (by decide) ?_|fail
  refine ai.bool (jh s.b s.a) (λq u=>?_);refine ak.n ?_;apply af.mk<;>intro y
  ·repeat' first|refine ak.mk (by decide) ?_|refine ak.n ?_|fail
   have g:gp s=s.b:=(by rw[gp,XL (by rw[<-u,y])]);have a:gd s=s.a:=(by rw[gd,XL (by rw[<-u,y])]);refine aG.back (x:=0) 1 (by decide) (by decide) (.cX (.cX (.cons (.box (iy.of_eq rfl)) (.cons (.box (iy.of_eq ?_)) .nil)))) (.cB (.cB (.cB (.cB (.cons (ar.int (by decide)) .nil)))));rw[g,a];rfl
  ·have g:gp s=s.a:=(by rw[gp,XG (by rw[<-u,y];decide)]);have a:gd s=s.b:=(by rw[gd,XG (by rw[<-u,y];decide)]);refine aG.back (x:=0) 1 (by decide) (by decide) (.cX (.cX (.cons (.box (iy.of_eq rfl)) (.cons (.box (iy.of_eq ?_)) .nil)))) (.cB (.cB (.cB (.cB (.cons (ar.int (by decide)) .nil)))));rw[g,a];rfl
 ·refine af.t ?_;repeat' first|refine ak.mk (by decide) ?_|fail
  refine ai.bool (jh t.b t.a) (λq u=>?_);refine ak.n ?_;apply af.mk<;>intro y
  ·repeat' first|refine ak.mk (by decide) ?_|refine ak.n ?_|fail
   have g:gp t=t.b:=(by rw[gp,XL (by rw[<-u,y])]);have a:gd t=t.a:=(by rw[gd,XL (by rw[<-u,y])]);refine aG.back (x:=1) 2 (by decide) (by decide) (.cX (.cX (.cons (.box (iy.of_eq rfl)) (.cons (.box (iy.of_eq ?_)) .nil)))) (.cB (.cB (.cB (.cB (.cons (ar.int (by decide)) .nil)))));show _=vL (gp s)++vL (gd s)++vL (gp t)++vL (gd t);rw[g,a];rfl
  ·have g:gp t=t.a:=(by rw[gp,XG (by rw[<-u,y];decide)]);have a:gd t=t.b:=(by rw[gd,XG (by rw[<-u,y];decide)]);refine aG.back (x:=1) 2 (by decide) (by decide) (.cX (.cX (.cons (.box (iy.of_eq rfl)) (.cons (.box (iy.of_eq ?_)) .nil)))) (.cB (.cB (.cB (.cB (.cons (ar.int (by decide)) .nil)))));show _=vL (gp s)++vL (gd s)++vL (gp t)++vL (gd t);rw[g,a];rfl
 ·obtain rfl:k=0:=(by omega);refine af.fh (by decide) ?_;repeat' first|refine ak.mk (by decide) ?_|refine ak.n ?_|fail
  have O:∀E K:V2,E=lC (gp s) (gp t)->K=jG (gd s) (gd t)->kn s t=if gl E K=0 then iq E else if gl E K= -1 then⟨3,p0,⟨E,K⟩⟩else hG:=λE K h k=>by subst h k;rfl
  refine ai.bool (jh (gp s) (gp t)) (λb4 H=>?_);apply af.mk<;>intro a5
  ·have g:gp t=lC (gp s) (gp t):=(by rw[lC,XL (by rw[<-H,a5])]);repeat' first|refine ak.mk (by decide) ?_|refine ak.n ?_|fail
   refine ai.bool (jh (gd t) (gd s)) (λR l=>?_);apply af.mk<;>intro M
   ·have a:gd t=jG (gd s) (gd t):=(by rw[jG,XL (by rw[<-l,M])]);repeat' first|refine ak.mk (by decide) ?_|refine ak.n ?_|fail
    refine ai.int (iz (gp t) (gd t)) (λc D=>?_);have m:=O (gp t) (gd t) g a;rw[<-D]at m;rw[m];apply af.mk<;>intro o
    ·have b:c=0:=(by simpa using o);rw[XL b];refine ai.mk' (gB (gp t)) ?_;exact Fin.rfl'
    have b:c≠0:=(by simpa using o);rw[XG b];apply af.mk<;>intro p
    ·have f:c= -1:=(by simpa using p);rw[XL f];repeat' first|refine ak.n ?_|fail
     exact Fin.rfl'
    have f:c≠-1:=(by simpa using p);rw[XG f];repeat' first|refine ak.n ?_|fail
    exact Fin.rfl'
   ·have a:gd s=jG (gd s) (gd t):=(by rw[jG,XG (by rw[<-l,M];decide)]);repeat' first|refine ak.mk (by decide) ?_|refine ak.n ?_|fail
    refine ai.int (iz (gp t) (gd s)) (λc D=>?_);have m:=O (gp t) (gd s) g a;rw[<-D]at m;rw[m];apply af.mk<;>intro o
    ·have b:c=0:=(by simpa using o);rw[XL b];refine ai.mk' (gB (gp t)) ?_;exact Fin.rfl'
    have b:c≠0:=(by simpa using o);rw[XG b];apply af.mk<;>intro p
    ·have f:c= -1:=(by simpa using p);rw[XL f];repeat' first|refine ak.n ?_|fail
     exact Fin.rfl'
    have f:c≠-1:=(by simpa using p);rw[XG f];repeat' first|refine ak.n ?_|fail
    exact Fin.rfl'
  ·have g:gp s=lC (gp s) (gp t):=(by rw[lC,XG (by rw[<-H,a5];decide)]);repeat' first|refine ak.mk (by decide) ?_|refine ak.n ?_|fail
   refine ai.bool (jh (gd t) (gd s)) (λR l=>?_);apply af.mk<;>intro M
   ·have a:gd t=jG (gd s) (gd t):=(by rw[jG,XL (by rw[<-l,M])]);repeat' first|refine ak.mk (by decide) ?_|refine ak.n ?_|fail
    refine ai.int (iz (gp s) (gd t)) (λc D=>?_);have m:=O (gp s) (gd t) g a;rw[<-D]at m;rw[m];apply af.mk<;>intro o
    ·have b:c=0:=(by simpa using o);rw[XL b];refine ai.mk' (gB (gp s)) ?_;exact Fin.rfl'
    have b:c≠0:=(by simpa using o);rw[XG b];apply af.mk<;>intro p
    ·have f:c= -1:=(by simpa using p);rw[XL f];repeat' first|refine ak.n ?_|fail
     exact Fin.rfl'
    have f:c≠-1:=(by simpa using p);rw[XG f];repeat' first|refine ak.n ?_|fail
    exact Fin.rfl'
   ·have a:gd s=jG (gd s) (gd t):=(by rw[jG,XG (by rw[<-l,M];decide)]);repeat' first|refine ak.mk (by decide) ?_|refine ak.n ?_|fail
    refine ai.int (iz (gp s) (gd s)) (λc D=>?_);have m:=O (gp s) (gd s) g a;rw[<-D]at m;rw[m];apply af.mk<;>intro o
    ·have b:c=0:=(by simpa using o);rw[XL b];refine ai.mk' (gB (gp s)) ?_;exact Fin.rfl'
    have b:c≠0:=(by simpa using o);rw[XG b];apply af.mk<;>intro p
    ·have f:c= -1:=(by simpa using p);rw[XL f];repeat' first|refine ak.n ?_|fail
     exact Fin.rfl'
    have f:c≠-1:=(by simpa using p);rw[XG f];repeat' first|refine ak.n ?_|fail
    exact Fin.rfl'
theorem kV (s t:cp):DP 115 [sD s,sD t] (au (cU s t).kind):=by
 refine dg Tryz.func115 [] ?_;refine ai.mk' (L5 s t) ?_;repeat' first|refine ak.n ?_|fail
 exact Fin.rfl'
def cL (s:cp) (p:V2):Int:=aa (ag s.b s.a) (ag p s.a)
variable {s:cp} {p:V2}
theorem gm (hs:aB s=true) (a:In 4000 p):gH s p=bN (cL s p):=by
 obtain⟨b,c⟩:=du hs;rw[gH,hs,a.within (by decide) (by decide)];simp only[Bool.and_self,ZD];exact jw (m:=4000) (by decide) (by decide) b c a
theorem oA (hs:aB s=true) (a:In 4000 p):ct s.a s.b p=bN (cL s p):=by
 obtain⟨b,c⟩:=du hs;exact jw (m:=4000) (by decide) (by decide) b c a
variable {x:Int}
theorem uU {y:Int}:bN x*bN y<0↔(x<0/\0<y)\/(0<x/\y<0):=by
 unfold bN;repeat' split
 all_goals omega
theorem qS:bN x=0↔x=0:=by
 unfold bN;repeat' split
 all_goals omega
abbrev gk (s t:cp):Int:=aa (ag s.b s.a) (ag t.b t.a)
theorem su (s t:cp):cL s t.b-cL s t.a=gk s t:=by
 simp only[cL,gk,aa,ag];grind
theorem zy {t:cp} (hs:aB s=true) (a:aB t=true) (h:eh s t=true):gk s t≠0:=by
 obtain⟨b,c⟩:=du a;simp only[eh,XJ,X0]at h;have f:=h.1;rw[gm hs b,gm hs c,uU]at f;have:=su s t;omega
theorem yW {t:cp} (h:aH s t=2):aB s=true/\aB t=true/\eh s t=true:=by
 unfold aH at h;split at h;omega
 ·rename_i b;have c:aB s=true:=by
   cases a:aB s with
   |true=>rfl
   |false=>exact absurd (.inl a) b
  have f:aB t=true:=by
   cases a:aB t with
   |true=>rfl
   |false=>exact absurd (.inr a) b
  split at h;omega;split at h;omega;split at h;rename_i g;exact⟨c,f,g⟩;omega
theorem IM {t:cp}:(aH s t=1->(aT s t).length=1)/\(aH s t=3->(aT s t).length>1):=by
 unfold aH;split;omega;(split;omega;(split;omega;(split<;>omega)))
def pC (s t:cp):P3:=if aH s t=1 then cm ((aT s t).getD 0 v0)else if aH s t=2 then
 Jj (s.a.x*gk s t+(ag s.b s.a).x*aa (ag t.a s.a) (ag t.b t.a)) (s.a.y*gk s t+(ag s.b s.a).y*aa (ag t.a s.a) (ag t.b t.a)) (gk s t)else p0
def en (s t:cp):cp:=if aH s t=3 then⟨(aT s t).getD 0 v0,(aT s t).getD ((aT s t).length-1) v0⟩else s0
instance:DecidableEq P3:=λa b=>decidable_of_iff (a.x=b.x/\a.y=b.y/\a.d=b.d) ⟨λh=>P3.ext h.1 h.2.1 h.2.2,λh=>by rw[h];exact⟨rfl,rfl,rfl⟩⟩
instance:DecidableEq cp:=λa b=>decidable_of_iff (a.a=b.a/\a.b=b.b) ⟨λh=>cp.ext h.1 h.2,λh=>by rw[h];exact⟨rfl,rfl⟩⟩
variable {a:V2}
theorem di {b:V2}:bt a b=true↔a.y<b.y\/(a.y=b.y/\a.x<b.x):=by
 simp[bt]
theorem nQ (a b:V2):bt a b=true\/a=b\/bt b a=true:=by
 rw[di,di,V2.eq_iff];omega
theorem eL (a:V2):bt a a=false:=by
 rw[YQ,Ne,di];omega
theorem mw {b c:V2} (h:bt a b=true) (k:bt b c=true):bt a c=true:=by
 rw[di]at*;omega
theorem my {b:V2} (h:bt a b=true):bt b a=false:=by
 rw[di]at h;rw[YQ,Ne,di];omega
def J2:LV->Prop
 |[]=>True
 |x::r=>(∀y∈r,bt x y=true)/\J2 r
theorem w1 {v e:V2}:∀{l:LV},e∈iE l v↔e=v\/e∈l
 |[]=>by simp[iE]
 |x::r=>by simp only[iE];split;rw[XD,w1,XD];constructor;rintro(h|h|h);exact .inr (.inl h);exact .inl h;exact .inr (.inr h);rintro(h|h|h);exact .inr (.inl h);exact .inl h;exact .inr (.inr h);split;rename_i a;subst a;simp;simp
theorem D5 {v:V2}:∀{l:LV},J2 l->J2 (iE l v)
 |[],_=>by simp[iE,J2]
 |x::r,h=>by simp only[iE];split;rename_i c;refine⟨λy a=>?_,D5 h.2⟩;rcases w1.1 a with rfl|a;exact c;exact h.1 y a;rename_i f;split;exact h;rename_i g;have b:bt v x=true:=(by rcases nQ x v with k|k|k;exact absurd k f;exact absurd k g;exact k);refine⟨λy a=>?_,h⟩;rcases XD.1 a with rfl|a;exact b;exact mw b (h.1 y a)
theorem eF (l:LV):J2 (jx l)/\∀e,e∈jx l↔e∈l:=by
 have:∀(l o:LV),J2 o->J2 (l.foldl iE o)/\∀e,e∈l.foldl iE o↔e∈l\/e∈o:=by
  intro l;induction l with
  |nil=>intro o h;exact⟨h,λe=>by simp⟩
  |cons x l c=>intro o h;obtain⟨a,b⟩:=c (iE o x) (D5 h);refine⟨a,λe=>?_⟩;rw[Z3,b e,w1,XD];constructor;rintro(h|h|h);exact .inl (.inr h);exact .inl (.inl h);exact .inr h;rintro((h|h)|h);exact .inr (.inl h);exact .inl h;exact .inr (.inr h)
 obtain⟨a,b⟩:=this l [] trivial;exact⟨a,λe=>by rw[show jx l=l.foldl iE [] from rfl,b e];simp⟩
variable {p:V2}
theorem lg {l:LV} (h:∀e,e∈l↔e=p):jx l=[p]:=by
 obtain⟨b,c⟩:=eF l;generalize jx l=m at b c;have a:∀e,e∈m↔e=p:=λe=>(c e).trans (h e)
 match m,b,a with
 |[],_,a=>exact absurd ((a p).2 rfl) (by simp)
 |[x],_,a=>rw[(a x).1 (by simp)]
 |x::y::r,b,a=>have f:=(a x).1 (by simp);have g:=(a y).1 (by simp);have:=b.1 y (by simp);rw[f,g,eL]at this;cases this
theorem lh {l:LV} (h:∀e,e∉l):jx l=[]:=by
 obtain⟨_,a⟩:=eF l;exact aah.2 λe b=>h e ((a e).1 b)
theorem JN:∀{l:LV} {p:V2},J2 l->p∈l->(∀e∈l,bt e p=false)->l.getD 0 v0=p
 |[],_,_,h,_=>by simp at h
 |x::r,p,a,h,b=>by simp only[aaS];rcases XD.1 h with h|h;exact h.symm;have:=a.1 p h;rw[b x (by simp)]at this;cases this
theorem D4:∀{l:LV} {p:V2},J2 l->p∈l->(∀e∈l,bt p e=false)->l.getD (l.length-1) v0=p
 |[],_,_,h,_=>by simp at h
 |[x],p,_,h,_=>by simp at h;simp[h]
 |x::y::r,p,a,h,b=>by have c:p∈y::r:=(by rcases XD.1 h with h|h;subst h;have:=a.1 y (by simp);rw[b y (by simp)]at this;cases this;exact h);have:=D4 (l:=y::r) a.2 c (λe f=>b e (by simp[f]));simpa using this
theorem KD {l:LV} {q:V2} (j:p∈l) (k:q∈l) (g:bt p q=true) (h:∀e∈l,bt e p=false/\bt q e=false):
  (jx l).length>1/\(jx l).getD 0 v0=p/\(jx l).getD ((jx l).length-1) v0=q:=by
 obtain⟨i,c⟩:=eF l;have a:=(c p).2 j;have b:=(c q).2 k;refine⟨?_,JN i a (λe f=>(h e ((c e).1 f)).1),D4 i b (λe f=>(h e ((c e).1 f)).2)⟩;generalize jx l=m at a b
 match m,a,b with
 |[],a,_=>simp at a
 |[x],a,b=>simp at a b;rw[a,b,eL]at g;cases g
 |x::y::r,_,_=>simp
theorem Hi (a b c:Int):c>=cQ a b↔a<=c\/b<=c:=by
 unfold cQ;split<;>omega
theorem Hs (a b c:Int):c<=bU a b↔c<=a\/c<=b:=by
 unfold bU;split<;>omega
variable {s:cp}
theorem ie:jP s p=true↔(s.a.x<=p.x\/s.b.x<=p.x)/\(p.x<=s.a.x\/p.x<=s.b.x)/\(s.a.y<=p.y\/s.b.y<=p.y)/\(p.y<=s.a.y\/p.y<=s.b.y):=by
 simp only[jP,XJ,X0,Hi,Hs];omega
theorem Dg {m:Int} (a:In m s.a) (b:In m s.b) (h:jP s p=true):In m p:=by
 obtain⟨c,f,g,i⟩:=ie.1 h;obtain⟨j,k,l,o⟩:=a;obtain⟨q,r,t,u⟩:=b;exact⟨by omega,by omega,by omega,by omega⟩
theorem ia (hs:aB s=true):ka s p=true↔jP s p=true/\cL s p=0:=by
 obtain⟨c,f⟩:=du hs;simp only[ka,hs,Zd,XJ,abA];constructor;rintro⟨a,b⟩;refine⟨a,?_⟩;rw[oA hs (Dg c f a)]at b;exact qS.1 b;rintro⟨a,b⟩;refine⟨a,?_⟩;rw[oA hs (Dg c f a),b];rfl
theorem E5 (hs:aB s=true):ka s s.a=true:=by
 rw[ia hs,ie];refine⟨by omega,?_⟩;simp only[cL,aa,ag];simp
theorem OY (hs:aB s=true):ka s s.b=true:=by
 rw[ia hs,ie];refine⟨by omega,?_⟩;simp only[cL,aa,ag];grind
variable {D k:Int}
theorem H3 {e v:Int} (a:0<D) (h:D*e=k*v):(v≠0->((0<=e\/v<=e)/\(e<=0\/e<=v)↔0<=k/\k<=D))/\(v=0->e=0):=by
 refine⟨λf=>?_,λf=>?_⟩
 ·have b:∀{x y z:Int},0<z->(x*z<=y*z↔x<=y):=λg=>⟨λh=>Int.le_of_mul_le_mul_right h g,λh=>Yo h (by omega)⟩;have c:∀{x y z:Int},0<z->(z*x<=z*y↔x<=y):=λg=>⟨λh=>YT h g,λh=>XH h (by omega)⟩;rcases Yh f with m|i;have j:(e<=0)↔0<=k:=(by rw[<-c (z:=D) a,h,X8];have:=b (x:= -k) (y:=0) (z:= -v) (by omega);rw[aaB,Yd]at this;omega);have l:(v<=e)↔k<=D:=(by rw[<-c (z:=D) a,h];have:=b (x:=k) (y:=D) (z:= -v) (by omega);rw[Yv,Yv]at this;omega);omega;have j:(0<=e)↔0<=k:=(by rw[<-c (z:=D) a,h,X8];have:=b (x:=0) (y:=k) (z:=v) i;rw[Yd]at this;exact this);have l:(e<=v)↔k<=D:=(by rw[<-c (z:=D) a,h];exact b i);omega
 ·subst f;rw[X8]at h;rcases YY.1 h with h|h;omega;exact h
theorem gL {t:cp} {e:V2} (b:0<D) (g:D*(e.x-t.a.x)=k*(t.b.x-t.a.x)) (h:D*(e.y-t.a.y)=k*(t.b.y-t.a.y)) (i:t.a≠t.b):jP t e=true↔0<=k/\k<=D:=by
 rw[ie];obtain⟨j,l⟩:=H3 b g;obtain⟨c,m⟩:=H3 b h;rw[Ne,V2.eq_iff]at i;by_cases f:t.b.x-t.a.x=0;have:=l f;have a:t.b.y-t.a.y≠0:=(by omega);have:=c a;omega;have:=j f;by_cases a:t.b.y-t.a.y=0;have:=m a;omega;have:=c a;omega
variable {s:cp} {e:V2}
theorem L3 {t:cp}:e∈eN s t↔e=s.a\/e=s.b\/e=t.a\/e=t.b:=by simp[eN]
theorem dJ {t:cp}:e∈(eN s t).filter (fI s t)↔(e=s.a\/e=s.b\/e=t.a\/e=t.b)/\ka s e=true/\ka t e=true:=by
 rw[aaq,L3,fI,XJ]
structure pY (s t:cp) (A B D:Int):Prop where
 pos:0<D
 gx:D*(t.a.x-s.a.x)=A*(s.b.x-s.a.x)-B*(t.b.x-t.a.x)
 gy:D*(t.a.y-s.a.y)=A*(s.b.y-s.a.y)-B*(t.b.y-t.a.y)
 ta:∃k,k≠0/\cL s t.a= -B*k/\cL s t.b=(D-B)*k/\cL t s.a=A*k/\cL t s.b=(A-D)*k
 sne:s.a≠s.b
 tne:t.a≠t.b
theorem y7 {t:cp} (h:gk s t≠0:=by omega):s.a≠s.b/\t.a≠t.b:=by
 refine⟨λe=>h ?_,λe=>h ?_⟩;simp only[gk,aa,ag,e];grind;simp only[gk,aa,ag,e];grind
theorem zd {t:cp} (h:0<gk s t):pY s t (aa (ag t.a s.a) (ag t.b t.a)) (aa (ag t.a s.a) (ag s.b s.a)) (gk s t):=by
 obtain⟨a,b⟩:=y7 (s:=s) (t:=t);refine⟨h,?_,?_,⟨1,by decide,?_,?_,?_,?_⟩,a,b⟩;all_goals simp only[gk,aa,ag,cL]
 all_goals grind
theorem ze {t:cp} (h:gk s t<0):pY s t (-aa (ag t.a s.a) (ag t.b t.a)) (-aa (ag t.a s.a) (ag s.b s.a)) (-gk s t):=by
 obtain⟨a,b⟩:=y7 (s:=s) (t:=t);refine⟨by omega,?_,?_,⟨-1,by decide,?_,?_,?_,?_⟩,a,b⟩;all_goals simp only[gk,aa,ag,cL]
 all_goals grind
theorem ja {a k:Int} (b:k≠0):a*k=0↔a=0:=by
 constructor;intro h;rcases YY.1 h with h|h;exact h;exact absurd h b;intro h;rw[h,Yd]
theorem Pg (x k:Int):(x*k<0↔(x<0/\0<k)\/(0<x/\k<0))/\(0<x*k↔(0<x/\0<k)\/(x<0/\k<0)):=by
 rcases YJ x 0 with a|a|a<;>rcases YJ k 0 with hk|hk|hk
 ·have:=Zr a hk;omega
 ·subst hk;rw[X8];omega
 ·have:=X3 a hk;omega
 ·subst a;rw[Yd];omega
 ·subst a;rw[Yd];omega
 ·subst a;rw[Yd];omega
 ·have:=Yb a hk;omega
 ·subst hk;rw[X8];omega
 ·have:=XC a hk;omega
section
variable {s t:cp} {A B D:Int}
theorem pY.ends (L:pY s t A B D) (hs:aB s=true) (i:aB t=true):
  (ka t s.a=true↔A=0/\0<=B/\B<=D)/\(ka t s.b=true↔A=D/\0<=B/\B<=D)/\(ka s t.a=true↔B=0/\0<=A/\A<=D)/\(ka s t.b=true↔B=D/\0<=A/\A<=D):=by
 obtain⟨c,gx,gy,⟨k,f,j,l,m,o⟩,g,h⟩:=L;refine⟨?_,?_,?_,?_⟩;rw[ia i,m,ja f];constructor;rintro⟨b,a⟩;exact⟨a,(gL (k:=B) c (by subst a;grind) (by subst a;grind) h).1 b⟩;rintro⟨a,b⟩;exact⟨(gL (k:=B) c (by subst a;grind) (by subst a;grind) h).2 b,a⟩;rw[ia i,o,ja f];constructor;rintro⟨b,a⟩;have a:A=D:=(by omega);exact⟨a,(gL (k:=B) c (by subst a;grind) (by subst a;grind) h).1 b⟩;rintro⟨a,b⟩;exact⟨(gL (k:=B) c (by subst a;grind) (by subst a;grind) h).2 b,by omega⟩;rw[ia hs,j,Zc,Int.neg_eq_zero,ja f];constructor;rintro⟨b,a⟩;exact⟨a,(gL (k:=A) c (by subst a;grind) (by subst a;grind) g).1 b⟩;rintro⟨a,b⟩;exact⟨(gL (k:=A) c (by subst a;grind) (by subst a;grind) g).2 b,a⟩;rw[ia hs,l,ja f];constructor;rintro⟨b,a⟩;have a:B=D:=(by omega);exact⟨a,(gL (k:=A) c (by subst a;grind) (by subst a;grind) g).1 b⟩;rintro⟨a,b⟩;exact⟨(gL (k:=A) c (by subst a;grind) (by subst a;grind) g).2 b,by omega⟩
theorem pY.Q3 (L:pY s t A B D) (c:(e=s.a/\A=0)\/(e=s.b/\A=D)\/(e=t.a/\B=0)\/(e=t.b/\B=D)):D*e.x=s.a.x*D+A*(s.b.x-s.a.x)/\D*e.y=s.a.y*D+A*(s.b.y-s.a.y):=by
 obtain⟨f,gx,gy,_⟩:=L;rcases c with⟨a,b⟩|⟨a,b⟩|⟨a,b⟩|⟨a,b⟩;(subst a b;constructor<;>grind)
 ·subst a b;constructor<;>grind
 ·subst a b;constructor<;>grind
 ·subst a b;constructor<;>grind
theorem pY.Rh (L:pY s t A B D) (hs:aB s=true) (b:aB t=true):eh s t=true↔0<A/\A<D/\0<B/\B<D:=by
 obtain⟨c,f⟩:=du hs;obtain⟨ta,g⟩:=du b;obtain⟨m,gx,gy,⟨k,o,h,i,j,l⟩,p,q⟩:=L;simp only[eh,XJ,X0,gm hs ta,gm hs g,gm b c,gm b f,uU,h,i,j,l];have a:=λx:Int=>Pg x k;rw[(a (-B)).1,(a (-B)).2,(a (D-B)).1,(a (D-B)).2,(a A).1,(a A).2,(a (A-D)).1,(a (A-D)).2];omega
end
variable {D:Int}
theorem MK (x y:Int) (h:0<D):Int.gcd (Int.gcd (D*x) (D*y):Nat) D=D.natAbs:=by
 refine Nat.dvd_antisymm ?_ ?_;exact Nat.gcd_dvd_right _ _;refine Nat.dvd_gcd ?_ (Nat.dvd_refl _);show D.natAbs∣(Int.natAbs (Int.gcd (D*x) (D*y):Nat));rw[Int.natAbs_natCast];refine Nat.dvd_gcd ?_ ?_;rw[abZ];exact Nat.dvd_mul_right _ _;rw[abZ];exact Nat.dvd_mul_right _ _
theorem Pq (p:V2) {X Y:Int} (h:0<D) (a:D*p.x=X) (b:D*p.y=Y):low X Y D=cm p:=by
 subst a b;unfold low;rw[MK p.x p.y h,abv (by omega),Int.mul_tdiv_cancel_left _ (by omega),Int.mul_tdiv_cancel_left _ (by omega),Int.tdiv_self (by omega)]
theorem tT {t:cp} {A B:Int} (L:pY s t A B D) (hs:aB s=true) (g:aB t=true):
  (eK s (ag s.b s.a) A B D).kind=aH s t/\(aH s t=1->(eK s (ag s.b s.a) A B D).p=cm ((aT s t).getD 0 v0))/\
   (aH s t=2->(eK s (ag s.b s.a) A B D).p=low (s.a.x*D+A*(ag s.b s.a).x) (s.a.y*D+A*(ag s.b s.a).y) D)/\(aH s t=0->(eK s (ag s.b s.a) A B D).p=p0)/\aH s t≠3:=by
 obtain⟨l,m,o,q⟩:=L.ends hs g;have w:=L.Rh hs g;have F:=E5 hs;have G:=OY hs;have H:=E5 g;have I:=OY g;have J:=L.pos;have K:¬(aB s=false\/aB t=false):=by simp[hs,g]
 have r:aH s t=if(aT s t).length>1 then 3 else if(aT s t).length=1 then 1 else if eh s t=true then 2 else 0:=by rw[aH,XG K]
 by_cases c:qm A B D
 ·have u:aT s t=[]:=(by refine lh λe i=>?_;obtain⟨f,a,b⟩:=dJ.1 i;unfold qm at c;rcases f with rfl|rfl|rfl|rfl;have:=l.1 b;omega;have:=m.1 b;omega;have:=o.1 a;omega;have:=q.1 a;omega);have M:¬eh s t=true:=λh=>by have:=w.1 h;unfold qm at c;omega
  have N:aH s t=0:=(by rw[r,u];simp[M]);have j:eK s (ag s.b s.a) A B D=hG:=(by rw[eK,XL c]);rw[j,N];exact⟨rfl,λh=>by omega,λh=>by omega,λ_=>rfl,by omega⟩
 ·by_cases k:uI A B D
  ·have x:0<=A/\A<=D/\0<=B/\B<=D:=(by unfold qm at c;omega);have O:∃e:V2,((e=s.a/\A=0)\/(e=s.b/\A=D)\/(e=t.a/\B=0)\/(e=t.b/\B=D)):=(by unfold uI at k;rcases k with h|h|h|h;exact⟨s.a,.inl ⟨rfl,h⟩⟩;exact⟨s.b,.inr (.inl ⟨rfl,h⟩)⟩;exact⟨t.a,.inr (.inr (.inl ⟨rfl,h⟩))⟩;exact⟨t.b,.inr (.inr (.inr ⟨rfl,h⟩))⟩);obtain⟨p,y⟩:=O;obtain⟨z,C⟩:=L.Q3 y;have E:aT s t=[p]:=(by refine lg λe=>?_;rw[dJ];constructor;rintro⟨f,a,b⟩;have i:(e=s.a/\A=0)\/(e=s.b/\A=D)\/(e=t.a/\B=0)\/(e=t.b/\B=D):=(by rcases f with rfl|rfl|rfl|rfl;exact .inl ⟨rfl,(l.1 b).1⟩;exact .inr (.inl ⟨rfl,(m.1 b).1⟩);exact .inr (.inr (.inl ⟨rfl,(o.1 a).1⟩));exact .inr (.inr (.inr ⟨rfl,(q.1 a).1⟩)));obtain⟨ex,P⟩:=L.Q3 i;exact V2.ext (Y9 (show D≠0 by omega) (by rw[ex,z])) (Y9 (show D≠0 by omega) (by rw[P,C]));rintro rfl;rcases y with⟨rfl,h⟩|⟨rfl,h⟩|⟨rfl,h⟩|⟨rfl,h⟩;exact⟨.inl rfl,F,l.2 (by omega)⟩;exact⟨.inr (.inl rfl),G,m.2 (by omega)⟩;exact⟨.inr (.inr (.inl rfl)),o.2 (by omega),H⟩;exact⟨.inr (.inr (.inr rfl)),q.2 (by omega),I⟩);have f:aH s t=1:=(by rw[r,E];simp);have j:eK s (ag s.b s.a) A B D=⟨1,cm p,s0⟩:=(by rw[eK,XG c,XL k,Pq p J (X:=s.a.x*D+A*(ag s.b s.a).x) (Y:=s.a.y*D+A*(ag s.b s.a).y) z C]);rw[j,f,E];exact⟨rfl,λ_=>rfl,λh=>by omega,λh=>by omega,by omega⟩
  ·have x:0<A/\A<D/\0<B/\B<D:=(by unfold qm at c;unfold uI at k;omega);have u:aT s t=[]:=(by refine lh λe i=>?_;obtain⟨f,a,b⟩:=dJ.1 i;rcases f with rfl|rfl|rfl|rfl;have:=l.1 b;omega;have:=m.1 b;omega;have:=o.1 a;omega;have:=q.1 a;omega);have a:aH s t=2:=(by rw[r,u];simp[w.2 x]);have j:eK s (ag s.b s.a) A B D=⟨2,low (s.a.x*D+A*(ag s.b s.a).x) (s.a.y*D+A*(ag s.b s.a).y) D,s0⟩:=(by rw[eK,XG c,XG k]);rw[j,a];exact⟨rfl,λh=>by omega,λ_=>rfl,λh=>by omega,by omega⟩
end Sg
end Go.Vm
