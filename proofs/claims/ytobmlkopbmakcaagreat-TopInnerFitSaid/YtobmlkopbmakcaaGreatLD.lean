import Derived.Test.YtobmlkopbmakcaaGreatLC
import Derived.RangeFuncNested
import Derived.RangeFuncLeaves
import Derived.TacticsIn
import Derived.OrdersIn
import Derived.Scope
import Derived.WalkKit
import Derived.ProofKit
import Derived.OpenShut
import Derived.ShutString
import Derived.ChangeOld
set_option linter.unusedVariables false
set_option linter.unusedSimpArgs false
set_option maxRecDepth 20000
namespace Go.Vm
open Go Go.RowKit
def kO:Code->List Nat
 | .region _ f _=>f.toList.filterMap (·.dst)
 | .seq a b=>kO a++kO b
 | .cond _ a b=>kO a++kO b
 | .block _ c=>kO c
 | .loop c=>kO c
 |_=>[]
def jy (o:Oper):Bool:=match o.op with
 | .defer _=>false
 |_=>true
def fB:Code->Bool
 | .skip=>true
 | .region _ f _=>f.toList.all jy
 | .seq a b=>fB a&&fB b
 | .cond _ a b=>fB a&&fB b
 | .block _ c=>fB c
 | .loop c=>fB c
 | .exit _=>true
 | .ret=>true
 |_=>false
def BS (P:Program) (g:FuncId) (j f:List Value) (Sx:Nat->Prop) (w:World):Prop:=
 ∀(l:Nat) (J:Nat->World->Prop) (h:World->Prop) (W:World),(∀b,Sx b->W.heap[b]? =w.heap[b]?)->
  (∀k a i,J k a->Below a.heap.size a i->J k i)->
  (∀k v a,f[k]? =some v->J k a->YieldAt Fence.wide 0 P l #[v] a λe c=>
   (e= .returned (.bool true)/\J (k+1) c/\(∀b,Sx b->c.heap[b]? =a.heap[b]?))\/(e= .returned (.bool false)/\h c))->
  J 0 W->CallsIn Fence.wide 0 P g (#[.func (.yield l) #[] #[]]++j.toArray) W λe c=>(∃v,e= .returned v)/\(J f.length c\/h c)
def Iter (P:Program) (g:FuncId) (f:List SV) (xs:List DV):Prop:=
 Enters P g/\∀(w:World) (S:Nat->Prop) (a:List Value),(∀b,S b->b<w.heap.size)->eJ S w a f->∃c,dT S w c xs/\BS P g a c S w
inductive Ex where
 |normal
 |exit (id:Nat)
 |ret
abbrev je:=Ex->(Nat->TV)->(Id->Mem)->Prop
def Wk (t:Nat->TV) (m:Id->Mem) (t':Nat->TV) (m':Id->Mem):Prop:=
 ∀(E:Env) (ρ:Id->Option (Nat×Nat)) (a:Act) (w:World),Rel E ρ t m a w->∃ρ',Rel E ρ' t' m' a w
def aH (t:Nat->TV) (m:Id->Mem) (J:(Nat->TV)->(Id->Mem)->Prop):Prop:=∃t' m',Wk t m t' m'/\J t' m'
structure Cut (t:Nat->TV) (m:Id->Mem) (J:(Nat->TV)->(Id->Mem)->Prop):Prop where
 h:aH t m J
structure Loop (body:je->(Nat->TV)->(Id->Mem)->Prop) (Q:je) (t:Nat->TV) (m:Id->Mem):Prop where
 h:∃(α:Type) (I J:α->(Nat->TV)->(Id->Mem)->Prop) (μ:α->Nat),aH t m (λt m=>∃x,I x t m)/\
  (∀x t m,J x t m->aH t m λt m=>∃y,I y t m/\μ y<μ x)/\
  ∀x t' m',I x t' m'->body (λe VM VR=>match e with
   | .normal=>J x VM VR
   |e=>Q e VM VR) t' m'
def oi:Code->Nat
 | .region id _ _=>id+1
 | .seq a _=>oi a
 | .block _ c=>oi c
 | .loop c=>oi c
 |_=>0
def Vl (eX:List Nat) (b:Code) (a:je->(Nat->TV)->(Id->Mem)->Prop) (Q:je):je:=λe t' m'=>match e with
 | .normal=>bif eX.any (Nat.beq (oi b))then Cut t' m' (λt' m'=>a Q t' m')else a Q t' m'
 | .exit i=>Q (.exit i) t' m'
 | .ret=>Q .ret t' m'
def St (id:Nat) (Q:je):je:=λe t' m'=>match e with
 | .normal=>Q .normal t' m'
 | .exit i=>bif Nat.beq i id then Q .normal t' m' else Q (.exit i) t' m'
 | .ret=>Q .ret t' m'
structure SF (n:Nat) (neg:Bool) (K:Bool->Prop):Prop where
 f:K neg
 t:n=0->K (!neg)
def DQ (t:Nat->TV) (c:Operand) (K:Bool->Prop):Prop:=match bG t c with
 | .d (.one (.v (.bool b)))=>ab b K
 | .nb n a=>SF n a K
 |_=>False
def yf (W:List Nat) (t:Nat->TV):Prop:=∀i,W.any (Nat.beq i)=true->t i= .any
structure mQ (P:Program) (N:Nat) (f:Operand) (ps:Array Tmp) (as bd:Code) (iha ihb:je->(Nat->TV)->(Id->Mem)->Prop) (Q:je) (t:Nat->TV) (m:Id->Mem):Prop where
 h:∃(g:FuncId) (n:Nat) (cap:Nat->SV) (xs:List DV) (p:Nat) (T:Nat->Nat->TV) (M:Nat->Id->Mem) (inv:Nat->Prop),
  bG t f= .d (.one (.fn g n cap))/\Iter P g (cells n cap) xs/\ps=#[p]/\p<N/\(fB as&&fB bd)=true/\(∀k,yf (p::(kO as++kO bd)) (T k))/\
  Wk t m (T 0) (M 0)/\inv 0/\
  (∀k x,xs[k]? =some x->inv k->iha (λe t1 m1=>match e with
   | .normal=>ihb (λe t2 m2=>match e with
    | .normal=>aH t2 m2 λt3 m3=>t3=T (k+1)/\m3=M (k+1)/\inv (k+1)
    | .exit i=>aH t2 m2 λt3 m3=>yf (p::(kO as++kO bd)) t3/\Q (.exit i) t3 m3
    | .ret=>aH t2 m2 λt3 m3=>yf (p::(kO as++kO bd)) t3/\Q .ret t3 m3) t1 m1
   |_=>False) (bo (T k) p (.d x)) (M k))/\
  (inv xs.length->Q .normal (T xs.length) (M xs.length))
def vr (P:Program) (TT:iu) (N:Nat) (eX:List Nat) (c:Code):je->(Nat->TV)->(Id->Mem)->Prop:=
 Code.rec (motive:=λ_=>je->(Nat->TV)->(Id->Mem)->Prop)
  (λQ t m=>Q .normal t m)
  (λ_ g j Q t m=>Ld P TT eX N g j g.toList t m [] λt' m' k=>bif j then aj (U9 g.toList k.reverse=true) (Q .normal t' m')else Q .normal t' m')
  (λ_ b h i Q t m=>h (Vl eX b i Q) t m)
  (λc _ _ l o Q t m=>DQ t c λb=>bif b then l Q t m else o Q t m)
  (λid _ a Q t m=>a (St id Q) t m)
  (λ_ a Q t m=>Loop a Q t m)
  (λf p as q h i Q t m=>mQ P N f p as q h i Q t m)
  (λid Q t m=>Q (.exit id) t m)
  (λ_ a Q t m=>a Q t m)
  (λ_ Q t m=>Q .normal t m)
  (λ_ _ _ _=>False)
  (λQ t m=>Q .ret t m)
  (λ_ _ _ _=>False) c
def jX (E:Env) (Q:je):Exit->Act->World->Prop
 | .normal,a,w=>∃ρ t m,Q .normal t m/\Rel E ρ t m a w
 | .exit id,a,w=>∃ρ t m,Q (.exit id) t m/\Rel E ρ t m a w
 | .ret,a,w=>∃ρ t m,Q .ret t m/\Rel E ρ t m a w
 |_,_,_=>False
theorem least (p:Nat->Prop) (h:∃n,p n):∃n,p n/\∀k,p k->n<=k:=by
 obtain⟨n,b⟩:=h;induction n using Nat.strongRecOn with
 |_ n c=>by_cases a:∃k,k<n/\p k;obtain⟨k,f,g⟩:=a;exact c k f g;exact⟨n,b,λk i=>Xi λj=>a ⟨k,j,i⟩⟩
noncomputable def leastOf (p:Nat->Prop):Nat:=Classical.epsilon λn=>p n/\∀k,p k->n<=k
theorem leastOf_spec {p:Nat->Prop} (h:∃n,p n):p (leastOf p)/\∀k,p k->leastOf p<=k:=Classical.epsilon_spec (least p h)
def jP:Obj->Bool
 | .cells .. =>true
 | .map .. =>true
 |_=>false
theorem MY {o:Obj} (h:o.isCells=true):jP o=true:=by cases o<;>first|rfl|cases h
variable {x:Value} {xs:List Value} {cs:List DV}
section
variable {S S':Nat->Prop} {w w':World}
theorem zB {b i:Nat} {v:Value} (h:∀o,w.heap[b]? =some o->jP o=true->w'.heap[b]? =w.heap[b]?) (a:w.cell? ⟨b,i,none⟩=some v):w'.cell? ⟨b,i,none⟩=some v:=by
 obtain⟨o,c,f⟩:=cells_of_cell a;rw[World.cell?_of_block (w:=w) (h o c (MY f))];exact a
theorem Rd.eI (h:∀b,S b->S' b/\∀o,w.heap[b]? =some o->jP o=true->w'.heap[b]? =w.heap[b]?) {c:SV} (p:Rd S w x c):Rd S' w' x c:=by
 induction p with
 |v q=>exact .v q
 |nil k g=>exact .nil k g
 |emp a r k g=>exact .emp a r k g
 |sl xs hS t u l _ f=>exact .sl xs (h _ hS).1 t u (λi y j m=>zB (h _ hS).2 (l i y j m)) f
 |ad xs hS l _ f=>exact .ad xs (h _ hS).1 (λj m=>zB (h _ hS).2 (l j m)) f
 |fn xs _ f=>exact .fn xs f
theorem eJ.eI (h:∀b,S b->S' b/\∀o,w.heap[b]? =some o->jP o=true->w'.heap[b]? =w.heap[b]?) {cs:List SV} (c:eJ S w xs cs):eJ S' w' xs cs:=by
 induction c with
 |nil=>exact .nil
 |cons a _ f=>exact .cons (a.eI h) f
theorem nf.eI (h:∀b,S b->S' b/\∀o,w.heap[b]? =some o->jP o=true->w'.heap[b]? =w.heap[b]?) {c:DV} (a:nf S w x c):nf S' w' x c:=by
 cases c with
 |one c=>exact Rd.eI h a
 |agg cs=>obtain⟨xs,f,g⟩:=a;exact⟨xs,f,g.eI h⟩
theorem dT.eI (h:∀b,S b->S' b/\∀o,w.heap[b]? =some o->jP o=true->w'.heap[b]? =w.heap[b]?) (c:dT S w xs cs):dT S' w' xs cs:=by
 induction c with
 |nil=>exact .nil
 |cons a _ f=>exact .cons (a.eI h) f
variable {m:Id->Mem} {ρ:Id->Option (Nat×Nat)}
theorem qP.eI (h:∀b,S b->S' b/\∀o,w.heap[b]? =some o->jP o=true->w'.heap[b]? =w.heap[b]?) {cs:List CR} (f:qP S m ρ w xs cs):qP S' m ρ w' xs cs:=by
 induction f with
 |nil=>exact .nil
 |@cons x c xs cs a _ g=>
  refine .cons ?_ g;cases c with
  |s c=>exact Rd.eI h a
  |ptr o p=>exact a
theorem jZ.eI (h:∀b,S b->S' b/\∀o,w.heap[b]? =some o->jP o=true->w'.heap[b]? =w.heap[b]?) {f:FuncId} {a:List CR} (c:jZ S m ρ w x f a):jZ S' m ρ w' x f a:=by
 obtain⟨xs,g,i⟩:=c;exact⟨xs,g,i.eI h⟩
theorem kR.eI (h:∀b,S b->S' b/\∀o,w.heap[b]? =some o->jP o=true->w'.heap[b]? =w.heap[b]?) {c:CV} (a:kR S m ρ w x c):kR S' m ρ w' x c:=by
 cases c with
 |s c=>exact Rd.eI h a
 |ptr o p=>exact a
 |aL o g=>exact a
 |cV f i=>exact jZ.eI h a
theorem fU.eI (h:∀b,S b->S' b/\∀o,w.heap[b]? =some o->jP o=true->w'.heap[b]? =w.heap[b]?) {cs:List CV} (c:fU S m ρ w xs cs):fU S' m ρ w' xs cs:=by
 induction c with
 |nil=>exact .nil
 |cons a _ f=>exact .cons (a.eI h) f
end
variable {E:Env} {ρ:Id->Option (Nat×Nat)} {m:Id->Mem} {a a':Act} {w:World}
theorem Rel.cells {t:Nat->TV} {w':World} (h:Rel E ρ t m a w) (Q:a'.tmps=a.tmps) (S:Marks E m ρ w' a'.defers)
  (F:Bx E.w0.heap.size E.X w w') (C:∀(c:Nat) (o:Obj),w.heap[c]? =some o->jP o=true->w'.heap[c]? =w.heap[c]?):Rel E ρ t m a' w':=by
 have B:∀b,L E m ρ w b->L E m ρ w' b/\∀o,w.heap[b]? =some o->jP o=true->w'.heap[b]? =w.heap[b]?:=λb R=>
  ⟨⟨R.1.imp id (λu=>u.imp id (λu=>⟨u.1,Yl u.2 F.size⟩)),R.2⟩,λo u q=>C b o u q⟩
 refine{below:=h.below.trans F,defers:=S,size:=by rw[Q];exact h.size,inj:=h.inj,lo:=λo b c l r=>⟨(h.lo o b c l r).1,Yl (h.lo o b c l r).2 F.size⟩,clean:=h.clean,cleanM:=h.cleanM,mem:=?_,slots:=?_,carry:=h.carry}
 ·intro o;have D:=h.mem o;generalize m o=v at D;cases v with
  |none=>trivial
  |dead=>trivial
  |ro cs=>obtain⟨b,c,xs,e,u,T,q,z⟩:=D;exact⟨b,c,xs,e,u,(B b T).1,by rw[C b _ q rfl,q],z.eI B⟩
  |box cs=>obtain⟨b,c,xs,e,u,q,z⟩:=D;exact⟨b,c,xs,e,u,by rw[C b _ q rfl,q],z.eI B⟩
  |aJ g n k e U=>rcases D with⟨u,q⟩|⟨b,G,H,u,q,z,I,J,K⟩;exact .inl ⟨u,q⟩;refine .inr ⟨b,G,H,u,by rw[C b _ q rfl,q],z,I,J,λi M j N=>?_⟩;obtain⟨x,O,P⟩:=K i M j N;exact⟨x,O,P.eI B⟩
  |obj cs=>obtain⟨b,c,xs,e,u,q,z⟩:=D;exact⟨b,c,xs,e,u,by rw[C b _ q rfl,q],z.eI B⟩
  |br g n k e U=>rcases D with⟨u,q⟩|⟨b,G,H,u,q,z,I,J,K⟩;exact .inl ⟨u,q⟩;refine .inr ⟨b,G,H,u,by rw[C b _ q rfl,q],z,I,J,λi M j N=>?_⟩;obtain⟨x,O,P⟩:=K i M j N;exact⟨x,O,P.eI B⟩
  |map Z=>obtain⟨b,c,V,X,u,q,z⟩:=D;exact⟨b,c,V,X,u,by rw[C b _ q rfl,q],z⟩
 ·intro i;have A:=h.slots i;rw[Q];generalize t i=v at A;cases v with
  |any=>trivial
  |undef=>exact A
  |d v=>exact nf.eI B A
  |eG Y=>obtain⟨xs,u,q⟩:=A;exact⟨xs,u,q.eI B⟩
  |ptr o p=>exact A
  |aL o g=>exact A
  |sub o g lo n=>exact A
  |nb n neg=>exact A
  |ep o g i a0=>exact A
  |cV f a1=>exact jZ.eI B A
  |jw o Y=>obtain⟨y,xs,u,q,z⟩:=A;exact⟨y,xs,u,q,z.eI B⟩
  |r3 cs=>obtain⟨xs,u,q⟩:=A;exact⟨xs,u,q.eI B⟩
theorem zG {B l:Nat} {X:Nat->Prop} (w:World) (o:Obj) (h:B<=l):Bx B X w (w.putObj l o):=
 ⟨rfl,rfl,rfl,by simp,λk a _=>World.putObj_heap_other (by omega),XP _⟩
theorem Rel.close (u:E.w0.heap.size<=E.B) {t:Nat->TV} (h:Rel E ρ t m a w) {b:Nat} {g:List Deferred} (f:a.defers={target:= .collected b,args:=#[]}::g):
  w.heap[b]? =some (.deferred (some []))/\Rel E ρ t m {a with defers:=g} (w.putObj b (.deferred none)):=by
 have i:=h.defers;rw[f]at i;cases i with
 |cons x F j k r=>
  refine⟨j,h.cells rfl ?_ (zG w _ (Yf u x)) (λc o l y=>World.putObj_heap_other (λe=>by rw[e,j]at l;cases l;cases y))⟩;show Marks E m ρ (w.putObj b (.deferred none)) g;clear f h;induction r with
  |nil=>exact .nil
  |@cons p G z q A B _ C=>have D:p≠b:=λe=>k {target:= .collected p,args:=#[]} (by simp) (by rw[e]);refine .cons z ⟨q.1.imp id (λh=>h.imp id (λh=>⟨h.1,by simpa using h.2⟩)),q.2⟩ ((World.putObj_heap_other D).trans A) B (C (λd f=>k d (by simp[f])))
theorem mA {P:Program} {n:Nat} {i:Func} {R:Ending->World->Prop} {E:Env} (j:E.w0.heap.size<=E.B) {ρ:Id->Option (Nat×Nat)} {t:Nat->TV} {m:Id->Mem}:∀(c:List Deferred) (a:Act) (w:World),a.defers=c->Rel E ρ t m a w->
  (∀w',Rel E ρ t m {a with defers:=[]} w'->∃v,(results i a.tmps).run P w'= .ok v w'/\R (.returned v) w')->LeavesInM Fence.wide n P i a.tmps R c .returning w
 |[],a,w,f,g,h=>by obtain⟨p,c⟩:=a;simp only at f;subst f;exact h w g
 |d::c,a,w,f,g,h=>by
  have k:=g.defers;rw[f]at k;cases k with
  |@cons b _ q u x y r=>obtain⟨l,o⟩:=g.close j f;exact⟨by simp,.inl ⟨b,_,rfl,run_takeDeferred l,mA j c {a with defers:=c} _ rfl o h⟩⟩
variable {P:Program}
theorem TB {o:Oper} {K:Act->World->Prop} {Q Q':Exit->Act->World->Prop} (l n:Nat) (b:jy o=true) (g:∀i a w,¬Q (.panic i) a w) (k:¬LetsOut Q)
  (h:o.wp P a w K Q):o.wpIn (Fence.wide.inRound l) n P a w (λa' w'=>K a' w'/\∃v,a'.tmps=(a.put o.dst v).tmps) Q':=by
 refine⟨λ_ _=>trivial,?_⟩;have e:o.semAt (Fence.wide.inRound l).round a.eval=execOp a.eval o:=Oper.semAt_some l a.eval o (λc m=>by unfold jy at b;rw[m]at b;cases b);rw[e];unfold Oper.wp at h;generalize (execOp a.eval o).run P w=r at h;unfold Oper.upon at h;split at h;exact⟨h,_,rfl⟩;exact⟨h,_,rfl⟩;(refine⟨h,undef,?_⟩;cases t:o.dst<;>rfl)
 ·refine⟨(λh=>by cases h),CallsIn.inRound l ((callsIn_wide (n:=n-1)).2 (h.mono ?_))⟩;intro e j f;cases e with
  |returned v=>exact⟨f,v,rfl⟩
  |panicked i=>exact absurd f (g _ _ _)
  |outgrown=>exact absurd f k
 ·refine⟨(λh=>by cases h),λc cs u=>?_⟩;obtain⟨v,j,p,q⟩:=h c cs;exact⟨v,j,⟨p,v,rfl⟩,stepsIn_wide.2 q⟩
 ·exact absurd h (g _ _ _)
 ·exact h.elim
def dQ (W:List Nat) (a a':Act):Prop:=∀i,i∉W->a'.tmps.getD i Go.undef=a.tmps.getD i Go.undef
theorem dQ.refl (W:List Nat) (a:Act):dQ W a a:=λ_ _=>rfl
variable {V:List Nat}
theorem dQ.trans {W:List Nat} {b c:Act} (h:dQ V a b) (k:dQ W b c):dQ (V++W) a c:=λi f=>by
 rw[k i (λh=>f (by simp[h])),h i (λh=>f (by simp[h]))]
theorem dQ.mono {W:List Nat} {b:Act} (h:dQ V a b) (hs:∀i,i∈V->i∈W):dQ W a b:=λi c=>h i (λk=>c (hs i k))
theorem sX {d:Option Nat} {v:Value} (h:a'.tmps=(a.put d v).tmps) {W:List Nat} (b:∀k,d=some k->k∈W):dQ W a a':=λi c=>by
 rw[h];cases d with
 |none=>rfl
 |some k=>have f:i≠k:=λe=>c (by rw[e];exact b k rfl);simp only[Act.put,Yz];rw[Array.getElem?_setIfInBounds_ne (Zr f)]
theorem L5 {P:Program} {c:Array Oper} {Q:Exit->Act->World->Prop} (l n:Nat) (q:∀u a w,¬Q (.panic u) a w) (f:¬LetsOut Q):∀(b:List Oper) (a:Act) (w:World) (Q':Exit->Act->World->Prop),b.all jy=true->
  (∀e a' w',Q e a' w'->dQ (b.filterMap (·.dst)) a a'->Q' e a' w')->wpList P c Q b a w->wpListIn (Fence.wide.inRound l) n P c Q' b a w
 |[],a,w,Q',_,g,h=>g _ _ _ h (dQ.refl _ _)
 |o::b,a,w,Q',j,g,h=>by
  simp only[List.all_cons,XH]at j;have x:∀k,o.dst=some k->k∈(o::b).filterMap (·.dst):=λk m=>by simp[m]
  have y:∀i,i∈b.filterMap (·.dst)->i∈(o::b).filterMap (·.dst):=λi p=>by rw[List.filterMap_cons];split<;>simp[p]
  have r:∀a' w' v,a'.tmps=(a.put o.dst v).tmps->wpList P c Q b a' w'->wpListIn (Fence.wide.inRound l) n P c Q' b a' w':=(by intro a' w' v z hw;refine L5 l n q f b a' w' Q' j.2 (λe t A B m=>g e t A B ?_) hw;have C:dQ ((o::b).filterMap (·.dst)) a a':=sX z x;have D:dQ ((o::b).filterMap (·.dst)) a' t:=m.mono y;exact(C.trans D).mono (λi p=>by simpa using p));unfold wpList at h;unfold wpListIn;split;rename_i hw;rw[XG hw]at h;rcases h with h|⟨_,h⟩;refine Oper.wpIn_mono ?_ (TB (Q':=Q') l n j.1 q f h);rintro a' w' ⟨E,v,F⟩;exact r a' w' v F E;exact absurd h f;rename_i hw;rw[XD hw]at h;exact⟨λ_ _=>trivial,r _ _ undef rfl h⟩
theorem Nw {P:Program} {c:Array Oper} {Q:Exit->Act->World->Prop} (l n:Nat) (m:∀y a w,¬Q (.panic y) a w) (j:¬LetsOut Q) (p:c.toList.all jy=true):∀(fuel:Nat) (f:Array Bool) (a:Act) (w:World) (Q':Exit->Act->World->Prop),
  (∀e a' w',Q e a' w'->dQ (c.toList.filterMap (·.dst)) a a'->Q' e a' w')->wpAny P .any c Q fuel f a w->wpAnyIn (Fence.wide.inRound l) n P .any c Q' fuel f a w
 |0,f,a,w,Q',g,h=>⟨h.1,g _ _ _ h.2 (dQ.refl _ _)⟩
 |fuel+1,f,a,w,Q',g,h=>by
  refine⟨λz=>g _ _ _ (h.1 z) (dQ.refl _ _),λi q=>?_⟩;have b:=h.2 i q;unfold wpOp at b;unfold wpOpIn;cases r:c[i]? with
  |none=>rw[r]at b;exact Nw l n m j p fuel _ a w Q' g b
  |some o=>
   rw[r]at b;have u:o∈c.toList:=(by have:=Array.mem_of_getElem? r;simpa using this);have A:jy o=true:=Zj.1 p o u;have B:∀k,o.dst=some k->k∈c.toList.filterMap (·.dst):=λk t=>List.mem_filterMap.2 ⟨o,u,t⟩;have x:∀a' w' v,a'.tmps=(a.put o.dst v).tmps->wpAny P .any c Q fuel (f.setIfInBounds i true) a' w'->wpAnyIn (Fence.wide.inRound l) n P .any c Q' fuel (f.setIfInBounds i true) a' w':=λa' w' v C hw=>
    Nw l n m j p fuel _ a' w' Q' (λe D E F t=>g e D E F (((sX C B).trans t).mono (λi q=>by simpa using q))) hw
   simp only at b|-;split;rename_i hw;rw[XG hw]at b;rcases b with b|⟨_,b⟩;refine Oper.wpIn_mono ?_ (TB (Q':=Q') l n A m j b);rintro a' w' ⟨G,v,H⟩;exact x a' w' v H G;exact absurd b j;rename_i hw;rw[XD hw]at b;exact⟨λ_ _=>trivial,x _ _ undef rfl b⟩
variable {Q:je}
theorem tP:∀b a w,¬jX E Q (.panic b) a w:=λ_ _ _ h=>h
theorem yS:¬LetsOut (jX E Q):=λ⟨_,_,h⟩=>h
variable {N:Nat}
theorem H2 {b:Array Oper} {c:List ka} {t t':Nat->TV} {m':Id->Mem} (j:r4 P N b b.toList c t m t' m')
  (k:U9 b.toList (c.map ka.mask)=true) (l:Q .normal t' m') {E:Env} {ρ:Id->Option (Nat×Nat)} {a:Act} {w:World} (p:E.P=P) (q:E.N=N) (r:Rel E ρ t m a w):
  wpAny P .any b (jX E Q) b.size (Array.replicate b.size false) a {w with drawn:=w.drawn+1}:=by
 have g:∀i,(Array.replicate b.size false).getD i false=false:=by intro i;by_cases f:i<b.size;simp[Yz,f];rw[Yz,ZX (by simp;omega)];rfl
 have hS:(λi=>(Array.replicate b.size false).getD i false)=λ_=>false:=funext g;refine MK j k p q (λρ' a' w' u=>⟨ρ',t',m',l,u⟩) b.size _ ρ a _ (by simp) ?_ ?_ ?_;unfold rz;have:(List.range b.size).filter (λi=>!(Array.replicate b.size false).getD i true)=List.range b.size:=(by rw[List.filter_eq_self];intro i f;have:i<b.size:=(by simpa using f);simp[Yz,this]);rw[this];simp;intro i o _ h;rw[g]at h;simp at h;have x:fT c (λi=>(Array.replicate b.size false).getD i false) 0 t=t:=(by rw[hS];funext s;exact FJ _ _ _ _ _ (λ_ _ _ _=>rfl));have y:fM c (λi=>(Array.replicate b.size false).getD i false) 0 m=m:=(by rw[hS];funext s;exact FK _ _ _ _ _ (λ_ _ _ _=>rfl));rw[x,y];exact r.grow ((Below.refl w.heap.size w).drew)
variable {eX:List Nat}
theorem uc {TT:iu} (a9:cC P TT) (b0:P.follows .mixedOrders=true) (l n:Nat):∀(c:Code) (Q:je) (t:Nat->TV) (m:Id->Mem),fB c=true->vr P TT N eX c Q t m->
  ∀(E:Env) (ρ:Id->Option (Nat×Nat)) (a:Act) (w:World),E.P=P->E.N=N->Rel E ρ t m a w->c.wpIn (Fence.wide.inRound l) n P (λe a' w'=>jX E Q e a' w'/\dQ (kO c) a a') a w:=by
 intro c;induction c with
 |skip=>intro Q t m _ h E ρ a w _ _ o;exact wpIn_skip ⟨⟨ρ,t,m,h,o⟩,dQ.refl _ _⟩
 |region id R b1=>
  intro Q t m j h E ρ a w u z o;obtain⟨d6,t',m',Y,Z,d7⟩:=sN a9 R.toList t m [] _ h;replace j:R.toList.all jy=true:=j;cases b1 with
  |false=>exact wpIn_region_list (L5 l n tP yS R.toList a w _ j (λe a' w' g k=>⟨g,k⟩) (zo Y E ρ a w u z o (jX E Q) (λρ' a' w' D=>⟨ρ',t',m',Z,D⟩)))
  |true=>obtain⟨a0,g⟩:=(show aj _ _ from Z);simp only[ZG,YO,List.reverse_reverse]at a0;exact wpIn_region_any b0 (Nw l n tP yS j _ _ a _ _ (λe a' w' g k=>⟨g,k⟩) (H2 Y a0 g u z o))
 |seq x y F S=>
  intro Q t m j h E ρ a w u z o;simp only[fB,XH]at j;have left:∀a',dQ (kO x) a a'->dQ (kO (x.seq y)) a a':=λa' k=>k.mono (λi A=>by simp[kO,A]);refine wpIn_seq (wpIn_mono (F _ t m j.1 h E ρ a w u z o) ?_);rintro e a' w' ⟨g,k⟩;cases e with
  |normal=>
   obtain⟨ρ',t',m',g,D⟩:=g;have a1:∀G H m2,vr P TT N eX y Q H m2->Rel E G H m2 a' w'->y.wpIn (Fence.wide.inRound l) n P (λe q r=>jX E Q e q r/\dQ (kO (x.seq y)) a q) a' w':=λG H m2 b2 M=>
    wpIn_mono (S Q H m2 j.2 b2 E G a' w' u z M) (λe q r C=>⟨C.1,k.trans C.2⟩)
   show y.wpIn _ n P _ a' w';replace g:bif eX.any (Nat.beq (oi y))then Cut t' m' (λt' m'=>vr P TT N eX y Q t' m')else vr P TT N eX y Q t' m':=g;cases a2:eX.any (Nat.beq (oi y))with
   |false=>rw[a2]at g;exact a1 ρ' t' m' g D
   |true=>rw[a2]at g;obtain⟨H,m2,T,g⟩:=(show Cut _ _ _ from g).h;obtain⟨G,M⟩:=T E ρ' a' w' D;exact a1 G H m2 g M
  |exit i=>exact⟨g,left a' k⟩
  |ret=>exact⟨g,left a' k⟩
  |goto l=>exact g.elim
  |panic a3=>exact g.elim
  |outgrown=>exact g.elim
 |cond c x y F S=>
  intro Q t m j h E ρ a w u z o;simp only[fB,XH]at j;have a4:vr P TT N eX x Q t m->x.wpIn (Fence.wide.inRound l) n P (λe q r=>jX E Q e q r/\dQ (kO (.cond c x y)) a q) a w:=λg=>
   wpIn_mono (F Q t m j.1 g E ρ a w u z o) (λe q r C=>⟨C.1,C.2.mono (λi A=>by simp[kO,A])⟩)
  have a5:vr P TT N eX y Q t m->y.wpIn (Fence.wide.inRound l) n P (λe q r=>jX E Q e q r/\dQ (kO (.cond c x y)) a q) a w:=λg=>
   wpIn_mono (S Q t m j.2 g E ρ a w u z o) (λe q r C=>⟨C.1,C.2.mono (λi A=>by simp[kO,A])⟩)
  replace h:DQ t c λb=>bif b then vr P TT N eX x Q t m else vr P TT N eX y Q t m:=h;unfold DQ at h;split at h
  ·rename_i b U;have O:=(ax o c).1;rw[U]at O;have V:=(Rd.cm (show Rd _ _ _ _ from O)).1;have h:=h.elim;refine wpIn_cond (t:=b) V ?_;cases b with
   |true=>exact a4 h
   |false=>exact a5 h
  ·rename_i d8 B U;have O:=(ax o c).1;rw[U]at O;obtain⟨b,V,b3⟩:=O;refine wpIn_cond (t:=(b !=B)) V ?_;have k:(bif (b !=B)then vr P TT N eX x Q t m else vr P TT N eX y Q t m):=by
    cases b with
    |false=>have:=h.f;rwa [show(false !=B)=B by cases B<;>rfl]
    |true=>have:=h.t (b3 rfl);rwa [show(true !=B)=!B by cases B<;>rfl]
   revert k;cases g:(b !=B)with
   |true=>intro k;exact a4 k
   |false=>intro k;exact a5 k
  ·exact h.elim
 |block id x F=>
  intro Q t m j h E ρ a w u z o;simp only[fB]at j;refine wpIn_block (wpIn_mono (F _ t m j h E ρ a w u z o) ?_);rintro e a' w' ⟨g,k⟩;replace k:dQ (kO (.block id x)) a a':=k;cases e with
  |normal=>exact⟨g,k⟩
  |exit i=>obtain⟨ρ',t',m',g,D⟩:=g;show(if i=id then(jX E Q .normal a' w'/\dQ (kO (.block id x)) a a')else(jX E Q (.exit i) a' w'/\dQ (kO (.block id x)) a a'));replace g:bif Nat.beq i id then Q .normal t' m' else Q (.exit i) t' m':=g;by_cases A:i=id;subst A;rw[XG rfl];have:Nat.beq i i=true:=Zs i;simp only[this,ZG]at g;exact⟨⟨ρ',t',m',g,D⟩,k⟩;rw[XD A];simp only[rV A,ZM]at g;exact⟨⟨ρ',t',m',g,D⟩,k⟩
  |ret=>exact⟨g,k⟩
  |goto l=>exact g.elim
  |panic a3=>exact g.elim
  |outgrown=>exact g.elim
 |loop x F=>
  intro Q t m j h E ρ a w u z o;simp only[fB]at j;obtain⟨α,I,J,μ,⟨b4,b5,T,b6,b7⟩,b8,b9⟩:=(show Loop _ _ _ _ from h).h;obtain⟨c0,c1⟩:=T E ρ a w o;let K:Act->World->Nat->Prop:=λa w n=>∃ρ t m x,I x t m/\Rel E ρ t m a w/\μ x=n;refine wpIn_loop (λa' w=>(∃n,K a' w n)/\dQ (kO (.loop x)) a a') (λa w=>leastOf (K a w)) ⟨⟨_,c0,b4,b5,b6,b7,c1,rfl⟩,dQ.refl _ _⟩ ?_;rintro a' w' ⟨c2,c3⟩;obtain⟨c4,_⟩:=leastOf_spec c2;obtain⟨c5,a7,a8,c6,c7,c8,e0⟩:=c4;refine wpIn_mono (F _ a7 a8 j (b9 c6 a7 a8 c7) E c5 a' w' u z c8) ?_;rintro e q r ⟨g,k⟩;replace k:dQ (kO (.loop x)) a q:=(c3.trans k).mono (λi A=>by rcases XN.1 A with h|h<;>exact h);cases e with
  |normal=>obtain⟨G,H,m2,c9,M⟩:=g;obtain⟨d0,d1,d2,y,d3,e1⟩:=b8 _ _ _ c9;obtain⟨ρ3,d4⟩:=d2 E G q r M;have X:K q r (μ y):=⟨ρ3,d0,d1,y,d3,d4,rfl⟩;refine⟨⟨⟨_,X⟩,k⟩,?_⟩;have:=(leastOf_spec (p:=K q r) ⟨_,X⟩).2 _ X;show leastOf (K q r)<leastOf (K a' w');omega
  |exit i=>exact⟨g,k⟩
  |ret=>exact⟨g,k⟩
  |goto l=>exact g.elim
  |panic a3=>exact g.elim
  |outgrown=>exact g.elim
 |exit id=>intro Q t m _ h E ρ a w _ _ o;exact wpIn_exit ⟨⟨ρ,t,m,h,o⟩,dQ.refl _ _⟩
 |ret=>intro Q t m _ h E ρ a w _ _ o;exact wpIn_ret ⟨⟨ρ,t,m,h,o⟩,dQ.refl _ _⟩
 |rangeFunc f e2 as d5 _ _=>intro Q t m j;cases j
 |scope d5 _=>intro Q t m j;cases j
 |label l=>intro Q t m j;cases j
 |goto l=>intro Q t m j;cases j
 |refuse e3=>intro Q t m j;cases j
def Env.re (E:Env) (ρ:Id->Option (Nat×Nat)) (m:Id->Mem) (w:World):Env:=
 {E with
  w0:=w
  S0:=λb=>b<w.heap.size/\(E.S0 b\/E.X b\/E.w0.heap.size<=b)
  hS:=λ_ h=>h.1
  X:=λb=>b<w.heap.size/\∃o c,(m o).live/\ρ o=some (b,c)
  hX:=λ_ h=>h.1}
variable {E':Env} {ob:Obj}
section
variable {E:Env} {ρ ρ':Id->Option (Nat×Nat)} {t t':Nat->TV} {m m':Id->Mem} {a a':Act} {w w':World}
theorem OG (h:Rel E ρ t m a w) (hw:w.heap.size<=w'.heap.size) (m':Id->Mem) (ρ':Id->Option (Nat×Nat)):L (E.re ρ m w) m' ρ' w'=L E m' ρ' w':=by
 funext b;have g:=h.below.size;apply propext;unfold L Env.re;simp only;constructor;rintro⟨h1,i⟩;refine⟨?_,i⟩;rcases h1 with⟨f,h1⟩|⟨f,o,c,l,r⟩|⟨h1,f⟩;exact h1.imp id (λh1=>h1.imp id (λh1=>⟨h1,Yl f hw⟩));rcases(h.lo o b c l r).1 with k|k;exact .inr (.inl k);exact .inr (.inr ⟨k,Yl f hw⟩);exact .inr (.inr ⟨Yf g h1,f⟩);rintro⟨h1,i⟩;refine⟨?_,i⟩;rcases h1 with h1|h1|⟨h1,f⟩;exact .inl ⟨Yl (E.hS b h1) g,.inl h1⟩;exact .inl ⟨Yl (E.hX b h1) g,.inr (.inl h1)⟩;by_cases k:b<w.heap.size;exact .inl ⟨k,.inr (.inr h1)⟩;exact .inr (.inr ⟨Xi k,f⟩)
theorem Hq {E:Env} (a:L E m ρ w=L E' m ρ w) (o:Id) (v:Mem) (h:iJ E m ρ w o v):iJ E' m ρ w o v:=by
 cases v<;>simp only[iJ,a]at h|- <;>exact h
theorem Qr {E:Env} (a:L E m ρ w=L E' m ρ w) (x:Value) (v:TV) (h:dm E m ρ w x v):dm E' m ρ w x v:=by
 cases v<;>simp only[dm,a]at h|- <;>exact h
theorem Ht {E:Env} (c:∀b,L E m ρ w b->L E' m ρ w b) (f:E'.B=E.B) {a:List Deferred} (g:Marks E m ρ w a):Marks E' m ρ w a:=by
 induction g with
 |nil=>exact .nil
 |cons h i j k _ l=>exact .cons (by rw[f];exact h) (c _ i) j k l
theorem Rel.re (h:Rel E ρ t m a w):Rel (E.re ρ m w) ρ t m a w:=by
 have f:=OG h (XP _) m ρ;exact{below:=Bx.refl _ _ _,defers:=Ht (E:=E) (E':=E.re ρ m w) (λb g=>by rw[f];exact g) rfl h.defers,size:=h.size,inj:=h.inj,lo:=λo b c l r=>⟨.inl ⟨(h.lo o b c l r).2,o,c,l,r⟩,(h.lo o b c l r).2⟩,clean:=h.clean,cleanM:=h.cleanM,mem:=λo=>Hq f.symm o _ (h.mem o),slots:=λi=>Qr f.symm _ _ (h.slots i),carry:=h.carry}
theorem Rel.J2 (h:Rel E ρ t m a w) (k:Rel (E.re ρ m w) ρ' t' m' a' w'):Rel E ρ' t' m' a' w':=by
 have g:=OG h k.below.size m' ρ';refine{below:=h.below.trans (k.below.mono h.below.size (λb f ⟨_,o,c,l,r⟩=>((h.lo o b c l r).1).resolve_right (λq=>absurd f (Xm.2 q)))),defers:=Ht (E:=E.re ρ m w) (E':=E) (λb f=>by rw[g]at f;exact f) rfl k.defers,size:=k.size,inj:=k.inj,lo:=λo b c l r=>⟨?_,(k.lo o b c l r).2⟩,clean:=k.clean,cleanM:=k.cleanM,mem:=λo=>Hq g o _ (k.mem o),slots:=λi=>Qr g _ _ (k.slots i),carry:=k.carry};rcases(k.lo o b c l r).1 with⟨_,j,p,u,x⟩|q;exact(h.lo j b p u x).1;exact .inr (Yf h.below.size q)
theorem AM (h:Rel E ρ t m a w) (k:Rel (E.re ρ m w) ρ' t' m' a' w') {b:Nat} (f:b<w.heap.size) (g:∀o c,(m o).live->ρ o≠some (b,c)):w'.heap[b]? =w.heap[b]?/\∀o c,(m' o).live->ρ' o≠some (b,c):=by
 refine⟨k.below.block b f (λ⟨_,o,c,l,r⟩=>g o c l r),λo c l r=>?_⟩;rcases(k.lo o b c l r).1 with⟨_,i,j,p,u⟩|q;exact g i j p u;exact absurd f (Xm.2 q)
theorem Rel.I7 (h:Rel E ρ t m a w) {o:Id} {b c:Nat} (l:(m o).live) (r:ρ o=some (b,c)):∃ob:Obj,w.heap[b]? =some ob/\jP ob=true:=by
 have j:=h.mem o;generalize m o=v at j l;cases v with
 |none=>exact l.elim
 |dead=>exact l.elim
 |ro cs=>exact l.elim
 |box cs=>obtain⟨p,q,xs,e,f,i,_⟩:=j;rw[r]at f;cases f;exact⟨_,i,rfl⟩
 |aJ g n k e u=>rcases j with⟨f,_⟩|⟨p,x,y,f,i,_⟩;rw[r]at f;cases f;rw[r]at f;cases f;exact⟨_,i,rfl⟩
 |obj cs=>obtain⟨p,q,xs,e,f,i,_⟩:=j;rw[r]at f;cases f;exact⟨_,i,rfl⟩
 |br g n k e u=>rcases j with⟨f,_⟩|⟨p,x,y,f,i,_⟩;rw[r]at f;cases f;rw[r]at f;cases f;exact⟨_,i,rfl⟩
 |map z=>obtain⟨p,q,A,B,f,i,_⟩:=j;rw[r]at f;cases f;exact⟨_,i,rfl⟩
theorem Rel.G5 (h:Rel E ρ t m a w) {b:Nat} (i:w.heap[b]? =some ob) (j:jP ob=false):∀o c,(m o).live->ρ o≠some (b,c):=λo c l r=>by
 obtain⟨k,f,g⟩:=h.I7 l r;rw[i]at f;cases f;rw[j]at g;cases g
theorem AN (h:Rel E ρ t m a w) (k:Rel (E.re ρ m w) ρ' t' m' a' w') {b:Nat} (c:w.heap[b]? =some ob) (f:jP ob=false):w'.heap[b]? =some ob:=
 (AM h k (Zb.1 c).1 (h.G5 c f)).1.trans c
theorem Marks.later (h:Rel E ρ t m a w) (k:Rel (E.re ρ m w) ρ' t' m' a' w') {c:List Deferred} (i:Marks E m ρ w c):Marks E m' ρ' w' c:=by
 induction i with
 |nil=>exact .nil
 |@cons b c j f g l _ o=>obtain⟨p,q⟩:=AM h k (Zb.1 g).1 f.2;exact .cons j ⟨f.1.imp id (λh=>h.imp id (λh=>⟨h.1,Yl h.2 k.below.size⟩)),q⟩ (p.trans g) l o
theorem Marks.lt {c:List Deferred} (a:Marks E m ρ w c) {D:Nat} (h:w.heap.size<=D):∀d∈c,d.target≠ .collected D:=by
 induction a with
 |nil=>intro d a;simp at a
 |@cons b c i j f k _ g=>intro d a;rcases XF.1 a with rfl|a;intro e;have:=(Zb.1 f).1;simp only[Target.collected.injEq]at e;omega;exact g d a
theorem Rel.other (h:Rel E ρ t m a w) {W:List Nat} (f:yf W t) {b:Act} (hs:b.tmps.size=E.N) (g:Marks E m ρ w b.defers) (j:∀i,i∉W->b.tmps.getD i Go.undef=a.tmps.getD i Go.undef):Rel E ρ t m b w:=by
 refine{h with defers:=g,size:=hs,clean:=h.clean,slots:=λi=>?_};by_cases c:i∈W;rw[f i (List.any_eq_true.2 ⟨i,c,Zs i⟩)];trivial;rw[j i c];exact h.slots i
end
theorem Lu {t:Nat->TV} (c:Rel E ρ t m a w) {f:Operand} {g n:Nat} {cap:Nat->SV} (h:bG t f= .d (.one (.fn g n cap))):
  ∃xs:Nat->Value,a.eval f= .func (.func g) #[] ((List.range n).map xs).toArray/\∀j,j<n->Rd (L E m ρ w) w (xs j) (cap j):=by
 have b:=(ax c f).1;rw[h]at b;exact Rd.od b
variable {S:Nat->Prop}
theorem dT.get' (a:dT S w xs cs):∀(j:Nat) (x:Value),xs[j]? =some x->∃c,cs[j]? =some c/\nf S w x c:=by
 induction a with
 |nil=>intro j x h;simp at h
 |@cons x c xs cs b _ f=>
  intro j y h;cases j with
  |zero=>simp at h;subst h;exact⟨c,by simp,b⟩
  |succ j=>simpa using f j y (by simpa using h)
theorem CF {TT:iu} (d7:cC P TT) (d8:P.follows .mixedOrders=true) {f:Operand} {d9:Array Tmp} {as Z:Code} {t:Nat->TV}
  (h:mQ P N f d9 as Z (vr P TT N eX as) (vr P TT N eX Z) Q t m) (E:Env) (ρ:Id->Option (Nat×Nat)) (a:Act) (w:World) (g5:E.P=P) (g6:E.B<=E.w0.heap.size) (e0:E.N=N) (H:Rel E ρ t m a w):
  (Code.rangeFunc f d9 as Z).wp P (jX E Q) a w:=by
 obtain⟨g,e1,g7,xs,p,T,M,g8,g9,e2,rfl,h0,e3,h1,h2,h3,h4,h5⟩:=h.h;simp only[XH]at e3;obtain⟨h6,h7⟩:=e3;obtain⟨e4,e5,h8⟩:=Lu H g9;obtain⟨a7,e6⟩:∃a7,a7=(List.range e1).map e4:=⟨_,rfl⟩;rw[<-e6]at e5;have c6:∀b,L E m ρ w b->b<w.heap.size:=λb I=>xS H I;obtain⟨m9,e7,h9⟩:=e2.2 w (L E m ρ w) a7 c6 (by rw[e6];exact pF e1 g7 e4 h8);obtain⟨R,a8⟩:∃R:Act,R={tmps:=a.tmps,defers:=[]}:=⟨_,rfl⟩;have i0:Rel (E.re ρ m w) ρ t m R w:=by rw[a8];exact{H.re with defers:= .nil,size:=H.size,clean:=H.clean,slots:=H.re.slots}
 obtain⟨e8,i1⟩:=h2 (E.re ρ m w) ρ _ w i0;generalize a9:E.re ρ m w=u at*;have i2:u.w0=w:=by rw[<-a9];rfl
 have b7:u.N=N:=by rw[<-a9];exact e0
 have e9:u.P=P:=by rw[<-a9];exact g5
 have c7:∀{ρ' t' m' a' w'},Rel u ρ' t' m' a' w'->∀b,L E m ρ w b->L u m' ρ' w' b/\w'.heap[b]? =w.heap[b]?:=by intro ρ' t' m' a' w' k b I;rw[<-a9]at k|-;obtain⟨i3,i4⟩:=AM H k (c6 b I) I.2;rw[OG H k.below.size m' ρ'];refine⟨⟨I.1.imp id (λh=>h.imp id (λh=>⟨h.1,Yl h.2 k.below.size⟩)),i4⟩,i3⟩
 obtain⟨l,f0⟩:∃l,l=w.heap.size+1:=⟨_,rfl⟩;obtain⟨D,b8⟩:∃D,D=w.heap.size:=⟨_,rfl⟩;refine wpIn_wide.1 (wpIn_rangeFunc (F:=Fence.wide) (n:=0) ?_);intro fn _;obtain⟨y,X⟩:∃y:LoopState->Option Code->Go.Loop,y=λi5 i6=>{state:=i5,pending:=i6,fn,tmps:=a.tmps,params:=#[p],assign:=as,body:=Z,defers:=w.heap.size}:=⟨_,rfl⟩;obtain⟨U,b9⟩:∃U,(w.alloc (.deferred (some []))).alloc (.loop (y .ready none))=U:=⟨_,rfl⟩;have i7:U.heap[l]? =some (.loop (y .ready none)):=by rw[<-b9,f0];have:=World.alloc_heap_new (w.alloc (.deferred (some []))) (.loop (y .ready none));rwa [World.size_alloc]at this
 have i8:U.heap[D]? =some (.deferred (some [])):=by rw[<-b9,b8];exact(Below.heap_alloc _ _ _ (by simp)).trans (World.alloc_heap_new w _)
 have f1:Below w.heap.size w U:=by rw[<-b9];exact((Below.refl _ w).alloc (XP _) _).alloc (by simp) _
 have c0:D≠l:=by omega
 have i9:Rel u e8 (T 0) (M 0) R U:=i1.grow f1;have c1:∀{ρ' t' m'} {a':Act} {W:World} (r:Go.Loop) (o:Obj),Rel u ρ' t' m' a' W->W.heap[l]? =some (.loop r)->Rel u ρ' t' m' a' (W.putObj l o):=by
  intro ρ' t' m' a' W r o k V;have f2:∀c (ob:Obj),W.heap[c]? =some ob->(∀c8,ob≠ .loop c8)->(W.putObj l o).heap[c]? =W.heap[c]?:=λc ob a3 j0=>World.putObj_heap_other (λe=>by rw[e,V]at a3;cases a3;exact j0 r rfl);refine k.cells rfl ?_ (zG W o (by rw[i2];omega)) (λc ob a3 c2=>f2 c ob a3 (λc8 e=>by rw[e]at c2;cases c2));have f3:=k.defers;generalize a'.defers=j1 at f3;induction f3 with
  |nil=>exact .nil
  |@cons b j1 j2 f4 h j3 _ j4=>exact .cons j2 ⟨f4.1.imp id (λh=>h.imp id (λh=>⟨h.1,by simpa using h.2⟩)),f4.2⟩ ((f2 b _ h (λc8 e=>by cases e)).trans h) j3 j4
 let J:Nat->World->Prop:=λk W=>g8 k/\(∃C,Rel u C (T k) (M k) R W)/\W.heap[l]? =some (.loop (y .ready none))/\W.heap[D]? =some (.deferred (some []));let j5:World->Prop:=λW=>∃c,(∃C G K,Rel u C G K R W/\((c= .ret/\Q .ret G K)\/∃i,c= .exit i/\Q (.exit i) G K))/\W.heap[l]? =some (.loop (y .done (some c)))/\W.heap[D]? =some (.deferred (some []));refine⟨l,[{target:= .collected D,args:=#[]}],U,{target:= .fn (.func g) a7.toArray,args:=#[.func (.yield l) #[] #[]]},U,g,#[.func (.yield l) #[] #[]]++a7.toArray,U,?_,?_,λ_ _=>trivial,?_,(λh=>by cases h),?_⟩;rw[<-b9,X,f0,b8];exact run_enterLoop_outer _ _ _ _ _;simp only[resolve,e5];simp[go_sem];simp[invoke,go_sem,dN e2.1];refine(h9 l J j5 U (λb I=>f1.block b (c6 b I)) ?_ ?_ ⟨h3,⟨e8,i9⟩,i7,i8⟩).mono ?_;rintro k A B ⟨c9,⟨C,z⟩,V,Y⟩ I;exact⟨c9,⟨C,z.grow I⟩,(I.block l (Zb.1 V).1).trans V,(I.block D (Zb.1 Y).1).trans Y⟩
 ·
  rintro k v W j6 ⟨j7,⟨C,z⟩,f5,j8⟩;obtain⟨x,j9,k0⟩:=e7.get' k v j6;have f6:=run_yield (P:=P) (args:=#[v]) f5 (by rw[X];rfl);rw[X]at f6;refine⟨fn,_,as,Z,f6,roundIn_of_wpIn (F:=Fence.wide) trivial ?_⟩;have k1:=z.re;have k2:dm (u.re C (M k) W) (M k) C W v (.d x):=(by show nf (L (u.re C (M k) W) (M k) C W) W v x;rw[OG z (XP _)];exact k0.mono (λb I=>c7 z b I));have k3:=k1.put (d:=some p) (λq j=>by cases j;show p<u.N;rw[b7];exact h0) (v:=v) (x:= .d x) k2 (λ_ k4=>k4.elim);have k5:(R.put (some p) v)={tmps:=((#[p]:Array Tmp).zip #[v]).foldl (λt (x:Tmp×Value)=>t.setIfInBounds x.1 x.2) a.tmps,defers:=[]}:=(by rw[a8];simp[Act.put]);have f7:dQ [p] R (R.put (some p) v):=sX (d:=some p) rfl (λq j=>by cases j;simp);have f8:=uc d7 d8 l 0 as _ _ _ h6 (h4 k x j9 j7) (u.re C (M k) W) C _ W e9 b7 k3;rw[k5]at f8 f7;refine wpIn_mono f8 ?_;rintro e f9 k6 ⟨j,k7⟩;cases e with
  |normal=>
   obtain⟨c3,k8,d0,k9,d1⟩:=j;have d2:=AN z d1 f5 rfl;have l0:=AN z d1 j8 rfl;have l5:=z.J2 d1;refine⟨_,run_beginRound d2 (by rw[X]),?_⟩;obtain⟨a0,c4⟩:∃a0,a0=k6.putObj l (.loop {y .ready none with state:= .busy}):=⟨_,rfl⟩;have l6:=(Zb.1 d2).1;have l7:a0.heap[l]? =some (.loop {y .ready none with state:= .busy}):=(by rw[c4];exact World.putObj_heap_same l6);have l8:a0.heap[D]? =some (.deferred (some [])):=(by rw[c4];exact(World.putObj_heap_other c0).trans l0);have a4:Rel u c3 k8 d0 f9 a0:=(by rw[c4];exact c1 _ _ l5 d2);rw[<-c4];have l9:=uc d7 d8 l 0 Z _ _ _ h7 k9 (u.re c3 d0 a0) c3 f9 a0 e9 b7 a4.re;refine wpIn_mono l9 ?_;rintro e a5 S ⟨j,m0⟩;have m1:∀i,i∉p::(kO as++kO Z)->R.tmps.getD i Go.undef=a5.tmps.getD i Go.undef:=λi c9=>by have:=((f7.trans k7).trans m0) i (λh=>c9 (by simpa[or_assoc]using h));exact this.symm
   have d3:∀{a1 b0 m2 ρ3 G K},Rel (u.re c3 d0 a0) a1 b0 m2 a5 S->Rel u ρ3 G K a5 S->yf (p::(kO as++kO Z)) G->∀O:Option Code,
     (Instr.endRound l O).run P S= .ok (.bool O.isNone) (S.putObj l (.loop (y (if O.isNone then .ready else .done) O)))/\
     Rel u ρ3 G K R (S.putObj l (.loop (y (if O.isNone then .ready else .done) O)))/\
     (S.putObj l (.loop (y (if O.isNone then .ready else .done) O))).heap[l]? =some (.loop (y (if O.isNone then .ready else .done) O))/\
     (S.putObj l (.loop (y (if O.isNone then .ready else .done) O))).heap[D]? =some (.deferred (some [])):=by
    intro a1 b0 m2 ρ3 G K Y m3 c2 O;have d4:=AN a4 Y l7 rfl;have m4:=AN a4 Y l8 rfl;have g0:=run_endRound (P:=P) O d4;have m5:Rel u ρ3 G K R S:=m3.other c2 (by rw[a8,b7,<-e0];exact H.size) (by rw[a8];exact .nil) m1;refine⟨?_,c1 _ _ m5 d4,World.putObj_heap_same (Zb.1 d4).1,(World.putObj_heap_other c0).trans m4⟩;rw[X]at g0|-;exact g0
   cases e with
   |normal=>obtain⟨a1,b0,m2,⟨G,K,b1,rfl,rfl,m6⟩,a2⟩:=j;obtain⟨ρ3,b2⟩:=b1 u a1 a5 S (a4.J2 a2);obtain⟨b3,a6,b4,b5⟩:=d3 a2 b2 (h1 _) none;exact⟨_,_,b3,.inl ⟨rfl,⟨m6,⟨ρ3,a6⟩,b4,b5⟩,λb I=>((c7 a6 b I).2).trans ((c7 z b I).2).symm⟩⟩
   |ret=>obtain⟨a1,b0,m2,⟨G,K,b1,d5,d6⟩,a2⟩:=j;obtain⟨ρ3,b2⟩:=b1 u a1 a5 S (a4.J2 a2);obtain⟨b3,a6,b4,b5⟩:=d3 a2 b2 d5 (some .ret);exact⟨_,_,b3,.inr ⟨rfl,.ret,⟨ρ3,G,K,a6,.inl ⟨rfl,d6⟩⟩,b4,b5⟩⟩
   |exit i=>obtain⟨a1,b0,m2,⟨G,K,b1,d5,d6⟩,a2⟩:=j;obtain⟨ρ3,b2⟩:=b1 u a1 a5 S (a4.J2 a2);obtain⟨b3,a6,b4,b5⟩:=d3 a2 b2 d5 (some (.exit i));exact⟨_,_,b3,.inr ⟨rfl,.exit i,⟨ρ3,G,K,a6,.inr ⟨i,rfl,d6⟩⟩,b4,b5⟩⟩
   |goto t=>exact j.elim
   |panic m7=>exact j.elim
   |outgrown=>exact j.elim
  |exit i=>obtain⟨_,_,_,j,_⟩:=j;exact j.elim
  |ret=>obtain⟨_,_,_,j,_⟩:=j;exact j.elim
  |goto t=>exact j.elim
  |panic m7=>exact j.elim
  |outgrown=>exact j.elim
 ·
  have g1:∀{ρ' t' m'} {W:World},Rel u ρ' t' m' R W->W.heap[D]? =some (.deferred (some []))->Rel E ρ' t' m' {a with defers:=[{target:= .collected D,args:=#[]}]++a.defers} W:=(by intro ρ' t' m' W k z;rw[<-a9]at k;have c5:=H.J2 k;refine{c5 with defers:=?_,size:=H.size,clean:=c5.clean,slots:=λi=>by have:=c5.slots i;rw[a8]at this;exact this};exact .cons (by rw[b8];exact Yf g6 H.below.size) ⟨.inr (.inr ⟨by rw[b8];exact H.below.size,(Zb.1 z).1⟩),c5.G5 z rfl⟩ z (H.defers.lt (by omega)) (Marks.later H k H.defers));rintro e g2 ⟨⟨v,rfl⟩,m8⟩;rcases m8 with⟨g3,⟨C,z⟩,V,Y⟩|⟨c,⟨C,G,K,z,a3⟩,V,Y⟩;have b6:=run_endLoop (P:=P) V (by rw[X];simp);refine⟨none,g2.putObj l (.loop {y .ready none with state:= .exhausted}),by rw[X]at b6|-;exact b6,?_⟩;rw[e7.length]at z g3;exact⟨C,_,_,h5 g3,g1 (c1 _ _ z V) ((World.putObj_heap_other c0).trans Y)⟩;have b6:=run_endLoop (P:=P) V (by rw[X];simp);refine⟨some c,g2.putObj l (.loop {y .done (some c)with state:= .exhausted}),by rw[X]at b6|-;exact b6,?_⟩;have g4:=g1 (c1 (y .done (some c)) (.loop {y .done (some c)with state:= .exhausted}) z V) ((World.putObj_heap_other c0).trans Y);rcases a3 with⟨rfl,j⟩|⟨i,rfl,j⟩;exact wpIn_ret ⟨C,G,K,j,g4⟩;exact wpIn_exit ⟨C,G,K,j,g4⟩
theorem zK {TT:iu} (U:cC P TT) (V:P.follows .mixedOrders=true):∀(c:Code) (Q:je) (t:Nat->TV) (m:Id->Mem),vr P TT N eX c Q t m->
  ∀(E:Env) (ρ:Id->Option (Nat×Nat)) (a:Act) (w:World),E.P=P/\E.B<=E.w0.heap.size->E.N=N->Rel E ρ t m a w->c.wp P (jX E Q) a w:=by
 intro c;induction c with
 |skip=>intro Q t m h E ρ a w _ _ j;exact wp_skip ⟨ρ,t,m,h,j⟩
 |region id a5 a6=>
  intro Q t m h E ρ a w k o j;obtain⟨d0,t',m',X,Y,d1⟩:=sN U a5.toList t m [] _ h;cases a6 with
  |false=>refine wp_region_list (zo X E ρ a w k.1 o j _ (λρ' a' w' u=>⟨ρ',t',m',Y,u⟩))
  |true=>obtain⟨Z,g⟩:=(show aj _ _ from Y);simp only[ZG,YO,List.reverse_reverse]at Z;exact wp_region_any V (H2 X Z g k.1 o j)
 |seq x y r A=>
  intro Q t m h E ρ a w k o j;refine wp_seq (wp_mono (r _ t m h E ρ a w k o j) ?_);intro e a' w' g;cases e with
  |normal=>
   obtain⟨ρ',t',m',g,u⟩:=g;show y.wp P (jX E Q) a' w';replace g:bif eX.any (Nat.beq (oi y))then Cut t' m' (λt' m'=>vr P TT N eX y Q t' m')else vr P TT N eX y Q t' m':=g;cases a0:eX.any (Nat.beq (oi y))with
   |false=>rw[a0]at g;exact A Q t' m' g E ρ' a' w' k o u
   |true=>rw[a0]at g;obtain⟨a1,m2,G,g⟩:=(show Cut _ _ _ from g).h;obtain⟨H,K⟩:=G E ρ' a' w' u;exact A Q a1 m2 g E H a' w' k o K
  |exit i=>exact g
  |ret=>exact g
  |goto l=>exact g.elim
  |panic M=>exact g.elim
  |outgrown=>exact g.elim
 |cond c x y r A=>
  intro Q t m h E ρ a w k o j;replace h:DQ t c λb=>bif b then vr P TT N eX x Q t m else vr P TT N eX y Q t m:=h;unfold DQ at h;split at h
  ·rename_i b O;have B:=(ax j c).1;rw[O]at B;have R:=(Rd.cm (show Rd _ _ _ _ from B)).1;have h:=h.elim;refine wp_cond (t:=b) R ?_;cases b with
   |true=>exact r Q t m h E ρ a w k o j
   |false=>exact A Q t m h E ρ a w k o j
  ·rename_i n q O;have B:=(ax j c).1;rw[O]at B;obtain⟨b,R,a7⟩:=B;refine wp_cond (t:=(b !=q)) R ?_;have C:(bif (b !=q)then vr P TT N eX x Q t m else vr P TT N eX y Q t m):=by
    cases b with
    |false=>have:=h.f;rwa [show(false !=q)=q by cases q<;>rfl]
    |true=>have:=h.t (a7 rfl);rwa [show(true !=q)=!q by cases q<;>rfl]
   revert C;cases g:(b !=q)with
   |true=>intro C;exact r Q t m C E ρ a w k o j
   |false=>intro C;exact A Q t m C E ρ a w k o j
  ·exact h.elim
 |block id x r=>
  intro Q t m h E ρ a w k o j;refine wp_block (wp_mono (r _ t m h E ρ a w k o j) ?_);intro e a' w' g;cases e with
  |normal=>exact g
  |exit i=>obtain⟨ρ',t',m',g,u⟩:=g;show(if i=id then jX E Q .normal a' w' else jX E Q (.exit i) a' w');replace g:bif Nat.beq i id then Q .normal t' m' else Q (.exit i) t' m':=g;by_cases S:i=id;subst S;rw[XG rfl];have:Nat.beq i i=true:=Zs i;simp only[this,ZG]at g;exact⟨ρ',t',m',g,u⟩;rw[XD S];simp only[rV S,ZM]at g;exact⟨ρ',t',m',g,u⟩
  |ret=>exact g
  |goto l=>exact g.elim
  |panic M=>exact g.elim
  |outgrown=>exact g.elim
 |loop x r=>
  intro Q t m h E ρ a w k o j;obtain⟨α,I,J,μ,⟨a8,a9,G,b0,b1⟩,b2,b3⟩:=(show Loop _ _ _ _ from h).h;obtain⟨b4,b5⟩:=G E ρ a w j;let z:Act->World->Nat->Prop:=λa w n=>∃ρ t m x,I x t m/\Rel E ρ t m a w/\μ x=n;refine wp_loop (λa w=>∃n,z a w n) (λa w=>leastOf (z a w)) ⟨_,b4,a8,a9,b0,b1,b5,rfl⟩ ?_;intro a' w' b6;obtain⟨b7,_⟩:=leastOf_spec b6;obtain⟨b8,a3,a4,b9,c0,c1,d3⟩:=b7;refine wp_mono (r _ a3 a4 (b3 b9 a3 a4 c0) E b8 a' w' k o c1) ?_;intro e D F g;cases e with
  |normal=>obtain⟨H,a1,m2,c2,K⟩:=g;obtain⟨c3,c4,c5,y,c6,d4⟩:=b2 _ _ _ c2;obtain⟨ρ3,c7⟩:=c5 E H D F K;have T:z D F (μ y):=⟨ρ3,c3,c4,y,c6,c7,rfl⟩;refine⟨⟨_,T⟩,?_⟩;have:=(leastOf_spec (p:=z D F) ⟨_,T⟩).2 _ T;show leastOf (z D F)<leastOf (z a' w');omega
  |exit i=>exact g
  |ret=>exact g
  |goto l=>exact g.elim
  |panic M=>exact g.elim
  |outgrown=>exact g.elim
 |exit id=>intro Q t m h E ρ a w _ _ j;exact wp_exit ⟨ρ,t,m,h,j⟩
 |ret=>intro Q t m h E ρ a w _ _ j;exact wp_ret ⟨ρ,t,m,h,j⟩
 |rangeFunc f d5 as c8 _ _=>intro Q t m h E ρ a w k o j;exact CF U V h E ρ a w k.1 k.2 o j
 |scope c8 c9=>
  intro Q t m h E ρ a w k o j;refine wp_scope_straight (wp_mono (c9 Q t m h E ρ a w k o j) ?_);intro e a' w' g;cases e with
  |goto l=>exact g.elim
  |panic M=>exact g.elim
  |outgrown=>exact g.elim
  |_=>exact g
 |label l=>intro Q t m h E ρ a w _ _ j;exact wp_label ⟨ρ,t,m,h,j⟩
 |goto l=>intro Q t m h;exact h.elim
 |refuse d6=>intro Q t m h;exact h.elim
def x9 (TT:iu) (t:Nat->TV) (m:Id->Mem):List ResultVar->(List DV->Prop)->Prop
 |[],K=>K []
 | .tmp s::r,K=>P4 m (t s) λv _ _ _=>x9 TT t m r λl=>K (v::l)
 | .cell a b::r,K=>match TT b with
  |some T=>pY T m (t a) λx _ _=>match x with
   | .d v=>x9 TT t m r λl=>K (v::l)
   |_=>False
  |none=>False
structure Fin (x r:TV):Prop where
 h:∀(S:Nat->Prop) (w:World) (v:Value),Ej S w v x->Ej S w v r
def MH (r:TV) (l:List DV):Prop:=
 match l with
 |[x]=>Fin (.d x) r
 |l=>Fin (.eG l) r
def Dh (args:List DV):Nat->TV:=λi=>match args[i]? with
 |some v=> .d v
 |none=> .undef
def yc (tmps:Array Value):ResultVar->Sem Value
 | .tmp s=>pure (tmps.getD s Go.undef)
 | .cell a b=>do loadVar b (<-asAddr (tmps.getD a Go.undef))
theorem C9 {TT:iu} (k:cC P TT) {t:Nat->TV} {f:TypeId} {T:Ty} (l:TT f=some T) {g:Nat} {K:fh} (h:pY T m (t g) K):
  ∃x i,K x [] i/\∀(E:Env) (ρ:Id->Option (Nat×Nat)) (a:Act) (w:World),E.P=P->Rel E ρ t m a w->∃u,(yc a.tmps (.cell g f)).run P w= .ok u w/\dm E m ρ w u x/\∀b,x.refs b->m b≠ .none:=by
 let o:Oper:=⟨none,.load f (.tmp g),0, "",#[],none⟩;obtain⟨y,i,h,q⟩:=y4 (P:=P) (o:=o) (t:=t) k l rfl h;refine⟨y,i,h,λE ρ a w r A=>?_⟩;obtain⟨u,B,C,D⟩:=q E ρ t m a w r (λ_ _=>rfl) (λ_ _=>rfl) A;refine⟨u,?_,C,D⟩;have c:((do let v<-Instr.loadAt f (a.tmps.getD g Go.undef);pure (Next.value v):Sem Next)).run P w= .ok (.value u) w:=B;show(do loadVar f (<-asAddr (a.tmps.getD g Go.undef)):Sem Value).run P w= .ok u w;revert c;generalize a.tmps.getD g Go.undef=z;intro c;have F:∃p,z= .pointer (some p):=by
  cases z with
  |pointer p=>
   cases p with
   |some p=>exact⟨p,rfl⟩
   |none=>simp[Instr.loadAt,Instr.sureAddr]at c
  |_=>simp[Instr.loadAt,Instr.sureAddr]at c
 obtain⟨p,rfl⟩:=F;simp only[Instr.loadAt,Instr.sureAddr,asAddr,Sem.run_bind,Sem.run_pure,Result.andThen_ok]at c|-;cases j:(loadVar f p).run P w with
 |ok v w'=>rw[j]at c;simp only[Result.andThen_ok,Result.ok.injEq,Next.value.injEq]at c;rw[c.1,c.2]
 |halt x w'=>rw[j]at c;simp[Result.andThen]at c
theorem AJ {P:Program} {TT:iu} (j:cC P TT) {t:Nat->TV} {m:Id->Mem} {E:Env} {ρ:Id->Option (Nat×Nat)} {a:Act} {w:World} (g:Rel E ρ t m a w) (k:E.P=P):
  ∀(B:List ResultVar) (K:List DV->Prop),x9 TT t m B K->∃l f,K l/\dT (λb=>E.S0 b\/E.X b\/(E.w0.heap.size<=b/\b<w.heap.size)) w f l/\
   (B.mapM (yc a.tmps)).run P w= .ok f w
 |[],K,h=>⟨[],[],h,.nil,rfl⟩
 | .tmp s::r,K,h=>by simp only[x9]at h;have C:fe (⟨none,.move (.tmp s),0, "",#[],none⟩:Oper) t t:=λ_ _=>rfl;obtain⟨v,O,D,Q,h,_,R,F⟩:=Ij (o:=(⟨none,.move (.tmp s),0, "",#[],none⟩:Oper)) (t:=t) (x:= .tmp s) (by simp[Op.operands]) h;obtain⟨l,f,p,q,z⟩:=AJ j g k r _ h;have G:=F E ρ t m a w C (λ_ _=>rfl) g;refine⟨v::l,a.tmps.getD s Go.undef::f,p,.cons (nf.mono (λb i=>⟨?_,rfl⟩) G) q,?_⟩;rcases i with i|⟨o,_,l,c,r⟩;exact i.1;obtain⟨A,H⟩:=g.lo o b c l r;exact .inr (A.imp id (λA=>⟨A,H⟩));simp only[Xx,yc,Sem.run_bind,Sem.run_pure,Result.andThen_ok];rw[show(List.mapM (yc a.tmps) r).run P w=_ from z];rfl
 | .cell S U::r,K,h=>by simp only[x9]at h;split at h;rename_i T I;obtain⟨y,D,h,J⟩:=C9 (P:=P) j I h;split at h;rename_i v;obtain⟨l,f,p,q,z⟩:=AJ j g k r _ h;obtain⟨u,M,N,_⟩:=J E ρ a w k g;refine⟨v::l,u::f,p,.cons (nf.mono (λb i=>⟨i.1,rfl⟩) N) q,?_⟩;rw[Xx,Sem.run_bind,M,Result.andThen_ok,Sem.run_bind,z];rfl;exact h.elim;exact h.elim
theorem tN {b:Func} {tmps:Array Value} {a:List Value} (c:(b.results.toList.mapM (yc tmps)).run P w= .ok a w):
  (results b tmps).run P w= .ok (if h:a.toArray.size=1 then a.toArray[0]else .tuple a.toArray) w:=by
 have f:(b.results.mapM (yc tmps)).run P w= .ok a.toArray w:=by rw[Array.mapM_eq_mapM_toList,Sem.run_map];simp[c]
 have g:(results b tmps).run P w=((b.results.mapM (yc tmps)).run P w).andThen λa w=> .ok (if h:a.size=1 then a[0]else .tuple a) w:=by unfold results;rw[Sem.run_bind];rfl
 rw[g,f,Result.andThen_ok]
variable {c:Code}
theorem ic {TT:iu} (G:cC P TT) (O:P.follows .mixedOrders=true) {f:FuncId} {a:Func} (H:P.funcs[f]? =some a) (u:a.body=some c) (Q:(a.name== "runtime.NumGoroutine")=false)
  (eX:List Nat) {args:List DV} (a3:args.length<=a.ntmps) {r:TV}
  (h:vr P TT a.ntmps eX c (λe t m=>match e with
   | .exit _=>False
   | .normal=>x9 TT t m a.results.toList (MH r)
   | .ret=>x9 TT t m a.results.toList (MH r)) (Dh args) (λ_=> .none)):kM P f args r:=by
 refine⟨⟨a,H,Q,by rw[u];rfl⟩,λw S k hS I=>?_⟩;refine callsIn_wide.1 (callsIn_of_wp_marks (F:=Fence.wide) (n:=0) H u trivial (wpIn_wide.2 ?_));let E:Env:=⟨P,a.ntmps,w,S,hS,λ_=>False,λ_ h=>h.elim,λ_=> .none,λ_=>none,λ_ _=>rfl,λ_ _=>rfl,λ_ _ _=>rfl,w.heap.size⟩;have a4:=I.length;have R:Rel E (λ_=>none) (Dh args) (λ_=> .none) {tmps:=k.toArray++Array.replicate (a.ntmps-k.toArray.size) Go.undef,defers:=[]} w:=by
  refine{below:=Bx.refl _ _ _,defers:= .nil,size:=?_,inj:=λ_ _ _ _ _ l=>l.elim,lo:=λ_ _ _ l=>l.elim,clean:=?_,cleanM:=λ_ _ h=>h.elim,mem:=λ_=>trivial,slots:=?_,carry:=λ_ h=>absurd rfl h};show(k.toArray++Array.replicate (a.ntmps-k.toArray.size) Go.undef).size=a.ntmps;simp;omega;(intro i o B;unfold Dh at B;split at B<;>exact B.elim)
  ·intro i;unfold Dh;split;rename_i v C;obtain⟨x,J,T⟩:=I.get i v C;have U:=(Ye.1 J).1;have V:(k.toArray++Array.replicate (a.ntmps-k.toArray.size) Go.undef).getD i Go.undef=x:=(by rw[Yz,YZ,XG (by simpa using U)];simp[J]);rw[V];exact nf.mono (λb u=>⟨⟨.inl u,λ_ _ l=>l.elim⟩,rfl⟩) T;rename_i C;have a5:args.length<=i:=aaN.1 C;show _=Go.undef;rw[Yz,YZ,XD (by simp;omega)];by_cases K:i-k.toArray.size<a.ntmps-k.toArray.size;rw[Z0 (by simpa using K)];simp;rw[ZX (by simpa using K)];rfl
 have X:=zK G O c _ _ _ h E (λ_=>none) _ w ⟨rfl,XP _⟩ rfl R;refine wp_mono X ?_;intro e a' w' g;have M:∀ρ t m,x9 TT t m a.results.toList (MH r)->Rel E ρ t m a' w'->LeavesInM Fence.wide 0 P a a'.tmps (λe w'=>∃v,e= .returned v/\Below w.heap.size w w'/\Ej (λb=>S b\/(w.heap.size<=b/\b<w'.heap.size)) w' v r) a'.defers .returning w':=by
  intro ρ t m g N;refine mA (XP _) _ a' w' rfl N (λw' p=>?_);clear N;obtain⟨l,A,q,j,Y⟩:=AJ G p rfl a.results.toList _ g;replace j:dT (λb=>S b\/(w.heap.size<=b/\b<w'.heap.size)) w' A l:=j.mono (λb u=>⟨u.imp id (λh=>h.resolve_left id),rfl⟩);have Z:=j.length;have a0:∃z,(results a a'.tmps).run P w'= .ok z w'/\Ej (λb=>S b\/(w.heap.size<=b/\b<w'.heap.size)) w' z r:=by
   rw[tN Y]
   match l,A,q,j,Z with
   |[x],[v],q,j,_=>
    cases j with
    |cons D _=>exact⟨v,by simp,(show Fin _ _ from q).h _ _ _ D⟩
   |[],[],q,j,_=>exact⟨.tuple #[],by simp,(show Fin _ _ from q).h _ _ _ ⟨[],rfl,j⟩⟩
   |x::y::l,v::a1::A,q,j,_=>exact⟨.tuple (v::a1::A).toArray,by simp,(show Fin _ _ from q).h _ _ _ ⟨_,rfl,j⟩⟩
  obtain⟨z,D,a2⟩:=a0;exact⟨z,D,z,rfl,p.below.below (λ_ h=>h),a2⟩
 cases e with
 |normal=>obtain⟨ρ,t,m,g,p⟩:=g;exact M ρ t m g p
 |ret=>obtain⟨ρ,t,m,g,p⟩:=g;exact M ρ t m g p
 |exit id=>obtain⟨ρ,t,m,g,p⟩:=g;exact g.elim
 |goto l=>exact g.elim
 |panic a6=>exact g.elim
 |outgrown=>exact g.elim
def ux (TT:iu) (t:Nat->TV) (m:Id->Mem):List ResultVar->(List TV->Prop)->Prop
 |[],K=>K []
 | .tmp s::r,K=>ux TT t m r λl=>K (t s::l)
 | .cell a b::r,K=>match TT b with
  |some T=>pY T m (t a) λx _ _=>ux TT t m r λl=>K (x::l)
  |none=>False
theorem AK {P:Program} {TT:iu} (f:cC P TT) {t:Nat->TV} {m:Id->Mem} {E:Env} {ρ:Id->Option (Nat×Nat)} {a:Act} {w:World} (c:Rel E ρ t m a w) (g:E.P=P):
  ∀(o:List ResultVar) (K:List TV->Prop),ux TT t m o K->∃l b,K l/\jV E m ρ w b l/\(o.mapM (yc a.tmps)).run P w= .ok b w
 |[],K,h=>⟨[],[],h,.nil,rfl⟩
 | .tmp s::r,K,h=>by simp only[ux]at h;obtain⟨l,b,i,j,k⟩:=AK f c g r _ h;refine⟨_,a.tmps.getD s Go.undef::b,i,.cons (c.slots s) j,?_⟩;simp only[Xx,yc,Sem.run_bind,Sem.run_pure,Result.andThen_ok];rw[show(List.mapM (yc a.tmps) r).run P w=_ from k];rfl
 | .cell A B::r,K,h=>by simp only[ux]at h;split at h;rename_i T p;obtain⟨y,C,h,q⟩:=C9 (P:=P) f p h;obtain⟨l,b,i,j,k⟩:=AK f c g r _ h;obtain⟨u,x,z,_⟩:=q E ρ a w g c;refine⟨_,u::b,i,.cons z j,?_⟩;rw[Xx,Sem.run_bind,x,Result.andThen_ok,Sem.run_bind,k];rfl;exact h.elim
def ye (d:Id):Id->Id
 | .n k=>bif Nat.beq k 3000 then d else .n k
 | .s k i=> .s k i
inductive NR (τ:Id->Id):CR->CR->Prop where
 |s {c c':SV} (h:aC c c'):NR τ (.s c) (.s c')
 |ptr {o o':Id} {p:Nat} (h:o=τ o'):NR τ (.ptr o p) (.ptr o' p)
inductive mV (τ:Id->Id):List CR->List CR->Prop where
 |nil:mV τ [] []
 |cons {c c':CR} {l l':List CR} (h:NR τ c c') (r:mV τ l l'):mV τ (c::l) (c'::l')
inductive qh (m m2:Id->Mem) (τ:Id->Id):CV->CV->Prop where
 |s {c c':SV} (h:aC c c'):qh m m2 τ (.s c) (.s c')
 |ptr {o o':Id} {p:Nat} (h:o=τ o'):qh m m2 τ (.ptr o p) (.ptr o' p)
 |aL {o o':Id} {g g':Nat} (h:o=τ o') (hg:g=(m o).gen) (VX:g'=(m2 o').gen):qh m m2 τ (.aL o g) (.aL o' g')
 |cV {f:FuncId} {c c':List CR} (h:mV τ c c'):qh m m2 τ (.cV f c) (.cV f c')
inductive mU (m m2:Id->Mem) (τ:Id->Id):List CV->List CV->Prop where
 |nil:mU m m2 τ [] []
 |cons {c c':CV} {l l':List CV} (h:qh m m2 τ c c') (r:mU m m2 τ l l'):mU m m2 τ (c::l) (c'::l')
inductive jf (m m2:Id->Mem) (τ:Id->Id):Mem->Mem->Prop where
 |dead (x:Mem):jf m m2 τ x .dead
 |ro {l l':List SV} (h:gO l l'):jf m m2 τ (.ro l) (.ro l')
 |box {l l':List SV} (h:gO l l'):jf m m2 τ (.box l) (.box l')
 |tp {l:List SV} {l':List CV} (h:mU m m2 τ (l.map .s) l'):jf m m2 τ (.box l) (.obj l')
 |obj {l l':List CV} (h:mU m m2 τ l l'):jf m m2 τ (.obj l) (.obj l')
 |aJ {g g' n k:Nat} {e:TypeId} {get get':Nat->Nat->SV} (hg:g'=1->g=1) (h:∀i,i<n->∀j,j<k->aC (get i j) (get' i j)):jf m m2 τ (.aJ g n k e get) (.aJ g' n k e get')
 |br {g g' n k:Nat} {e:TypeId} {get get':Nat->Nat->CV} (hg:g'=1->g=1) (h:∀i,i<n->∀j,j<k->qh m m2 τ (get i j) (get' i j)):jf m m2 τ (.br g n k e get) (.br g' n k e get')
inductive zS (m m2:Id->Mem) (τ:Id->Id):Nat->List Mem->Prop where
 |nil (k:Nat):zS m m2 τ k []
 |cons {k:Nat} {x:Mem} {l:List Mem} (h:jf m m2 τ (m (.n k)) x) (t:zS m m2 τ (k+1) l):zS m m2 τ k (x::l)
inductive NI (m m2:Id->Mem) (τ:Id->Id):TV->TV->Prop where
 |d {v v':DV} (h:dV v v'):NI m m2 τ (.d v) (.d v')
 |ptr {o o':Id} {p:Nat} (h:o=τ o'):NI m m2 τ (.ptr o p) (.ptr o' p)
 |aL {o o':Id} {g g':Nat} (h:o=τ o') (hg:g=(m o).gen) (VX:g'=(m2 o').gen):NI m m2 τ (.aL o g) (.aL o' g')
 |cV {f:FuncId} {c c':List CR} (h:mV τ c c'):NI m m2 τ (.cV f c) (.cV f c')
inductive qg:List TV->List DV->Prop where
 |nil:qg [] []
 |cons {v v':DV} {l:List TV} {l':List DV} (h:dV v v') (r:qg l l'):qg (.d v::l) (v'::l')
inductive zQ (m m2:Id->Mem) (τ:Id->Id):List TV->TV->Prop where
 |one {x r:TV} (h:NI m m2 τ x r):zQ m m2 τ [x] r
 |none:zQ m m2 τ [] (.eG [])
 |jw {o o':Id} {x:TV} {l:List TV} {l':List DV} (h:o=τ o') (hd:qg (x::l) l'):zQ m m2 τ (.ptr o 0::x::l) (.jw o' l')
 |two {x y:TV} {l:List TV} {v v':DV} {l':List DV} (h:qg (x::y::l) (v::v'::l')):zQ m m2 τ (x::y::l) (.eG (v::v'::l'))
structure lS (m:Id->Mem) (gF:List Mem) (r:TV) (fr:Mem) (l:List TV):Prop where
 h:∃d,zQ m (fF gF fr) (ye d) l r/\zS m (fF gF fr) (ye d) 2000 gF/\(fr= .none\/(jf m (fF gF fr) (ye d) (m d) fr/\Nat.blt d.key 2000=true))
structure NK (args:List TV) (ms:List Mem) (r:TV) (gF:List Mem) (fr:Mem):Prop where
 zl:Nat.ble ms.length 1000=true
 De:Dd ms gF=true
 cur:r.cur (fF gF fr)
 th:∀o,(fF gF fr o).cur (fF gF fr)
 closed:∀o o',(jF 2000 ms o).refs o'->jF 2000 ms o'≠ .none
 fS:∀x∈args,∀o',x.refs o'->jF 2000 ms o'≠ .none
 clean:∀o,r.refs o->fF gF fr o≠ .none
 pC:∀o o',(fF gF fr o).refs o'->fF gF fr o'≠ .none
def zc (args:List TV):Nat->TV:=λi=>match args[i]? with
 |some v=>v
 |none=> .undef
variable {ts:List TV}
theorem jV.length (h:jV E m ρ w xs ts):xs.length=ts.length:=by
 induction h with
 |nil=>rfl
 |cons _ _ a=>simp[a]
theorem jV.get (h:jV E m ρ w xs ts):∀(j:Nat) (c:TV),ts[j]? =some c->∃x,xs[j]? =some x/\dm E m ρ w x c:=by
 induction h with
 |nil=>intro j c h;simp at h
 |@cons x c xs cs a _ b=>
  intro j f h;cases j with
  |zero=>simp at h;subst h;exact⟨x,by simp,a⟩
  |succ j=>simpa using b j f (by simpa using h)
theorem zS.at {m m2:Id->Mem} {τ:Id->Id} {k:Nat} {l:List Mem} (h:zS m m2 τ k l):∀(j:Nat) (x:Mem),l[j]? =some x->jf m m2 τ (m (.n (k+j))) x:=by
 induction h with
 |nil k=>intro j x h;simp at h
 |@cons k x l a _ b=>
  intro j y h;cases j with
  |zero=>simp at h;subst h;exact a
  |succ j=>have:=b j y (by simpa using h);rwa [show k+1+j=k+(j+1) by omega]at this
variable {S':Nat->Prop} {m2:Id->Mem} {ρ3:Id->Option (Nat×Nat)} {τ:Id->Id}
theorem mV.rd (k:∀b,S b->S' b):∀{cs f:List CR} (_:mV τ cs f) {xs:List Value} (_:qP S m ρ w xs cs),
  (∀o p x,(∃c∈f,c.refs o)->bh m ρ x (τ o) p->bh m2 ρ3 x o p)->qP S' m2 ρ3 w xs f:=by
 intro cs f q;induction q with
 |nil=>intro xs h _;cases h;exact .nil
 |@cons c g l A h _ r=>
  intro xs t i;cases t with
  |cons a b=>
   refine .cons ?_ (r b (λo p x ⟨g,u,y⟩=>i o p x ⟨g,by simp[u],y⟩));cases h with
   |s h=>exact h _ _ _ (Rd.mono (λb z=>⟨k b z,rfl⟩) a)
   |@ptr o j p h=>subst h;exact i j p _ ⟨.ptr j p,by simp,rfl⟩ a
theorem qh.rd (k:∀b,S b->S' b) {c a:CV} (q:qh m m2 τ c a) (h:kR S m ρ w x c)
  (l:∀o p x,a.refs o->bh m ρ x (τ o) p->bh m2 ρ3 x o p) (r:∀o x,a.refs o->bF m ρ x (τ o) (m (τ o)).gen->bF m2 ρ3 x o (m2 o).gen):kR S' m2 ρ3 w x a:=by
 cases q with
 |s t=>exact t _ _ _ (Rd.mono (λb u=>⟨k b u,rfl⟩) h)
 |@ptr o i p j=>subst j;exact l i p _ rfl h
 |@aL o i g E j y z=>subst j y z;exact r i _ rfl h
 |@cV f c a A=>obtain⟨B,C,D⟩:=h;exact⟨B,C,mV.rd k A D l⟩
theorem mU.rd (r:∀b,S b->S' b):∀{cs i:List CV} (_:mU m m2 τ cs i) {xs:List Value} (_:fU S m ρ w xs cs),
  (∀o p x,(∃c∈i,c.refs o)->bh m ρ x (τ o) p->bh m2 ρ3 x o p)->(∀o x,(∃c∈i,c.refs o)->bF m ρ x (τ o) (m (τ o)).gen->bF m2 ρ3 x o (m2 o).gen)->fU S' m2 ρ3 w xs i:=by
 intro cs i t;induction t with
 |nil=>intro xs h _ _;cases h;exact .nil
 |@cons c g l z h _ u=>
  intro xs y k q;cases y with
  |cons a b=>
   exact .cons (qh.rd r h a (λo p x f=>k o p x ⟨g,by simp,f⟩) (λo x f=>q o x ⟨g,by simp,f⟩))
    (u b (λo p x ⟨g,j,f⟩=>k o p x ⟨g,by simp[j],f⟩) (λo x ⟨g,j,f⟩=>q o x ⟨g,by simp[j],f⟩))
theorem qg.rd {l:List TV} {i:List DV} (h:qg l i):∀{f:List Value},jV E m ρ w f l->dT (L E m ρ w) w f i:=by
 induction h with
 |nil=>intro f g;cases g;exact .nil
 |cons a _ j=>intro f g;cases g with|cons b c=>exact .cons (a _ _ _ b) (j c)
variable {y:Mem}
theorem jf.live {x:Mem} (h:jf m m2 τ x y):y.live->x.live:=by cases h<;>first|exact id|exact λh=>h.elim
theorem jf.shape {x:Mem} (h:jf m m2 τ x y):y= .dead\/(x.dw=true/\y.dw=true)\/∃g b n k,x.bK=some (g,n,k)/\y.bK=some (b,n,k)/\(b=1->g=1):=by
 cases h with
 |dead x=>exact .inl rfl
 |aJ a _=>exact .inr (.inr ⟨_,_,_,_,rfl,rfl,a⟩)
 |br a _=>exact .inr (.inr ⟨_,_,_,_,rfl,rfl,a⟩)
 |_=>exact .inr (.inl ⟨rfl,rfl⟩)
section
open Classical
noncomputable def Tw (ρ:Id->Option (Nat×Nat)) (m2:Id->Mem) (τ:Id->Id) (o:Id):Option (Nat×Nat):=if m2 o= .none then none else ρ (τ o)
theorem uW {o:Id} (h:m2 o≠ .none):Tw ρ m2 τ o=ρ (τ o):=XD h
end
structure Gg (M0 M1:Id->Mem) (m:Id->Mem) (r:TV) (l:List TV):Prop where
 h:∃τ,zQ m M1 τ l r/\(∀o,M1 o≠ .none->jf m M1 τ (m (τ o)) (M1 o))/\(∀o o',M1 o≠ .none->M1 o'≠ .none->τ o=τ o'->o=o')/\∀o,M0 o≠ .none->τ o=o
structure Ei (args:List TV) (M0:Id->Mem) (r:TV) (M1:Id->Mem):Prop where
 hi:∀o,M0 o≠ .none->¬Lo o
 De:∀o,M0 o≠ .none->M1 o= .dead\/((M1 o).kind=(M0 o).kind/\0<(M0 o).kind)
 cur:r.cur M1
 th:∀o,(M1 o).cur M1
 closed:∀o o',(M0 o).refs o'->M0 o'≠ .none
 fS:∀x∈args,∀o',x.refs o'->M0 o'≠ .none
 clean:∀o,r.refs o->M1 o≠ .none
 pC:∀o o',(M1 o).refs o'->M1 o'≠ .none
variable {args:List TV} {M0:Id->Mem}
theorem Ei.ne {r:TV} {a:Id->Mem} (h:Ei args M0 r a) {o:Id} (c:M0 o≠ .none):a o≠ .none:=by
 rcases h.De o c with k|⟨k,b⟩;rw[k];simp;intro e;rw[e]at k;rw[<-k]at b;simp[Mem.kind]at b
set_option maxHeartbeats 1000000 in
theorem Lr (Q:Own E ρ m w) {r:TV} (hs:Ei args M0 r m2) (yj:E.m0=M0) {l:List TV} (c7:Gg M0 m2 m r l):
  ∃ρ3,Own E ρ3 m2 w/\∀R,jV E m ρ w R l->dm E m2 ρ3 w (if h:R.toArray.size=1 then R.toArray[0]else .tuple R.toArray) r:=by
 obtain⟨τ,c8,T,c9,d0⟩:=c7.h;have e0:=hs.th;have c2:=hs.pC;let ρ3:=Tw ρ m2 τ;have a1:∀j,(m2 j).live->m2 j≠ .none:=λj l e=>by rw[e]at l;exact l
 have a2:∀j b c,(m2 j).live->ρ3 j=some (b,c)->(m (τ j)).live/\ρ (τ j)=some (b,c):=λj b c l A=>
  ⟨(T j (a1 j l)).live l,by have:=A;rwa [show ρ3 j=_ from uW (a1 j l)]at this⟩
 have H:∀b,L E m ρ w b->L E m2 ρ3 w b:=λb D=>⟨D.1,λj c l A=>by obtain⟨u,z⟩:=a2 j b c l A;exact D.2 _ c u z⟩;have U:∀j p x,m2 j≠ .none->bh m ρ x (τ j) p->bh m2 ρ3 x j p:=by
  intro j p x B I;rcases(T j B).shape with h|⟨u,z⟩|⟨g,V,n,k,u,_,_⟩;simp only[bh,h];exact I.bO
  ·rw[bQ z];have:=(bQ u).1 I
   rwa [<-uW (ρ:=ρ) B]at this
  ·exact absurd I (hV u)
 have a6:∀j x g,m2 j≠ .none->g=(m (τ j)).gen->bF m ρ x (τ j) g->bF m2 ρ3 x j (m2 j).gen:=by intro j x g B G I;rcases(T j B).shape with h|⟨u,z⟩|⟨d1,V,n,k,u,z,_⟩;simp only[bF,h];exact⟨I.1,trivial⟩;rw[fH z];exact I.1;rw[cO u]at G;subst G;rw[bB z,cO z];obtain⟨X,_,d2⟩:=(bB u).1 I;refine⟨X,XP _,λ_=>?_⟩;have:=d2 rfl;simp only[cE]at this|-;rw[show ρ3 j=_ from uW B];exact this
 refine⟨ρ3,{below:=Q.below,inj:=?_,lo:=?_,cleanM:=c2,mem:=?_,carry:=?_},?_⟩;intro a7 a8 b c a9 c3 c4 b0 d3;obtain⟨X,b1⟩:=a2 a7 b c c3 b0;obtain⟨d4,d5⟩:=a2 a8 b a9 c4 d3;exact c9 a7 a8 (a1 a7 c3) (a1 a8 c4) (Q.inj _ _ b c a9 X d4 b1 d5);intro j b c l A;obtain⟨X,b1⟩:=a2 j b c l A;exact Q.lo _ b c X b1
 ·intro j;by_cases B:m2 j= .none;rw[B];trivial;have K:=Q.mem (τ j);have P:=T j B;have a3:∀t,(m2 j).refs t->m2 t≠ .none:=c2 j;have M:ρ3 j=ρ (τ j):=uW B;have b2:=B;revert K P a3 b2;generalize m2 j=y;generalize m (τ j)=x;intro K P a3 _;have b3:∀t p x,y.refs t->bh m ρ x (τ t) p->bh m2 ρ3 x t p:=λt p x A=>U t p x (a3 t A);have b4:∀t x,y.refs t->bF m ρ x (τ t) (m (τ t)).gen->bF m2 ρ3 x t (m2 t).gen:=λt x A=>a6 t x _ (a3 t A) rfl;cases P with
  |dead=>trivial
  |ro C=>obtain⟨b,c,J,e,u,b2,z,F⟩:=K;exact⟨b,c,J,e,by rw[M,u],H b b2,z,C.UZ (F.mono (λb D=>⟨H b D,rfl⟩))⟩
  |box C=>obtain⟨b,c,J,e,u,z,F⟩:=K;exact⟨b,c,J,e,by rw[M,u],z,C.UZ (F.mono (λb D=>⟨H b D,rfl⟩))⟩
  |@tp l c5 C=>obtain⟨b,c,J,e,u,z,F⟩:=K;exact⟨b,c,J,e,by rw[M,u],z,mU.rd (S:=L E m ρ w) (m:=m) (ρ:=ρ) H C (fU.Lw F) (λt p x A=>b3 t p x A) (λt x A=>b4 t x A)⟩
  |@obj l c5 C=>obtain⟨b,c,J,e,u,z,F⟩:=K;exact⟨b,c,J,e,by rw[M,u],z,mU.rd H C F (λt p x A=>b3 t p x A) (λt x A=>b4 t x A)⟩
  |@aJ g V n k e d6 d7 G C=>rcases K with⟨u,z⟩|⟨b,b5,b6,u,z,F,Y,b7,b8⟩;exact .inl ⟨by rw[M,u],z⟩;refine .inr ⟨b,b5,b6,by rw[M,u],z,F,Y,b7,λi N q O=>?_⟩;obtain⟨x,b9,A⟩:=b8 i N q O;exact⟨x,b9,C i N q O _ _ _ (A.mono (λb D=>⟨H b D,rfl⟩))⟩
  |@br g V n k e d6 d7 G C=>rcases K with⟨u,z⟩|⟨b,b5,b6,u,z,F,Y,b7,b8⟩;exact .inl ⟨by rw[M,u],z⟩;refine .inr ⟨b,b5,b6,by rw[M,u],z,F,Y,b7,λi N q O=>?_⟩;obtain⟨x,b9,A⟩:=b8 i N q O;exact⟨x,b9,qh.rd H (C i N q O) A (λt p x A=>b3 t p x ⟨i,q,N,O,A⟩) (λt x A=>b4 t x ⟨i,q,N,O,A⟩)⟩
 ·intro o B;have c6:=Q.carry o B;rw[yj]at B;have c0:=hs.ne B;have P:=T _ c0;have a4:=d0 o B;rw[a4]at P;refine⟨λx p I=>U _ p x c0 (by rw[a4];exact c6.ptr x p I),λx G I=>?_⟩;rcases P.shape with h|⟨_,z⟩|⟨d1,V,n,k,u,z,F⟩;rw[h]at G;simp[Mem.gen]at G;rw[om z]at G;omega
  ·have Z:=G;rw[cO z]at Z;have Y:=c6.aL x (by rw[cO u];exact F Z) I;have:=a6 o x 1 c0 (by rw[a4,cO u];exact(F Z).symm) (by rw[a4];exact Y)
   rwa [G]at this
 ·intro R a0;have a5:=hs.clean;cases c8 with
  |none=>cases a0;exact⟨[],rfl,.nil⟩
  |@jw o j x l c5 h c1=>
   subst h;cases a0 with
   |@cons v _ J _ a b=>
    have C:=c1.rd b;cases b with
    |cons c e=>exact⟨_,_,by simp,U j 0 v (a5 j rfl) a,C.mono (λb D=>⟨H b D,rfl⟩)⟩
  |two c1=>
   have C:=c1.rd a0;cases a0 with
   |cons a b=>cases b with
    |cons c e=>exact⟨_,by simp,C.mono (λb D=>⟨H b D,rfl⟩)⟩
  |one d8=>
   cases a0 with
   |@cons v _ _ _ a b=>
    cases b;show dm E m2 ρ3 w v r;cases d8 with
    |d h=>exact h _ _ _ (nf.mono (λb D=>⟨H b D,rfl⟩) a)
    |@ptr o j p h=>subst h;exact U j p v (a5 j rfl) a
    |@aL o j g V h G Z=>subst h Z;exact a6 j v g (a5 j rfl) G a
    |@cV f c a9 h=>obtain⟨J,d9,b0⟩:=a;exact⟨J,d9,mV.rd H h b0 (λj p x A=>U j p x (a5 j A))⟩
variable {ms gF:List Mem} {fr:Mem}
theorem NK.Tj {r:TV} (h:NK args ms r gF fr):Ei args (jF 2000 ms) r (fF gF fr) where
 hi:=λo a f=>by obtain⟨j,x,g,rfl⟩:=gj ms 2000 o a;exact absurd (show 2000+j<2000 from f) (by omega)
 De:=λo a=>by obtain⟨g,i⟩:=pk _ _ h.De;have k:=XJ h.zl;obtain⟨j,x,b,rfl⟩:=gj ms 2000 o a;have l:=(Ye.1 b).1;have c:gF[j]? =some (gF[j]'(by omega)):=XV (by omega);rw[km ms 2000 j x b,kl (by omega) c];exact i j x _ b c
 cur:=h.cur
 th:=h.th
 closed:=h.closed
 fS:=h.fS
 clean:=h.clean
 pC:=h.pC
theorem lS.Tj {r:TV} (hs:NK args ms r gF fr) {l:List TV} (u:lS m gF r fr l):Gg (jF 2000 ms) (fF gF fr) m r l:=by
 obtain⟨d,w,z,A⟩:=u.h;obtain⟨I,J⟩:=pk _ _ hs.De;have K:=XJ hs.zl;have g:∀a,fF gF fr a≠ .none->jf m (fF gF fr) (ye d) (m (ye d a)) (fF gF fr a)/\((a= .n 3000/\d.key<2000)\/∃j,a= .n (2000+j)/\ye d a=a):=by intro a b;rcases w1 b with⟨rfl,B⟩|⟨j,y,c,rfl⟩;have f:=A.resolve_left B;exact⟨by rw[pe];exact f.1,.inl ⟨rfl,bU f.2⟩⟩;have C:=(Ye.1 c).1;have i:ye d (.n (2000+j))= .n (2000+j):=(by simp only[ye,rV (show 2000+j≠3000 by omega),ZM]);exact⟨by rw[i,kl (by omega) c];exact z.at j y c,.inr ⟨j,rfl,i⟩⟩
 refine⟨ye d,w,λo b=>(g o b).1,λD E c f e=>?_,λo b=>?_⟩
 ·rcases(g D c).2 with⟨rfl,k⟩|⟨F,rfl,p⟩<;>rcases(g E f).2 with⟨rfl,q⟩|⟨G,rfl,t⟩
  ·rfl
  ·rw[t]at e;have:d= .n (2000+G):=e;rw[this]at k;simp only[Id.key]at k;omega
  ·rw[p]at e;have: .n (2000+F)=d:=e;rw[<-this]at q;simp only[Id.key]at q;omega
  ·rw[p,t]at e;exact e
 ·obtain⟨j,x,H,rfl⟩:=gj ms 2000 o b;have C:=(Ye.1 H).1;simp only[ye,rV (show 2000+j≠3000 by omega),ZM]
theorem tZ {TT:iu} (C:cC P TT) (Q:P.follows .mixedOrders=true) {f:FuncId} {a:Func} (D:P.funcs[f]? =some a) (G:a.body=some c) (R:(a.name== "runtime.NumGoroutine")=false)
  (eX:List Nat) {args:List TV} (a7:args.length<=a.ntmps) (a8:a.ntmps<2000) {M0:Id->Mem} {r:TV} {u:Id->Mem} (hs:Ei args M0 r u) (X:(Id->Mem)->List TV->Prop) (S:∀m l,X m l->Gg M0 u m r l)
  (h:vr P TT a.ntmps eX c (λe t m=>match e with
   | .exit _=>False
   | .normal=>ux TT t m a.results.toList (X m)
   | .ret=>ux TT t m a.results.toList (X m)) (zc args) M0):Eo P f args M0 r u:=by
 have T:∀o,Lo o->M0 o= .none:=λo h=>Xz λU=>hs.hi o U h;refine⟨⟨a,D,R,by rw[G];rfl⟩,hs.hi,hs.De,hs.cur,hs.th,hs.closed,hs.fS,hs.clean,λw g z yj p H=>?_⟩;refine callsIn_wide.1 (callsIn_of_wp_marks (F:=Fence.wide) (n:=0) D G trivial (wpIn_wide.2 ?_));let E:Env:={w with N:=a.ntmps,B:=w.w0.heap.size,yj:=λk a9=>by rw[yj];exact T (.n k) (show k<2000 by omega)};have V:Own E E.ρ0 E.m0 E.w0:={below:=p.below,inj:=p.inj,lo:=p.lo,cleanM:=p.cleanM,mem:=p.mem,carry:=p.carry};have b0:=H.length;have Y:Rel E E.ρ0 (zc args) E.m0 {tmps:=g.toArray++Array.replicate (a.ntmps-g.toArray.size) Go.undef,defers:=[]} E.w0:=by
  refine{V with defers:= .nil,size:=?_,clean:=?_,slots:=?_};show(g.toArray++Array.replicate (a.ntmps-g.toArray.size) Go.undef).size=a.ntmps;simp;omega;intro i o A;unfold zc at A;split at A;rename_i v y;rw[show E.m0=_ from yj];exact hs.fS v (Ze y) o A;exact A.elim
  ·intro i;unfold zc;split;(rename_i v y;obtain⟨x,I,Z⟩:=H.get i v y;have a0:=(Ye.1 I).1;have a1:(g.toArray++Array.replicate (a.ntmps-g.toArray.size) Go.undef).getD i Go.undef=x:=(by rw[Yz,YZ,XG (by simpa using a0)];simp[I]);rw[a1];cases v<;>exact Z)
   ·rename_i y;have b1:args.length<=i:=aaN.1 y;show _=Go.undef;rw[Yz,YZ,XD (by simp;omega)];by_cases J:i-g.toArray.size<a.ntmps-g.toArray.size;rw[Z0 (by simpa using J)];simp;rw[ZX (by simpa using J)];rfl
 have K:=zK C Q c _ _ _ h E E.ρ0 _ E.w0 ⟨z,XP _⟩ rfl (by rw[<-yj];exact Y);rw[<-z]at K|-;refine wp_mono K ?_;intro e a' w' b;have M:∀ρ t m,ux TT t m a.results.toList (X m)->Rel E ρ t m a' w'->LeavesInM Fence.wide 0 w.P a a'.tmps (λe w'=>∃v ρ',e= .returned v/\Own w ρ' u w'/\dm w u ρ' w' v r) a'.defers .returning w':=by intro ρ t m b O;refine mA (XP _) _ a' w' rfl O (λw' j=>?_);clear O;obtain⟨l,a2,a3,a4,a5⟩:=AK C j z a.results.toList _ b;obtain⟨ρ3,q,a6⟩:=Lr j.toOwn hs yj (S _ _ a3);refine⟨_,by rw[z];exact tN a5,_,ρ3,rfl,{below:=q.below,inj:=q.inj,lo:=q.lo,cleanM:=q.cleanM,mem:=q.mem,carry:=q.carry},?_⟩;have:=a6 a2 a4;cases r<;>exact this
 cases e with
 |normal=>obtain⟨ρ,t,m,b,j⟩:=b;exact M ρ t m b j
 |ret=>obtain⟨ρ,t,m,b,j⟩:=b;exact M ρ t m b j
 |exit id=>obtain⟨ρ,t,m,b,j⟩:=b;exact b.elim
 |goto l=>exact b.elim
 |panic b2=>exact b.elim
 |outgrown=>exact b.elim
theorem dC {TT:iu} (g:cC P TT) (i:P.follows .mixedOrders=true) {f:FuncId} {a:Func} (j:P.funcs[f]? =some a) (k:a.body=some c) (o:(a.name== "runtime.NumGoroutine")=false)
  (eX:List Nat) {args:List TV} (p:args.length<=a.ntmps) (q:a.ntmps<2000) {ms:List Mem} {r:TV} {gF:List Mem} {fr:Mem} (hs:NK args ms r gF fr)
  (h:vr P TT a.ntmps eX c (λe t m=>match e with
   | .exit _=>False
   | .normal=>ux TT t m a.results.toList (lS m gF r fr)
   | .ret=>ux TT t m a.results.toList (lS m gF r fr)) (zc args) (jF 2000 ms)):oC P f args ms r gF fr:=by
 have b:=tZ g i j k o eX p q hs.Tj (λm=>lS m gF r fr) (λm l u=>u.Tj hs) h;exact⟨b.enters,hs.De,hs.cur,hs.th,hs.closed,hs.fS,hs.clean,b.calls⟩
theorem ov {TT:iu} (g:cC P TT) (i:P.follows .mixedOrders=true) {f:FuncId} {a:Func} (j:P.funcs[f]? =some a) (k:a.body=some c) (l:(a.name== "runtime.NumGoroutine")=false)
  (eX:List Nat) {args:List TV} (o:args.length<=a.ntmps) (p:a.ntmps<2000) {M0:Id->Mem} {r:TV} {b:Id->Mem} (hs:Ei args M0 r b)
  (h:vr P TT a.ntmps eX c (λe t m=>match e with
   | .exit _=>False
   | .normal=>ux TT t m a.results.toList (Gg M0 b m r)
   | .ret=>ux TT t m a.results.toList (Gg M0 b m r)) (zc args) M0):Eo P f args M0 r b:=
 tZ g i j k l eX o p hs (Gg M0 b · r) (λ_ _ h=>h) h
end Go.Vm
namespace Go.Vm
open Go Go.RowKit Go.ChangeShapes Go.WideShapes Go.ChangeAt
inductive jU (P:Program):TypeId->List SV->Prop where
 |bool {t:TypeId} (b:Bool) (h:P.underlying t=some .bool):jU P t [.v (.bool b)]
 |int {t:TypeId} {k:IntKind} {n:Int} (h:P.underlying t=some (.int k)) (hw:(Lit.int k n).wf=true):jU P t [.v (.int k n)]
 |str {t:TypeId} {s:ByteArray} (h:P.underlying t=some .string) (hs:s.size<=maxLen):jU P t [.v (.string s)]
 |ju {t e:TypeId} {n k:Nat} {get:Nat->Nat->SV} (h:P.underlying t=some (.slice e)) (hk:k=P.cellsOf e) (hn:n<=maxLen) (hr:∀i,i<n->jU P e (cells k (get i))):jU P t [.sl n k get]
 |struct {t:TypeId} {fs:Array Field} {cs:List SV} (h:P.underlying t=some (.struct fs)) (hl:cs.length=P.cellsOf t) (hf:∀f∈fs.toList,jU P f.type ((cs.drop f.offset).take (P.cellsOf f.type))):jU P t cs
 |arr {t e:TypeId} {n:Nat} {cs:List SV} (h:P.underlying t=some (.array n e)) (hl:cs.length=P.cellsOf t) (hf:∀i,i<n->jU P e ((cs.drop (i*P.cellsOf e)).take (P.cellsOf e))):jU P t cs
def packed (P:Program) (off:Nat):List Field->Option Nat
 |[]=>some off
 |f::a=>bif Nat.beq f.offset off then packed P (off+P.cellsOf f.type) a else none
def gV (P:Program):Nat->TypeId->Bool
 |0,_=>false
 |n+1,t=>match P.underlying t with
  |some .bool=>true
  |some (.int _)=>true
  |some .string=>true
  |some (.slice e)=>Nat.blt 0 (P.cellsOf e)&&gV P n e
  |some (.struct a)=>(packed P 0 a.toList==some (P.cellsOf t))&&a.toList.all λf=>gV P n f.type
  |some (.array k e)=>Nat.beq (k*P.cellsOf e) (P.cellsOf t)&&gV P n e
  |_=>false
theorem glue {S:Nat->Prop} {w:World} (P:Program):∀(a:List Field) (off j:Nat) (xs:List Value),packed P off a=some j->off+xs.length=j->
  (∀f∈a,∃b,jU P f.type b/\eJ S w ((xs.drop (f.offset-off)).take (P.cellsOf f.type)) b)->
  ∃b,eJ S w xs b/\∀f∈a,off<=f.offset/\jU P f.type ((b.drop (f.offset-off)).take (P.cellsOf f.type))
 |[],off,j,xs,h,u,_=>by simp only[packed,Y9]at h;obtain rfl:xs=[]:=Y1 (by omega);exact⟨[],.nil,by simp⟩
 |f::a,off,j,xs,h,u,q=>by
  simp only[packed]at h;cases c:Nat.beq f.offset off with
  |false=>rw[c]at h;simp at h
  |true=>
   rw[c]at h;simp only[ZG]at h;have r:f.offset=off:=XE c;have x:∀(a:List Field) (o t:Nat),packed P o a=some t->o<=t/\∀g∈a,o<=g.offset:=by
    intro a;induction a with
    |nil=>intro o t h;simp only[packed,Y9]at h;exact⟨by omega,by simp⟩
    |cons g K y=>
     intro o t h;simp only[packed]at h;cases c:Nat.beq g.offset o with
     |false=>rw[c]at h;simp at h
     |true=>rw[c]at h;simp only[ZG]at h;obtain⟨M,z⟩:=y _ _ h;have N:g.offset=o:=XE c;refine⟨by omega,λA k=>?_⟩;rcases XF.1 k with rfl|k;omega;have:=z A k;omega
   obtain⟨O,B⟩:=x a _ _ h;obtain⟨l,C,m⟩:=q f (by simp);rw[r,YM,W9]at m;obtain⟨p,D,E⟩:=glue P a (off+P.cellsOf f.type) j (xs.drop (P.cellsOf f.type)) h (by simp;omega) (λg i=>by obtain⟨b,F,G⟩:=q g (by simp[i]);have:=B g i;rw[aaG];rw[show P.cellsOf f.type+(g.offset-(off+P.cellsOf f.type))=g.offset-off by omega];exact⟨b,F,G⟩);have H:l.length=P.cellsOf f.type:=(by have:=m.length;simp at this;omega);refine⟨l++p,?_,λg i=>?_⟩
   ·have:=m.append D
    rwa [ZH]at this
   ·rcases XF.1 i with rfl|i;refine⟨by omega,?_⟩;rw[r,YM,W9,<-H,aaE];exact C;obtain⟨Q,I⟩:=E g i;refine⟨by omega,?_⟩;have J:(l++p).drop (g.offset-off)=p.drop (g.offset-(off+P.cellsOf f.type)):=(by rw[List.drop_append,List.drop_eq_nil_of_le (by omega),Ww];congr 1;omega);rw[J];exact I
theorem HO {S:Nat->Prop} {w:World} (P:Program) (e:TypeId):∀(n:Nat) (xs:List Value),xs.length=n*P.cellsOf e->
  (∀i,i<n->∃a,jU P e a/\eJ S w ((xs.drop (i*P.cellsOf e)).take (P.cellsOf e)) a)->
  ∃a,eJ S w xs a/\∀i,i<n->jU P e ((a.drop (i*P.cellsOf e)).take (P.cellsOf e))
 |0,xs,g,_=>by obtain rfl:xs=[]:=Y1 (by omega);exact⟨[],.nil,by simp⟩
 |n+1,xs,g,h=>by
  have t:xs.length=n*P.cellsOf e+P.cellsOf e:=(by rw[g,Ym,Nat.one_mul]);obtain⟨b,j,c⟩:=h 0 (by omega);rw[W6,W9]at c;obtain⟨f,k,l⟩:=HO P e n (xs.drop (P.cellsOf e)) (by simp;omega) (λi m=>by obtain⟨a,o,p⟩:=h (i+1) (by omega);rw[aaG,show P.cellsOf e+i*P.cellsOf e=(i+1)*P.cellsOf e by rw[Ym];omega];exact⟨a,o,p⟩);have q:b.length=P.cellsOf e:=(by have:=c.length;simp at this;omega);refine⟨b++f,?_,λi m=>?_⟩
  ·have:=c.append k
   rwa [ZH]at this
  ·cases i with
   |zero=>rw[W6,W9,<-q,aaE];exact j
   |succ i=>have:=l i (by omega);have r:(b++f).drop ((i+1)*P.cellsOf e)=f.drop (i*P.cellsOf e):=(by rw[List.drop_append,List.drop_eq_nil_of_le (by rw[Ym];omega),Ww];congr 1;rw[Ym];omega);rw[r];exact this
variable {H:Type} {P:Program} {w:World}
theorem BZ {enc:TypeId×Value->H}:∀(n u:Nat) (t:TypeId) (xs:List Value) (x:DataW H×List MemPlace),gV P n t=true->
  DataW.trod enc P w 0 (λ_=>true) true u t xs=some x->∃o,jU P t o/\eJ (λb=>b<w.heap.size) w xs o:=by
 intro n;induction n with
 |zero=>intro u t xs x h;simp[gV]at h
 |succ n K=>
  intro u t xs x p h;unfold gV at p;split at p
  ·rename_i g;cases u with
   |zero=>simp[DataW.trod]at h
   |succ u=>
    unfold DataW.trod at h;rw[g]at h;split at h<;>simp_all
    rename_i b;exact⟨_,.bool b g,.cons (.v rfl) .nil⟩
  ·rename_i k g;obtain⟨q,rfl,rfl,hw⟩:=DataW.trod_int g h;exact⟨_,.int g hw,.cons (.v rfl) .nil⟩
  ·rename_i g;cases u with
   |zero=>simp[DataW.trod]at h
   |succ u=>
    unfold DataW.trod at h;rw[g]at h;split at h<;>simp_all
    rename_i s;exact⟨_,.str g h.1,.cons (.v rfl) .nil⟩
  ·rename_i e g;simp only[XH]at p;obtain⟨a4,p⟩:=p;have a5:=bU a4;rcases DataW.trod_slice g h with⟨rfl,rfl⟩|⟨a,r,a6,a7,c3,a8,_,rfl,rfl,c4,M,a9,Z,b0,c5,_⟩;exact⟨[.sl 0 (P.cellsOf e) λ_ _=> .v Go.undef],.ju g rfl (XS _) (λi c=>absurd c (XL i)),.cons (.nil _ _) .nil⟩
   ·
    have N:∀i,i<r->∃o A,jU P e o/\eJ (λb=>b<w.heap.size) w A o/\A.length=P.cellsOf e/\∀j,j<P.cellsOf e->w.cell? ((a.add (i*P.cellsOf e)).add j)=A[j]?:=by
     intro i c;have l:=b0 i c;have D:i<a7.length:=(by omega);rw[XV D]at l;cases O:w.cells? 0 (a.add (i*P.cellsOf e)) (P.cellsOf e)with
     |none=>rw[O]at l;simp at l
     |some A=>rw[O]at l;simp only[Option.bind_some]at l;obtain⟨o,z,E⟩:=K a8 e A _ p l;obtain⟨_,B,b1⟩:=World.cells?_some O;exact⟨o,A,z,E,B,b1⟩
    rcases Zv r with Q|Q;subst Q;exact⟨[.sl 0 (P.cellsOf e) λ_ _=> .v Go.undef],.ju g rfl (XS _) (λi c=>absurd c (XL i)),.cons (.emp a a6 _ _) .nil⟩
    ·have b2:∃(C:Nat->List SV) (U:Nat->List Value),∀i,i<r->jU P e (C i)/\eJ (λb=>b<w.heap.size) w (U i) (C i)/\(U i).length=P.cellsOf e/\∀j,j<P.cellsOf e->w.cell? ((a.add (i*P.cellsOf e)).add j)=(U i)[j]?:=(by refine⟨λi=>if h:i<r then(N i h).choose else[],λi=>if h:i<r then(N i h).choose_spec.choose else[],λi c=>?_⟩;simp only[c,dite_true];exact(N i c).choose_spec.choose_spec);obtain⟨C,U,F⟩:=b2;have a0:∀i,i<r->(C i).length=P.cellsOf e:=λi c=>by obtain⟨_,z,E,_⟩:=F i c;have:=z.length;omega
     have b3:∀i,i<r->cells (P.cellsOf e) (λj=>(C i).getD j (.v Go.undef))=C i:=(by intro i c;apply Xe;intro j;rw[oj];have:=a0 i c;by_cases G:j<P.cellsOf e;rw[XG G];have R:j<(C i).length:=(by omega);simp[List.getD,R];rw[XD G,YY (by omega)]);refine⟨[.sl r (P.cellsOf e) λi j=>(C i).getD j (.v Go.undef)],.ju g rfl (by omega) (λi c=>by rw[b3 i c];exact(F i c).1),.cons ?_ .nil⟩;obtain⟨_,z,E,B⟩:=F 0 Q;have b4:∃v,w.cell? a=some v:=(by have:=B 0 a5;rw[W6]at this;have b5:0<(U 0).length:=(by omega);rw[XV b5]at this;exact⟨_,this⟩);obtain⟨v0,a1⟩:=b4;obtain⟨b,c6,b6⟩:=a;have b7:b6=none:=World.cell?_spot a1;subst b7;have b8:=World.block_lt_of_cell? w _ a1;refine Rd.sl (λi j=>((U i)[j]?).getD Go.undef) b8 M a9 (λi c j G=>?_) (λi c j G=>?_);obtain⟨_,z,E,B⟩:=F i c;have:=B j G;rw[eE,eE,YQ]at this;have R:j<(U i).length:=(by omega);rw[this,XV R];rfl;obtain⟨_,z,E,B⟩:=F i c;obtain⟨y,b9,c0⟩:=z.du j (by have:=a0 i c;omega);simp only[b9,Yt];exact c0
  ·rename_i a2 g;simp only[XH,aac,Zj]at p;obtain⟨T,c1⟩:=p;obtain⟨V,m,_,rfl,M,Z,X⟩:=DataW.trod_struct g h;obtain⟨o,I,Y⟩:=glue (S:=λb=>b<w.heap.size) (w:=w) P a2.toList 0 (P.cellsOf t) xs T (by omega) (λf J=>by obtain⟨i,c⟩:=ZT J;have a3:a2[i]? =some f:=(by simpa using c);have l:=X i f a3;have D:i<V.length:=(by have:=(Zb.1 a3).1;omega);rw[XV D]at l;rw[aai];exact K m f.type _ _ (c1 f J) l);refine⟨o,.struct g (by have:=I.length;omega) (λf J=>?_),I⟩;have:=(Y f J).2
   rwa [aai]at this
  ·rename_i k e g;simp only[XH]at p;obtain⟨T,c2⟩:=p;have c7:=XE T;obtain⟨V,m,_,rfl,M,Z,X⟩:=DataW.trod_array g h;obtain⟨o,I,Y⟩:=HO (S:=λb=>b<w.heap.size) (w:=w) P e k xs (by omega) (λi c=>by have l:=X i c;have D:i<V.length:=(by omega);rw[XV D]at l;exact K m e _ _ c2 l);exact⟨o,.arr g (by have:=I.length;omega) Y,I⟩
  ·simp at p
def zM (P:Program) (t:TypeId):Bool:=match P.underlying t with
 |some (.struct _)=>true
 |some (.array _ _)=>true
 |_=>false
def Eh (P:Program) (t:TypeId):DV->Prop
 | .one c=>zM P t=false/\jU P t [c]
 | .agg a=>zM P t=true/\jU P t a
inductive xR (P:Program):List TypeId->List DV->Prop where
 |nil:xR P [] []
 |cons {t:TypeId} {v:DV} {ts:List TypeId} {vs:List DV} (h:Eh P t v) (r:xR P ts vs):xR P (t::ts) (v::vs)
theorem N5 {enc:TypeId×Value->H} {n:Nat} {t:TypeId} {v:Value} {d:DataW H} {q:List MemPlace} {r:Nat} (g:gV P n t=true)
  (f:Value.okWide P w .any r t v) (h:DataW.Trod enc P w 0 (λ_=>true) true t v d q):∃m,Eh P t m/\nf (λb=>b<w.heap.size) w v m:=by
 obtain⟨u,h⟩:=h;obtain⟨o,p,k⟩:=BZ n u t _ _ g h;cases a:zM P t with
 |true=>
  have:∃i,v= .agg i:=by
   unfold zM at a;unfold Value.okWide at f;cases j:P.underlying t with
   |none=>rw[j]at a;simp at a
   |some l=>
    rw[j]at a f;cases l<;>simp at a
    ·obtain⟨i,e,_⟩:=f;exact⟨i,e⟩
    ·obtain⟨i,e,_⟩:=f;exact⟨i,e⟩
  obtain⟨i,rfl⟩:=this;exact⟨.agg o,⟨a,p⟩,i.toList,by simp,k⟩
 |false=>
  have x:v.cells.toList=[v]:=by
   unfold zM at a;unfold Value.okWide at f;cases n with
   |zero=>simp[gV]at g
   |succ n=>
    unfold gV at g;cases j:P.underlying t with
    |none=>rw[j]at g;simp at g
    |some l=>rw[j]at a f g;simp only[Cell.okWide,j]at f;cases l<;>simp at a g<;>cases v<;>first|rfl|(simp[Cell.ok,j]at f)
  rw[x]at k;have y:=k.length
  match o,y with
  |[c],_=>
   refine⟨.one c,⟨a,p⟩,?_⟩;cases k with
   |cons z _=>exact z
theorem Gm {H:Type} {enc:TypeId×Value->H} {P:Program} {w:World} {n:Nat} {o:Nat}:∀(c:List TypeId) (f:List Value) (i:List (DataW H)) (k:List MemPlace),(∀t∈c,gV P n t=true)->
  (∀(j:Nat) t v,c[j]? =some t->f[j]? =some v->Value.okWide P w .any o t v)->DataW.TrodAll enc P w 0 (λ_=>true) true c f i k->∃g,xR P c g/\dT (λb=>b<w.heap.size) w f g
 |[],f,i,k,_,_,h=>by obtain⟨rfl,_,_⟩:=trodAll_nil h;exact⟨[],.nil,.nil⟩
 |t::c,f,i,k,l,m,h=>by obtain⟨v,r,d,u,p,q,rfl,rfl,rfl,x,y⟩:=trodAll_cons h;obtain⟨z,A,B⟩:=N5 (l t (by simp)) (m 0 t v rfl rfl) x;obtain⟨g,C,D⟩:=Gm c r u q (λt E=>l t (by simp[E])) (λj t v a b=>m (j+1) t v (by simpa using a) (by simpa using b)) y;exact⟨z::g,.cons A C,.cons B D⟩
theorem pT {H:Type} {enc:TypeId×Value->H} {P:Program} (k:laidOutB P=true) {W i:World} (l:Below W.heap.size W i):∀(a:List TypeId) (c:List Value) (f:List (DataW H)) (g:List MemPlace),(∀t∈a,P.readableRec t=true/\t<P.types.size)->
  DataW.TrodAll enc P W 0 (λ_=>true) true a c f g->DataW.TrodAll enc P i 0 (λb=>decide (b<W.heap.size)) true a c f g
 |[],c,f,g,_,h=>by obtain⟨rfl,rfl,rfl⟩:=trodAll_nil h;exact trodAll_mk0
 |t::a,c,f,g,j,h=>by obtain⟨v,r,d,u,p,q,rfl,rfl,rfl,o,w⟩:=trodAll_cons h;have y:DataW.Trod enc P i 0 (λb=>decide (b<W.heap.size)) true t v d p:=Below.trod k (j t (by simp)).1 (j t (by simp)).2 o l.toBelow (λx z=>by obtain⟨m,A⟩:=o;exact DataW.trod_lt m _ _ _ A x z);exact trodAll_cons_mk y (pT k l a r u q (λt B=>j t (by simp[B])) w)
theorem Bf {F:FuncId} {f:Func} {s:ChangeSpec} (w:s.vars=[]) {x:TypeId} (C:f.resultTypes=#[x]) (D:P.underlying x=some .bool) {n:Nat} (E:f.params.toList.all (gV P n)=true)
  (G:f.params.toList.all (λt=>P.readableRec t&&Nat.blt t P.types.size)=true) (I:laidOutB P=true) {H:Type} {enc:TypeId×Value->H}
  (J:∀c:List (DataW H),c.length=f.params.size->(s.fn H (c++[])).results=[.lit (.bool true)]/\(s.fn H (c++[])).args=c/\(s.fn H (c++[])).vars=[])
  (K:∀i,xR P f.params.toList i->kM P F i (aD true)) (W:World) (M:Nat) (args:Array Value) (c N:List (DataW H)) (O:List MemPlace)
  (Q:∀(j:Nat) t v,f.params[j]? =some t->args[j]? =some v->Value.okWide P W .any M t v)
  (y:DataW.Whole enc P f.params.toList s.vars false W args.toList c N O):
  Calls P F args W λe z=>∃v,e= .returned v/\s.post enc P f false true false false W args v z:=by
 have R:=y;obtain⟨p,q,l,A,rfl,a1,a2⟩:=y;rw[w]at A;obtain⟨rfl,rfl⟩:=trodVars_none A;have S:∀(g:List TypeId) (m:List Value) (c:List (DataW H)) (o:List MemPlace),DataW.TrodAll enc P W 0 (λ_=>true) true g m c o->c.length=g.length:=by
  intro g;induction g with
  |nil=>intro m c o h;obtain⟨_,rfl,_⟩:=trodAll_nil h;rfl
  |cons t g T=>intro m c o h;obtain⟨v,a3,d,a4,p,q,rfl,rfl,rfl,a5,r⟩:=trodAll_cons h;simp[T _ _ _ r]
 obtain⟨U,V,X⟩:=J c (by simpa using S _ _ _ _ l);obtain⟨i,Y,Z⟩:=Gm (n:=n) f.params.toList args.toList c p (λt u=>Zj.1 E t u) (λj t v a b=>Q j t v (by simpa using a) (by simpa using b)) l;have B:=(K i Y).2 W (λb=>b<W.heap.size) args.toList (λb k=>k) Z;rw[Yr]at B;refine B.mono ?_;rintro e z ⟨v,rfl,k,r⟩;have a0:v= .bool true:=(Rd.cm (show Rd _ _ _ _ from r)).1;subst a0;refine⟨_,rfl,c,[],p++[],[],p,[],R,?_,?_,?_,k.frame _,λh=>by cases h⟩;rw[U,C];exact trodAll_mk1 (shut_bool D true);rw[V];exact pT I k _ _ _ _ (λt u=>by have:=Zj.1 G t u;simp only[XH]at this;exact⟨this.1,bU this.2⟩) l;rw[X,w];rfl
end Go.Vm
namespace Go.Vm
open Go Go.RowKit
def Kj:List (TypeId×Ty)->iu
 |[]=>λ_=>none
 |p::r=>λt=>bif Nat.beq t p.1 then some p.2 else Kj r t
inductive Ir (P:Program):List (TypeId×Ty)->Prop where
 |nil:Ir P []
 |cons {t:TypeId} {T:Ty} {r:List (TypeId×Ty)} (h:cW P t T) (hr:Ir P r):Ir P ((t,T)::r)
variable {P:Program}
theorem Oe {l:List (TypeId×Ty)} (h:Ir P l):cC P (Kj l):=by
 induction h with
 |nil=>intro t T h;simp[Kj]at h
 |@cons c g r h _ f=>
  intro t T a;simp only[Kj]at a;cases b:Nat.beq t c with
  |true=>rw[b]at a;simp only[ZG,Y9]at a;obtain rfl:=XE b;subst a;exact h
  |false=>rw[b]at a;exact f t T a
variable {K:Bool->Prop}
theorem ab.t (h:K true):ab true K:=⟨λ_=>h,λh=>by cases h⟩
theorem ab.f (h:K false):ab false K:=⟨λh=>(by cases h),λ_=>h⟩
theorem ab.dA {b:Bool} (c:b=true) (h:K true):ab b K:=⟨λ_=>h,λa=>by rw[c]at a;cases a⟩
theorem ab.cP {b:Bool} (c:b=false) (h:K false):ab b K:=⟨λa=>(by rw[c]at a;cases a),λ_=>h⟩
theorem aC.of_eq {a b:SV} (h:a=b):aC a b:=h▸aC.refl a
theorem aC.nil (k:Nat) (get:Nat->Nat->SV):aC (.v (.slice none 0 0)) (.sl 0 k get):=λS w x r=>by
 rw[(Rd.cm r).1];exact .nil k get
theorem aC.sl {n k:Nat} {g g':Nat->Nat->SV} (h:∀i,i<n->∀j,j<k->aC (g i j) (g' i j)):aC (.sl n k g) (.sl n k g'):=λS w x r=>by
 rcases Rd.sY r with⟨rfl,rfl⟩|⟨a,l,rfl,rfl⟩|⟨b,u,l,xs,rfl,m,o,p,q,t⟩;exact .nil _ _;exact .emp _ _ _ _;exact .sl xs m o p q (λi c j f=>h i c j f S w _ (t i c j f))
theorem gO.refl:∀(l:List SV),gO l l
 |[]=> .nil
 |c::l=> .cons (aC.refl c) (gO.refl l)
variable {l':List SV} {S:Nat->Prop} {w:World} {xs:List Value}
theorem gO.rd {l:List SV} (h:gO l l') (r:eJ S w xs l):eJ S w xs l':=by
 induction h generalizing xs with
 |nil=>exact r
 |cons h _ c=>
  cases r with
  |cons a b=>exact .cons (h S w _ a) (c b)
theorem gO.of_eq {a b:List SV} (h:a=b):gO a b:=h▸gO.refl a
theorem dV.refl (v:DV):dV v v:=λ_ _ _ h=>h
theorem dV.of_eq {a b:DV} (h:a=b):dV a b:=h▸dV.refl a
variable {c c':SV}
theorem dV.one (h:aC c c'):dV (.one c) (.one c'):=λS w x r=>h S w x r
theorem dV.agg {l:List SV} (h:gO l l'):dV (.agg l) (.agg l'):=λS w x r=>by
 obtain⟨xs,a,b⟩:=r;exact⟨xs,a,h.rd b⟩
theorem uD.rd {l l':List DV} (h:uD l l') (r:dT S w xs l):dT S w xs l':=by
 induction h generalizing xs with
 |nil=>exact r
 |cons h _ c=>
  cases r with
  |cons a b=>exact .cons (h S w _ a) (c b)
variable {args:List DV}
theorem ah.mk' {f:FuncId} {K:TV->Prop} {r:TV} (h:kM P f args r) (k:K r):ah P f args K:=⟨r,h,k⟩
theorem kM.le {f:FuncId} {xL:List DV} {r:TV} (a:uD args xL) (h:kM P f xL r):kM P f args r:=
 ⟨h.1,λw S b hS c=>h.2 w S b hS (a.rd c)⟩
theorem kM.eq {f:FuncId} {r a:TV} (h:kM P f args r) (e:r=a):kM P f args a:=e▸h
variable {k:IntKind}
theorem ah.int {f:FuncId} {K:TV->Prop} {e:Int} (h:kM P f args (.d (.one (.v (.int k e))))) (a:∀n,n=e->K (.d (.one (.v (.int k n))))):ah P f args K:=⟨_,h,a e rfl⟩
theorem ah.bool {f:FuncId} {K:TV->Prop} {e:Bool} (h:kM P f args (aD e)) (a:∀b,b=e->K (aD b)):ah P f args K:=⟨_,h,a e rfl⟩
theorem tB.b {P:Program} {T:TypeId} {xs a:List SV} {K:Bool->Prop} {e:Bool} (h:xT P T xs a e) (k:∀b,b=e->K b):tB P T xs a K:=⟨e,h,k e rfl⟩
theorem Fin.rfl' {x:TV}:Fin x x:=⟨λ_ _ _ h=>h⟩
theorem Fin.eq {x r:TV} (h:x=r):Fin x r:=h▸Fin.rfl'
theorem Fin.d {x r:DV} (h:dV x r):Fin (.d x) (.d r):=⟨λS w v k=>h S w v k⟩
theorem Fin.bool {b a:Bool} (h:b=a):Fin (aD b) (aD a):=h▸Fin.rfl'
variable {n':Int}
theorem Fin.int {n:Int} (h:n=n'):Fin (.d (.one (.v (.int k n)))) (.d (.one (.v (.int k n')))):=h▸Fin.rfl'
theorem Fin.agg {l:List SV} (h:gO l l'):Fin (.d (.agg l)) (.d (.agg l')):=Fin.d (dV.agg h)
theorem Fin.one (h:aC c c'):Fin (.d (.one c)) (.d (.one c')):=Fin.d (dV.one h)
theorem Fin.eG {l l':List DV} (h:uD l l'):Fin (.eG l) (.eG l'):=⟨λ_ _ _ ⟨xs,a,b⟩=>⟨xs,a,h.rd b⟩⟩
def db:List (Nat×TV)->Nat->TV
 |[]=>λ_=> .any
 |p::r=>match p with
  |(k,x)=>bo (db r) k x
def aX:List (Id×Mem)->Id->Mem
 |[]=>λ_=> .none
 |p::r=>match p with
  |(k,x)=>bo (aX r) k x
inductive SI (m':Id->Mem):CR->CR->Prop where
 |s {c c':SV} (h:aC c c'):SI m' (.s c) (.s c')
 |ptr {o:Id} {p:Nat} (h:m' o≠ .none):SI m' (.ptr o p) (.ptr o p)
inductive r6 (m':Id->Mem):List CR->List CR->Prop where
 |nil:r6 m' [] []
 |cons {c c':CR} {l l':List CR} (h:SI m' c c') (r:r6 m' l l'):r6 m' (c::l) (c'::l')
inductive xU (m m':Id->Mem):CV->CV->Prop where
 |s {c c':SV} (h:aC c c'):xU m m' (.s c) (.s c')
 |ptr {o:Id} {p:Nat} (h:m' o≠ .none):xU m m' (.ptr o p) (.ptr o p)
 |aL {o:Id} {g g':Nat} (h:m' o≠ .none) (hg:g=(m o).gen) (VX:g'=(m' o).gen):xU m m' (.aL o g) (.aL o g')
 |cV {f:FuncId} {c c':List CR} (h:r6 m' c c'):xU m m' (.cV f c) (.cV f c')
inductive r5 (m m':Id->Mem):List CV->List CV->Prop where
 |nil:r5 m m' [] []
 |cons {c c':CV} {l l':List CV} (h:xU m m' c c') (r:r5 m m' l l'):r5 m m' (c::l) (c'::l')
inductive fb (m m':Id->Mem):Mem->Mem->Prop where
 |dead (x:Mem):fb m m' x .dead
 |box {l l':List SV} (h:gO l l'):fb m m' (.box l) (.box l')
 |ro {l l':List SV} (h:gO l l'):fb m m' (.ro l) (.ro l')
 |map (ks:List (List Int)):fb m m' (.map ks) (.map ks)
 |tp {l:List SV} {l':List CV} (h:r5 m m' (l.map .s) l'):fb m m' (.box l) (.obj l')
 |obj {l l':List CV} (h:r5 m m' l l'):fb m m' (.obj l) (.obj l')
 |aJ {g g' n k:Nat} {e:TypeId} {get get':Nat->Nat->SV} (h:∀i,i<n->∀j,j<k->aC (get i j) (get' i j)) (hg:g'=1->g=1:=by first|exact λh=>h|exact λh=>absurd h (by decide)):fb m m' (.aJ g n k e get) (.aJ g' n k e get')
 |F7 {g g' n k:Nat} {e:TypeId} {get:Nat->Nat->SV} {get':Nat->Nat->CV} (h:∀i,i<n->∀j,j<k->xU m m' (.s (get i j)) (get' i j)) (hg:g'=1->g=1:=by first|exact λh=>h|exact λh=>absurd h (by decide)):fb m m' (.aJ g n k e get) (.br g' n k e get')
 |br {g g' n k:Nat} {e:TypeId} {get get':Nat->Nat->CV} (h:∀i,i<n->∀j,j<k->xU m m' (get i j) (get' i j)) (hg:g'=1->g=1:=by first|exact λh=>h|exact λh=>absurd h (by decide)):fb m m' (.br g n k e get) (.br g' n k e get')
variable {m m':Id->Mem}
theorem fb.bj {g g' n n' k:Nat} {e:TypeId} {get a:Nat->Nat->SV} (b:n=n') (h:∀i,i<n->∀j,j<k->aC (get i j) (a i j)) (c:g'=1->g=1:=by first|exact λh=>h|exact λh=>absurd h (by decide)):fb m m' (.aJ g n k e get) (.aJ g' n' k e a):=by
 subst b;exact .aJ h c
inductive fm (m m':Id->Mem):List (Id×Mem)->Prop where
 |nil:fm m m' []
 |cons {o:Id} {x:Mem} {r:List (Id×Mem)} (h:fb m m' (m o) x) (hr:fm m m' r):fm m m' ((o,x)::r)
 |none {o:Id} {r:List (Id×Mem)} (hr:fm m m' r):fm m m' ((o,.none)::r)
inductive ao (m:Id->Mem) (m':Id->Mem):TV->TV->Prop where
 |any (x:TV):ao m m' x .any
 |undef:ao m m' .undef .undef
 |data {v v':DV} (h:dV v v'):ao m m' (.d v) (.d v')
 |box {o:Id} {p:Nat} {l l':List SV} (h:m o= .box l) (h':m' o= .box l'):ao m m' (.ptr o p) (.ptr o p)
 |ro {o:Id} {p:Nat} {l l':List SV} (h:m o= .ro l) (h':m' o= .ro l'):ao m m' (.ptr o p) (.ptr o p)
 |ptr {o:Id} {p:Nat} (h:m' o≠ .none):ao m m' (.ptr o p) (.ptr o p)
 |aL {o:Id} {g g' n k n' k':Nat} (h:(m o).bK=some (g,n,k)) (h':(m' o).bK=some (g',n',k')):ao m m' (.aL o g) (.aL o g')
 |sub {o:Id} {g g' lo c n k n' k':Nat} (h:(m o).bK=some (g,n,k)) (h':(m' o).bK=some (g',n',k')):ao m m' (.sub o g lo c) (.sub o g' lo c)
 |ep {o:Id} {g g' i off n k n' k':Nat} (h:(m o).bK=some (g,n,k)) (h':(m' o).bK=some (g',n',k')):ao m m' (.ep o g i off) (.ep o g' i off)
 |cV {f:FuncId} {c c':List CR} (h:r6 m' c c'):ao m m' (.cV f c) (.cV f c')
theorem ao.int {n:Int} (h:n=n'):ao m m' (.d (.one (.v (.int k n)))) (.d (.one (.v (.int k n')))):=h▸ .data (dV.refl _)
theorem ao.same {v:DV}:ao m m' (.d v) (.d v):= .data (dV.refl _)
inductive fk (t:Nat->TV) (m m':Id->Mem):List (Nat×TV)->Prop where
 |nil:fk t m m' []
 |cons {s:Nat} {x:TV} {r:List (Nat×TV)} (h:ao m m' (t s) x) (hr:fk t m m' r):fk t m m' ((s,x)::r)
variable {ms:List (Id×Mem)}
theorem fm.at (h:fm m m' ms) (o:Id):aX ms o= .none\/fb m m' (m o) (aX ms o):=by
 induction h with
 |nil=>exact .inl rfl
 |@cons k x r h _ a=>by_cases e:o=k;subst e;right;simp only[aX,ar];exact h;simp only[aX,av _ _ _ e];exact a
 |@none k r _ a=>by_cases e:o=k;subst e;left;simp only[aX,ar];simp only[aX,av _ _ _ e];exact a
variable {ks:List (Nat×TV)}
theorem fk.at {t:Nat->TV} (h:fk t m m' ks) (s:Nat):ao m m' (t s) (db ks s):=by
 induction h with
 |nil=>exact .any _
 |@cons k x r h _ a=>by_cases e:s=k;subst e;simp only[db,ar];exact h;simp only[db,av _ _ _ e];exact a
variable {x y:Mem}
theorem fb.live (h:fb m m' x y):y.live->x.live:=by cases h<;>first|exact id|exact λh=>h.elim
theorem fb.ne (h:fb m m' x y):y≠ .none:=by cases h<;>simp
theorem fb.shape (h:fb m m' x y):y= .dead\/(x.dw=true/\y.dw=true)\/(∃g b n k,x.bK=some (g,n,k)/\y.bK=some (b,n,k)/\(b=1->g=1))\/(∃ks,x= .map ks/\y= .map ks):=by
 cases h with
 |dead x=>exact .inl rfl
 |map ks=>exact .inr (.inr (.inr ⟨ks,rfl,rfl⟩))
 |aJ _ a=>exact .inr (.inr (.inl ⟨_,_,_,_,rfl,rfl,a⟩))
 |F7 _ a=>exact .inr (.inr (.inl ⟨_,_,_,_,rfl,rfl,a⟩))
 |br _ a=>exact .inr (.inr (.inl ⟨_,_,_,_,rfl,rfl,a⟩))
 |_=>exact .inr (.inl ⟨rfl,rfl⟩)
theorem r6.refs {c c':List CR} (h:r6 m' c c'):∀o,(∃x∈c',x.refs o)->m' o≠ .none:=by
 induction h with
 |nil=>rintro o ⟨x,b,_⟩;simp at b
 |cons a _ g=>
  rintro o ⟨x,b,f⟩;rcases XF.1 b with rfl|b
  ·cases a with
   |s h=>exact f.elim
   |ptr h=>cases f;exact h
  ·exact g o ⟨x,b,f⟩
theorem xU.refs {c c':CV} (h:xU m m' c c'):∀o,c'.refs o->m' o≠ .none:=by
 intro o a;cases h with
 |s h=>exact a.elim
 |ptr h=>cases a;exact h
 |aL h _ _=>cases a;exact h
 |cV h=>exact h.refs o a
theorem r5.refs {c c':List CV} (h:r5 m m' c c'):∀o,(∃x∈c',x.refs o)->m' o≠ .none:=by
 induction h with
 |nil=>rintro o ⟨x,b,_⟩;simp at b
 |cons a _ g=>rintro o ⟨x,b,f⟩;rcases XF.1 b with rfl|b;exact a.refs o f;exact g o ⟨x,b,f⟩
theorem fb.refs (h:fb m m' x y):∀o,y.refs o->m' o≠ .none:=by
 intro o a;cases h with
 |tp h=>exact h.refs o a
 |obj h=>exact h.refs o a
 |F7 h _=>obtain⟨i,j,b,c,a⟩:=a;exact(h i b j c).refs o a
 |br h _=>obtain⟨i,j,b,c,a⟩:=a;exact(h i b j c).refs o a
 |_=>exact a.elim
section
variable {S S':Nat->Prop} {m m':Id->Mem} {ρ:Id->Option (Nat×Nat)} {w:World}
theorem r6.rd (g:∀b,S b->S' b) (i:∀o p x,m' o≠ .none->bh m ρ x o p->bh m' ρ x o p) {c c':List CR} (h:r6 m' c c'):∀{xs:List Value},qP S m ρ w xs c->qP S' m' ρ w xs c':=by
 induction h with
 |nil=>intro xs f;cases f;exact .nil
 |cons a _ j=>
  intro xs f;cases f with
  |cons p q=>
   refine .cons ?_ (j q);cases a with
   |s h=>exact h _ _ _ (Rd.mono (λb k=>⟨g b k,rfl⟩) p)
   |ptr h=>exact i _ _ _ h p
theorem xU.rd (f:∀b,S b->S' b) (g:∀o p x,m' o≠ .none->bh m ρ x o p->bh m' ρ x o p) (i:∀o x,m' o≠ .none->bF m ρ x o (m o).gen->bF m' ρ x o (m' o).gen) {c c':CV} (h:xU m m' c c') {x:Value} (a:kR S m ρ w x c):kR S' m' ρ w x c':=by
 cases h with
 |s h=>exact h _ _ _ (Rd.mono (λb j=>⟨f b j,rfl⟩) a)
 |ptr h=>exact g _ _ _ h a
 |aL h k l=>subst k l;exact i _ _ h a
 |cV h=>obtain⟨q,r,t⟩:=a;exact⟨q,r,h.rd f g t⟩
theorem r5.rd (g:∀b,S b->S' b) (i:∀o p x,m' o≠ .none->bh m ρ x o p->bh m' ρ x o p) (j:∀o x,m' o≠ .none->bF m ρ x o (m o).gen->bF m' ρ x o (m' o).gen) {c c':List CV} (h:r5 m m' c c'):∀{xs:List Value},fU S m ρ w xs c->fU S' m' ρ w xs c':=by
 induction h with
 |nil=>intro xs f;cases f;exact .nil
 |cons a _ k=>
  intro xs f;cases f with
  |cons p q=>exact .cons (a.rd g i j p) (k q)
end
theorem qS {t:Nat->TV} (b0:fm m (aX ms) ms) (a6:fk t m (aX ms) ks):Wk t m (db ks) (aX ms):=by
 intro E ρ a w J;generalize b1:aX ms=m' at*;have T:∀o,m' o= .none\/fb m m' (m o) (m' o):=λo=>by have:=b0.at o;rwa [b1]at this
 have a3:∀o,m' o≠ .none->fb m m' (m o) (m' o):=λo O=>(T o).resolve_left O;have a1:∀o,(m' o).live->(m o).live:=λo l=>by rcases T o with h|h;rw[h]at l;exact l.elim;exact h.live l
 have C:∀b,L E m ρ w b->L E m' ρ w b:=λb a7=>⟨a7.1,λo c l r=>a7.2 o c (a1 o l) r⟩;have H:∀o p x,m' o≠ .none->bh m ρ x o p->bh m' ρ x o p:=by intro o p x O h;rcases(a3 o O).shape with e|⟨f,u⟩|⟨g,K,n,k,f,_,_⟩|⟨ks,f,u⟩;simp only[bh,e];exact h.bO;exact(bQ u).2 ((bQ f).1 h);exact absurd h (hV f);simp only[bh,f,u]at h|-;exact h
 have P:∀o x,m' o≠ .none->bF m ρ x o (m o).gen->bF m' ρ x o (m' o).gen:=by intro o x O h;rcases(a3 o O).shape with e|⟨f,u⟩|⟨g,K,n,k,f,u,_⟩|⟨ks,f,u⟩;simp only[bF,e];exact⟨h.1,trivial⟩;exact(fH u).2 h.1;rw[cO f,bB f]at h;rw[cO u,bB u];exact⟨h.1,XP _,λ_=>h.2.2 rfl⟩;simp only[bF,u];exact⟨h.1,trivial⟩
 have a8:∀o g n k K n' Q,(m o).bK=some (g,n,k)->(m' o).bK=some (K,n',Q)->n=n'/\k=Q:=by
  intro o g n k K n' Q h z;rcases(a3 o (cM z).2).shape with e|⟨f,u⟩|⟨q,b7,b8,b9,f,u,_⟩|⟨ks,f,u⟩
  rotate_left 3
  ·rw[u]at z;simp[Mem.bK]at z
  ·rw[e]at z;simp[Mem.bK]at z
  ·exfalso;revert f h;cases m o<;>simp[Mem.dw,Mem.bK]
  ·rw[h]at f;rw[z]at u;simp at f u;exact⟨f.2.1.trans u.2.1.symm,f.2.2.trans u.2.2.symm⟩
 refine⟨ρ,{below:=J.below,defers:=J.defers.mono (λb I=>⟨C b I,rfl⟩),size:=J.size,inj:=λo a2 b c c' l l'=>J.inj o a2 b c c' (a1 o l) (a1 a2 l'),lo:=λo b c l=>J.lo o b c (a1 o l),clean:=?clean,cleanM:=?cleanM,mem:=?mem,slots:=?slots,carry:=?carry}⟩
 case clean=>
  intro s o A;have h:=a6.at s;generalize db ks s=y at h A;generalize t s=x at h;cases h with
  |box h z=>cases A;rw[z];simp
  |ro h z=>cases A;rw[z];simp
  |ptr h=>cases A;exact h
  |aL h z=>cases A;exact(cM z).2
  |sub h z=>cases A;exact(cM z).2
  |ep h z=>cases A;exact(cM z).2
  |cV h=>exact h.refs o A
  |_=>exact A.elim
 case cleanM=>
  intro o a2 A;rcases T o with h|h;rw[h]at A;exact A.elim;exact h.refs a2 A
 case mem=>
  intro o;rcases T o with h|h;rw[h];trivial
  ·have F:=J.mem o;revert F h;generalize m o=x;generalize m' o=y;intro h F;cases h with
   |dead=>trivial
   |map ks=>exact F
   |box h=>obtain⟨b,c,xs,e,f,u,B⟩:=F;exact⟨b,c,xs,e,f,u,h.rd (B.mono (λb I=>⟨C b I,rfl⟩))⟩
   |ro h=>obtain⟨b,c,xs,e,f,b2,u,B⟩:=F;exact⟨b,c,xs,e,f,C b b2,u,h.rd (B.mono (λb I=>⟨C b I,rfl⟩))⟩
   |tp h=>obtain⟨b,c,xs,e,f,u,B⟩:=F;exact⟨b,c,xs,e,f,u,h.rd (S:=L E m ρ w) C H P (fU.Lw B)⟩
   |obj h=>obtain⟨b,c,xs,e,f,u,B⟩:=F;exact⟨b,c,xs,e,f,u,h.rd C H P B⟩
   |aJ h _=>rcases F with f|⟨b,U,V,f,u,B,X,Y,Z⟩;exact .inl f;refine .inr ⟨b,U,V,f,u,B,X,Y,λi M j N=>?_⟩;obtain⟨x,a0,A⟩:=Z i M j N;exact⟨x,a0,h i M j N _ _ _ (A.mono (λb I=>⟨C b I,rfl⟩))⟩
   |F7 h _=>rcases F with f|⟨b,U,V,f,u,B,X,Y,Z⟩;exact .inl f;refine .inr ⟨b,U,V,f,u,B,X,Y,λi M j N=>?_⟩;obtain⟨x,a0,A⟩:=Z i M j N;exact⟨x,a0,(h i M j N).rd (S:=L E m ρ w) C H P A⟩
   |br h _=>rcases F with f|⟨b,U,V,f,u,B,X,Y,Z⟩;exact .inl f;refine .inr ⟨b,U,V,f,u,B,X,Y,λi M j N=>?_⟩;obtain⟨x,a0,A⟩:=Z i M j N;exact⟨x,a0,(h i M j N).rd C H P A⟩
 case slots=>
  intro s;have G:=J.slots s;have h:=a6.at s;generalize db ks s=y at h;generalize t s=x at h G;cases h with
  |any=>trivial
  |undef=>exact G
  |data h=>exact h _ _ _ (nf.mono (λb I=>⟨C b I,rfl⟩) G)
  |box h z=>exact H _ _ _ (by rw[z];simp) G
  |ro h z=>exact H _ _ _ (by rw[z];simp) G
  |ptr h=>exact H _ _ _ h G
  |@aL o g K n k n' Q h z=>have:=P o _ (cM z).2 (by rw[cO h];exact G);rw[cO z]at this;exact this
  |@sub o g K lo c n k n' Q h z=>obtain⟨rfl,rfl⟩:=a8 o _ _ _ _ _ _ h z;obtain⟨b3,_,a4⟩:=(dq h).1 G;exact(dq z).2 ⟨b3,XP _,λ_=>a4 rfl⟩
  |@ep o g K i c0 n k n' Q h z=>obtain⟨rfl,rfl⟩:=a8 o _ _ _ _ _ _ h z;obtain⟨_,a4⟩:=(dv h).1 G;exact(dv z).2 ⟨XP _,λ_=>a4 rfl⟩
  |cV h=>obtain⟨b4,b5,b6⟩:=G;exact⟨b4,b5,h.rd C H b6⟩
 case carry=>
  intro o O;have a5:=J.carry o O;rcases T o with h|h;refine⟨λx p R=>?_,λx D R=>?_⟩;have:=(a5.ptr x p R).bO;simp only[bh,h];exact this;rw[h]at D;simp[Mem.gen]at D
  ·refine⟨λx p R=>H o p x h.ne (a5.ptr x p R),λx D R=>?_⟩;have a9:(m o).gen=1:=by
    rcases h.shape with e|⟨f,u⟩|⟨g,K,n,k,f,u,B⟩|⟨ks,f,u⟩
    rotate_left 3
    ·rw[u]at D;simp[Mem.gen]at D
    ·rw[e]at D;simp[Mem.gen]at D
    ·rw[om u]at D;omega
    ·rw[cO u]at D;rw[cO f];exact B D
   have:=P o x h.ne (by rw[a9];exact a5.aL x a9 R)
   rwa [D]at this
variable {J:(Nat->TV)->(Id->Mem)->Prop}
theorem aH.iC {t:Nat->TV} (ks:List (Nat×TV)) (ms:List (Id×Mem)) (a:fm m (aX ms) ms) (b:fk t m (aX ms) ks) (h:J (db ks) (aX ms)):aH t m J:=
 ⟨_,_,qS a b,h⟩
theorem aH.nil {t:Nat->TV} (s o k:Nat) (e:TypeId) (get:Nat->Nat->SV) (hs:t s= .d (.one (.v (.slice none 0 0)))) (j:m (.n o)= .none)
  (h:aH (bo t s (.aL (.n o) 0)) (bo m (.n o) (.aJ 0 0 k e get)) J) (l:o<2000:=by decide):aH t m J:=by
 obtain⟨p,m',q,r⟩:=h;refine⟨p,m',λE ρ a w u=>?_,r⟩;obtain⟨c,x⟩:=u.wJ (.n o) 0 k e get ⟨by omega,.inl ⟨j,E.Vv o l⟩⟩;refine q E (bo ρ (.n o) none) a w {c with clean:=?_,slots:=?_};intro i y f;by_cases b:i=s;subst b;rw[ar]at f;cases f;rw[ar];simp;rw[av _ _ _ b]at f;exact c.clean i y f;intro i;by_cases b:i=s;subst b;rw[ar];have g:=c.slots i;rw[hs]at g;have z:=(Rd.cm (show Rd _ _ _ _ from g)).1;rw[z];exact x;rw[av _ _ _ b];exact c.slots i
theorem aH.freeze {t:Nat->TV} (s:Nat) (o:Id) (g n k:Nat) (e:TypeId) (get:Nat->Nat->SV) (hs:t s= .aL o g) (x:m o= .aJ g n k e get)
  (h:aH (bo t s (.d (.one (.sl n k get)))) (bo m o .dead) J):aH t m J:=by
 obtain⟨R,m',S,T⟩:=h;refine⟨R,m',λE ρ a w p=>?_,T⟩;have U:Rd (Sx E m ρ w [o] false) w (a.tmps.getD s Go.undef) (.sl n k get):=by have F:=p.slots s;rw[hs]at F;have a4:=(mS.aJ (m:=m) (ks:=[o.key]) (o:=o) (by simp) x).rd (E:=E) (ρ:=ρ) (λ_ _=>rfl) p.toOwn _ F;have V:(m o).bK=some (g,n,k):=(by rw[x];rfl);have B:=((bB V).1 F).2.2 rfl;have O:=p.mem o;rw[x]at O;rcases O with⟨C,X⟩|⟨a5,Y,Z,C,a0,a6,a1,a2,P⟩;simp only[cE,C]at B;rw[B,X];exact Rd.nil k get;simp only[cE,C]at B;rw[B];refine Rd.sl (λi j=>(Z[i*k+j]?).getD Go.undef) (.inr ⟨o,.inl (by simp),cU x,Y,C⟩) a1 a2 (λi c j G=>?_) (λi c j G=>?_);obtain⟨y,H,_⟩:=P i c j G;simp[World.cell?,a0,H];obtain⟨y,H,q⟩:=P i c j G;simp only[H,Yt];exact q.mono (λb r=>⟨.inl r,rfl⟩)
 have I:=p.Bp o (by rw[x];simp);refine S E ρ a w {I with clean:=?_,slots:=?_};intro i z q;by_cases c:i=s;subst c;rw[ar]at q;exact q.elim;rw[av _ _ _ c]at q;exact I.clean i z q;intro i;by_cases c:i=s;subst c;rw[ar];refine Rd.mono (λb r=>⟨?_,rfl⟩) U;rcases r with r|⟨z,D,l,c',Q⟩;refine⟨r.1,λA K f M=>?_⟩;by_cases u:A=o;subst u;rw[ar]at f;exact f.elim;rw[av _ _ _ u]at f;exact r.2 A K f M;have D:=D.resolve_right (λe=>by cases e);simp only[YB]at D;subst D;obtain⟨N,a3⟩:=p.lo z b c' l Q;refine⟨.inr (N.imp id (λN=>⟨N,a3⟩)),λA K f M=>?_⟩;by_cases u:A=z;subst u;rw[ar]at f;exact f.elim;rw[av _ _ _ u]at f;exact u (p.inj A z b K c' f l M Q);rw[av _ _ _ c];exact I.slots i
def Kept {α:Type} (ks:α->List (Nat×TV)) (ms:α->List (Id×Mem)) (a:α->Prop) (x:α) (t:Nat->TV) (m:Id->Mem):Prop:=a x/\t=db (ks x)/\m=aX (ms x)
variable {α:Type}
theorem aH.at {t:Nat->TV} {ks:α->List (Nat×TV)} {ms:α->List (Id×Mem)} {a:α->Prop} (y:α) (hi:a y) (b:fm m (aX (ms y)) (ms y)) (c:fk t m (aX (ms y)) (ks y)):
  aH t m (λt m=>∃x,Kept ks ms a x t m):=⟨_,_,qS b c,y,hi,rfl,rfl⟩
theorem aH.back {t:Nat->TV} {ks:α->List (Nat×TV)} {ms:α->List (Id×Mem)} {a:α->Prop} {rank:α->Nat} {x:α} (y:α) (hi:a y) (b:rank y<rank x) (c:fm m (aX (ms y)) (ms y)) (f:fk t m (aX (ms y)) (ks y)):
  aH t m (λg h=>∃y,Kept ks ms a y g h/\rank y<rank x):=⟨_,_,qS c f,y,⟨hi,rfl,rfl⟩,b⟩
variable {Q:je}
theorem Loop.by {body:je->(Nat->TV)->(Id->Mem)->Prop} {t:Nat->TV} (ks:α->List (Nat×TV)) (ms:α->List (Id×Mem)) (a:α->Prop) (rank:α->Nat) (i:aH t m λt m=>∃x,Kept ks ms a x t m)
  (j:∀x,a x->body (λe f g=>match e with
   | .normal=>aH f g λb c=>∃y,Kept ks ms a y b c/\rank y<rank x
   |e=>Q e f g) (db (ks x)) (aX (ms x))):Loop body Q t m:=
 ⟨α,Kept ks ms a,λx t m=>aH t m λb c=>∃y,Kept ks ms a y b c/\rank y<rank x,rank,i,λ_ _ _ h=>h,λx p m' ⟨k,l,o⟩=>by subst l o;exact j x k⟩
def It (body:je->(Nat->TV)->(Id->Mem)->Prop) (Q:je):Nat->(Nat->TV)->(Id->Mem)->Prop
 |0,_,_=>False
 |n+1,t,m=>body (λe t m=>match e with
   | .normal=>It body Q n t m
   |e=>Q e t m) t m
theorem Wk.refl (t:Nat->TV) (m:Id->Mem):Wk t m t m:=λ_ ρ _ _ h=>⟨ρ,h⟩
theorem Loop.vC {body:je->(Nat->TV)->(Id->Mem)->Prop} {t:Nat->TV} (n:Nat) (h:It body Q n t m):Loop body Q t m:=by
 refine⟨Nat,It body Q,λx t m=>match x with|0=>False|k+1=>It body Q k t m,id,⟨t,m,Wk.refl t m,n,h⟩,λx t m a=>?_,λx c m' b=>?_⟩
 ·cases x with
  |zero=>exact a.elim
  |succ k=>exact⟨t,m,Wk.refl t m,k,a,Nat.lt_succ_self k⟩
 ·cases x with
  |zero=>exact b.elim
  |succ k=>exact b
abbrev iv (n:Int):Value:= .int .i64 n
open Classical in
def pS (P:Program) (k:Nat) (t:TypeId) (T:Ty) (C:List Value->Prop):Prop:=(∀xs,C xs->xs.length=T.size)/\∀d,k<=d->∀(w:World) (xs a:List Value),C xs->C a->
 (Op.equalIn d t (pack T.kind.isAgg xs) (pack T.kind.isAgg a)).run P w= .ok (decide (xs=a)) w
abbrev SJ (xs:List Value):Prop:=∃a,xs=[iv a]
variable {P:Program} {T:Ty}
theorem pS.int {t:TypeId} (c:P.underlying t=some (.int .i64)) (f:T.kind.isAgg=false) (g:T.size=1):pS P 1 t T SJ:=by
 refine⟨λi ⟨a,e⟩=>by rw[e,g];rfl,?_⟩;rintro d j w i k ⟨a,rfl⟩ ⟨b,rfl⟩;obtain⟨d,rfl⟩:∃e,d=e+1:=⟨d-1,by omega⟩;rw[f];have:=run_equalIn_int (P:=P) w d t .i64 .i64 a b c;simp only[pack];refine this.trans ?_;congr 1;by_cases h:a=b<;>simp[h]
variable {k:Nat} {C:List Value->Prop}
theorem pS.mono {a:Nat} {t:TypeId} (h:pS P k t T C) (b:k<=a):pS P a t T C:=⟨h.1,λd c=>h.2 d (Yf b c)⟩
inductive lR (P:Program) (k:Nat):Nat->List Field->Nat->(List Value->Prop)->Prop where
 |nil (off:Nat):lR P k off [] off (λxs=>xs=[])
 |cons {off VL:Nat} {f:Field} {fs:List Field} {TF:Ty} {C CS:List Value->Prop} (hn:f.name≠ "_") (ho:f.offset=off) (hT:cW P f.type TF) (h1:TF.kind.isAgg=false->TF.size=1) (he:pS P k f.type TF C)
   (r:lR P k (off+TF.size) fs VL CS):lR P k off (f::fs) VL (λxs=>∃a b,xs=a++b/\C a/\CS b)
variable {CS:List Value->Prop}
open Classical in
theorem lR.run {off o:Nat} {r:List Field} (h:lR P k off r o CS):(∀xs,CS xs->off+xs.length=o)/\∀d,k<=d->∀(w:World) (p q xs c:List Value),p.length=off->q.length=off->CS xs->CS c->
  (Op.eqFields d (p++xs).toArray (q++c).toArray r).run P w= .ok (decide (xs=c)) w:=by
 induction h with
 |nil off=>refine⟨λxs h=>by subst h;rfl,λd _ w p q xs c _ _ H I=>?_⟩;subst H I;simp[Op.eqFields]
 |@cons off o f r t C CS J K M N l _ u=>
  obtain⟨O,u⟩:=u;refine⟨?_,?_⟩;rintro xs ⟨a,b,rfl,m,x⟩;have y:=l.1 a m;have R:=O b x;simp only[XR];omega
  ·rintro d B w p q xs c g D ⟨a,b,rfl,m,x⟩ ⟨i,z,rfl,E,Q⟩;have j:=l.1 a m;have F:=l.1 i E;have G:=λ(p a b:List Value) (g:p.length=off) (j:a.length=t.size)=>wb M w (p++(a++b)) f.offset (by simp;omega) N;have y:∀p a b:List Value,p.length=off->a.length=t.size->((p++(a++b)).drop f.offset).take t.size=a:=λp a b g j=>by rw[K,<-g,List.drop_left,<-j,aaE]
   simp only[Op.eqFields,Sem.run_ite,Sem.run_bind,XG J,G p a b g j,G q i z D F,Result.andThen_ok,y p a b g j,y q i z D F];rw[l.2 d B w a i m E];simp only[Result.andThen_ok];by_cases A:a=i;subst A;simp only[decide_true,Bool.not_true,Y4,Z3];rw[<-Yk,<-Yk,u d B w (p++a) (q++a) b z (by simp;omega) (by simp;omega) x Q];congr 2;simp;simp only[A,decide_false,Bool.not_false,WH,Sem.run_pure];congr 1;symm;rw[Zu];intro h;exact A (List.append_inj_left h (by omega))
theorem pS.str {t:TypeId} (f:T.kind.isAgg=true) (g:P.underlying t=some (.struct (P.fieldsOf t))) (hs:P.stoodInHeld t=false) (b:lR P k 0 (P.fieldsOf t).toList T.size CS):pS P (k+1) t T CS:=by
 refine⟨λa h=>by have:=(b.run).1 a h;omega,λd l w a c i j=>?_⟩;obtain⟨d,rfl⟩:∃e,d=e+1:=⟨d-1,by omega⟩;rw[f];show(Op.equalIn (d+1) t (.agg a.toArray) (.agg c.toArray)).run P w=_;rw[run_equalIn_struct w d t _ _ g hs];exact(b.run).2 d (by omega) w [] [] a c rfl rfl i j
theorem eJ.QZ {S:Nat->Prop} {w:World}:∀{us:List Value} {xs:List Value},eJ S w us (xs.map SV.v)->us=xs
 |us,[],h=>by cases h;rfl
 |us,x::xs,h=>by
  cases h with
  |cons a b=>rw[(Rd.cm a).1,eJ.QZ b]
theorem pS.fact {t:TypeId} (h:pS P k t T C) (c:k<=10000) (f:T.kind.isAgg=true) (g:P.eqGuardType P.depth t=false) (xs a:List Value) (i:C xs) (j:C a) (b:Bool) (l:b=true↔xs=a):
  xT P t (xs.map SV.v) (a.map SV.v) b:=by
 refine⟨g,λS w p q m o=>?_⟩;rw[eJ.QZ m,eJ.QZ o];have:=h.2 10000 c w xs a i j;rw[f]at this;refine Eq.trans this ?_;congr 1
 classical
 rw[Zd,XU,l]
abbrev Ve (k:IntKind) (n:Int):Prop:=(Lit.int k n).wf=true
abbrev SD (n:Int):Prop:= -9223372036854775808<=n/\n<9223372036854775808
theorem Ve.i64 {n:Int} (h:Ve .i64 n):SD n:=by
 simp[Ve,Lit.wf,IntKind.min,IntKind.max,IntKind.bits,IntKind.signed]at h;omega
abbrev cp (n:Int):Int:=IntKind.i64.wrap n
theorem N4 (n:Int):cp n=if n%18446744073709551616>=9223372036854775808 then n%18446744073709551616-18446744073709551616 else n%18446744073709551616:=by
 simp[cp,IntKind.wrap,IntKind.bits,IntKind.signed]
theorem sb {n:Int} (h:SD n):cp n=n:=by
 rw[N4];obtain⟨a,b⟩:=h;split<;>omega
variable {cs:List SV}
theorem jU.Pm {t:TypeId} {k:IntKind} (a:P.underlying t=some (.int k)) (h:jU P t cs):∃n,cs=[.v (.int k n)]/\Ve k n:=by
 cases h with
 |bool b h=>rw[a]at h;cases h
 |int h hw=>rw[a]at h;cases h;exact⟨_,rfl,hw⟩
 |str h _=>rw[a]at h;cases h
 |ju h _ _ _=>rw[a]at h;cases h
 |struct h _ _=>rw[a]at h;cases h
 |arr h _ _=>rw[a]at h;cases h
theorem jU.HD {t:TypeId} (a:P.underlying t=some (.int .i64)) (h:jU P t cs):∃n,cs=[i64 n]/\SD n:=by
 obtain⟨n,e,h⟩:=jU.Pm a h;exact⟨n,e,h.i64⟩
theorem jU.Bl {t e:TypeId} (a:P.underlying t=some (.slice e)) (h:jU P t cs):∃n c,cs=[.sl n (P.cellsOf e) c]/\n<=maxLen/\∀i,i<n->jU P e (cells (P.cellsOf e) (c i)):=by
 cases h with
 |bool b h=>rw[a]at h;cases h
 |int h hw=>rw[a]at h;cases h
 |str h _=>rw[a]at h;cases h
 |ju h f g j=>rw[a]at h;cases h;subst f;exact⟨_,_,rfl,g,j⟩
 |struct h _ _=>rw[a]at h;cases h
 |arr h _ _=>rw[a]at h;cases h
theorem jU.Bk {t:TypeId} {c:Array Field} (a:P.underlying t=some (.struct c)) (h:jU P t cs):cs.length=P.cellsOf t/\∀f∈c.toList,jU P f.type ((cs.drop f.offset).take (P.cellsOf f.type)):=by
 cases h with
 |bool b h=>rw[a]at h;cases h
 |int h hw=>rw[a]at h;cases h
 |str h _=>rw[a]at h;cases h
 |ju h _ _ _=>rw[a]at h;cases h
 |struct h g i=>rw[a]at h;cases h;exact⟨g,i⟩
 |arr h _ _=>rw[a]at h;cases h
theorem jU.field {t:TypeId} (h:jU P t cs) {F:Array Field} (c:P.underlying t=some (.struct F)) (i off size:Nat) (b:TypeId) (hi:(F[i]?).map (λf=>(f.offset,f.type,P.cellsOf f.type))=some (off,b,size)):
  jU P b ((cs.drop off).take size):=by
 cases a:F[i]? with
 |none=>rw[a]at hi;cases hi
 |some f=>rw[a]at hi;simp only[WI,Y9,Zq]at hi;obtain⟨rfl,rfl,rfl⟩:=hi;exact(jU.Bk c h).2 f (aab.2 (Array.mem_of_getElem? a))
theorem Eh.agg {t:TypeId} {v:DV} (a:zM P t=true) (h:Eh P t v):∃cs,v= .agg cs/\jU P t cs:=by
 cases v with
 |one c=>have:=h.1;rw[a]at this;cases this
 |agg cs=>exact⟨cs,rfl,h.2⟩
theorem xR.Df {t:TypeId} {a:List TypeId} {b:List DV} (h:xR P (t::a) b):∃v r,b=v::r/\Eh P t v/\xR P a r:=by
 cases h with
 |cons h r=>exact⟨_,_,rfl,h,r⟩
def wF (n:Nat) (f:Bool):Id->Bool
 | .n k=>(Nat.ble 2000 k&&Nat.blt k (2000+n))||(f&&Nat.beq k 3000)
 | .s _ _=>false
def CR.okB (a:Id->Bool):CR->Bool
 | .s _=>true
 | .ptr o _=>a o
def M7 (a:Id->Bool):List CR->Bool
 |[]=>true
 |c::r=>c.okB a&&M7 a r
def CV.okB (a:Id->Bool) (gen:Id->Nat):CV->Bool
 | .s _=>true
 | .ptr o _=>a o
 | .aL o g=>a o&&Nat.beq g (gen o)
 | .cV _ b=>M7 a b
def PK (a:Id->Bool) (gen:Id->Nat):List CV->Bool
 |[]=>true
 |c::r=>c.okB a gen&&PK a gen r
def Mem.okB (a:Id->Bool) (gen:Id->Nat):Mem->Bool
 | .obj b=>PK a gen b
 | .br .. =>false
 |_=>true
def C3 (a:Id->Bool) (gen:Id->Nat):List Mem->Bool
 |[]=>true
 |c::r=>c.okB a gen&&C3 a gen r
def TV.okB (a:Id->Bool) (gen:Id->Nat):TV->Bool
 | .ptr o _=>a o
 | .aL o g=>a o&&Nat.beq g (gen o)
 | .cV _ b=>M7 a b
 | .d _=>true
 | .eG _=>true
 |_=>false
def N6 (a:Id->Bool) (gen:Id->Nat):List TV->Bool
 |[]=>true
 |c::r=>c.okB a gen&&N6 a gen r
def Mem.isNone:Mem->Bool
 | .none=>true
 |_=>false
def SN:List Mem->Bool
 |[]=>true
 |x::r=>Nat.blt 0 x.kind&&SN r
def Tq (args:List TV) (ms:List Mem) (r:TV) (gF:List Mem) (fr:Mem):Bool:=
 Nat.ble ms.length 1000&&Dd ms gF&&SN ms&&N6 (wF ms.length false) (λo=>(jF 2000 ms o).gen) args&&C3 (wF ms.length false) (λo=>(jF 2000 ms o).gen) ms&&
  r.okB (wF ms.length (!fr.isNone)) (λo=>(fF gF fr o).gen)&&C3 (wF ms.length (!fr.isNone)) (λo=>(fF gF fr o).gen) (fr::gF)
theorem BD {f:Id->Bool}:∀{l:List CR},M7 f l=true->∀o,(∃c∈l,c.refs o)->f o=true
 |[],_,o,⟨c,a,_⟩=>by simp at a
 |g::r,h,o,⟨c,a,b⟩=>by
  simp only[M7,XH]at h;rcases XF.1 a with rfl|a
  ·cases c with
   |s c=>exact b.elim
   |ptr i p=>cases b;exact h.1
  ·exact BD h.2 o ⟨c,a,b⟩
theorem CV.kE {b:Id->Bool} {gen:Id->Nat} {c:CV} (h:c.okB b gen=true):(∀o,c.refs o->b o=true)/\∀m:Id->Mem,(∀o,(m o).gen=gen o)->c.cur m:=by
 cases c with
 |s c=>exact⟨λo a=>a.elim,λ_ _=>trivial⟩
 |ptr o p=>exact⟨λo a=>by cases a;exact h,λ_ _=>trivial⟩
 |aL o g=>simp only[CV.okB,XH]at h;exact⟨λo a=>by cases a;exact h.1,λm i=>by show g=_;rw[i];exact XE h.2⟩
 |cV f j=>exact⟨λo a=>BD h o a,λ_ _=>trivial⟩
theorem BB {b:Id->Bool} {gen:Id->Nat}:∀{l:List CV},PK b gen l=true->∀c∈l,c.okB b gen=true
 |[],_,c,a=>by simp at a
 |f::r,h,c,a=>by simp only[PK,XH]at h;rcases XF.1 a with rfl|a;exact h.1;exact BB h.2 c a
theorem Mem.kE {f:Id->Bool} {gen:Id->Nat} {x:Mem} (h:x.okB f gen=true):(∀o,x.refs o->f o=true)/\∀m:Id->Mem,(∀o,(m o).gen=gen o)->x.cur m:=by
 cases x with
 |obj i=>exact⟨λo ⟨c,a,b⟩=>(CV.kE (BB h c a)).1 o b,λm g c a=>(CV.kE (BB h c a)).2 m g⟩
 |br=>simp[Mem.okB]at h
 |_=>exact⟨λo b=>b.elim,λ_ _=>trivial⟩
theorem rq {b:Id->Bool} {gen:Id->Nat}:∀{l:List Mem},C3 b gen l=true->∀c∈l,c.okB b gen=true
 |[],_,c,a=>by simp at a
 |f::r,h,c,a=>by simp only[C3,XH]at h;rcases XF.1 a with rfl|a;exact h.1;exact rq h.2 c a
theorem TV.kE {b:Id->Bool} {gen:Id->Nat} {c:TV} (h:c.okB b gen=true):(∀o,c.refs o->b o=true)/\∀m:Id->Mem,(∀o,(m o).gen=gen o)->c.cur m:=by
 cases c with
 |ptr o p=>exact⟨λo a=>by cases a;exact h,λ_ _=>trivial⟩
 |aL o g=>simp only[TV.okB,XH]at h;exact⟨λo a=>by cases a;exact h.1,λm i=>by show g=_;rw[i];exact XE h.2⟩
 |cV f j=>exact⟨λo a=>BD h o a,λ_ _=>trivial⟩
 |d v=>exact⟨λo a=>a.elim,λ_ _=>trivial⟩
 |eG v=>exact⟨λo a=>a.elim,λ_ _=>trivial⟩
 |_=>simp[TV.okB]at h
theorem Gp {b:Id->Bool} {gen:Id->Nat}:∀{l:List TV},N6 b gen l=true->∀c∈l,c.okB b gen=true
 |[],_,c,a=>by simp at a
 |f::r,h,c,a=>by simp only[N6,XH]at h;rcases XF.1 a with rfl|a;exact h.1;exact Gp h.2 c a
theorem Lx:∀{l:List Mem},SN l=true->∀x∈l,x≠ .none
 |[],_,c,a=>by simp at a
 |b::r,h,c,a=>by simp only[SN,XH]at h;rcases XF.1 a with rfl|a;intro e;rw[e]at h;simp[Mem.kind,Nat.blt]at h;exact Lx h.2 c a
variable {args:List TV} {ms gF:List Mem} {fr:Mem}
theorem gQ {r:TV} (h:Tq args ms r gF fr=true):NK args ms r gF fr:=by
 simp only[Tq,XH]at h;obtain⟨⟨⟨⟨⟨⟨l,m⟩,C⟩,D⟩,E⟩,p⟩,q⟩:=h;have H:=XJ l;obtain⟨I,F⟩:=pk _ _ m;have t:∀o,wF ms.length false o=true->jF 2000 ms o≠ .none:=by
  intro o a;cases o with
  |s k i=>simp[wF]at a
  |n k=>simp only[wF,Zp,Bool.or_false,XH]at a;have G:=XJ a.1;have u:=bU a.2;have b:ms[k-2000]? =some (ms[k-2000]'(by omega)):=XV (by omega);have:=km ms 2000 (k-2000) _ b;rw[show 2000+(k-2000)=k by omega]at this;rw[this];exact Lx C _ (Ze b)
 have w:∀o,wF ms.length (!fr.isNone) o=true->fF gF fr o≠ .none:=by
  intro o a;cases o with
  |s k i=>simp[wF]at a
  |n k=>simp only[wF,Zo,XH]at a;by_cases y:k=3000;subst y;rw[pe];rcases a with a|a;have u:=bU a.2;omega;intro e;rw[e]at a;simp[Mem.isNone]at a;rcases a with a|a;have G:=XJ a.1;have u:=bU a.2;have b:ms[k-2000]? =some (ms[k-2000]'(by omega)):=XV (by omega);have z:gF[k-2000]? =some (gF[k-2000]'(by omega)):=XV (by omega);have:=kl (fr:=fr) (by omega) z;rw[show 2000+(k-2000)=k by omega]at this;rw[this];rcases F _ _ _ b z with h|⟨h,A⟩;rw[h];simp;intro e;rw[e]at h;rw[<-h]at A;simp[Mem.kind]at A;exact absurd (XE a.2) y
 have B:∀o,(fF gF fr o).okB (wF ms.length (!fr.isNone)) (λo=>(fF gF fr o).gen)=true:=by intro o;by_cases f:fF gF fr o= .none;rw[f];rfl;rcases w1 f with⟨rfl,_⟩|⟨j,x,b,rfl⟩;rw[pe];exact rq q fr (by simp);have J:=(Ye.1 b).1;rw[kl (by omega) b];exact rq q x (by simp[Ze b])
 refine⟨l,m,(TV.kE p).2 _ (λ_=>rfl),λo=>(Mem.kE (B o)).2 _ (λ_=>rfl),?_,λx b o c=>t o ((TV.kE (Gp D x b)).1 o c),λo c=>w o ((TV.kE p).1 o c),λo g c=>w g ((Mem.kE (B o)).1 g c)⟩;intro o g c;by_cases f:jF 2000 ms o= .none;rw[f]at c;exact c.elim;obtain⟨j,x,b,rfl⟩:=gj ms 2000 o f;rw[km ms 2000 j x b]at c;exact t g ((Mem.kE (rq E x (Ze b))).1 g c)
variable {m:Id->Mem}
theorem eu.mk' {P:Program} {f:FuncId} {xs:List TV} {d:Id} {K:fh} {r:TV} (a:List Id) (h:oC P f args ms r gF fr) (b:Fits m a d xs args ms fr)
  (k:K (La (pJ a d) (wo m a d gF) r) (yd (pJ a d) (wo m a d gF) 2000 a gF++I0 (pJ a d) (wo m a d gF) d fr) (d.key::a.map Id.key)):eu P f xs d m K:=⟨a,args,ms,r,gF,fr,h,b,k⟩
variable {J:(Nat->TV)->(Id->Mem)->Prop}
theorem aH.id {t:Nat->TV} (h:J t m):aH t m J:=⟨t,m,Wk.refl t m,h⟩
theorem Cut.id {t:Nat->TV} (h:J t m):Cut t m J:=⟨aH.id h⟩
theorem jf.bj {c:Id->Mem} {d:Id->Id} {g g' n a k:Nat} {e:TypeId} {get b:Nat->Nat->SV} (f:n=a) (l:g'=1->g=1) (h:∀i,i<n->∀j,j<k->aC (get i j) (b i j)):jf m c d (.aJ g n k e get) (.aJ g' a k e b):=by
 subst f;exact .aJ l h
end Go.Vm
