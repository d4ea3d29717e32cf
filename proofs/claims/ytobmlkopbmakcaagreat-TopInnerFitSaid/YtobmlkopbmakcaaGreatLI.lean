import Derived.Test.YtobmlkopbmakcaaGreatLH
set_option linter.unusedVariables false
set_option linter.unusedSimpArgs false
set_option maxRecDepth 20000
namespace Go.Vm
open Go Go.RowKit Go.Proofs
namespace Sg
variable {p q:V2}
section
variable {E D:Ed}
theorem J7 (p q v:V2):ai p q v=aa (af q p) (af v q):=by simp only[ai,aa,af];grind
theorem OJ (E:Ed) (b:p≠q):∃a:V2,a.y≠0/\0<aa (af q p) a/\∀e∈E,e.1≠q->(0<ai p q e.1->aa a (af e.1 q)<0)/\aa a (af e.1 q)≠0:=by
 have r:=cg (df b.symm);have g:Ev λK=>(mix K (af p q) (dy (af q p))).y≠0:=by by_cases c:p.y=q.y;refine .of λK=>?_;have:p.x≠q.x:=λk=>b (V2.ext k c);simp only[mix,af,dy];rw[c,Int.sub_self,Yh];omega;refine(kF (p.y-q.y) (q.x-p.x)).imp λK k=>?_;simp only[mix,af,dy];omega
 have h:∀e∈E,Ev λK=>e.1≠q->(0<ai p q e.1->aa (mix K (af p q) (dy (af q p))) (af e.1 q)<0)/\aa (mix K (af p q) (dy (af q p))) (af e.1 q)≠0:=λe t=>by have z:aa (af p q) (af e.1 q)= -ai p q e.1:=(by simp only[ai,aa,af];grind);by_cases c:ai p q e.1=0;refine .of λK i=>⟨λk=>by omega,?_⟩;rw[ec,z,c,Int.neg_zero,Yh,Zf];intro k;have u:aa (dy (af q p)) (af e.1 q)= -ay (af q p) (af e.1 q):=(by simp only[aa,dy,ay];grind);have f:ay (af q p) (af e.1 q)=0:=(by omega);rw[J7]at c;have j:ay (af q p) (af q p)*(af e.1 q).x=0:=(by simp only[aa,ay]at c f|-;grind);have l:ay (af q p) (af q p)*(af e.1 q).y=0:=(by simp only[aa,ay]at c f|-;grind);refine df i (V2.ext ?_ ?_);exact(mz j).resolve_left (by omega);exact(mz l).resolve_left (by omega);refine(kF (-ai p q e.1) (aa (dy (af q p)) (af e.1 q))).imp λK k _=>?_;rw[ec,z];exact⟨λ_=>by omega,by omega⟩
 obtain⟨K,_,m,o⟩:=(g.and (Ev.all E h)).ex 0;refine⟨_,m,?_,o⟩;have:aa (af q p) (mix K (af p q) (dy (af q p)))=ay (af q p) (af q p):=by simp only[mix,aa,af,dy,ay];grind
 omega
def Wl (q a:V2) (f:V2×V2):Prop:=aa a (af f.1 q)<0/\0<aa a (af f.2 q)/\0<ai f.1 f.2 q
theorem Lg (h:Dis E D) {g:V2} (a6:Vx E q) (O:g.y≠0) (z:0<aa (af q p) g) (A:∀e∈E,e.1≠q->(0<ai p q e.1->aa g (af e.1 q)<0)/\aa g (af e.1 q)≠0)
  (B:∀y,oB E D q y->¬0<ai p q y) (hw:Ev λn=>W (bD n E) (nr n q g)=1):∃f,(f∈E\/(f.2,f.1)∈E)/\Wl q g f:=by
 have P:Ev λL=>W E (nr 1 q ⟨(L:Int)*g.x,L*g.y⟩)=0:=by rcases Yi O with c|c;refine(Ev.all E (p:=λe L=>(L:Int)*g.y+(q.y-e.1.y)<0) (λe _=>kG (q.y-e.1.y) c)).imp λL k=>uf h.oO.cV (.inr (λe i=>?_));have:=k e i;simp only[nr];omega;refine(Ev.all E (p:=λe L=>0<(L:Int)*g.y+(q.y-e.1.y)) (λe _=>eo (q.y-e.1.y) c)).imp λL k=>uf h.oO.cV (.inl (λe i=>?_));have:=k e i;simp only[nr];omega
 obtain⟨L,a7,C⟩:=P.ex 1;obtain⟨n,a8,Q⟩:=hw.ex 1;have j:0<(n:Int):=by omega
 obtain⟨F,t⟩:∃F,F=nr 1 q ⟨(L:Int)*g.x,L*g.y⟩:=⟨_,rfl⟩;rw[<-t]at C;refine Xz λG=>?_;have R:=ih (h.oO.cV.sc n) (p:=nr n q g) (q:=ag n F) (λa9 S=>by
  obtain⟨e,i,rfl⟩:=aK.1 S;show NM (ag n e.1) (ag n e.2) (nr n q g) (ag n F);have T:∃x∈E,x.1=e.2:=h.oO.head i;have H:∀a b:V2,ai (ag n a) (ag n b) (ag n F)=n*n*(ai a b q+L*aa (af b a) g):=λa b=>by rw[bZ,t];congr 1;simp only[ai,aa,af,nr];grind
  have U:∀v:V2,ai (ag n q) (ag n (ak q g)) (ag n v)=n*n*aa g (af v q):=λv=>by rw[bZ];congr 1;simp only[ai,aa,af,ak];grind
  have I:ai (ag n q) (ag n (ak q g)) (nr n q g)=0:=(by simp only[ai,aa,af,ak,ag,nr];grind);have J:ai (ag n q) (ag n (ak q g)) (ag n F)=0:=(by rw[t];simp only[ai,aa,af,ak,ag,nr];grind);have l:=XC j j;have V:ai (ag n p) (ag n q) (nr n q g)=n*aa (af q p) g:=(by simp only[ai,aa,af,ag,nr];grind);have X:0<ai (ag n p) (ag n q) (nr n q g):=(by rw[V];exact XC j z);have Y:0<ai (ag n p) (ag n q) (ag n F):=(by rw[H,dX,Zf];exact XC l (XC (by omega) z));by_cases r:ai p q e.1<=0/\ai p q e.2<=0;refine jz (x:=ag n p) (y:=ag n q) (.inl ⟨?_,?_,X,Y⟩);rw[bZ];exact XI (XO l) r.1;rw[bZ];exact XI (XO l) r.2
  ·have Z:e.1≠q:=λk=>r ⟨by rw[k,dX];exact Yc _,Zx.1 (B e.2 (.inl (by simp[<-k,i])))⟩;have a0:e.2≠q:=λk=>r ⟨Zx.1 (B e.1 (.inr (by simp[<-k,i]))),by rw[k,dX];exact Yc _⟩;have a1:=(A e i Z).2;have a2:aa g (af e.2 q)≠0:=(by obtain⟨x,a3,K⟩:=T;have:=(A x a3 (by rw[K];exact a0)).2;rw[K]at this;exact this);have a4:=bg (n:=(n:Int)*n) (x:=aa g (af e.1 q)) l;have a5:=bg (n:=(n:Int)*n) (x:=aa g (af e.2 q)) l;rw[<-U]at a4 a5;have M:∀{u w:V2},aa g (af u q)<0->0<aa g (af w q)->¬0<ai u w q->NM (ag n u) (ag n w) (nr n q g) (ag n F):=λ{u w} b0 b1 b2=>by refine q3 (.inr ⟨?_,?_⟩);rw[nu];have N:aa (af w u) g= -(aa g (af w q)-aa g (af u q)):=(by simp only[aa,af];grind);have:=XI (XO j) (show ai u w q<=0 by omega);exact Ya j (by omega);rw[H];have N:aa (af w u) g= -(aa g (af w q)-aa g (af u q)):=(by simp only[aa,af];grind);have:=XC (show 0<(L:Int) by omega) (show 0<aa g (af w q)-aa g (af u q) by omega);exact Ya l (by rw[N,YH];omega)
   rcases Yi a1 with m|m<;>rcases Yi a2 with o|o
   ·refine(jz (x:=ag n (ak q g)) (y:=ag n q) (.inr ⟨?_,?_,?_,?_⟩));rw[aU];omega;rw[aU];omega;rw[aU,I];exact Yc _;rw[aU,J];exact Yc _
   ·exact M m o (λk=>G ⟨e,.inl i,m,o,k⟩)
   ·exact(M o m (λk=>G ⟨(e.2,e.1),.inr i,o,m,k⟩)).rev
   ·refine(jz (x:=ag n q) (y:=ag n (ak q g)) (.inr ⟨by omega,by omega,by rw[I];exact Yc _,by rw[J];exact Yc _⟩)))
 rw[Q,kK j,C]at R;omega
theorem pB (d v:V2):aa ⟨-d.x,-d.y⟩ v= -aa d v:=by simp only[aa];grind
theorem OM (a b c d:V2):aa a b*aa c d-aa a c*aa b d+aa a d*aa b c=0:=by simp only[aa];grind
theorem pR.has (h:pR E D) (a8:uE E D p q):∃y,oB E D q y/\0<ai p q y:=by
 have o:=h.toDis;refine Xz λg5=>?_;have a9:∀y,oB E D q y->¬0<ai p q y:=λy H k=>g5 ⟨y,H,k⟩;have g6:=a8.ne o;have Y:=(a8.qR.vx o).1;have c3:∀s,0<aa (af q p) s->Ev λn=>W (bD n E) (nr n q s)=1:=λs g7=>Fv o a8 g7 (λy H k=>a9 y H (by have:=k.2;rw[vJ]at this;exact this));obtain⟨i,H,Z,R⟩:=OJ E g6;obtain⟨f,r,g8⟩:=Lg o Y H Z R a9 (c3 i Z);have c4:∀v,Vx E v->v≠q->(0<ai p q v->aa i (af v q)<0)/\aa i (af v q)≠0:=λv ⟨e,I,g9⟩ a0=>by rw[<-g9]at a0|-;exact R e I a0
 obtain⟨⟨u,w⟩,h0,h1,c5⟩:=sT (λf:V2×V2=>ai f.1 f.2 q) (λf=>aa i (af f.2 q)-aa i (af f.1 q)) (Wl q i) (λf r=>by have:=r.1;have:=r.2.1;show 0<aa i (af f.2 q)-aa i (af f.1 q);omega) ((E++D)++dx (E++D)) ⟨f,by
  rcases r with k|k;simp[k]
  ·exact XN.2 (.inr (cw.2 (by simp[k]))),g8⟩
 obtain⟨S,hw,K⟩:=h1;simp only at S hw K c5;have b0:(u,w)∈E++D\/(w,u)∈E++D:=by rcases XN.1 h0 with k|k;exact .inl k;exact .inr (cw.1 k)
 have h2:Vx E u:=by rcases b0 with k|k;exact(o.ends k).1;exact(o.ends k).2.1
 have h3:Vx E w:=by rcases b0 with k|k;exact(o.ends k).2.1;exact(o.ends k).1
 have c6:aa i (af q q)=0:=by simp only[aa,af];grind
 have h4:u≠q:=λk=>by rw[k,c6]at S;omega
 have h5:w≠q:=λk=>by rw[k,c6]at hw;omega
 have T:0<aa (af u q) i:=by have:=aQ i (af u q);omega
 have h6:0<ai p q u:=by
  have m4:¬0<ai p q w:=λk=>by have:=(c4 w h3 h5).1 k;omega
  refine Xz λk=>?_;have id:aa (af u q) (af w q)*aa (af q p) i=aa i (af w q)*ai p q u-aa i (af u q)*ai p q w:=(by simp only[ai,aa,af];grind);have a1:=XC (show 0<aa (af u q) (af w q) by rw[<-GS];exact K) Z;have a2:=XI (XO hw) (show ai p q u<=0 by omega);have m5:=X7 (XO S) (show ai p q w<=0 by omega);omega
 obtain⟨B,M⟩:∃B:V2->Prop,∀x,B x↔x≠q/\aa i (af x q)<0/\0<=aa (af u q) (af x q)/\0<=ai u w x:=⟨_,λ_=>ZC⟩;have h7:B u:=(M u).2 ⟨h4,S,by simp only[aa,af];grind,by rw[dO];exact Yc _⟩;obtain⟨h8,h9,i0⟩:=h2;obtain⟨e1,i1,c7,i2⟩:=sT (λe:V2×V2=> -aa (af u q) (af e.1 q)) (λe=> -aa i (af e.1 q)) (λe=>B e.1) (λe I=>by have:=((M _).1 I).2.1;show 0< -aa i (af e.1 q);omega) E ⟨h8,h9,by rw[i0];exact h7⟩;have i3:∀y,Vx E y->B y->aa (af e1.1 q) (af y q)<=0:=λy ⟨e,I,N⟩ U=>by have k:=i2 e I (by rw[N];exact U);rw[N]at k;have m6:=OM (af u q) (af y q) i (af e1.1 q);have m7:aa (af u q) (af y q)*aa i (af e1.1 q)-aa (af u q) (af e1.1 q)*aa i (af y q)=aa (af u q) i*aa (af y q) (af e1.1 q):=(by simp only[aa,af];grind);refine Zx.1 λm8=>?_;have m9:=aQ (af e1.1 q) (af y q);have m:=Ya T (show aa (af y q) (af e1.1 q)<0 by omega);have V: -aa (af u q) (af e1.1 q)* -aa i (af y q)=aa (af u q) (af e1.1 q)*aa i (af y q):=(by grind);have n0: -aa (af u q) (af y q)* -aa i (af e1.1 q)=aa (af u q) (af y q)*aa i (af e1.1 q):=(by grind);omega
 obtain⟨e2,i4,⟨c8,b1⟩,c9⟩:=min_mem (λe:V2×V2=>ay (af e.1 q) (af e.1 q)) (λe=>B e.1/\aa (af e1.1 q) (af e.1 q)=0) E ⟨e1,i1,c7,by simp only[aa,af];grind⟩;obtain⟨x,d0⟩:∃x,x=e2.1:=⟨_,rfl⟩;have d1:Vx E x:=⟨e2,i4,d0.symm⟩;rw[<-d0]at c8 b1 c9;obtain⟨b2,i5,a3,d2⟩:=(M x).1 c8;obtain⟨_,d3,_,_⟩:=(M e1.1).1 c7;have i6:af x q≠⟨0,0⟩:=df b2;have d4:af e1.1 q≠⟨0,0⟩:=λk=>by rw[k]at d3;simp[aa]at d3
 have b3:∀e,_:=λe=>di (f:=af e1.1 q) (d:=af x q) e b1 d4;have d5:0<ay (af e1.1 q) (af x q):=by refine Xz λk=>?_;have n1:=aQ i (af e1.1 q);have n3:=aQ i (af x q);by_cases c:ay (af e1.1 q) (af x q)=0;have e:=ia (e:=i) b1;rw[c,Yb]at e;have:=(mz e).resolve_left (by have:=cg d4;omega);omega;have:=((b3 i).2 (by omega)).1;omega
 have i7:∀y,Vx E y->B y->aa (af x q) (af y q)<=0:=λy i8 U=>by have:=i3 y i8 U;have i9:=((b3 (af y q)).1 d5).1;omega
 have j0:∀y,Vx E y->B y->aa (af x q) (af y q)=0->ay (af x q) (af x q)<=ay (af y q) (af y q):=λy ⟨e,I,N⟩ U z=>by have i9:=(b3 (af y q)).1 d5;have:=c9 e I ⟨by rw[N];exact U,by rw[N];omega⟩;rw[N]at this;exact this
 have b4:0<aa (af x q) i:=by have:=aQ i (af x q);omega
 have d6:0<ai p q x:=by have id:aa (af u q) i*ai p q x=aa (af x q) i*ai p q u+aa (af u q) (af x q)*aa (af q p) i:=(by simp only[ai,aa,af];grind);have a1:=XC b4 h6;have a2:=XM a3 (XO Z);refine Y3.1 λk=>?_;have:=XI (XO T) k;omega
 refine h.clear Y d1 b2.symm (λf r m c j J F=>?_) (c3 _ (by rw[<-J7];exact d6));by_cases O:c=ag m q;subst O;exact⟨.inl rfl,o.oE Y r j F⟩;by_cases a4:c=ag m x;subst a4;exact⟨.inr rfl,o.oE d1 r j F⟩;exfalso;have G:=XC j j;have a5:0<ai (ag m u) (ag m w) c:=by have:=(ew (a:=ag m u) (b:=ag m w) (au.1 J) a4).1 (by rw[bZ];exact XM (XO G) d2) (by rw[bZ];exact XC G K);exact this
 have n4:∀v:V2,aa (af c (ag m q)) v=0\/True:=λ_=> .inr trivial;have b5:∀d:V2,0<aa d (af x q)->0<aa d (af c (ag m q)):=λd k=>by
  have e1:∀v:V2,ai (ag m q) (ak (ag m q) d) v=aa d (af v (ag m q)):=λv=>by simp only[ai,aa,af,ak];grind
  have:=(ew (a:=ag m q) (b:=ak (ag m q) d) J O).1 (by rw[dO];exact Yc _) (by rw[e1];have:aa d (af (ag m x) (ag m q))=m*aa d (af x q):=(by simp only[aa,af,ag];grind);rw[this];exact XC j k)
  rwa [e1]at this
 have j1:∀d:V2,0<=aa d (af x q)->0<=aa d (af c (ag m q)):=λd k=>by
  by_cases z:aa d (af x q)=0
  ·have e1:∀v:V2,ai (ag m q) (ak (ag m q) d) v=aa d (af v (ag m q)):=λv=>by simp only[ai,aa,af,ak];grind
   have e2:aa d (af (ag m x) (ag m q))=0:=(by have:aa d (af (ag m x) (ag m q))=m*aa d (af x q):=(by simp only[aa,af,ag];grind);rw[this,z,Yh]);have l:=gw (a:=ak (ag m q) d) (b:=ag m q) (k:=0) J (by rw[dX];exact Yc _) (by rw[aU,e1,e2];exact Yc _);rw[aU,e1]at l;omega
  ·exact XO (b5 d (by omega))
 have d7:∀d:V2,aa d (af x q)<0->aa d (af c (ag m q))<0:=λd k=>by have:=b5 ⟨-d.x,-d.y⟩ (by rw[pB];omega);rw[pB]at this;omega
 have d8:∀d:V2,0<aa (af x q) d->0<aa (af c (ag m q)) d:=λd k=>by have n5:=aQ d (af x q);have n6:=aQ d (af c (ag m q));have:=d7 d (by omega);omega
 have j2:aa i (af c (ag m q))<0:=d7 i i5;have j3:0<=aa (af u q) (af c (ag m q)):=j1 _ a3;have n7:0<ai (ag m p) (ag m q) c:=by have:=b5 (af q p) (by rw[<-J7];exact d6);have e:ai (ag m p) (ag m q) c=m*aa (af q p) (af c (ag m q)):=(by simp only[ai,aa,af,ag];grind);rw[e];exact XC j this
 have b6:∀v,Vx E v->v≠q->aV (ag m q) c (ag m v)->False:=λv b7 b8 C=>by
  have j4:aV (ag m q) (ag m x) (ag m v):=au.1 (aV.trans (au.1 J) (au.1 C));have a6:aV q x v:=(gW j).1 j4;have d9:v≠x:=λk=>by rw[k]at C;exact a4 (kt C J).symm.symm
  have n8:ag m v≠ag m q:=λk=>b8 (gS j k);have e0:∀d:V2,0<aa d (af x q)->0<aa d (af v q):=λd k=>by
   have e1:∀v:V2,ai q (ak q d) v=aa d (af v q):=λv=>by simp only[ai,aa,af,ak];grind
   have:=(ew (a:=q) (b:=ak q d) a6 b8).1 (by rw[dO];exact Yc _) (by rw[e1];exact k)
   rwa [e1]at this
  have e3:aa (af x q) (af v q)=0:=(by have:=a6.1;simp only[ai,aa,af]at this|-;grind);have j5:B v:=(M v).2 ⟨b8,by
    have:=e0 ⟨-i.x,-i.y⟩ (by rw[pB];omega);rw[pB]at this;omega,by
    by_cases z:aa (af u q) (af x q)=0;have e1:ay (af x q) (af x q)*aa (af u q) (af v q)=0:=(by simp only[aa,ay]at z e3|-;grind);have:=(mz e1).resolve_left (by have:=cg i6;omega);omega
    ·exact XO (e0 _ (by omega)),by
    have:=(ew (a:=u) (b:=w) (au.1 a6) d9).1 d2 K;omega⟩
  have:=j0 v b7 j5 e3;have:=LC a6 d9;omega
 have j6:ag m q≠c:=λk=>O k.symm;have j7:aV (ag m q) c c:=bE _ _;have e4:∀{g g':V2},((g',g)∈E++D\/(g,g')∈E++D)->aV (ag m g') (ag m g) c->0<ai (ag m q) (ag m x) (ag m g)->ai (ag m q) (ag m x) (ag m g')<0->False:=by
  intro g g' b9 C e5 n9;have e6:Vx E g:=(by rcases b9 with k|k;exact(o.ends k).2.1;exact(o.ends k).1);have a7:0<aa (af x q) (af g q):=(by have:ai (ag m q) (ag m x) (ag m g)=m*m*aa (af x q) (af g q):=(by simp only[ai,aa,af,ag];grind);rw[this]at e5;exact(bg (n:=m*m) G).1.1 e5);have e7:g≠q:=λk=>by rw[k]at a7;simp[aa,af]at a7
  have e8:¬kN (ag m u,ag m w) (c,ag m g):=λk=>by
   have V:kN (u,w) (g',g):=(xv j (e1:=(u,w)) (e2:=(g',g))).1 (pz C k);rcases b0 with a|a<;>rcases b9 with b|b
   ·exact o.nQ a b V
   ·exact o.nQ a b (ej V)
   ·exact o.nQ a b (ej V.sym).sym
   ·exact o.nQ a b (ej (ej V.sym).sym)
  have t:∀v:V2,af (ag m v) (ag m q)=ag m (af v q):=λv=>hQ m v q;have c0:∀a b:V2,aa (ag m a) b=m*aa a b:=λa b=>by simp only[aa,ag];grind
  have A:∀a b:V2,aa a (ag m b)=m*aa a b:=λa b=>by simp only[aa,ag];grind
  have Nm:0<ai (ag m u) (ag m w) (ag m q):=(by rw[bZ];exact XC G K);have e9:0<aa (af u q) (af w q):=(by rw[<-GS];exact K);have f0:0<aa (af c (ag m q)) (af (ag m w) (ag m q)):=(by have j8:0<aa (af x q) (af w q):=(by have id:aa (af u q) i*aa (af x q) (af w q)=aa (af x q) i*aa (af u q) (af w q)+aa (af u q) (af x q)*aa i (af w q):=(by simp only[aa,af];grind);have a1:=XC b4 e9;have a2:=XM a3 (XO hw);refine Y3.1 λk=>?_;have:=XI (XO T) k;omega);rw[t,A];exact XC j (d8 _ j8));have f1:0<=aa (af (ag m u) (ag m q)) (af c (ag m q)):=(by rw[t,c0];exact XM (XO j) j3);rcases Yi (c4 g e6 e7).2 with X|X
  ·
   have f2:0<aa (af g q) i:=(by have:=aQ i (af g q);omega);have c1:0<aa (af u q) (af g q):=(by have id:aa (af x q) i*aa (af u q) (af g q)=aa (af u q) (af x q)*aa (af g q) i+aa (af u q) i*aa (af x q) (af g q):=(by simp only[aa,af];grind);have a1:=XM a3 (XO f2);have a2:=XC T a7;refine Y3.1 λk=>?_;have:=XI (XO b4) k;omega);by_cases j9:0<=ai u w g;have:=i7 g e6 ((M g).2 ⟨e7,X,XO c1,j9⟩);omega;have k0:0<aa (af g q) (af w q):=(by have id:aa (af u q) i*aa (af g q) (af w q)=aa (af g q) i*aa (af u q) (af w q)+aa (af u q) (af g q)*aa i (af w q):=(by simp only[aa,af];grind);have a1:=XC f2 e9;have a2:=XM (XO c1) (XO hw);refine Y3.1 λk=>?_;have:=XI (XO T) k;omega);have f3:ai (ag m u) (ag m w) (ag m g)<0:=(by rw[bZ];exact(bg (n:=m*m) G).2.1.2 (by omega));have k1:=Nr (Q:=ag m q) (u:=ag m u) (w:=ag m w) (c:=c) (g:=ag m g) Nm f0 f1 (by rw[t,t,c0,A];exact XC j (XC j c1)) (by rw[t,t,c0,A];exact XO (XC j (XC j k0))) a5 f3;exact e8 ⟨.inr k1,.inl ⟨a5,f3⟩⟩
  ·
   have f4:aa i (af (ag m g) (ag m q))=m*aa i (af g q):=(by rw[t,A]);have k2:aa i (af (ag m g') (ag m q))=m*aa i (af g' q):=(by rw[t,A]);have c2:∀v:V2,ai (ag m q) (ak (ag m q) i) v=aa i (af v (ag m q)):=λv=>by simp only[ai,aa,af,ak];grind
   have f5:aa i (af g' q)<0:=(by refine Y3.1 λk=>?_;have l:=gw (a:=ak (ag m q) i) (b:=ag m q) (k:=0) C (by rw[aU,c2,k2];have:=XM (XO j) k;omega) (by rw[aU,c2,f4];have:=XC j X;omega);rw[aU,c2]at l;omega);have f6:0<aa (af c (ag m q)) (af (ag m g) (ag m q)):=(by rw[t,A];exact XC j (d8 _ a7));have k3:=C.1;have k4:ai (ag m g') (ag m g) (ag m q)*(aa i (af (ag m g) (ag m q))-aa i (af c (ag m q)))=aa (af c (ag m q)) (af (ag m g) (ag m q))*(aa i (af (ag m g) (ag m q))-aa i (af (ag m g') (ag m q))):=(by simp only[ai,aa,af]at k3|-;grind);have mk:=XC j X;have o0:=Ya j f5;have f7:0<aa i (af (ag m g) (ag m q))-aa i (af (ag m g') (ag m q)):=(by omega);have f8:0<aa i (af (ag m g) (ag m q))-aa i (af c (ag m q)):=(by omega);have f9:0<ai (ag m g') (ag m g) (ag m q):=(by have:=XC f6 f7;refine Y3.1 λk=>?_;have:=YD k (XO f8);omega);have k5:0<ai g' g q:=(by rw[bZ]at f9;exact(bg (n:=m*m) G).1.1 f9);have g0:=c5 (g',g) (by
    rcases b9 with k|k;exact XN.2 (.inl k)
    ·exact XN.2 (.inr (cw.2 k))) ⟨f5,X,k5⟩
   simp only at g0;have k6:(aa i (af (ag m g) (ag m q))-aa i (af c (ag m q)))*ai (ag m u) (ag m w) (ag m q)<=aa (af c (ag m q)) (af (ag m g) (ag m q))*(aa i (af (ag m w) (ag m q))-aa i (af (ag m u) (ag m q))):=(by refine YX (a:=aa i (af (ag m g) (ag m q))-aa i (af (ag m g') (ag m q))) ?_ f7;have e1:(aa i (af (ag m g) (ag m q))-aa i (af (ag m g') (ag m q)))*(aa (af c (ag m q)) (af (ag m g) (ag m q))*(aa i (af (ag m w) (ag m q))-aa i (af (ag m u) (ag m q))))=(aa i (af (ag m g) (ag m q))-aa i (af c (ag m q)))*(ai (ag m g') (ag m g) (ag m q)*(aa i (af (ag m w) (ag m q))-aa i (af (ag m u) (ag m q)))):=(by rw[<-Zc,<-Zc,Yd (aa i (af (ag m g) (ag m q))-aa i (af (ag m g') (ag m q))),<-k4,Yd (aa i (af (ag m g) (ag m q))-aa i (af c (ag m q)))]);rw[e1,<-Zc,Yd (aa i (af (ag m g) (ag m q))-aa i (af (ag m g') (ag m q))),Zc];refine XT ?_ (XO f8);rw[bZ,bZ,t,t,t,t,A,A,A,A];have:=XT g0 (XO (XC G j));have k7:(m*aa i (af g q)-m*aa i (af g' q))*(m*m*ai u w q)=m*m*m*(ai u w q*(aa i (af g q)-aa i (af g' q))):=(by grind);have k8:m*m*ai g' g q*(m*aa i (af w q)-m*aa i (af u q))=m*m*m*(ai g' g q*(aa i (af w q)-aa i (af u q))):=(by grind);rw[k7,k8];exact this);obtain⟨k9,l0,l5⟩:=Nq (Q:=ag m q) (u:=ag m u) (w:=ag m w) (c:=c) (g:=ag m g) (d:=i) Nm f0 f1 a5 j2 (by rw[f4];exact mk) (by rw[t,A];exact Ya j S) (by rw[t,A];exact XC j hw) f6 k6;exact e8 ⟨.inr ⟨l0,l5⟩,.inl ⟨a5,k9⟩⟩
 have g1:∀v,Vx E v->v≠q->c≠ag m v:=λv b7 a0 k=>b6 v b7 a0 (by rw[<-k];exact j7);have l6:c≠ag m f.1:=λk=>by by_cases e:f.1=q;rw[e]at k;exact O k;exact g1 f.1 (o.ends r).1 e k
 have l7:c≠ag m f.2:=λk=>by by_cases e:f.2=q;rw[e]at k;exact O k;exact g1 f.2 (o.ends r).2.1 e k
 have g2:ai (ag m q) (ag m x) c=0:=J.1;have l8:¬(ai (ag m q) (ag m x) (ag m f.1)=0/\ai (ag m q) (ag m x) (ag m f.2)=0):=λ⟨l9,m0⟩=>by
  have g3:∀g:V2,ai (ag m q) (ag m x) (ag m g)=0->ai (ag m q) c (ag m g)=0:=λg R=>by have m1:ag m q≠ag m x:=λe=>b2 (gS j e).symm;have m2:((ag m x).x-(ag m q).x)*ai (ag m q) c (ag m g)=0:=(by simp only[ai,aa,af]at R g2|-;grind);have m3:((ag m x).y-(ag m q).y)*ai (ag m q) c (ag m g)=0:=(by simp only[ai,aa,af]at R g2|-;grind);refine Xz λk=>m1 (V2.ext ?_ ?_);have:=(mz m2).resolve_right k;omega;have:=(mz m3).resolve_right k;omega
  by_cases P:aV (ag m f.1) (ag m f.2) (ag m q)
  ·have g4:∀{y:V2},oB E D q y->aV (ag m q) (ag m y) c->False:=λ{y} H C=>by refine a9 y H (Y3.1 λk=>?_);have:=gw (a:=ag m p) (b:=ag m q) (k:=0) C (by rw[dX];exact Yc _) (by rw[bZ];exact XI (XO G) k);omega
   rcases o.kU Y r ((gW j).1 P)with k|k;exact g4 (y:=f.2) (.inl (by rw[k];exact r)) (by rw[k];exact F);exact g4 (y:=f.1) (.inr (by rw[k];exact r)) (by rw[k];exact au.1 F)
  ·rcases AT (g3 _ l9) (g3 _ m0) j6 F P with k|k;by_cases e:f.1=q;rw[e]at P;exact P (cd _ _);exact b6 f.1 (o.ends r).1 e k;by_cases e:f.2=q;rw[e]at P;exact P (bE _ _);exact b6 f.2 (o.ends r).2.1 e k
 rcases kH J F O a4 l6 l7 with k|k;unfold kN at k;simp only at k;rcases k.1 with⟨a,b⟩|⟨a,b⟩;exact e4 (g:=f.1) (g':=f.2) (.inr r) (au.1 F) a b;exact e4 (g:=f.2) (g':=f.1) (.inl r) F b a;exact l8 k
theorem pR.fZ (h:pR E D) (b:uE E D p q):∃r,Kn E D p q r:=by
 obtain⟨y,c,i⟩:=h.has b;obtain⟨L,f⟩:∃L:LV,∀v,oB E D q v->v∈L:=⟨(E++D).map (·.2)++(E++D).map (·.1),λv a=>by
  rcases a with k|k;exact XN.2 (.inl (XQ.2 ⟨_,k,rfl⟩))
  ·exact XN.2 (.inr (XQ.2 ⟨_,k,rfl⟩))⟩
 obtain⟨r,_,⟨j,l⟩,m⟩:=sT (λv=> -ay (af p q) (af v q)) (λv=>ai p q v) (λv=>oB E D q v/\0<ai p q v) (λv a=>a.2) L ⟨y,f y c,c,i⟩;refine⟨r,b,j,l,λv a ⟨o,g⟩=>?_⟩;rw[vJ]at g;have k:=m v (f v a) ⟨a,g⟩;have id:ay (af p q) (af v q)*ai p q r-ay (af p q) (af r q)*ai p q v=ay (af p q) (af p q)*aa (af r q) (af v q):=by simp only[ai,aa,af,ay];grind
 have t:=XC (cg (df (b.ne h.toDis))) o;rw[ZF,ZF]at k;omega
end
def pv (b:Nat):List Nat->Nat->Nat
 |[],_=>b
 |y::r,x=>if y=x then b else pv y r x
def eb (b:Nat):List Nat->Nat
 |[]=>b
 |y::r=>eb y r
def bP (l:List Nat) (x:Nat):Nat:=pv (eb 0 l) l x
theorem Fg (b:Nat) (l:List Nat) (x:Nat):pv b l x=b\/pv b l x∈l:=by
 induction l generalizing b with
 |nil=>left;rfl
 |cons y r a=>simp only[pv];split;left;rfl;rcases a y with h|h;right;rw[h];simp;right;simp[h]
theorem pj {b:Nat} {l:List Nat} (h:l≠[]):eb b l∈l:=by
 induction l generalizing b with
 |nil=>exact absurd rfl h
 |cons y r a=>simp only[eb];by_cases c:r=[];subst c;simp[eb];exact XK _ (a c)
variable {x:Nat}
theorem ow {l:List Nat} (h:l≠[]):bP l x∈l:=by
 rcases Fg (eb 0 l) l x with k|k;unfold bP;rw[k];exact pj h;exact k
theorem wz {q x:Nat} (a:x≠q):∀(b:Nat) (l:List Nat),b≠q->l.Nodup->x∈l->pv b (l.erase q) x=if pv b l x=q then pv b l q else pv b l x
 |_,[],_,_,h=>by cases h
 |b,y::r,i,j,f=>by
  obtain⟨g,m⟩:=Yy.1 j;by_cases c:y=q
  ·subst c;rw[Xy];have o:x∈r:=(XF.1 f).resolve_left a;have p:pv b (y::r) x=pv y r x:=(by simp only[pv];rw[XD (Zr a)]);have t:pv b (y::r) y=b:=(by simp[pv]);rw[p,t];cases r with
   |nil=>cases o
   |cons z s=>
    simp only[pv];by_cases k:z=x;simp only[XG k,WH]
    ·simp only[XD k];have:pv z s x≠y:=λe=>by rcases Fg z s x with q|q;rw[q]at e;exact g (by rw[<-e];simp);rw[e]at q;exact g (by simp[q])
     rw[XD this]
  ·rw[WB (by simpa using c)];simp only[pv];by_cases k:y=x;simp only[XG k,XD i];simp only[XD k,XD c];exact wz a y r c m ((XF.1 f).resolve_left (Zr k))
theorem tV {q:Nat}:∀(b:Nat) (l:List Nat),eb b l≠q->eb b (l.erase q)=eb b l
 |_,[],_=>rfl
 |b,y::r,h=>by
  by_cases c:y=q
  ·subst c;rw[Xy];cases r with
   |nil=>exact absurd rfl h
   |cons z s=>rfl
  ·rw[WB (by simpa using c)];exact tV y r h
theorem y8 {q:Nat}:∀(b:Nat) (l:List Nat),l.Nodup->eb b l=q->q∈l->eb b (l.erase q)=pv b l q
 |_,[],_,_,h=>by cases h
 |b,y::r,a,h,f=>by
  obtain⟨g,i⟩:=Yy.1 a;by_cases c:y=q
  ·subst c;rw[Xy];cases r with
   |nil=>simp[pv,eb]
   |cons z s=>exfalso;have:eb y (z::s)∈z::s:=pj (by simp);simp only[eb]at h this;rw[h]at this;exact g this
  ·rw[WB (by simpa using c)];simp only[pv,eb];rw[XD c];exact y8 y r i h ((XF.1 f).resolve_left (Zr c))
theorem xx {l:List Nat} {q:Nat} (h:l.Nodup) (i:q∈l) (a:x∈l) (g:x≠q):bP (l.erase q) x=if bP l x=q then bP l q else bP l x:=by
 unfold bP;by_cases c:eb 0 l=q
 ·have e:=y8 0 l h c i;have p:x∈l.erase q:=(Xw g).2 a;rw[e,c];cases l with
  |nil=>cases a
  |cons y r=>
   obtain⟨j,m⟩:=Yy.1 h;have o:r≠[]:=λk=>by subst k;simp only[eb]at c;subst c;have:=(XF.1 a).resolve_left g;cases this
   have f:y≠q:=λk=>by have:=pj (b:=y) o;simp only[eb]at c;rw[c]at this;exact j (by rw[k];exact this)
   by_cases k:y=x;subst k;rw[WB (by simpa using f)];simp only[pv];simp only[WH,XD f];rw[WB (by simpa using f)];simp only[pv];simp only[XD k,XD f];exact wz g y r f m ((XF.1 a).resolve_left (Zr k))
 ·rw[tV 0 l c];exact wz g _ l c h a
variable {y:Nat}
theorem RJ {b:Nat}:∀{l:List Nat},l.Nodup->b∉l\/b=eb b l->x∈l->y∈l->pv b l x=pv b l y->x=y:=by
 intro l;induction l generalizing b with
 |nil=>intro _ _ h;cases h
 |cons z r j=>
  intro i f o p e;obtain⟨C,D⟩:=Yy.1 i;have u:∀t,t∈r->z≠t->pv z r t=b->False:=λt m H k=>by
   have E:=Fg z r t;rcases f with f|f;rcases E with q|q;rw[q]at k;exact f (by rw[<-k];simp);rw[k]at q;exact f (by simp[q])
   ·
    simp only[eb]at f;have F:∀(w:Nat) (s:List Nat),(w::s).Nodup->t∈s->pv w s t≠eb w s:=by
     intro w s;induction s generalizing w with
     |nil=>intro _ h;cases h
     |cons v s j=>intro i m;obtain⟨A,G⟩:=Yy.1 i;simp only[pv,eb];by_cases c:v=t;rw[XG c];intro q;by_cases B:s=[];subst B;simp only[eb]at q;exact A (by rw[q];simp);have:=pj (b:=v) B;rw[<-q]at this;exact A (by simp[this]);rw[XD c];exact j v G ((XF.1 m).resolve_left (Zr c))
    exact F z r i m (k.trans f)
  simp only[pv]at e;by_cases g:z=x;by_cases a:z=y;rw[<-g,a];rw[XG g,XD a]at e;exact absurd e.symm (λk=>u y ((XF.1 p).resolve_left (Zr a)) a k);by_cases a:z=y;rw[XD g,XG a]at e;exact absurd e (λk=>u x ((XF.1 o).resolve_left (Zr g)) g k);rw[XD g,XD a]at e;exact j D (.inl C) ((XF.1 o).resolve_left (Zr g)) ((XF.1 p).resolve_left (Zr a)) e
theorem DM {l:List Nat} (c:l.Nodup) (b:x∈l) (f:y∈l) (e:bP l x=bP l y):x=y:=by
 unfold bP at e;refine RJ c (.inr ?_) b f e;cases l with
 |nil=>cases b
 |cons a r=>rfl
abbrev Dt:=Nat×Nat
def nx (nb:Nat->List Nat) (d:Dt):Dt:=(d.2,bP (nb d.2) d.1)
def mR (f:Dt->Dt):Dt->List Dt->Dt->Prop
 |d,[],e=>f d=e
 |d,x::l,e=>f d=x/\mR f x l e
def Cy (f:Dt->Dt):List Dt->Prop
 |[]=>False
 |d::l=>mR f d l d
theorem ph {f:Dt->Dt}:∀{l r:List Dt} {d x e:Dt},mR f d (l++x::r) e↔mR f d l x/\mR f x r e
 |[],_,_,_,_=>ZC
 |y::l,r,d,x,e=>by simp only[YG,mR];rw[ph (l:=l)];exact and_assoc.symm
theorem MZ {f:Dt->Dt} {l r:List Dt} {d x:Dt} (h:Cy f (d::(l++x::r))):Cy f (x::(r++d::l)):=by
 obtain⟨a,b⟩:=ph.1 (show mR f d (l++x::r) d from h);exact ph.2 ⟨b,a⟩
variable {F:List Dt}
theorem DJ {f:Dt->Dt} (h:Cy f F) {d:Dt} (g:d∈F):∃l,F.Perm (d::l)/\Cy f (d::l):=by
 cases F with
 |nil=>cases g
 |cons e l=>by_cases c:d=e;subst c;exact⟨l,.refl _,h⟩;obtain⟨a,b,rfl⟩:=WN ((XF.1 g).resolve_left c);refine⟨b++e::a,?_,MZ h⟩;have:(e::(a++d::b)).Perm (d::b++e::a):=(Xt (l₁:=e::a) (l₂:=d::b));exact this
theorem w3 {f:Dt->Dt}:∀{l:List Dt} {d e:Dt},mR f d l e->∃a y,d::l=a++[y]/\f y=e
 |[],d,e,h=>⟨[],d,rfl,h⟩
 |x::l,d,e,h=>by obtain⟨a,y,b,c⟩:=w3 h.2;exact⟨d::a,y,by rw[b];rfl,c⟩
theorem Dc {f g:Dt->Dt} {z:Dt}:∀{l:List Dt} {d e:Dt},mR f d l e->(∀x∈d::l,f x≠e->g x=f x)->(∀x∈l,x≠e)->(∀x∈d::l,f x=e->g x=z)->mR g d l z
 |[],d,e,h,_,_,b=>b d (by simp) h
 |x::l,d,e,h,c,i,b=>by refine⟨?_,Dc h.2 (λy a=>c y (by simp only[XF]at a|-;exact .inr a)) (λy a=>i y (by simp[a])) (λy a=>b y (by simp only[XF]at a|-;exact .inr a))⟩;rw[c d (by simp) (by rw[h.1];exact i x (by simp)),h.1]
def fq (t:Dt->Int):List Dt->Int
 |[]=>0
 |d::l=>t d+fq t l
theorem rP (t:Dt->Int) (l r:List Dt):fq t (l++r)=fq t l+fq t r:=by
 induction l with
 |nil=>simp[fq]
 |cons d l a=>simp only[YG,fq];rw[a];omega
theorem jo (t:Dt->Int) {l r:List Dt} (h:l.Perm r):fq t l=fq t r:=by
 induction h with
 |nil=>rfl
 |cons x _ a=>simp only[fq];rw[a]
 |swap x y l=>simp only[fq];omega
 |trans _ _ b c=>exact b.trans c
theorem xA {t s:Dt->Int} {l:List Dt} (h:∀d∈l,t d=s d):fq t l=fq s l:=by
 induction l with
 |nil=>rfl
 |cons d l a=>simp only[fq];rw[h d (by simp),a (λx b=>h x (by simp[b]))]
theorem PT {t:Dt->Int} {l:List Dt} (h:∀d∈l,0<=t d):0<=fq t l:=by
 induction l with
 |nil=>exact Yc _
 |cons d l a=>have:=h d (by simp);have:=a (λx b=>h x (by simp[b]));simp only[fq];omega
theorem PU {t:Dt->Int} {l:List Dt} (h:∀d∈l,0<=t d) {d:Dt} (b:d∈l):t d<=fq t l:=by
 induction l with
 |nil=>cases b
 |cons e l c=>have:=PT (l:=l) (λx a=>h x (by simp[a]));have:=h e (by simp);simp only[fq];rcases XF.1 b with rfl|k;omega;have:=c (λx a=>h x (by simp[a])) k;omega
instance (d:V2):Decidable (fa d):=by unfold fa;exact inferInstance
def jg (P:Nat->V2) (d:Dt):Bool:=decide (fa (af (P d.2) (P d.1)))
def lW (P:Nat->V2) (f:Dt->Dt) (d:Dt):Int:=if jg P d=false/\jg P (f d)=true then 1 else 0
theorem J4 (P:Nat->V2) (f:Dt->Dt) (d:Dt):0<=lW P f d:=by unfold lW;split<;>omega
def qG (a b:V2):Prop:=a.y<b.y\/(a.y=b.y/\a.x<b.x)
theorem uG {a b:V2}:fa (af b a)↔qG a b:=by unfold fa qG af;simp only;omega
section
variable {P:Nat->V2}
theorem FO {f:Dt->Dt} (j:∀d,(f d).1=d.2) (h:Cy f F) (B:∀d∈F,P d.1≠P d.2):1<=fq (lW P f) F:=by
 have C:∀{l:List Dt} {d e:Dt},mR f d l e->(∀x∈d::l,qG (P x.1) (P x.2))->qG (P d.1) (P e.1):=by
  intro l;induction l with
  |nil=>intro d e h k;have:=k d (by simp);rw[<-h,j];exact this
  |cons x l i=>intro d e h k;have m:=k d (by simp);have D:=i h.2 (λy c=>k y (by simp only[XF]at c|-;exact .inr c));have o:d.2=x.1:=(by rw[<-h.1,j]);rw[o]at m;unfold qG at*;omega
 have E:∀{l:List Dt} {d e:Dt},mR f d l e->(∀x∈d::l,qG (P x.2) (P x.1))->qG (P e.1) (P d.1):=by
  intro l;induction l with
  |nil=>intro d e h k;have:=k d (by simp);rw[<-h,j];exact this
  |cons x l i=>intro d e h k;have m:=k d (by simp);have D:=i h.2 (λy c=>k y (by simp only[XF]at c|-;exact .inr c));have o:d.2=x.1:=(by rw[<-h.1,j]);rw[o]at m;unfold qG at*;omega
 have S:∀d∈F,jg P d=true\/jg P d=false:=λd _=>by cases jg P d<;>simp
 have G:∀{d:Dt},jg P d=true->qG (P d.1) (P d.2):=λ{d} k=>uG.1 (XB k);have H:∀{d:Dt},d∈F->jg P d=false->qG (P d.2) (P d.1):=λ{d} I k=>by have k:=XA k;rw[uG]at k;have:=B d I;have T:(P d.1).x≠(P d.2).x\/(P d.1).y≠(P d.2).y:=(by refine Xz λq=>this (V2.ext (by omega) (by omega)));unfold qG at*;omega
 obtain⟨a,J,p⟩:∃a∈F,jg P a=true:=by
  refine Xz λk=>?_;cases F with
  |nil=>exact h
  |cons d l=>
   have:=E (show mR f d l d from h) (λx g=>H g (by
    cases q:jg P x with
    |false=>rfl
    |true=>exact absurd ⟨x,g,q⟩ k))
   unfold qG at this;omega
 obtain⟨b,K,u⟩:∃b∈F,jg P b=false:=by
  refine Xz λk=>?_;cases F with
  |nil=>exact h
  |cons d l=>
   have:=C (show mR f d l d from h) (λx g=>G (by
    cases q:jg P x with
    |true=>rfl
    |false=>exact absurd ⟨x,g,q⟩ k))
   unfold qG at this;omega
 obtain⟨l,w,M⟩:=DJ h K;have N:a∈l:=by have:=w.subset J;rcases XF.1 this with q|q;rw[q,u]at p;cases p;exact q
 have O:∀{l:List Dt} {d e:Dt},mR f d l e->jg P d=false->(∃x∈l,jg P x=true)->∃y∈d::l,lW P f y=1:=by
  intro l;induction l with
  |nil=>intro d e _ _ ⟨x,g,_⟩;cases g
  |cons x l i=>
   intro d e h k ⟨z,Q,t⟩;cases q:jg P x with
   |true=>exact⟨d,by simp,by unfold lW;rw[h.1,k,q];simp⟩
   |false=>have R:z∈l:=(by rcases XF.1 Q with r|r;rw[r,q]at t;cases t;exact r);obtain⟨y,c,A⟩:=i h.2 q ⟨z,R,t⟩;exact⟨y,by simp only[XF]at c|-;exact .inr c,A⟩
 obtain⟨y,c,A⟩:=O M u ⟨a,N,p⟩;rw[jo _ w];have:=PU (l:=b::l) (λd _=>J4 P f d) c;omega
end
variable {X:V2}
theorem up_mul {a:Int} (f:0<a:=by omega):fa ⟨a*X.x,a*X.y⟩↔fa X:=by
 have c:=bg (n:=a) (x:=X.x);have b:=bg (n:=a) (x:=X.y);unfold fa;simp only;rw[c.1,b.1,b.2.2]
theorem lV {a b c:Int} {Y Z:V2} (g:0<a) (o:0<=b) (p:0<=c) (q:b≠0\/c≠0) (ex:a*X.x=b*Y.x+c*Z.x) (h:a*X.y=b*Y.y+c*Z.y) (i:fa Y) (f:fa Z):fa X:=by
 rw[<-up_mul g,ex,h];by_cases j:b=0;subst j;have k:=(up_mul (X:=Z) (a:=c)).2 f;rw[Yb,Yb,Zf,Zf];exact k;have l:=(up_mul (X:=Y) (a:=b)).2 i;by_cases m:c=0;subst m;rw[Yb,Yb,WT,WT];exact l;have r:=(up_mul (X:=Z) (a:=c)).2 f;unfold fa at*;simp only at*;omega
def eH (d:V2):V2:=⟨-d.x,-d.y⟩
theorem fz {d:V2} (h:d≠⟨0,0⟩):fa (eH d)↔¬fa d:=by
 have:d.x≠0\/d.y≠0:=by refine Xz λq=>h (V2.ext (by simp only;omega) (by simp only;omega))
 unfold fa eH;simp only;omega
theorem Q1 {E A:V2} (a:fa E) (b:fa A) (h:aa E A=0:=by omega):0<ay E A:=by
 simp only[aa]at h;have c:ay E A=E.x*A.x+E.y*A.y:=rfl;rcases a with a|⟨a,f⟩;rcases b with b|⟨b,g⟩;have:E.y*ay E A=(E.x*E.x+E.y*E.y)*A.y:=(by rw[c];grind);have p:0<(E.x*E.x+E.y*E.y)*A.y:=XC (by have:=Kz E.x;have:=XC a a;omega) b;rw[<-this]at p;exact(bg).1.1 p;rw[b,Yh]at h;have:=XC a g;omega;rw[a,Yb]at h;have i:A.y=0:=(mz (show E.x*A.y=0 by omega)).resolve_left (by omega);have:0<A.x:=(by rcases b with q|⟨_,q⟩<;>omega);have:=XC f this;rw[c,a,Yb];omega
theorem H8 (R X Y:V2):aa R X*Y.x=aa R Y*X.x+aa Y X*R.x:=by simp only[aa];grind
theorem H7 (R X Y:V2):aa R X*Y.y=aa R Y*X.y+aa Y X*R.y:=by simp only[aa];grind
variable {a e:V2}
theorem BF {q:V2} (h:q≠⟨0,0⟩) (i:0<=aa e q) (h2:0<=aa q a) (o:0<=aa e a) (j:¬(aa e a=0/\0<ay e a)) (b:fa e) (f:fa a):fa q:=by
 have c:0<aa e a:=by refine Xz λk=>j ⟨by omega,Q1 b f⟩
 have ex:=H8 e a q;have g:=H7 e a q;refine lV c i h2 ?_ ex g f b;refine Xz λk=>h ?_;have l:aa e q=0:=by omega
 have m:aa q a=0:=by omega
 rw[l,m,Yb,Yb]at ex g;exact V2.ext ((mz (show aa e a*q.x=0 by omega)).resolve_left (by omega)) ((mz (show aa e a*q.y=0 by omega)).resolve_left (by omega))
theorem nR (a b:V2):aa (eH a) (eH b)=aa a b:=by simp only[aa,eH];grind
theorem RP (a b:V2):ay (eH a) (eH b)=ay a b:=by simp only[ay,eH];grind
theorem wK (h:a≠⟨0,0⟩):eH a≠⟨0,0⟩:=λe=>h (by
 have b:=X5 V2.x e;have c:=X5 V2.y e;simp only[eH]at b c;exact V2.ext (by simp only;omega) (by simp only;omega))
theorem Ic {q:V2} (b:q≠⟨0,0⟩) (c:e≠⟨0,0⟩) (f:a≠⟨0,0⟩) (g:0<=aa e q) (h2:0<=aa q a) (h:0<=aa e a) (i:¬(aa e a=0/\0<ay e a)) (j:¬fa e) (k:¬fa a):¬fa q:=by
 rw[<-fz b];refine BF (e:=eH e) (a:=eH a) (wK b) (by rw[nR];exact g) (by rw[nR];exact h2) (by rw[nR];exact h) (by rw[nR,RP];exact i) ((fz c).2 j) ((fz f).2 k)
structure Gr (P:Nat->V2) (nb:Nat->List Nat):Prop where
 nd:∀p,(nb p).Nodup
 nz:∀p q,q∈nb p->P q≠P p
 sym:∀p q,q∈nb p->p∈nb q
 dir:∀p a b,a∈nb p->b∈nb p->a≠b->¬(aa (af (P a) (P p)) (af (P b) (P p))=0/\0<ay (af (P a) (P p)) (af (P b) (P p)))
structure Fc (P:Nat->V2) (nb:Nat->List Nat) (fs:List (List Dt)):Prop where
 cy:∀f∈fs,Cy (nx nb) f
 one:∀f∈fs,fq (lW P (nx nb)) f=1
 nd:fs.flatten.Nodup
 left:∀d∈fs.flatten,0<=ai (P d.1) (P d.2) (P (nx nb d).2)
 rev:∀d∈fs.flatten,d.1∈nb d.2
def dU (nb:Nat->List Nat) (p q:Nat) (x:Nat):List Nat:=if x=p then(nb p).erase q else if x=q then(nb q).erase p else nb x
def El (P:Nat->V2) (nb:Nat->List Nat) (p q:Nat):Prop:=∀a∈nb p,bP (nb p) a=q->0<=ai (P p) (P (bP (nb p) q)) (P a)/\bP (nb p) q≠a
variable {nb:Nat->List Nat} {p q:Nat}
theorem fQ {x y:Nat} (g:∀p,(nb p).Nodup):y∈dU nb p q x↔y∈nb x/\¬(x=p/\y=q)/\¬(x=q/\y=p):=by
 unfold dU;by_cases c:x=p;subst c;rw[XG rfl,(g x).mem_erase_iff];constructor;rintro⟨a,b⟩;refine⟨b,λk=>a k.2,λ⟨k,i⟩=>a (by rw[i,k])⟩;rintro⟨a,b,_⟩;exact⟨λk=>b ⟨rfl,k⟩,a⟩;rw[XD c];by_cases f:x=q;subst f;rw[XG rfl,(g x).mem_erase_iff];constructor;rintro⟨a,b⟩;exact⟨b,λk=>c k.1,λk=>a k.2⟩;rintro⟨a,_,b⟩;exact⟨λk=>b ⟨rfl,k⟩,a⟩;rw[XD f];exact⟨λk=>⟨k,λh=>c h.1,λh=>f h.1⟩,λk=>k.1⟩
theorem Gr.drop {P:Nat->V2} (G:Gr P nb) (p q:Nat):Gr P (dU nb p q) where
 nd:=λx=>by unfold dU;split;exact(G.nd p).erase q;split;exact(G.nd q).erase p;exact G.nd x
 nz:=λx y h=>G.nz x y ((fQ G.nd).1 h).1
 sym:=λx y h=>by obtain⟨c,f,g⟩:=(fQ G.nd).1 h;exact(fQ G.nd).2 ⟨G.sym x y c,λk=>g ⟨k.2,k.1⟩,λk=>f ⟨k.2,k.1⟩⟩
 dir:=λx a b i j=>G.dir x a b ((fQ G.nd).1 i).1 ((fQ G.nd).1 j).1
section
variable {P:Nat->V2} {nb:Nat->List Nat}
theorem wG (G:Gr P nb) {d a:Dt} (h:d.1∈nb d.2) (b:a.1∈nb a.2) (e:nx nb d=nx nb a):d=a:=by
 have c:d.2=a.2:=X5 Prod.fst e;have f:bP (nb d.2) d.1=bP (nb a.2) a.1:=X5 Prod.snd e;rw[<-c]at f b;exact WE (DM (G.nd _) h b f) c
theorem u6 (G:Gr P nb) (a:q∈nb p) {d:Dt} (h:d.1∈nb d.2) (f:d≠(p,q)) (h2:d≠(q,p)):nx (dU nb p q) d=if nx nb d=(p,q)then(p,bP (nb p) q)else if nx nb d=(q,p)then(q,bP (nb q) p)else nx nb d:=by
 have g:q≠p:=λe=>G.nz p q a (by rw[e]);obtain⟨x,y⟩:=d;simp only at h;have i:¬(p=q):=λe=>g e.symm;have j:nx nb (x,y)=(y,bP (nb y) x):=rfl;have l:nx (dU nb p q) (x,y)=(y,bP (dU nb p q y) x):=rfl;rw[j,l];unfold dU;simp only[Zq];by_cases c:y=p;subst c;have m:x≠q:=λe=>h2 (by rw[e]);rw[XG rfl,xx (G.nd y) a h m];by_cases k:bP (nb y) x=q;simp[k];simp[k,i];rw[XD c];by_cases b:y=q;subst b;have o:x≠p:=λe=>f (by rw[e]);rw[XG rfl,xx (G.nd y) (G.sym p y a) h o];by_cases k:bP (nb y) x=p;simp[k,c];simp[k,c];rw[XD b,XD (λh=>c h.1),XD (λh=>b h.1)]
theorem Bb {f:Dt->Dt}:∀{l:List Dt} {d e:Dt},mR f d l e->∀y∈d::l,f y∈l\/f y=e
 |[],d,e,h,y,a=>by rcases XF.1 a with rfl|k;exact .inr h;cases k
 |x::l,d,e,h,y,a=>by rcases XF.1 a with rfl|k;left;rw[h.1];simp;rcases Bb h.2 y k with r|r;left;simp[r];exact .inr r
theorem EN (a b:V2):af a b=eH (af b a):=V2.ext (by simp only[af,eH];omega) (by simp only[af,eH];omega)
theorem uH {a b:Nat} (h:P a≠P b):jg P (a,b)=!(jg P (b,a)):=by
 unfold jg;have c:af (P a) (P b)≠⟨0,0⟩:=df h;have:=fz c;rw[<-EN]at this;simp only;rw[<-Xl];exact Yj.2 this
theorem Nn (b c a f g:Bool) (h:c=true->b=true->a=true) (h2:c=false->b=false->a=false) (i:g=true->f=true->a=false) (j:g=false->f=false->a=true):
  (if a=false/\g=true then(1:Int)else 0)+(if(!b)=false/\a=true then 1 else 0)+((if(!a)=false/\c=true then 1 else 0)+(if(!f)=false/\(!a)=true then 1 else 0))=1+(if(!b)=false/\c=true then 1 else 0)+(if(!f)=false/\g=true then 1 else 0):=by
 cases b<;>cases c<;>cases a<;>cases f<;>cases g<;>simp_all
theorem Pf {f:Dt->Dt} {d e:Dt} {l:List Dt} (h:mR f d l e) (g:l≠[]):∃b y,l=b++[y]/\f y=e:=by
 obtain⟨b,y,c,i⟩:=w3 h;cases b with
 |nil=>
  exfalso;cases l with
  |nil=>exact g rfl
  |cons a r=>cases c
 |cons a r=>simp only[YG,Xr]at c;exact⟨r,y,c.2,i⟩
structure Vc (P:Nat->V2) (nb:Nat->List Nat) (p q a b:Nat):Prop where
 hq:q∈nb p
 ha:a∈nb p
 hb:b∈nb q
 na:bP (nb p) a=q
 Je:bP (nb q) b=p
 e1:0<=ai (P a) (P p) (P q)
 e2:0<=ai (P q) (P p) (P (bP (nb p) q))
 e3:0<=ai (P p) (P (bP (nb p) q)) (P a)
 e4:bP (nb p) q≠a
 c1:0<=ai (P b) (P q) (P p)
 c2:0<=ai (P p) (P q) (P (bP (nb q) p))
 c3:0<=ai (P q) (P (bP (nb q) p)) (P b)
 c4:bP (nb q) p≠b
theorem Sl (x p y:V2):ai x p y=aa (af y p) (af x p):=by simp only[ai,aa,af];grind
theorem Vc.cnt (G:Gr P nb) {a b:Nat} (T:Vc P nb p q a b):
  lW P (nx nb) (p,q)+lW P (nx nb) (a,p)+(lW P (nx nb) (q,p)+lW P (nx nb) (b,q))=
  1+(if jg P (a,p)=false/\jg P (p,bP (nb p) q)=true then 1 else 0)+(if jg P (b,q)=false/\jg P (q,bP (nb q) p)=true then 1 else 0):=by
 have C:p∈nb q:=G.sym _ _ T.hq;have u:bP (nb p) q∈nb p:=ow (λk=>by have:=T.hq;rw[k]at this;cases this);have w:bP (nb q) p∈nb q:=ow (λk=>by have:=C;rw[k]at this;cases this);have i:=G.nz _ _ T.hq;have na:=G.nz _ _ T.ha;have x:=G.nz _ _ T.hb;have D:=G.nz _ _ w;have E:=G.nz _ _ u;have F:jg P (a,p)=!(jg P (p,a)):=uH na;have H:jg P (b,q)=!(jg P (q,b)):=uH x;have I:jg P (q,p)=!(jg P (p,q)):=uH i;have J:nx nb (p,q)=(q,bP (nb q) p):=rfl;have K:nx nb (q,p)=(p,bP (nb p) q):=rfl;have M:nx nb (a,p)=(p,q):=by show(p,bP (nb p) a)=_;rw[T.na]
 have N:nx nb (b,q)=(q,p):=by show(q,bP (nb q) b)=_;rw[T.Je]
 unfold lW;rw[J,K,M,N,F,H,I];have y:=G.dir p _ _ u T.ha T.e4;have z:=G.dir q _ _ w T.hb T.c4;have m:=T.e1;have o:=T.e2;have j:=T.e3;have r:=T.c1;have t:=T.c2;have l:=T.c3;rw[Sl]at m o r t;have j:0<=aa (af (P (bP (nb p) q)) (P p)) (af (P a) (P p)):=j;have l:0<=aa (af (P (bP (nb q) p)) (P q)) (af (P b) (P q)):=l;have A:=df i;have B:=df (Zr i);have g:=uH (a:=q) (b:=p) i;refine Nn (jg P (p,a)) (jg P (p,bP (nb p) q)) (jg P (p,q)) (jg P (q,b)) (jg P (q,bP (nb q) p)) ?_ ?_ ?_ ?_;intro c f;exact X8 (BF A o m j y (XB c) (XB f));intro c f;exact X1 (Ic A (df E) (df na) o m j y (XA c) (XA f))
 ·intro c f;have:jg P (q,p)=true:=X8 (BF B t r l z (XB c) (XB f));rw[this]at g;cases h:jg P (p,q)with
  |false=>rfl
  |true=>rw[h]at g;cases g
 ·intro c f;have:jg P (q,p)=false:=X1 (Ic B (df D) (df x) t r l z (XA c) (XA f));rw[this]at g;cases h:jg P (p,q)with
  |true=>rfl
  |false=>rw[h]at g;cases g
theorem pb (G:Gr P nb) (i:q∈nb p) {l:List Dt} {d la e z:Dt} (A:l≠[]) (h:mR (nx nb) d l e) (B:l.Nodup)
  (f:∀y∈l,y.1∈nb y.2) (g:∀y∈l,y≠(p,q)) (h2:∀y∈l,y≠(q,p)) (C:e=(p,q)\/e=(q,p)) (I:z=if e=(p,q)then(p,bP (nb p) q)else(q,bP (nb q) p))
  (D:la.1∈nb la.2) (j:nx nb la=e):
  ∃x b,l=x::b/\nx nb d=x/\mR (nx (dU nb p q)) x b z/\la∈l/\
   fq (lW P (nx (dU nb p q))) l=fq (lW P (nx nb)) l-lW P (nx nb) la+(if jg P la=false/\jg P z=true then 1 else 0):=by
 have E:(p,q)≠(q,p):=λk=>G.nz p q i (by have:=X5 Prod.fst k;simp only at this;rw[this]);have step:∀y∈l,nx nb y≠e->nx (dU nb p q) y=nx nb y:=λy a m=>by
  have J:∀y∈l,nx nb y∈l\/nx nb y=e:=λy a=>by rcases Bb h y (by simp[a])with r|r;exact .inl r;exact .inr r
  have F:=(J y a).resolve_right m;rw[u6 G i (f y a) (g y a) (h2 y a),XD (g _ F),XD (h2 _ F)]
 have o:∀y∈l,nx nb y=e->nx (dU nb p q) y=z:=λy a K=>by rw[u6 G i (f y a) (g y a) (h2 y a),K,I];rcases C with k|k;rw[XG k,XG k];rw[XD (λq=>E (by rw[<-q,<-k])),XG k,XD (λq=>E (by rw[<-q,<-k]))]
 obtain⟨u,y,w,a⟩:=Pf h A;have H:y∈l:=by rw[w];simp
 have M:y=la:=wG G (f y H) D (a.trans j.symm);subst M;cases l with
 |nil=>exact absurd rfl A
 |cons x b=>
  have N:∀y∈x::b,y≠e:=λy a=>by rcases C with k|k;rw[k];exact g y a;rw[k];exact h2 y a
  refine⟨x,b,rfl,h.1,Dc h.2 (λy a m=>step y a m) (λy a=>N y (by simp[a])) (λy a k=>o y a k),H,?_⟩;rw[w]at B step o|-;have O:∀t∈u,nx nb t≠e:=λt c k=>by have:=wG G (f t (by rw[w];simp[c])) D (k.trans j.symm);subst this;exact(Y0.1 B).2.2 t c t (by simp) rfl
  rw[rP,rP];have Q:fq (lW P (nx (dU nb p q))) u=fq (lW P (nx nb)) u:=xA (λt c=>by unfold lW;rw[step t (by simp[c]) (O t c)]);have R:lW P (nx (dU nb p q)) y=if jg P y=false/\jg P z=true then 1 else 0:=(by unfold lW;rw[o y (by simp) j]);rw[Q];simp only[fq];rw[R];omega
end
variable {F:List Dt} {fs:List (List Dt)} {p q:Nat}
section
variable {P:Nat->V2} {nb:Nat->List Nat}
theorem y5 {f g:Dt->Dt}:∀{l:List Dt} {d e:Dt},mR f d l e->(∀y∈d::l,g y=f y)->mR g d l e
 |[],d,e,h,k=>(k d (by simp)).trans h
 |x::l,d,e,h,k=>⟨(k d (by simp)).trans h.1,y5 h.2 (λy a=>k y (by simp only[XF]at a|-;exact .inr a))⟩
theorem M3 {f:Dt->Dt} (h:Cy f F) {y:Dt} (a:y∈F):f y∈F:=by
 cases F with
 |nil=>cases a
 |cons d l=>rcases Bb (show mR f d l d from h) y a with r|r;simp[r];rw[r];simp
theorem M4 {f g:Dt->Dt} (h:Cy f F) (k:∀y∈F,g y=f y):Cy g F:=by
 cases F with
 |nil=>exact h
 |cons d l=>exact y5 (show mR f d l d from h) k
theorem PJ {f:Dt->Dt} (h:Cy f F) {d:Dt} (a:d∈F):∃y∈F,f y=d:=by
 obtain⟨l,b,c⟩:=DJ h a;obtain⟨j,y,g,i⟩:=w3 (show mR f d l d from c);exact⟨y,b.mem_iff.2 (by rw[g];simp),i⟩
theorem jB {d:Dt} (h:d∈fs.flatten):∃f R,f∈fs/\d∈f/\fs.Perm (f::R)/\∀x∈R,x∈fs:=by
 obtain⟨f,a,b⟩:=Zi.1 h;obtain⟨s,t,rfl⟩:=WN a;exact⟨f,s++t,a,b,WW,λx c=>by
  rcases XN.1 c with k|k;simp[k]
  ·simp[k]⟩
theorem Fc.rest {g:List (List Dt)} (G:Gr P nb) (F:Fc P nb fs) {a b:Nat} (T:Vc P nb p q a b) (j:fs.flatten.Perm ((p,q)::(q,p)::g.flatten))
  (o:∀f∈g,Cy (nx (dU nb p q)) f) (r:∀f∈g,fq (lW P (nx (dU nb p q))) f=1):Fc P (dU nb p q) g:=by
 have t:=j.nodup F.nd;obtain⟨u,w⟩:=Yy.1 t;obtain⟨x,y⟩:=Yy.1 w;have h:∀d∈g.flatten,d∈fs.flatten:=λd c=>j.mem_iff.2 (by simp[c]);have l:∀d∈g.flatten,d≠(p,q):=λd c k=>u (by rw[<-k];simp[c]);have m:∀d∈g.flatten,d≠(q,p):=λd c k=>x (by rw[<-k];exact c);refine⟨o,r,y,λd c=>?_,λd c=>?_⟩;have i:=F.rev d (h d c);rw[u6 G T.hq i (l d c) (m d c)];split;rename_i k;have e:d=(a,p):=wG G i (show a∈nb p from T.ha) (k.trans (by show _=(p,bP (nb p) a);rw[T.na]));rw[e];have:=T.e3;rw[qj]at this;exact this;split;rename_i k;have e:d=(b,q):=wG G i (show b∈nb q from T.hb) (k.trans (by show _=(q,bP (nb q) b);rw[T.Je]));rw[e];have:=T.c3;rw[qj]at this;exact this;exact F.left d (h d c);refine(fQ G.nd).2 ⟨F.rev d (h d c),λk=>m d c (WE k.2 k.1),λk=>l d c (WE k.2 k.1)⟩
theorem Fc.two (F:Fc P nb fs) (D:q∈nb p) (k:(p,q)∈fs.flatten) (h2:(q,p)∈fs.flatten) (E:El P nb p q) (G:El P nb q p):∃a b,Vc P nb p q a b:=by
 have l:∀d∈fs.flatten,∃y∈fs.flatten,nx nb y=d:=λd c=>by obtain⟨f,m,c⟩:=Zi.1 c;obtain⟨y,H,e⟩:=PJ (F.cy f m) c;exact⟨y,Zi.2 ⟨f,m,H⟩,e⟩
 obtain⟨⟨a,g⟩,o,h⟩:=l _ k;obtain⟨⟨b,i⟩,r,j⟩:=l _ h2;have I:g=p:=X5 Prod.fst h;have J:i=q:=X5 Prod.fst j;subst I J;have t:bP (nb g) a=i:=X5 Prod.snd h;have u:bP (nb i) b=g:=X5 Prod.snd j;have w:=F.rev _ o;have x:=F.rev _ r;have z:=E a w t;have A:=G b x u;have B:=F.left _ o;have C:=F.left _ r;rw[h]at B;rw[j]at C;exact⟨a,b,D,w,x,t,u,B,F.left _ h2,z.1,z.2,C,F.left _ k,A.1,A.2⟩
theorem Fc.drop (G:Gr P nb) (F:Fc P nb fs) (i:q∈nb p) (a5:(p,q)∈fs.flatten) (h2:(q,p)∈fs.flatten) (a6:El P nb p q) (a7:El P nb q p):
  ∃a8,Fc P (dU nb p q) a8/\fs.flatten.Perm ((p,q)::(q,p)::a8.flatten):=by
 obtain⟨a,b,T⟩:=F.two i a5 h2 a6 a7;have K:(p,q)≠(q,p):=λk=>G.nz p q i (by have:=X5 Prod.fst k;simp only at this;rw[this]);have a9:q≠p:=λk=>K (by rw[k]);have b0:nx nb (a,p)=(p,q):=by show(p,bP (nb p) a)=_;rw[T.na]
 have b1:nx nb (b,q)=(q,p):=by show(q,bP (nb q) b)=_;rw[T.Je]
 have f0:=T.cnt G;have b2:(p,bP (nb p) q)=if(p,q)=(p,q)then(p,bP (nb p) q)else(q,bP (nb q) p):=by rw[XG rfl]
 have b3:(q,bP (nb q) p)=if(q,p)=(p,q)then(p,bP (nb p) q)else(q,bP (nb q) p):=by rw[XD (Zr K)]
 obtain⟨b4,m,b5,c8,c9,x⟩:=jB a5;obtain⟨A,b6,d0⟩:=DJ (F.cy b4 b5) c8;have z:mR (nx nb) (p,q) A (p,q):=d0;have o:fs.flatten.Perm ((p,q)::(A++m.flatten)):=(c9.flatten).trans (by rw[Za];exact(b6.append_right _));have C:=F.one b4 b5;rw[jo _ b6]at C;simp only[fq]at C;have d1:=o.nodup F.nd;obtain⟨b7,M⟩:=Yy.1 d1;have b8:∀f∈fs,(p,q)∉f->(q,p)∉f->Cy (nx (dU nb p q)) f/\fq (lW P (nx (dU nb p q))) f=1:=λf h b9 c0=>by
  have c:∀y∈f,nx (dU nb p q) y=nx nb y:=λy g=>by have:=M3 (F.cy f h) g;rw[u6 G i (F.rev y (Zi.2 ⟨f,h,g⟩)) (λe=>b9 (by rw[<-e];exact g)) (λe=>c0 (by rw[<-e];exact g)),XD (λe=>b9 (by rw[<-e];exact this)),XD (λe=>c0 (by rw[<-e];exact this))]
  refine⟨M4 (F.cy f h) c,?_⟩;rw[<-F.one f h];refine xA λy g=>?_;unfold lW;rw[c y g]
 have r:∀y∈A,y.1∈nb y.2:=λy g=>F.rev y (o.mem_iff.2 (by simp[g]));have d2:(q,p)∈A++m.flatten:=(XF.1 (o.mem_iff.1 h2)).resolve_left (Zr K);have c1:A.Nodup:=(Y0.1 M).1;have N:∀y∈A,y≠(p,q):=λy g k=>b7 (by rw[<-k];simp[g]);rcases XN.1 d2 with k|k
 ·
  exfalso;obtain⟨D,E,rfl⟩:=WN k;obtain⟨O,Q⟩:=ph.1 z;have R:=Y0.1 c1;obtain⟨d3,d4⟩:=Yy.1 R.2.1;have S:D≠[]:=λe=>by rw[e]at O;have:bP (nb q) p=p:=X5 Prod.snd (show nx nb (p,q)=(q,p) from O);exact(a7 p (G.sym _ _ i) this).2 this
  have U:E≠[]:=λe=>by rw[e]at Q;have:bP (nb p) q=q:=X5 Prod.snd (show nx nb (q,p)=(p,q) from Q);exact(a6 q i this).2 this
  have d5:∀y∈D,y≠(q,p):=λy g e=>R.2.2 y g (q,p) (by simp) e;have d6:∀y∈E,y≠(q,p):=λy g e=>d3 (by rw[<-e];exact g);obtain⟨j,V,X,Y,H,_,d7⟩:=pb (la:=(b,q)) (P:=P) G i S O R.1 (λy g=>r y (by simp[g])) (λy g=>N y (by simp[g])) d5 (.inr rfl) b3 T.hb b1;obtain⟨l,Z,a0,a1,I,_,d8⟩:=pb (la:=(a,p)) (P:=P) G i U Q d4 (λy g=>r y (by simp[g])) (λy g=>N y (by simp[g])) d6 (.inl rfl) b2 T.ha b0;have d9:Cy (nx (dU nb p q)) D:=(by rw[X];show mR _ j V j;have e:j=(q,bP (nb q) p):=Y.symm;rw[e]at H|-;exact H);have e0:Cy (nx (dU nb p q)) E:=(by rw[a0];show mR _ l Z l;have e:l=(p,bP (nb p) q):=a1.symm;rw[e]at I|-;exact I);have e1:∀d∈D,P d.1≠P d.2:=λd a2=>G.nz _ _ (r d (by simp[a2]));have SN:∀d∈E,P d.1≠P d.2:=λd a2=>G.nz _ _ (r d (by simp[a2]));have f1:=FO (P:=P) (λd=>rfl) d9 e1;have f2:=FO (P:=P) (λd=>rfl) e0 SN;rw[rP]at C;simp only[fq]at C;omega
 ·
  obtain⟨J,t,c2,e2,e3,c3⟩:=jB k;obtain⟨B,c4,e4⟩:=DJ (F.cy J (x J c2)) e2;have a3:mR (nx nb) (q,p) B (q,p):=e4;have c5:=F.one J (x J c2);rw[jo _ c4]at c5;simp only[fq]at c5;have u:m.flatten.Perm ((q,p)::(B++t.flatten)):=(e3.flatten).trans (by rw[Za];exact(c4.append_right _));have e5:=u.nodup (Y0.1 M).2.1;obtain⟨a4,e6⟩:=Yy.1 e5;have Ew:B.Nodup:=(Y0.1 e6).1;have Ez:∀y∈m.flatten,y∈fs.flatten/\y≠(p,q):=λy g=>⟨o.mem_iff.2 (by simp[g]),λe=>b7 (by rw[<-e];simp[g])⟩;have c6:∀y∈B,y∈m.flatten:=λy g=>u.mem_iff.2 (by simp[g]);have S:A≠[]:=λe=>by rw[e]at z;exact a9 (X5 Prod.fst (show nx nb (p,q)=(p,q) from z))
  have U:B≠[]:=λe=>by rw[e]at a3;exact a9 (X5 Prod.fst (show nx nb (q,p)=(q,p) from a3)).symm
  have e7:∀y∈A,y≠(q,p):=λy g e=>(Y0.1 M).2.2 y g (q,p) k e;obtain⟨j,V,X,Y,H,_,d7⟩:=pb (la:=(a,p)) (P:=P) G i S z c1 r N e7 (.inl rfl) b2 T.ha b0;obtain⟨l,Z,a0,a1,I,_,d8⟩:=pb (la:=(b,q)) (P:=P) G i U a3 Ew (λy g=>F.rev y (Ez y (c6 y g)).1) (λy g=>(Ez y (c6 y g)).2) (λy g e=>a4 (by rw[<-e];simp[g])) (.inr rfl) b3 T.hb b1;have c7:fs.flatten.Perm ((p,q)::(q,p)::((A++B)::t).flatten):=(by refine o.trans (.cons _ ?_);refine(u.append_left A).trans ?_;rw[Za];refine List.perm_middle.trans (.cons _ ?_);rw[Yk]);refine⟨(A++B)::t,F.rest G T c7 ?_ ?_,c7⟩
  ·intro f h;rcases XF.1 h with rfl|h;have e8:j=(q,bP (nb q) p):=Y.symm;have e9:l=(p,bP (nb p) q):=a1.symm;rw[X,a0];show mR _ j (V++l::Z) j;refine ph.2 ⟨?_,?_⟩;rw[e9];exact H;rw[e8];exact I
   ·have w:∀y∈f,y∈t.flatten:=λy g=>Zi.2 ⟨f,h,g⟩;exact(b8 f (x f (c3 f h)) (λe=>(Ez _ (u.mem_iff.2 (by simp[w _ e]))).2 rfl) (λe=>a4 (by simp[w _ e]))).1
  ·intro f h;rcases XF.1 h with rfl|h;rw[rP];omega
   ·have w:∀y∈f,y∈t.flatten:=λy g=>Zi.2 ⟨f,h,g⟩;exact(b8 f (x f (c3 f h)) (λe=>(Ez _ (u.mem_iff.2 (by simp[w _ e]))).2 rfl) (λe=>a4 (by simp[w _ e]))).2
end
def nj (a b:V2):Prop:=(fa a/\¬fa b)\/((fa a↔fa b)/\0<aa a b)
theorem By {a b c:Int} {X Y Z:V2} (f:0<a) (g:0<=b) (h:0<=c) (i:b≠0\/c≠0) (j:X≠⟨0,0⟩) (k:Y≠⟨0,0⟩) (l:Z≠⟨0,0⟩) (ex:a*X.x=b*Y.x+c*Z.x) (p:a*X.y=b*Y.y+c*Z.y) (m:¬fa Y) (o:¬fa Z):¬fa X:=by
 rw[<-fz j];refine lV (Y:=eH Y) (Z:=eH Z) f g h i ?_ ?_ ((fz k).2 m) ((fz l).2 o);simp only[eH,YH];omega;simp only[eH,YH];omega
theorem dP (a b:V2):aa a b= -aa b a:=by simp only[aa];grind
theorem gY (a:V2):aa a a=0:=by simp only[aa];grind
section
variable {R W X:V2}
theorem Sk (R W X:V2):(aa R W*X.x=aa R X*W.x+(-aa W X)*R.x/\aa R W*X.y=aa R X*W.y+(-aa W X)*R.y)/\(aa W X*R.x=aa R X*W.x+(-aa R W)*X.x/\aa W X*R.y=aa R X*W.y+(-aa R W)*X.y):=by
 refine⟨⟨?_,?_⟩,?_,?_⟩<;>(simp only[aa];grind)
theorem Ls (g:R≠⟨0,0⟩) (h:W≠⟨0,0⟩) (i:X≠⟨0,0⟩) (t:0<aa R X) (b:nj R W) (h2:nj W X):0<aa R W/\0<aa W X:=by
 obtain⟨⟨j,l⟩,m,o⟩:=Sk R W X;unfold nj at b h2;by_cases a:fa W;have p:fa R:=(by rcases b with q|q;exact q.1;exact q.1.2 a);have c:0<aa R W:=(by rcases b with q|q;exact absurd a q.2;exact q.2);refine⟨c,?_⟩;rcases h2 with q|q;refine Xz λk=>q.2 ?_;exact lV c (by omega) (by omega) (by omega) j l a p;exact q.2
 ·have r:¬fa X:=λk=>by rcases h2 with q|q;exact a q.1;exact a (q.1.2 k)
  have f:0<aa W X:=(by rcases h2 with q|q;exact absurd q.1 a;exact q.2);refine⟨?_,f⟩;rcases b with q|q;refine Xz λk=>?_;exact By f (by omega) (by omega) (by omega) g h i m o a r q.1;exact q.2
theorem QE (h:R≠⟨0,0⟩) (i:W≠⟨0,0⟩) (j:X≠⟨0,0⟩) (l:0<aa R X) (a:nj W X) (h2:nj X R):0<aa R W/\0<aa W X:=by
 obtain⟨⟨m,o⟩,c,f⟩:=Sk R W X;have p:=dP R X;unfold nj at a h2;have h2:fa X/\¬fa R:=by rcases h2 with q|q;exact q;omega
 have g:fa W:=by rcases a with q|q;exact q.1;exact q.1.2 h2.1
 have b:0<aa W X:=by rcases a with q|q;exact absurd h2.1 q.2;exact q.2
 refine⟨?_,b⟩;refine Xz λk=>h2.2 ?_;exact lV b (by omega) (by omega) (by omega) c f g h2.1
theorem QD (c:R≠⟨0,0⟩) (f:W≠⟨0,0⟩) (g:X≠⟨0,0⟩) (l:0<aa R X) (a:nj X R) (h2:nj R W):0<aa R W/\0<aa W X:=by
 obtain⟨⟨h,i⟩,m,o⟩:=Sk R W X;have p:=dP R X;unfold nj at a h2;have a:fa X/\¬fa R:=by rcases a with q|q;exact q;omega
 have j:¬fa W:=λk=>by rcases h2 with q|q;exact a.2 q.1;exact a.2 (q.1.2 k)
 have b:0<aa R W:=by rcases h2 with q|q;exact absurd q.1 a.2;exact q.2
 refine⟨b,?_⟩;refine Xz λk=>?_;exact By b (by omega) (by omega) (by omega) g f c h i j a.2 a.1
end
theorem CG {b x:Nat}:∀{l:List Nat},x∈l->(∃t,l=x::t)\/∃s w t,l=s++w::x::t/\pv b l x=w
 |[],h=>by cases h
 |y::r,h=>by by_cases c:y=x;subst c;exact .inl ⟨r,rfl⟩;right;have a:=(XF.1 h).resolve_left (Zr c);rcases CG (b:=y) a with⟨t,rfl⟩|⟨s,w,t,e,f⟩;exact⟨[],y,t,rfl,by simp[pv,c]⟩;refine⟨y::s,w,t,by rw[e];rfl,?_⟩;rw[<-f];simp only[pv];rw[XD c]
theorem tU {b:Nat}:∀{l:List Nat},l≠[]->∃s,l=s++[eb b l]
 |[],h=>absurd rfl h
 |[y],_=>⟨[],rfl⟩
 |y::z::r,_=>by obtain⟨s,e⟩:=tU (b:=y) (l:=z::r) (by simp);exact⟨y::s,by rw[YG,<-show z::r=s++[eb b (y::z::r)] from e]⟩
theorem w2 {a:V2}:¬nj a a:=by
 unfold nj;rw[gY];rintro(⟨b,c⟩|⟨_,h⟩);exact c b;omega
variable {p:Nat}
theorem PQ {l:List Nat} {g:Nat->V2} (hs:l.Pairwise λi k=>nj (g i) (g k)) (q:∀i∈l,g i≠⟨0,0⟩) {r:Nat} (h:p∈l) (a:r∈l) (j:0<aa (g r) (g p))
  (F:∀y∈l,¬(0<aa (g r) (g y)/\0<aa (g y) (g p))):bP l p=r:=by
 refine Xz λm=>?_;have C:bP l p∈l:=ow (λk=>by rw[k]at h;cases h);have c:=F _ C;have u:=q p h;have x:=q r a;have f:=q _ C;have z:r≠p:=λe=>by rw[e,gY]at j;omega
 rcases CG (b:=eb 0 l) h with⟨t,e⟩|⟨s,w,t,e,G⟩
 ·have H:t≠[]:=λk=>by rw[e,k]at a;exact z (YB.1 a)
  obtain⟨s,I⟩:=tU (b:=p) H;have A:bP l p=eb p t:=(by unfold bP;rw[e];simp[pv,eb]);rw[A]at m c f;rw[e]at hs a;have B:=(XF.1 a).resolve_left z;obtain⟨D,o⟩:=YJ.1 hs;have J:=D r B;rw[I]at B o;rcases XN.1 B with k|k;have K:=(Zw.1 o).2.2 r k _ (YB.2 rfl);exact c (QD x f u j J K);exact m (YB.1 k).symm
 ·have A:bP l p=w:=G;rw[A]at m c f;rw[e]at hs a;obtain⟨D,o,M⟩:=Zw.1 hs;obtain⟨N,O⟩:=YJ.1 o;obtain⟨P,Q⟩:=YJ.1 O;have E:=N p (by simp);rcases XN.1 a with k|k;exact c (Ls x f u j (M r k w (by simp)) E);rcases XF.1 k with k|k;exact m k.symm;rcases XF.1 k with k|k;exact z k;exact c (QE x f u j E (P r k))
def eA (P:Nat->V2) (l:List Dt):Ed:=l.map λd=>(P d.1,P d.2)
def iK (d:Dt):Dt:=(d.2,d.1)
def oh (EI DI:List Dt):List Dt:=EI++(DI++DI.map iK)
structure tA (P:Nat->V2) (n:Nat) (EI DI:List Dt) (nb:Nat->List Nat):Prop where
 inj:∀i k,i<n->k<n->P i=P k->i=k
 lt:∀d∈EI++DI,d.1<n/\d.2<n
 mem:∀p y,y∈nb p↔(p,y)∈EI++DI\/(y,p)∈EI++DI
 oN:∀p,(nb p).Pairwise λi k=>nj (af (P i) (P p)) (af (P k) (P p))
theorem gX (P:Nat->V2) (a b:List Dt):eA P (a++b)=eA P a++eA P b:=Ys ..
variable {q:Nat}
section
variable {P:Nat->V2} {n:Nat} {EI DI:List Dt} {nb:Nat->List Nat}
theorem dL {l:List Dt} {d:Dt} (h:d∈l):(P d.1,P d.2)∈eA P l:=XQ.2 ⟨d,h,rfl⟩
theorem tA.back (G:tA P n EI DI nb) (c:p<n) (f:q<n) {l:List Dt} (b:∀d∈l,d∈EI++DI) (h:(P p,P q)∈eA P l):(p,q)∈l:=by
 obtain⟨d,a,e⟩:=XQ.1 h;have g:=X5 Prod.fst e;have i:=X5 Prod.snd e;have:=G.lt d (b d a);have:=G.inj _ _ this.1 c g;have:=G.inj _ _ (G.lt d (b d a)).2 f i;have:d=(p,q):=WE (by assumption) (by assumption);rw[<-this];exact a
theorem tA.qR (G:tA P n EI DI nb):q∈nb p->p<n/\q<n/\oB (eA P EI) (eA P DI) (P p) (P q):=λh=>by
 rcases(G.mem p q).1 h with k|k;exact⟨(G.lt _ k).1,(G.lt _ k).2,.inl (by rw[<-gX];exact dL k)⟩;exact⟨(G.lt _ k).2,(G.lt _ k).1,.inr (by rw[<-gX];exact dL k)⟩
theorem tA.Fl (G:tA P n EI DI nb) (a:p<n) (b:q<n) (h:oB (eA P EI) (eA P DI) (P p) (P q)):q∈nb p:=by
 refine(G.mem p q).2 ?_;unfold oB at h;rw[<-gX]at h;rcases h with h|h;exact .inl (G.back a b (λ_ k=>k) h);exact .inr (G.back b a (λ_ k=>k) h)
theorem tA.tg (G:tA P n EI DI nb) (h:(p,q)∈oh EI DI):p<n/\q<n/\uE (eA P EI) (eA P DI) (P p) (P q):=by
 unfold oh at h;rcases XN.1 h with k|k;have:=G.lt _ (X0 DI k);exact⟨this.1,this.2,.inl (dL k)⟩;rcases XN.1 k with k|k;have:=G.lt _ (XY EI k);exact⟨this.1,this.2,.inr (.inl (dL k))⟩;obtain⟨d,a,e⟩:=XQ.1 k;have:=G.lt _ (XY EI a);have b:d.2=p:=X5 Prod.fst e;have c:d.1=q:=X5 Prod.snd e;subst b c;exact⟨this.2,this.1,.inr (.inr (dL a))⟩
theorem tA.G2 (G:tA P n EI DI nb) (a:p<n) (b:q<n) (h:uE (eA P EI) (eA P DI) (P p) (P q)):(p,q)∈oh EI DI:=by
 unfold oh;rcases h with h|h|h;exact X0 _ (G.back a b (λ_ k=>X0 _ k) h);exact XY _ (X0 _ (G.back a b (λ_ k=>XY _ k) h));exact XY _ (XY _ (XQ.2 ⟨(q,p),G.back b a (λ_ k=>XY _ k) h,rfl⟩))
theorem Hd {E D:Ed} (h:Dis E D) {q x y:V2} (c:oB E D q x) (f:oB E D q y) (g:x≠y):¬(aa (af x q) (af y q)=0/\0<ay (af x q) (af y q)):=by
 rintro⟨r,t⟩;have i:∀{a b:V2},oB E D q a->oB E D q b->a≠b->aV q b a->False:=λ{a b} j u l m=>by have o:=(j.vx h).2;have p:=j.ne h;rcases u with k|k;rcases h.kU o k m with e|e;exact p e.symm;exact l e;rcases h.kU o k (au.1 m)with e|e;exact l e;exact p e.symm
 rcases AO q r t with k|k;rw[cj,cj]at k;exact i c f g k;rw[cj,cj]at k;exact i f c g.symm k
theorem tA.gr (G:tA P n EI DI nb) (h:Dis (eA P EI) (eA P DI)):Gr P nb where
 nd:=λp=>(G.oN p).imp (λ{a b} k e=>by rw[e]at k;exact w2 k)
 nz:=λp q c=>λe=>(G.qR c).2.2.ne h e.symm
 sym:=λp q c=>(G.mem q p).2 ((G.mem p q).1 c).symm
 dir:=λp a b f g i=>Hd h (G.qR f).2.2 (G.qR g).2.2 (λe=>i (G.inj _ _ (G.qR f).2.1 (G.qR g).2.1 e))
theorem tA.vx (G:tA P n EI DI nb) {v:V2} (h:Vx (eA P EI) v):∃i,i<n/\P i=v:=by
 obtain⟨e,a,rfl⟩:=h;obtain⟨d,b,rfl⟩:=XQ.1 a;exact⟨d.1,(G.lt d (X0 _ b)).1,rfl⟩
theorem tA.next (G:tA P n EI DI nb) (h:pR (eA P EI) (eA P DI)) {r:Nat} (b:p<n) (a:q<n) (c:r<n) (K:Kn (eA P EI) (eA P DI) (P p) (P q) (P r)):nx nb (p,q)=(q,r):=by
 have f:p∈nb q:=G.Fl a b K.tg.qR;have j:r∈nb q:=G.Fl a c K.qR;have:=PQ (l:=nb q) (g:=λi=>af (P i) (P q)) (G.oN q) (λi k=>df ((G.gr h.toDis).nz _ _ k)) f j (by rw[vJ];exact K.left) (λy m=>K.free _ (G.qR m).2.2);show(q,bP (nb q) p)=(q,r);rw[this]
theorem tA.three (G:tA P n EI DI nb) (h:pR (eA P EI) (eA P DI)) {d:Dt} (j:d∈oh EI DI):∃r,nx nb d=(d.2,r)/\nx nb (d.2,r)=(r,d.1)/\nx nb (r,d.1)=d/\(d.2,r)∈oh EI DI/\(r,d.1)∈oh EI DI/\d.1≠d.2/\d.2≠r/\r≠d.1/\0<ai (P d.1) (P d.2) (P r):=by
 obtain⟨p,q⟩:=d;obtain⟨b,c,k⟩:=G.tg j;obtain⟨l,K⟩:=h.fZ k;obtain⟨r,a,rfl⟩:=G.vx (K.qR.vx h.toDis).2;have f:=K.next h;have i:=f.next h;have g:=K.ne h.toDis;exact⟨r,G.next h b c a K,G.next h c a b f,G.next h a b c i,G.G2 c a f.tg,G.G2 a b i.tg,λe=>g.1 (by simp only at e;rw[e]),λe=>g.2.1 (by simp only at e;rw[e]),λe=>g.2.2 (by simp only at e;rw[e]),K.left⟩
end
theorem yy (f:Dt->Dt):∀(k:Nat) (I:List Dt),I.length<=k->I.Nodup->(∀d∈I,f d∈I/\f (f (f d))=d/\f d≠d)->∃j:List (List Dt),j.flatten.Perm I/\∀g∈j,∃d∈I,g=[d,f d,f (f d)]
 |_,[],_,_,_=>⟨[],.refl _,λg c=>by cases c⟩
 |0,_::_,h,_,_=>by simp at h
 |k+1,d::I,w,y,m=>by
  obtain⟨z,o⟩:=Yy.1 y;have a:=m d (by simp);have l:=m (f d) a.1;have q:f d≠d:=a.2.2;have A:f (f d)≠f d:=l.2.2;have B:f (f d)≠d:=λe=>by have:=a.2.1;rw[e]at this;exact q this
  have r:f d∈I:=(XF.1 a.1).resolve_left q;have C:f (f d)∈I:=(XF.1 l.1).resolve_left B;have t:f (f d)∈I.erase (f d):=(Xw A).2 C;have p:=o.erase (f d);have u:∀x∈(I.erase (f d)).erase (f (f d)),x∈I/\x≠f d/\x≠f (f d):=λx b=>by obtain⟨D,E⟩:=(p.mem_erase_iff).1 b;obtain⟨F,G⟩:=(o.mem_erase_iff).1 E;exact⟨G,F,D⟩
  obtain⟨j,H,J⟩:=yy f k ((I.erase (f d)).erase (f (f d))) (by have Q:=List.length_erase_of_mem r;have R:=List.length_erase_of_mem t;simp only[XZ]at w;omega) (p.erase _) (λx b=>by obtain⟨b,K,M⟩:=u x b;have i:=m x (by simp[b]);refine⟨?_,i.2⟩;have N:f x≠d:=λe=>M (by rw[<-i.2.1,e]);have O:f x≠f d:=λe=>z (by rw[<-a.2.1,<-e,i.2.1];exact b);have P:f x≠f (f d):=λe=>K (by rw[<-i.2.1,e,a.2.1]);exact(p.mem_erase_iff).2 ⟨P,(o.mem_erase_iff).2 ⟨O,(XF.1 i.1).resolve_left N⟩⟩);refine⟨[d,f d,f (f d)]::j,?_,λg c=>?_⟩;rw[Za];refine .cons _ ?_;refine aaz ?_ (Wz r).symm;refine .cons _ ?_;refine aaz ?_ (Wz t).symm;exact .cons _ H;rcases XF.1 c with rfl|c;exact⟨d,by simp,rfl⟩;obtain⟨e,l,rfl⟩:=J g c;exact⟨e,by simp[(u e l).1],rfl⟩
section
variable {P:Nat->V2} {n:Nat} {EI DI:List Dt} {nb:Nat->List Nat}
theorem Ug (a b c:Bool):(if a=false/\b=true then(1:Int)else 0)+((if b=false/\c=true then 1 else 0)+((if c=false/\a=true then 1 else 0)+0))<=1:=by
 cases a<;>cases b<;>cases c<;>decide
theorem tA.TU (G:tA P n EI DI nb) (h:pR (eA P EI) (eA P DI)) (o:(oh EI DI).Nodup):∃i,Fc P nb i/\i.flatten.Perm (oh EI DI):=by
 have g:=G.gr h.toDis;have three:=λd a=>G.three h (d:=d) a;obtain⟨i,j,p⟩:=yy (nx nb) _ (oh EI DI) (XP _) o (λd a=>by obtain⟨r,b,k,l,t,A,u,_⟩:=three d a;rw[b,k,l];exact⟨t,rfl,λe=>u (X5 Prod.fst e).symm⟩);have rev:∀d∈oh EI DI,d.1∈nb d.2:=λd a=>by obtain⟨w,x,y⟩:=G.tg a;exact G.Fl x w y.qR
 have q:∀f∈i,Cy (nx nb) f:=λf m=>by obtain⟨d,a,rfl⟩:=p f m;obtain⟨r,b,k,l,_⟩:=three d a;refine⟨rfl,rfl,?_⟩;rw[b,k];exact l
 refine⟨i,⟨q,λf m=>?_,j.symm.nodup o,λd a=>?_,λd a=>rev d (j.mem_iff.1 a)⟩,j⟩;have c:=FO (P:=P) (λd=>rfl) (q f m) (λd a=>g.nz _ _ (rev d (j.mem_iff.1 (Zi.2 ⟨f,m,a⟩))));obtain⟨d,a,rfl⟩:=p f m;obtain⟨r,b,k,l,_⟩:=three d a;have z:=Ug (jg P d) (jg P (nx nb d)) (jg P (nx nb (nx nb d)));have e:fq (lW P (nx nb)) [d,nx nb d,nx nb (nx nb d)]<=1:=(by simp only[fq];unfold lW;have:nx nb (nx nb (nx nb d))=d:=(by rw[b,k,l]);rw[this];exact z);omega;obtain⟨r,b,_,_,_,_,_,_,_,e⟩:=three d (j.mem_iff.1 a);rw[b];exact XO e
theorem xu (h:Dis (eA P EI) (eA P DI)) (q:EI.Nodup) (l:DI.Nodup):(oh EI DI).Nodup:=by
 have m:∀{a b:Nat},(a,b)∈EI++DI->(b,a)∈EI++DI->False:=λ{a b} g c=>by have o:(P a,P b)∈eA P EI++eA P DI:=(by rw[<-gX];exact dL g);have r:(P b,P a)∈eA P EI++eA P DI:=(by rw[<-gX];exact dL c);have p:=(h.ends o).2.2;have:=h.side o r (λe=>p (X5 Prod.fst e));exact pE p (this.sym.swap.sym)
 have t:∀{d:Dt},d∈EI->d∈DI->False:=λ{d} g c=>by have:=h.ae _ (dL c) _ (dL (P:=P) g);exact pE (h.vd _ (dL c)).2.2 this
 unfold oh;refine Y0.2 ⟨q,Y0.2 ⟨l,?_,?_⟩,?_⟩;exact ZE.2 (l.imp (λ{a b} k e=>k (by have u:a.2=b.2:=X5 Prod.fst e;have w:a.1=b.1:=X5 Prod.snd e;exact WE w u)));intro a f b i e;subst e;obtain⟨d,j,rfl⟩:=XQ.1 i;exact m (a:=d.1) (b:=d.2) (XY _ j) (XY _ f);intro a f b i e;subst e;rcases XN.1 i with k|k;exact t f k;obtain⟨d,j,rfl⟩:=XQ.1 k;exact m (a:=d.1) (b:=d.2) (XY _ j) (X0 _ f)
end
def ns (d v:V2):Bool:=decide (0<aa d v\/(aa d v=0/\0<ay d v))
def bn (v:V2):Bool:=decide (fa v)
def jG (a b:V2):Bool:=(bn a&&!bn b)||(bn a==bn b&&decide (0<aa a b))
def hp (p:V2->Bool) (x y:V2):Int:=if p x=false/\p y=true then 1 else 0
def Be (p:V2->Bool):V2->LV->Int
 |_,[]=>0
 |x,y::r=>hp p x y+Be p y r
def U2:V2->LV->Prop
 |_,[]=>True
 |x,y::r=>0<aa x y/\U2 y r
theorem js {v:V2}:bn v=true↔fa v:=decide_eq_true_iff
theorem ke {v:V2}:bn v=false↔¬fa v:=Zu
variable {x:V2}
theorem Lp {d:V2} (f:d≠⟨0,0⟩) (i:x≠⟨0,0⟩) (h:aa d x=0):0<ay d x↔bn x=bn d:=by
 have ex:ay d d*x.x=ay d x*d.x:=by simp only[aa,ay]at h|-;grind
 have b:ay d d*x.y=ay d x*d.y:=by simp only[aa,ay]at h|-;grind
 have g:=cg f;have m:ay d x≠0:=λk=>by rw[k,Yb]at ex b;exact i (V2.ext ((mz ex).resolve_left (by omega)) ((mz b).resolve_left (by omega)))
 by_cases c:0<ay d x;refine⟨λ_=>?_,λ_=>c⟩;have:fa x↔fa d:=(by rw[<-up_mul g,ex,b,up_mul c]);unfold bn;exact Yj.2 this;refine⟨λk=>absurd k c,λk=>?_⟩;exfalso;have j:0< -ay d x:=(by omega);have:fa x↔fa (eH d):=(by rw[<-up_mul g,<-up_mul (X:=eH d) j,ex,b];simp only[eH,WJ]);rw[fz f]at this;have l:=Yj.1 k;exact(aag (a:=fa d)) (l.symm.trans this)
variable {a:Int}
theorem NU {b c:Int} {X Y Z:V2} (m:X≠⟨0,0⟩) (o:Y≠⟨0,0⟩) (p:Z≠⟨0,0⟩) (f:0<a) (g:0<=b) (i:0<=c) (j:b≠0\/c≠0) (ex:a*X.x=b*Y.x+c*Z.x) (l:a*X.y=b*Y.y+c*Z.y) (h:bn Y=bn Z):bn X=bn Y:=by
 cases k:bn Y with
 |true=>rw[k]at h;exact js.2 (lV f g i j ex l (js.1 k) (js.1 h.symm))
 |false=>rw[k]at h;exact ke.2 (By f g i j m o p ex l (ke.1 k) (ke.1 h.symm))
def bI (b:Bool):Int:=if b then 1 else 0
def sO (a:Int):Ordering:=if a<0 then .lt else if a=0 then .eq else .gt
theorem tI (h:a<0):sO a= .lt:=XG h
theorem yO (h:a=0):sO a= .eq:=by unfold sO;rw[iN,XG h]
theorem tJ (h:0<a):sO a= .gt:=by unfold sO;rw[iN,iN]
def V1:Ordering->Ordering->Bool->Bool->Bool->Bool
 | .lt,.lt,x,y,d=>!(d==x)||(y==d)
 | .lt,.eq,_,y,d=>d==y
 | .lt,.gt,x,y,d=>!(x==y)||(d==x)
 | .eq,.lt,x,_,d=>d==!x
 | .eq,.eq,_,_,_=>false
 | .eq,.gt,x,_,d=>d==x
 | .gt,.lt,x,y,d=>!((d==x)&&(y==x))
 | .gt,.eq,_,y,d=>d==!y
 | .gt,.gt,x,y,d=>!(d==y)||(x==d)
def oU (s:Ordering) (x d:Bool):Bool:=s== .gt||(s== .eq&&x==d)
def oL (s:Ordering) (x d:Bool):Bool:=(x&&!d)||(x==d&&s== .lt)
theorem PV (a b:Ordering) (x y d:Bool) (h:V1 a b x y d=true):(if x=false/\y=true then(1:Int)else 0)-(if oU a x d=false/\oU b y d=true then 1 else 0)=bI (oL b y d)-bI (oL a x d):=by
 revert h;cases a<;>cases b<;>cases x<;>cases y<;>cases d<;>decide
theorem Qj {d v:V2} (a:d≠⟨0,0⟩) (b:v≠⟨0,0⟩):ns d v=oU (sO (aa d v)) (bn v) (bn d):=by
 unfold ns oU;rcases YF (aa d v) 0 with k|k|k;rw[tI k];simp only[show¬(0<aa d v) by omega,show¬(aa d v=0) by omega,false_and,or_self];rfl
 ·rw[yO k];have:=Lp a b k;rw[k];cases h:bn v==bn d with
  |true=>have:=this.2 (by simpa using h);simp[this]
  |false=>
   have:¬0<ay d v:=λq=>by have:=this.1 q;simp[this]at h
   simp[this]
 ·rw[tJ k];simp[k]
theorem QI {d v:V2}:jG v d=oL (sO (aa d v)) (bn v) (bn d):=by
 unfold jG oL;have a:=dP v d;rcases YF (aa d v) 0 with k|k|k;rw[tI k];simp[show 0<aa v d by omega];rw[yO k];simp[show¬0<aa v d by omega];rw[tJ k];simp[show¬0<aa v d by omega]
variable {y:V2}
theorem Sm {d:V2} (f:d≠⟨0,0⟩) (o:x≠⟨0,0⟩) (l:y≠⟨0,0⟩) (p:0<aa x y):V1 (sO (aa d x)) (sO (aa d y)) (bn x) (bn y) (bn d)=true:=by
 have ex:aa x y*d.x= -aa d x*y.x+aa d y*x.x:=by simp only[aa];grind
 have m:aa x y*d.y= -aa d x*y.y+aa d y*x.y:=by simp only[aa];grind
 generalize aa x y=c at p ex m;generalize aa d x=a at ex m;generalize aa d y=b at ex m;have g:∀{s t:Int},-s*t= -(s*t):=λ{s t}=>ZF s t;rw[g]at ex m;rcases YF a 0 with i|i|i<;>rcases YF b 0 with j|j|j
 ·rw[tI i,tI j];have:bn d=bn x->bn y=bn d:=λh=>NU l f o (a:= -a) (b:=c) (c:= -b) (by omega) (by omega) (by omega) (by omega) (by rw[g,g];omega) (by rw[g,g];omega) h;revert this;cases bn x<;>cases bn y<;>cases bn d<;>decide
 ·rw[tI i,yO j];rw[j,Yb]at ex m;have:bn d=bn y:=NU f l l (a:=c) (b:= -a) (c:=0) p (by omega) (by omega) (by omega) (by rw[g,Yb];omega) (by rw[g,Yb];omega) rfl;rw[this];cases bn y<;>rfl
 ·rw[tI i,tJ j];have:bn y=bn x->bn d=bn y:=λh=>NU f l o (a:=c) (b:= -a) (c:=b) p (by omega) (by omega) (by omega) (by rw[g];omega) (by rw[g];omega) h;revert this;cases bn x<;>cases bn y<;>cases bn d<;>decide
 ·rw[yO i,tI j];rw[i,Yb]at ex m;have:bn (eH d)=bn x:=NU (wK f) o o (a:=c) (b:= -b) (c:=0) p (by omega) (by omega) (by omega) (by simp only[eH,YH,Yb];rw[g];omega) (by simp only[eH,YH,Yb];rw[g];omega) rfl;have n:=fz f;have:bn d=!bn x:=by
   rw[<-this];cases k:bn d with
   |true=>rw[ke.2 (λq=>(n.1 q) (js.1 k))];rfl
   |false=>rw[js.2 (n.2 (ke.1 k))];rfl
  rw[this];cases bn x<;>rfl
 ·exfalso;rw[i,j,Yb,Yb]at ex m;exact f (V2.ext ((mz (show c*d.x=0 by omega)).resolve_left (by omega)) ((mz (show c*d.y=0 by omega)).resolve_left (by omega)))
 ·rw[yO i,tJ j];rw[i,Yb]at ex m;have:bn d=bn x:=NU f o o (a:=c) (b:=b) (c:=0) p (by omega) (by omega) (by omega) (by rw[Yb];omega) (by rw[Yb];omega) rfl;rw[this];cases bn x<;>rfl
 ·rw[tJ i,tI j];have:bn d=bn x->bn y=bn x->False:=λh w=>by
   have u:∀{t:V2},(fa t↔fa x)->t≠⟨0,0⟩->(fa (eH t)↔¬fa x):=λ{t} q n=>by rw[fz n,q]
   have z:bn (eH d)=bn (eH y):=(by have r:=u (Yj.1 h) f;have A:=u (Yj.1 w) l;exact Yj.2 (r.trans A.symm));have:=NU o (wK f) (wK l) (a:= -b) (b:=c) (c:=a) (by omega) (by omega) (by omega) (by omega) (by simp only[eH,YH];rw[g];omega) (by simp only[eH,YH];rw[g];omega) z;have r:=u (Yj.1 h) f;have B:=Yj.1 this;exact(aag (a:=fa x)) (B.trans r)
  revert this;cases bn x<;>cases bn y<;>cases bn d<;>decide
 ·rw[tJ i,yO j];rw[j,Yb]at ex m;have:bn (eH d)=bn y:=NU (wK f) l l (a:=c) (b:=a) (c:=0) p (by omega) (by omega) (by omega) (by simp only[eH,YH,Yb];omega) (by simp only[eH,YH,Yb];omega) rfl;have n:=fz f;have:bn d=!bn y:=by
   rw[<-this];cases k:bn d with
   |true=>rw[ke.2 (λq=>(n.1 q) (js.1 k))];rfl
   |false=>rw[js.2 (n.2 (ke.1 k))];rfl
  rw[this];cases bn y<;>rfl
 ·rw[tJ i,tJ j];have:bn d=bn y->bn x=bn d:=λh=>NU o f l (a:=b) (b:=c) (c:=a) (by omega) (by omega) (by omega) (by omega) (by omega) (by omega) h;revert this;cases bn x<;>cases bn y<;>cases bn d<;>decide
theorem CU (h:0<aa x y):x≠⟨0,0⟩/\y≠⟨0,0⟩:=by
 refine⟨λe=>?_,λe=>?_⟩;rw[e,gz]at h;omega;rw[e,dP,gz]at h;omega
theorem zA {d:V2} (a:d≠⟨0,0⟩) (b:0<aa x y):hp bn x y-hp (ns d) x y=bI (jG y d)-bI (jG x d):=by
 obtain⟨c,f⟩:=CU b;have:=PV _ _ _ _ _ (Sm a c f b);rw[<-Qj a c,<-Qj a f,<-QI,<-QI]at this;exact this
theorem Nh (p:V2->Bool) (x y:V2):0<=hp p x y:=by unfold hp;split<;>omega
abbrev bc (Q:Nat->V2) (i:Nat):V2:=af (Q (i+1)) (Q i)
structure oD (n:Nat) (Q:Nat->V2):Prop where
 n3:3<=n
 hZ:∀i,Q (i+n)=Q i
 left:∀i,0<aa (bc Q i) (bc Q (i+1))
 one:aT n (λi=>hp bn (bc Q i) (bc Q (i+1)))=1
theorem vQ {n:Nat} {f:Nat->Int} (h:∀i,f (i+n)=f i):∀j,aT n (λi=>f (j+i))=aT n f
 |0=>bA (λi _=>by rw[X6])
 |j+1=>by have a:=gg (λi=>f (j+i)) 1 n;have b:=gg (λi=>f (j+i)) n 1;rw[Zm 1 n,b]at a;simp only[aT,YR]at a;have e:aT n (λi=>f (j+1+i))=aT n (λi=>f (j+(1+i))):=bA (λi _=>by rw[YQ]);rw[e,<-vQ h j];rw[h j]at a;omega
theorem GW (p:Nat->Bool) (g:p 0=true):∀k,aT k (λt=>if p t=false/\p (t+1)=true then 1 else 0)=0->∃m,∀t,t<=k->(p t=true↔t<m)
 |0,_=>⟨1,λt b=>by rw[show t=0 by omega,g];simp⟩
 |k+1,h=>by
  simp only[aT]at h;have j:0<=aT k (λt=>if p t=false/\p (t+1)=true then(1:Int)else 0):=by
   clear h;induction k with
   |zero=>exact Yc _
   |succ k i=>have:=i;simp only[aT];split<;>omega
  have c:¬(p k=false/\p (k+1)=true):=λc=>by rw[XG c]at h;omega
  rw[XD c]at h;obtain⟨m,a⟩:=GW p g k (by omega);cases q:p (k+1)with
  |true=>
   have:p k=true:=by
    cases r:p k with
    |true=>rfl
    |false=>exact absurd ⟨r,q⟩ c
   have:=(a k (by omega)).1 this;refine⟨m+k+2,λt b=>?_⟩;by_cases e:t=k+1;rw[e,q];exact⟨λ_=>by omega,λ_=>rfl⟩;have f:=a t (by omega);exact⟨λ_=>by omega,λ_=>f.2 (by omega)⟩
  |false=>by_cases l:m<=k+1;refine⟨m,λt b=>?_⟩;by_cases e:t=k+1;rw[e,q];exact⟨λh=>by simp at h,λh=>by omega⟩;exact a t (by omega);refine⟨k+1,λt b=>?_⟩;by_cases e:t=k+1;rw[e,q];exact⟨λh=>by simp at h,λh=>by omega⟩;have f:=a t (by omega);exact⟨λ_=>by omega,λ_=>f.2 (by omega)⟩
variable {i j k:Nat}
section
variable {n:Nat} {Q:Nat->V2}
theorem yJ {d:V2} (a:d≠⟨0,0⟩) (b:∀i,0<aa (bc Q i) (bc Q (i+1))) (j:Nat):∀k,aT k (λt=>hp bn (bc Q (j+t)) (bc Q (j+t+1)))-aT k (λt=>hp (ns d) (bc Q (j+t)) (bc Q (j+t+1)))=bI (jG (bc Q (j+k)) d)-bI (jG (bc Q j) d)
 |0=>by simp[aT]
 |k+1=>by have c:=yJ a b j k;have f:=zA a (b (j+k));simp only[aT];rw[show j+(k+1)=j+k+1 by omega];omega
theorem oD.iO (C:oD n Q) (i:Nat):bc Q (i+n)=bc Q i:=by
 show af (Q (i+n+1)) (Q (i+n))=_;rw[show i+n+1=(i+1)+n by omega,C.hZ,C.hZ]
theorem oD.unit (C:oD n Q) {d:V2} (a:d≠⟨0,0⟩) (j:Nat):aT n (λt=>hp (ns d) (bc Q (j+t)) (bc Q (j+t+1)))=1:=by
 have h:=yJ a C.left j n;rw[C.iO]at h;have:aT n (λt=>hp bn (bc Q (j+t)) (bc Q (j+t+1)))=1:=by rw[vQ (f:=λi=>hp bn (bc Q i) (bc Q (i+1))) (λi=>by show hp bn (bc Q (i+n)) (bc Q (i+n+1))=_;rw[show i+n+1=(i+1)+n by omega,C.iO,C.iO]) j];exact C.one
 omega
theorem oD.pat (C:oD n Q) {d:V2} (a:d≠⟨0,0⟩) (b:ns d (bc Q j)=false) (h2:ns d (bc Q (j+1))=true):∃m,∀t,t<n->(ns d (bc Q (j+1+t))=true↔t<m):=by
 have u:=C.unit a j;have n3:=C.n3;rw[show n=1+(n-1) by omega,gg]at u;simp only[aT,YR]at u;have c:hp (ns d) (bc Q j) (bc Q (j+1))=1:=by unfold hp;rw[b,h2];simp
 rw[c]at u;obtain⟨m,f⟩:=GW (λt=>ns d (bc Q (j+1+t))) h2 (n-1) (by have:aT (n-1) (λt=>if ns d (bc Q (j+1+t))=false/\ns d (bc Q (j+1+(t+1)))=true then(1:Int)else 0)=aT (n-1) (λi=>hp (ns d) (bc Q (j+(1+i))) (bc Q (j+(1+i)+1))):=bA (λi _=>by unfold hp;rw[show j+(1+i)=j+1+i by omega];rfl);omega);exact⟨m,λt g=>f t (by omega)⟩
theorem Qi {d v:V2} (h:ns d v=true):0<=aa d v:=by
 have:=XB h;omega
theorem Qk {d v:V2} (h:ns d v=false):aa d v<=0:=by
 have:=XA h;omega
theorem rO (d:V2) (Q:Nat->V2) (a k:Nat):aa d (af (Q (k+1)) (Q a))=aa d (af (Q k) (Q a))+aa d (bc Q k):=by simp only[aa,af,bc];grind
theorem oD.walk (C:oD n Q) {d:V2} (i:d≠⟨0,0⟩) (l:ns d (bc Q j)=false) (h2:ns d (bc Q (j+1))=true) {a b:Nat} (u:b<=n) (w:a<=k) (x:k<=b):
  aa d (af (Q (j+1+a)) (Q (j+1)))<=aa d (af (Q (j+1+k)) (Q (j+1)))\/aa d (af (Q (j+1+b)) (Q (j+1)))<=aa d (af (Q (j+1+k)) (Q (j+1))):=by
 obtain⟨m,h⟩:=C.pat i l h2;by_cases c:k<=m
 ·left;have:∀s,a+s<=k->aa d (af (Q (j+1+a)) (Q (j+1)))<=aa d (af (Q (j+1+(a+s))) (Q (j+1))):=by
   intro s;induction s with
   |zero=>intro _;exact Yc _
   |succ s g=>intro o;have p:=g (by omega);have r:=Qi ((h (a+s) (by omega)).2 (by omega));have t:=rO d Q (j+1) (j+1+(a+s));rw[show j+1+(a+(s+1))=j+1+(a+s)+1 by omega];omega
  have:=this (k-a) (by omega)
  rwa [show a+(k-a)=k by omega]at this
 ·right;have:∀s,k+s<=b->aa d (af (Q (j+1+(k+s))) (Q (j+1)))<=aa d (af (Q (j+1+k)) (Q (j+1))):=by
   intro s;induction s with
   |zero=>intro _;exact Yc _
   |succ s g=>
    intro o;have p:=g (by omega);have f:ns d (bc Q (j+1+(k+s)))=false:=by
     cases q:ns d (bc Q (j+1+(k+s)))with
     |false=>rfl
     |true=>have:=(h (k+s) (by omega)).1 q;omega
    have r:=Qk f;have t:=rO d Q (j+1) (j+1+(k+s));rw[show j+1+(k+(s+1))=j+1+(k+s)+1 by omega];omega
  have:=this (b-k) (by omega)
  rwa [show k+(b-k)=b by omega]at this
theorem QN (d v:V2):aa d (af v v)=0:=by simp only[aa,af];grind
theorem oD.Vj (C:oD n Q) {d:V2} (c:d≠⟨0,0⟩) (f:ns d (bc Q j)=false) (h2:ns d (bc Q (j+1))=true) (k:Nat) (g:k<=n):0<=aa d (af (Q (j+1+k)) (Q (j+1))):=by
 have:=C.walk c f h2 (a:=0) (b:=n) (XP _) (k:=k) (by omega) g;rw[YR,C.hZ,QN]at this;omega
theorem oD.ne (C:oD n Q) (i:Nat):bc Q i≠⟨0,0⟩:=(CU (C.left i)).1
theorem oD.head (C:oD n Q) (j:Nat):ns (bc Q j) (bc Q (j+n-1))=false/\ns (bc Q j) (bc Q (j+n-1+1))=true/\aa (bc Q j) (bc Q (j+n-1))<0:=by
 have n3:=C.n3;have l:=C.left (j+n-1);rw[show j+n-1+1=j+n by omega,C.iO]at l|-;have a:=dP (bc Q j) (bc Q (j+n-1));refine⟨dF,X8 (.inr ⟨gY _,cg (C.ne j)⟩),by omega⟩
theorem oD.SQ (C:oD n Q) (j k:Nat) (a:k<=n):0<=ai (Q j) (Q (j+1)) (Q (j+k)):=by
 have n3:=C.n3;obtain⟨b,c,_⟩:=C.head j;have:=C.Vj (C.ne j) b c k a;rw[show j+n-1+1+k=(j+k)+n by omega,show j+n-1+1=j+n by omega,C.hZ,C.hZ]at this;exact this
theorem oD.strict (C:oD n Q) (j k:Nat) (h2:2<=k) (i:k+1<=n):0<ai (Q j) (Q (j+1)) (Q (j+k)):=by
 have n3:=C.n3;obtain⟨c,f,m⟩:=C.head j;have:=C.walk (C.ne j) c f (a:=2) (b:=n-1) (by omega) (k:=k) h2 (by omega);rw[show j+n-1+1+k=(j+k)+n by omega,show j+n-1+1+2=(j+2)+n by omega,show j+n-1+1+(n-1)=(j+n-1)+n by omega,show j+n-1+1=j+n by omega,C.hZ,C.hZ,C.hZ,C.hZ]at this;have o:=rO (bc Q j) Q j j;have g:=rO (bc Q j) Q j (j+1);have h:=rO (bc Q j) Q j (j+n-1);rw[show j+n-1+1=j+n by omega,C.hZ,QN]at h;have l:=C.left j;have p:aa (bc Q j) (af (Q (j+1)) (Q j))=0:=gY _;rw[show j+1+1=j+2 from rfl]at g;have:0<aa (bc Q j) (af (Q (j+k)) (Q j)):=by omega
 exact this
def InC (n:Nat) (Q:Nat->V2) (z:V2):Prop:=∀i,i<n->0<ai (Q i) (Q (i+1)) z
def vl (n:Nat) (Q:Nat->V2):Ed:=(List.range n).map λi=>(Q i,Q (i+1))
theorem mq {e:V2×V2}:e∈vl n Q↔∃i,i<n/\e=(Q i,Q (i+1)):=by
 unfold vl;rw[XQ];exact⟨λ⟨i,h,k⟩=>⟨i,X4.1 h,k.symm⟩,λ⟨i,h,k⟩=>⟨i,X4.2 h,k.symm⟩⟩
theorem PB (h:0<n) (a:Q n=Q 0):mT (vl n Q):=by
 unfold mT vl;rw[Yq,Yq];obtain⟨m,rfl⟩:∃m,n=m+1:=⟨n-1,by omega⟩;have b:(List.range (m+1)).map ((·.1)∘λi=>(Q i,Q (i+1)))=Q 0::(List.range m).map (λi=>Q (i+1)):=by rw[ZO,Yg,Yq];rfl
 have c:(List.range (m+1)).map ((·.2)∘λi=>(Q i,Q (i+1)))=(List.range m).map (λi=>Q (i+1))++[Q 0]:=by rw[ZU,Ys,<-a];rfl
 rw[b,c];exact(aaF _ _).symm
theorem oD.cV (C:oD n Q):mT (vl n Q):=PB (by have:=C.n3;omega) (by have:=C.hZ 0;rwa [X6]at this)
theorem oD.BW (C:oD n Q) (hi:i<n) (a:k<=n):0<=ai (Q i) (Q (i+1)) (Q k):=by
 by_cases c:i<=k
 ·have:=C.SQ i (k-i) (by omega)
  rwa [show i+(k-i)=k by omega]at this
 ·have:=C.SQ i (k+n-i) (by omega)
  rwa [show i+(k+n-i)=k+n by omega,C.hZ]at this
theorem oD.Ip (C:oD n Q) {z:V2} (hi:i<n) (h:ai (Q i) (Q (i+1)) z<0):W (vl n Q) z=0:=by
 have f:=C.ne i;obtain⟨a,g,j⟩:∃s:V2,s.y≠0/\aa (bc Q i) s<=0:=by by_cases c:(bc Q i).x=0;exact⟨bc Q i,λq=>f (V2.ext c q),by rw[gY];exact Yc _⟩;refine⟨⟨(bc Q i).y,-(bc Q i).x⟩,by simp only;omega,?_⟩;have p:=cg f;have:aa (bc Q i) ⟨(bc Q i).y,-(bc Q i).x⟩= -ay (bc Q i) (bc Q i):=(by simp only[aa,ay];grind);omega
 have l:Ev λK=>(∀e∈vl n Q,e.1.y<(nr 1 z (ag K a)).y)\/(∀e∈vl n Q,(nr 1 z (ag K a)).y<e.1.y):=by rcases Yi g with q|q;refine(Ev.all (vl n Q) (λe _=>kG (z.y-e.1.y) q)).imp λK k=> .inr λe b=>?_;have:=k e b;simp only[nr,ag];omega;refine(Ev.all (vl n Q) (λe _=>eo (z.y-e.1.y) q)).imp λK k=> .inl λe b=>?_;have:=k e b;simp only[nr,ag];omega
 obtain⟨K,_,m⟩:=l.ex 0;rw[ih C.cV (q:=nr 1 z (ag K a)) (λe b=>?_)];exact uf C.cV m;obtain⟨k,o,rfl⟩:=mq.1 b;have r:ai (Q i) (Q (i+1)) (nr 1 z (ag K a))=ai (Q i) (Q (i+1)) z+K*aa (bc Q i) a:=(by simp only[ai,aa,af,nr,ag,bc];grind);have t:(K:Int)*aa (bc Q i) a<=0:=XI (by omega) j;have u:=C.BW hi (show k<=n by omega);have w:=C.BW hi (show k+1<=n by omega);refine jz (x:=Q (i+1)) (y:=Q i) (.inl ?_);have s:=λv=>aU (Q i) (Q (i+1)) v;show ai (Q (i+1)) (Q i) (Q k)<=0/\ai (Q (i+1)) (Q i) (Q (k+1))<=0/\0<ai (Q (i+1)) (Q i) z/\0<ai (Q (i+1)) (Q i) (nr 1 z (ag K a));have A:=s (Q k);have B:=s (Q (k+1));have D:=s z;have E:=s (nr 1 z (ag K a));omega
end
variable {m:Int} {z:V2}
section
variable {n:Nat} {Q:Nat->V2}
theorem J0 (a:0<m) (d:V2):bn (ag m d)=bn d:=Yj.2 (up_mul a)
theorem Bu (m:Int) (Q:Nat->V2) (i:Nat):bc (λi=>ag m (Q i)) i=ag m (bc Q i):=by
 apply V2.ext;simp only[af,ag];rw[ZL];simp only[af,ag];rw[ZL]
theorem oD.sc (C:oD n Q) (a:0<m):oD n (λi=>ag m (Q i)) where
 n3:=C.n3
 hZ:=λi=>by rw[C.hZ]
 left:=λi=>by rw[Bu,Bu];have b:aa (ag m (bc Q i)) (ag m (bc Q (i+1)))=m*m*aa (bc Q i) (bc Q (i+1)):=(by simp only[aa,ag];grind);rw[b];exact XC (XC a a) (C.left i)
 one:=by rw[<-C.one];refine bA (λi _=>?_);unfold hp;rw[Bu,Bu,J0 a,J0 a]
theorem Bt (m:Int) (n:Nat) (Q:Nat->V2):vl n (λi=>ag m (Q i))=bD m (vl n Q):=by
 unfold vl bD;rw[Yq];rfl
theorem zZ (m:Int) (a b c:V2):ai (ag m a) (ag m b) (ag m c)=m*m*ai a b c:=by simp only[ai,aa,af,ag];grind
theorem Q3 (p q a b:V2):ai (ag 2 p) (ag 2 q) (ak a b)=2*(ai p q a+ai p q b):=by simp only[ai,aa,af,ag,ak];grind
theorem oD.RX (C:oD n Q) {i:Nat} (a:1<=i) (hi:i<n):0<ai (ag 2 (Q i)) (ag 2 (Q (i+1))) (ak (Q 0) (Q 1)):=by
 have n3:=C.n3;rw[Q3];have b:=C.BW hi (show 0<=n by omega);have f:=C.BW hi (show 1<=n by omega);by_cases c:i+1=n;have s:=C.strict i 2 (XP _) (by omega);rw[show i+2=1+n by omega,C.hZ]at s;omega;have s:=C.strict i (n-i) (by omega) (by omega);rw[show i+(n-i)=0+n by omega,C.hZ]at s;omega
theorem oD.NF (C:oD n Q) (h:InC n Q z):W (vl n Q) z=1:=by
 have n3:=C.n3;have l:Ev λK=>∀i∈List.range n,1<=i->0<(K:Int)*ai (ag 2 (Q i)) (ag 2 (Q (i+1))) (ak (Q 0) (Q 1))+aa (af (ag 2 (Q (i+1))) (ag 2 (Q i))) (af (ak (Q 0) (Q 1)) (ag 2 z)):=Ev.all _ λi b=>by by_cases c:1<=i;exact(eo _ (C.RX c (X4.1 b))).imp λK k _=>k;exact Ev.of λK k=>absurd k c
 obtain⟨K,D,o⟩:=l.ex 1;have a:0<(K:Int):=by omega
 have g:oD n (λi=>ag K (ag 2 (Q i))):=(C.sc (by decide)).sc a;have p:W (vl n Q) z=W (vl n (λi=>ag K (ag 2 (Q i)))) (ag K (ag 2 z)):=by rw[Bt K n (λi=>ag 2 (Q i)),Bt,kK a,kK (by decide)]
 have f:0<ai (Q 0) (Q 1) z:=h 0 (by omega);have q:0<ai (ag K (ag 2 (Q 0))) (ag K (ag 2 (Q 1))) (ag K (ag 2 z)):=by rw[zZ,zZ];exact XC (XC a a) (XC (by decide) f)
 have j:ai (ag K (ag 2 (Q 0))) (ag K (ag 2 (Q 1))) (nr K (ak (Q 0) (Q 1)) (af (ak (Q 0) (Q 1)) (ag 2 z)))<0:=by have:ai (ag K (ag 2 (Q 0))) (ag K (ag 2 (Q 1))) (nr K (ak (Q 0) (Q 1)) (af (ak (Q 0) (Q 1)) (ag 2 z)))= -(4*(K*ai (Q 0) (Q 1) z)):=(by simp only[ai,aa,af,ag,ak,nr];grind);have:=XC a f;omega
 have r:ai (ag K (ag 2 z)) (nr K (ak (Q 0) (Q 1)) (af (ak (Q 0) (Q 1)) (ag 2 z))) (ag K (ag 2 (Q 0)))<0:=by have:ai (ag K (ag 2 z)) (nr K (ak (Q 0) (Q 1)) (af (ak (Q 0) (Q 1)) (ag 2 z))) (ag K (ag 2 (Q 0)))= -(2*((K+1)*(K*ai (Q 0) (Q 1) z))):=(by simp only[ai,aa,af,ag,ak,nr];grind);have:=XC (show 0<(K:Int)+1 by omega) (XC a f);omega
 have t:0<ai (ag K (ag 2 z)) (nr K (ak (Q 0) (Q 1)) (af (ak (Q 0) (Q 1)) (ag 2 z))) (ag K (ag 2 (Q 1))):=by have:ai (ag K (ag 2 z)) (nr K (ak (Q 0) (Q 1)) (af (ak (Q 0) (Q 1)) (ag 2 z))) (ag K (ag 2 (Q 1)))=2*((K+1)*(K*ai (Q 0) (Q 1) z)):=(by simp only[ai,aa,af,ag,ak,nr];grind);have:=XC (show 0<(K:Int)+1 by omega) (XC a f);omega
 have u:=g.Ip (i:=0) (by omega) j;have w:=Gd g.cV (ag K (ag 2 z)) (nr K (ak (Q 0) (Q 1)) (af (ak (Q 0) (Q 1)) (ag 2 z)));rw[u]at w;rw[p];have E:Qs (vl n (λi=>ag K (ag 2 (Q i)))) (ag K (ag 2 z)) (nr K (ak (Q 0) (Q 1)) (af (ak (Q 0) (Q 1)) (ag 2 z)))=1:=by obtain⟨m,rfl⟩:∃m,n=m+1:=⟨n-1,by omega⟩;have A:vl (m+1) (λi=>ag K (ag 2 (Q i)))=(ag K (ag 2 (Q 0)),ag K (ag 2 (Q 1)))::(List.range m).map (λi=>(ag K (ag 2 (Q (i+1))),ag K (ag 2 (Q (i+1+1))))):=(by unfold vl;rw[ZO,Yg,Yq];rfl);rw[A];unfold Qs;simp only[eM];rw[wy q j r t,ji];rfl;intro e B;obtain⟨i,b,rfl⟩:=XQ.1 B;have b:=X4.1 b;refine ri (jz (x:=ag K (ag 2 (Q (i+1)))) (y:=ag K (ag 2 (Q (i+1+1)))) (.inl ⟨by rw[dO];exact Yc _,by rw[dX];exact Yc _,?_,?_⟩));rw[zZ,zZ];exact XC (XC a a) (XC (by decide) (h (i+1) (by omega)));rw[nu];exact XC a (o (i+1) (X4.2 (by omega)) (by omega))
 omega
end
theorem MA {a b:V2} (z:V2) (g:a≠b):Ev λn=>ai (ag (n*n) a) (ag (n*n) b) (nr (n*n) z ⟨n,1⟩)≠0:=by
 have i:∀n:Int,ai (ag (n*n) a) (ag (n*n) b) (nr (n*n) z ⟨n,1⟩)=(n*n)*(n*(n*ai a b z-(b.y-a.y))+(b.x-a.x)):=λn=>by simp only[ai,aa,af,ag,nr];grind
 have j:Ev λn=>(n:Int)*(n*ai a b z-(b.y-a.y))+(b.x-a.x)≠0:=by
  by_cases c:ai a b z=0;by_cases l:b.y-a.y=0;refine Ev.of λn k=>g ?_;rw[c,l]at k;simp only[Yh,Int.sub_zero]at k;exact V2.ext (by omega) (by omega);refine(kF (-(b.y-a.y)) (b.x-a.x)).imp λn k=>?_;rw[c,Yh,aal];omega
  ·have m:Ev λn=>(n:Int)*ai a b z-(b.y-a.y)≠0:=(kF (ai a b z) (-(b.y-a.y)) c).imp λn k=>by omega
   refine(m.and (Ev.ge ((b.x-a.x).natAbs+1))).imp λn ⟨f,o⟩ k=>?_;generalize (n:Int)*ai a b z-(b.y-a.y)=t at f k;rcases Yi f with q|q;have:=XT (show t<= -1 by omega) (show(0:Int)<=n by omega);omega;have:=XT (show 1<=t by omega) (show(0:Int)<=n by omega);omega
 refine(j.and (Ev.ge 1)).imp λn ⟨k,p⟩ h=>?_;rw[i]at h;have:=XC (show(0:Int)<n by omega) (show(0:Int)<n by omega);exact k ((mz h).resolve_left (by omega))
theorem HP (E:Ed) (z:V2) (c:∀e∈E,e.1≠e.2):∃(m:Int) (b:V2),0<m/\(∀F:Ed,(∀e∈F,e∈E)->W (bD m F) b=W F z)/\∀e∈E,ai (ag m e.1) (ag m e.2) b≠0:=by
 obtain⟨n,g,k⟩:=((Ev.all E (λe _=>R5 e.1 e.2 z)).and (Ev.all E (λe a=>MA z (c e a)))).ex 1;refine⟨n*n,nr (n*n) z ⟨n,1⟩,XC (by omega) (by omega),λF f=>?_,k.2⟩;rw[gN,gN,bD,nw];exact hP (λe a=>(k.1 e (f e a)).1)
def rQ (r:LV) (i:Nat):V2:=gt r (i%r.length)
def gd (r:LV):Prop:=oD r.length (rQ r)
theorem ir (r:LV):bH r=vl r.length (rQ r):=by
 unfold bH vl;refine Yx (λi a=>?_);have:=X4.1 a;unfold rQ bw;rw[X3 this]
def jY (m:Int) (r:LV) (z:V2):Prop:=∀e∈bH r,0<ai (ag m e.1) (ag m e.2) z
theorem gd.NF {r:LV} (C:gd r) (a:0<m) (h:jY m r z):W (bD m (bH r)) z=1:=by
 rw[ir,<-Bt];exact(oD.sc C a).NF (λi b=>h (rQ r i,rQ r (i+1)) (by rw[ir];exact mq.2 ⟨i,b,rfl⟩))
theorem gd.Ip {r:LV} (C:gd r) (b:0<m) {e:V2×V2} (a:e∈bH r) (h:ai (ag m e.1) (ag m e.2) z<0):W (bD m (bH r)) z=0:=by
 rw[ir]at a;obtain⟨i,c,rfl⟩:=mq.1 a;rw[ir,<-Bt];exact(oD.sc C b).Ip c h
theorem gd.nz {r:LV} (C:gd r):∀e∈bH r,e.1≠e.2:=λe a k=>by
 rw[ir]at a;obtain⟨i,_,rfl⟩:=mq.1 a;refine C.ne i ?_;simp only at k;rw[bc,<-k];exact V2.ext (by simp[af]) (by simp[af])
theorem gd.QP {r:LV} (C:gd r) (b:0<m) (h:∀e∈bH r,ai (ag m e.1) (ag m e.2) z≠0):(jY m r z/\W (bD m (bH r)) z=1)\/W (bD m (bH r)) z=0:=by
 by_cases c:jY m r z;exact .inl ⟨c,C.NF b c⟩
 ·right;obtain⟨e,a,k⟩:∃e∈bH r,¬0<ai (ag m e.1) (ag m e.2) z:=Xz λq=>c (λe a=>Xz λk=>q ⟨e,a,k⟩);exact C.Ip b a (by have:=h e a;omega)
theorem KM (m n:Int) (E:Ed):bD m (bD n E)=bD (m*n) E:=by
 unfold bD;rw[Yq];refine Yx (λe _=>?_);refine WE (V2.ext ?_ ?_) (V2.ext ?_ ?_)<;>simp only[Function.comp,ag]<;>rw[Zc]
theorem gd.Ul {r:LV} (C:gd r) (b:0<m) (z:V2):0<=W (bD m (bH r)) z:=by
 obtain⟨n,c,f,g,h⟩:=HP (bD m (bH r)) z (λe a k=>by obtain⟨x,i,rfl⟩:=aK.1 a;exact C.nz x i (gS b k));rw[<-g _ (λ_ k=>k),KM];rcases C.QP (XC f b) (z:=c) (λe a=>by have:=h (ag m e.1,ag m e.2) (aK.2 ⟨e,a,rfl⟩);have q:∀v:V2,ag n (ag m v)=ag (n*m) v:=λv=>V2.ext (by simp only[ag];rw[Zc]) (by simp only[ag];rw[Zc]);simp only[q]at this;exact this)with k|k;omega;omega
def WL (m:Int) (L:List (LV)) (z:V2):Int:=(L.map λr=>W (bD m (bH r)) z).sum
theorem jd (m:Int) (r:LV) (L:List (LV)) (z:V2):WL m (r::L) z=W (bD m (bH r)) z+WL m L z:=by simp[WL]
theorem Uo {L:List (LV)} (h:∀r∈L,gd r) (a:0<m) (z:V2):0<=WL m L z:=by
 induction L with
 |nil=>simp[WL]
 |cons r L b=>have:=(h r (by simp)).Ul a z;have:=b (λx c=>h x (by simp[c]));rw[jd];omega
theorem QR {L:List (LV)} (h:∀r∈L,gd r) (a:0<m) {r:LV} (c:r∈L) (f:jY m r z):1<=WL m L z:=by
 induction L with
 |nil=>cases c
 |cons s L g=>rw[jd];have i:=(h s (by simp)).Ul a z;have j:=Uo (L:=L) (λx b=>h x (by simp[b])) a z;rcases XF.1 c with rfl|k;have:=(h r (by simp)).NF a f;omega;have:=g (λx b=>h x (by simp[b])) k;omega
theorem Uq {L:List (LV)} (h:WL m L z≠0):∃r∈L,W (bD m (bH r)) z≠0:=by
 induction L with
 |nil=>exact absurd rfl h
 |cons s L a=>rw[jd]at h;by_cases c:W (bD m (bH s)) z=0;obtain⟨r,b,k⟩:=a (by omega);exact⟨r,by simp[b],k⟩;exact⟨s,by simp,c⟩
theorem DR {X Y:Ed} (A:nc X 0) (B:nc Y 0) {L M:List (LV)} (j:∀r∈L,gd r) (l:∀r∈M,gd r)
  (sL:∀(m:Int) (z:V2),0<m->W (bD m X) z=WL m L z) (t:∀(m:Int) (z:V2),0<m->W (bD m Y) z=WL m M z):
  Comm X 0 Y 0↔∃r∈L,∃s∈M,∃(m:Int) (z:V2),0<m/\jY m r z/\jY m s z:=by
 constructor
 ·rintro⟨m,z,b,u,w⟩;obtain⟨n,i,y,D,E⟩:=HP (bD m ((L++M).flatMap bH)) z (λe c k=>by obtain⟨x,f,rfl⟩:=aK.1 c;obtain⟨r,a,f⟩:=ZK.1 f;have C:gd r:=(by rcases XN.1 a with q|q;exact j r q;exact l r q);exact C.nz x f (gS b k));have F:∀r∈L++M,W (bD (n*m) (bH r)) i=W (bD m (bH r)) z:=λr a=>by rw[<-KM];refine D _ (λe c=>?_);obtain⟨x,f,rfl⟩:=aK.1 c;exact aK.2 ⟨x,ZK.2 ⟨r,a,f⟩,rfl⟩
  have G:∀r∈L++M,∀e∈bH r,ai (ag (n*m) e.1) (ag (n*m) e.2) i≠0:=λr a e c=>by have:=E (ag m e.1,ag m e.2) (aK.2 ⟨e,ZK.2 ⟨r,a,c⟩,rfl⟩);have q:∀v:V2,ag n (ag m v)=ag (n*m) v:=λv=>V2.ext (by simp only[ag];rw[Zc]) (by simp only[ag];rw[Zc]);simp only[q]at this;exact this
  have one:∀{N:List (LV)},(∀r∈N,r∈L++M/\gd r)->WL m N z≠0->∃r∈N,jY (n*m) r i:=λ{N} o h=>by obtain⟨r,a,k⟩:=Uq h;refine⟨r,a,?_⟩;rcases(o r a).2.QP (XC y b) (G r (o r a).1)with q|q;exact q.1;rw[F r (o r a).1]at q;exact absurd q k
  obtain⟨r,a,H⟩:=one (N:=L) (λr a=>⟨by simp[a],j r a⟩) (by rw[<-sL m z b];omega);obtain⟨s,p,I⟩:=one (N:=M) (λr a=>⟨by simp[a],l r a⟩) (by rw[<-t m z b];omega);exact⟨r,a,s,p,n*m,i,XC y b,H,I⟩
 ·rintro⟨r,a,s,p,m,z,b,u,w⟩;refine⟨m,z,b,?_,?_⟩;have g:=QR j b a u;rw[<-sL m z b]at g;have:=A m z b;omega;have g:=QR l b p w;rw[<-t m z b]at g;have:=B m z b;omega
def cY (d x:V2):Prop:=∃a b:Int,0<a/\0<b/\a*x.x=b*d.x/\a*x.y=b*d.y
theorem cY.refl (d:V2):cY d d:=⟨1,1,by decide,by decide,rfl,rfl⟩
theorem cY.trans {d e f:V2} (h:cY d e) (k:cY e f):cY d f:=by
 obtain⟨a,b,i,j,l,m⟩:=h;obtain⟨c,g,o,p,q,r⟩:=k;refine⟨a*c,g*b,XC i o,XC p j,?_,?_⟩;rw[Zc,q,Int.mul_left_comm,l,Zc];rw[Zc,r,Int.mul_left_comm,m,Zc]
variable {x:V2}
theorem cY.add {d:V2} (h:cY d x):cY d (ak d x):=by
 obtain⟨a,b,c,i,f,g⟩:=h;refine⟨a,a+b,c,by omega,?_,?_⟩;simp only[ak];rw[WC,f,aav];simp only[ak];rw[WC,g,aav]
theorem cY.cr {d:V2} (h:cY d x) (v:V2):(0<aa x v↔0<aa d v)/\(0<aa v x↔0<aa v d):=by
 obtain⟨a,b,l,m,o,p⟩:=h;have g:a*aa x v=b*aa d v:=by simp only[aa];grind
 have i:a*aa v x=b*aa v d:=by simp only[aa];grind
 have c:=(bg (x:=aa x v) (show 1<=a by omega)).1;have j:=(bg (x:=aa d v) (show 1<=b by omega)).1;have f:=(bg (x:=aa v x) (show 1<=a by omega)).1;have k:=(bg (x:=aa v d) (show 1<=b by omega)).1;rw[g]at c;rw[i]at f;exact⟨c.symm.trans j,f.symm.trans k⟩
theorem cY.up {d:V2} (h:cY d x):bn x=bn d:=by
 obtain⟨a,b,c,f,g,i⟩:=h;refine Yj.2 ?_;rw[<-up_mul c,g,i,up_mul f]
theorem cY.of {d:V2} (b:d≠⟨0,0⟩) (a:aa d x=0) (h2:0<ay d x):cY d x:=by
 refine⟨ay d d,ay d x,cg b,h2,?_,?_⟩;simp only[aa,ay]at a|-;grind;simp only[aa,ay]at a|-;grind
theorem cY.on {d:V2} (h:cY d x) (u:V2):aV u (ak (ak u d) x) (ak u d):=by
 obtain⟨a,b,j,k,c,f⟩:=h;have g:=bg (x:=x.x) (show 1<=a by omega);have l:=bg (x:=d.x) (show 1<=b by omega);have i:=bg (x:=x.y) (show 1<=a by omega);have m:=bg (x:=d.y) (show 1<=b by omega);rw[c]at g;rw[f]at i;have t:ai u (ak (ak u d) x) (ak u d)=0:=by have e:a*ai u (ak (ak u d) x) (ak u d)=0:=(by simp only[ai,aa,af,ak];grind);exact(mz e).resolve_left (by omega)
 refine⟨t,?_,?_,?_,?_⟩<;>(simp only[ak];omega)
def tx (d a:V2):Prop:=0<aa d a\/(aa d a=0/\cY d a)
def SP:V2->LV->Prop
 |_,[]=>True
 |d,a::b=>tx d a/\SP a b
def tf:V2->LV->V2
 |u,[]=>u
 |u,d::a=>tf (ak u d) a
def kp:V2->V2->LV->LV
 |_,_,[]=>[]
 |p,u,d::a=>if aa p d≠0 then u::kp d (ak u d) a else kp d (ak u d) a
def uC:V2->LV->Ed
 |_,[]=>[]
 |u,x::r=>(u,x)::uC x r
def Gz:V2->LV->Ed
 |_,[]=>[]
 |u,d::a=>(u,ak u d)::Gz (ak u d) a
def gf:V2->LV->LV
 |_,[]=>[]
 |u,x::r=>af x u::gf x r
theorem qV (u d:V2):af (ak u d) u=d:=V2.ext (by simp only[af,ak];omega) (by simp only[af,ak];omega)
theorem Kr (u d x:V2):af x u=ak d (af x (ak u d)):=V2.ext (by simp only[af,ak];omega) (by simp only[af,ak];omega)
theorem SB (u d x:V2):ak (ak u d) (af x (ak u d))=x:=V2.ext (by simp only[af,ak];omega) (by simp only[af,ak];omega)
theorem EH (u x z:V2):ai u x z=aa (af x u) (af z u):=rfl
theorem iC:∀(f:LV) (u d:V2),SP d f->∃K R,kp d (ak u d) f++[tf (ak u d) f]=K::R/\cY d (af K u)/\
  (∀(m:Int) (z:V2),0<m->W (bD m (uC u (K::R))) z=W (bD m (Gz u (d::f))) z)/\U2 (af K u) (gf K R)/\Be bn (af K u) (gf K R)=Be bn d f/\
  cY ((d::f).getLast (by simp)) ((af K u::gf K R).getLast (by simp))/\
  (∀(m:Int) (z:V2),0<m->((∀e∈uC u (K::R),0<ai (ag m e.1) (ag m e.2) z)↔∀e∈Gz u (d::f),0<ai (ag m e.1) (ag m e.2) z))
 |[],u,d,_=>by refine⟨ak u d,[],rfl,?_,λm z _=>rfl,trivial,rfl,?_,λm z _=>ZC⟩;rw[qV];exact cY.refl d;show cY d (af (ak u d) u);rw[qV];exact cY.refl d
 |g::f,u,d,h=>by
  obtain⟨K,R,w,j,y,o,A,p,B⟩:=iC f (ak u d) g h.2;have C:tf (ak u d) (g::f)=tf (ak (ak u d) g) f:=rfl;have D:((d::g::f).getLast (by simp))=((g::f).getLast (by simp)):=Zk (by simp);rcases h.1 with c|⟨c,k⟩
  ·refine⟨ak u d,K::R,?_,?_,λm z i=>?_,?_,?_,?_,λm z i=>?_⟩;rw[C,<-w];simp only[kp];rw[iP];rfl;rw[qV];exact cY.refl d;show W ((ag m u,ag m (ak u d))::bD m (uC (ak u d) (K::R))) z=W ((ag m u,ag m (ak u d))::bD m (Gz (ak u d) (g::f))) z;rw[xQ,xQ,y m z i];rw[qV];exact⟨(j.cr d).2.2 c,o⟩;rw[qV];show hp bn d (af K (ak u d))+Be bn (af K (ak u d)) (gf K R)=hp bn d g+Be bn g f;rw[A];unfold hp;rw[j.up];rw[D];have:((af (ak u d) u::gf (ak u d) (K::R)).getLast (by simp))=((af K (ak u d)::gf K R).getLast (by simp)):=Zk (by simp[gf]);rw[this];exact p
   ·have:=B m z i;show(∀e∈(u,ak u d)::uC (ak u d) (K::R),_)↔∀e∈(u,ak u d)::Gz (ak u d) (g::f),_;rw[WA,WA,this]
  ·have q:cY d (af K u):=(by rw[Kr u d K];exact(k.trans j).add);have VP:aV u K (ak u d):=by
    have:=(k.trans j).on u
    rwa [SB]at this
   have r:cY (af K (ak u d)) (af K u):=(by obtain⟨a,b,E,F,G,H⟩:=k.trans j;obtain⟨I,t,J,M,N,O⟩:=q;refine⟨I*b,t*a,XC J F,XC M E,?_,?_⟩;rw[Xa,N,Zc t a,G,Xa,Zc];rw[Xa,O,Zc t a,H,Xa,Zc]);refine⟨K,R,?_,q,λm z i=>?_,?_,?_,?_,λm z i=>?_⟩;rw[C,<-w];simp only[kp];rw[iN];have:=y m z i;show W ((ag m u,ag m K)::bD m (uC K R)) z=W ((ag m u,ag m (ak u d))::bD m (Gz (ak u d) (g::f))) z;rw[xQ,xQ,<-this];show _=_+W ((ag m (ak u d),ag m K)::bD m (uC K R)) z;rw[xQ];have:=DL (iz i VP) z;simp only;omega
   ·cases R with
    |nil=>exact trivial
    |cons x R=>exact⟨(r.cr _).1.2 o.1,o.2⟩
   ·have:Be bn (af K u) (gf K R)=Be bn (af K (ak u d)) (gf K R):=by
     cases R with
     |nil=>rfl
     |cons x R=>simp only[gf,Be];unfold hp;rw[r.up]
    rw[this,A];show _=hp bn d g+Be bn g f;have:hp bn d g=0:=(by unfold hp;rw[k.up];cases bn d<;>simp);omega
   ·rw[D];cases R with
    |nil=>exact p.trans r
    |cons x R=>have P:((af K u::gf K (x::R)).getLast (by simp))=((gf K (x::R)).getLast (by simp[gf])):=Zk (by simp[gf]);have Q:((af K (ak u d)::gf K (x::R)).getLast (by simp))=((gf K (x::R)).getLast (by simp[gf])):=Zk (by simp[gf]);rw[P,<-Q];exact p
   ·have:=B m z i;show(∀e∈(u,K)::uC K R,_)↔∀e∈(u,ak u d)::Gz (ak u d) (g::f),_;rw[WA,WA,<-this];show _↔_/\∀e∈(ak u d,K)::uC K R,_;rw[WA];have S:0<ai (ag m u) (ag m K) z↔0<aa d (af z (ag m u)):=(by rw[EH];have:af (ag m K) (ag m u)=ag m (af K u):=V2.ext (by simp only[af,ag];rw[ZL]) (by simp only[af,ag];rw[ZL]);rw[this];have l:cY d (ag m (af K u)):=q.trans ⟨1,m,by decide,i,by simp[ag],by simp[ag]⟩;exact(l.cr _).1);have T:0<ai (ag m u) (ag m (ak u d)) z↔0<aa d (af z (ag m u)):=(by rw[EH];have:af (ag m (ak u d)) (ag m u)=ag m d:=V2.ext (by simp only[af,ag,ak];grind) (by simp only[af,ag,ak];grind);rw[this];have l:cY d (ag m d):=⟨1,m,by decide,i,by simp[ag],by simp[ag]⟩;exact(l.cr _).1);have U:0<ai (ag m (ak u d)) (ag m K) z↔0<aa d (af z (ag m u)):=(by rw[EH];have:af (ag m K) (ag m (ak u d))=ag m (af K (ak u d)):=V2.ext (by simp only[af,ag];rw[ZL]) (by simp only[af,ag];rw[ZL]);rw[this];have l:cY d (ag m (af K (ak u d))):=(k.trans j).trans ⟨1,m,by decide,i,by simp[ag],by simp[ag]⟩;rw[(l.cr _).1];have:aa d (af z (ag m (ak u d)))=aa d (af z (ag m u)):=(by simp only[aa,af,ag,ak];grind);rw[this]);simp only[S,T,U];exact⟨λh=>⟨h.1,h.1,h.2⟩,λh=>⟨h.1,h.2.2⟩⟩
theorem TM {f:Nat->V2}:∀(T:LV) (u:V2),(∀i,i<=T.length->f (i+1)=gt (u::T) i)->U2 (bc f 0) (gf u T)->∀i,i<T.length->0<aa (bc f i) (bc f (i+1)):=by
 intro T;induction T generalizing f with
 |nil=>intro u _ _ i h;simp at h
 |cons a T j=>
  intro u b h i c;have k:f 1=u:=b 0 (by simp);have l:f 2=a:=b 1 (by simp);have g:bc f 1=af a u:=(by show af (f 2) (f 1)=_;rw[k,l]);cases i with
  |zero=>have:=h.1;rw[<-g]at this;exact this
  |succ i=>have:=j (f:=λi=>f (i+1)) a (λi c=>by have:=b (i+1) (by simp only[XZ];omega);exact this) (by have:=h.2;rw[<-g]at this;exact this) i (by simp only[XZ]at c;omega);exact this
theorem TN {f:Nat->V2} (p:V2->Bool):∀(T:LV) (u:V2),(∀i,i<=T.length->f (i+1)=gt (u::T) i)->Be p (bc f 0) (gf u T)=aT T.length λi=>hp p (bc f i) (bc f (i+1)):=by
 intro T;induction T generalizing f with
 |nil=>intro u _;rfl
 |cons a T c=>intro u b;have g:f 1=u:=b 0 (by simp);have h:f 2=a:=b 1 (by simp);have j:bc f 1=af a u:=(by show af (f 2) (f 1)=_;rw[g,h]);have:=c (f:=λi=>f (i+1)) a (λi l=>b (i+1) (by simp only[XZ];omega));show hp p (bc f 0) (af a u)+Be p (af a u) (gf a T)=_;rw[<-j];have k:Be p (bc f 1) (gf a T)=aT T.length λi=>hp p (bc f (i+1)) (bc f (i+1+1)):=this;rw[k,XZ,Zm,gg];simp only[aT,X6];rw[Zf];congr 1;refine bA (λi _=>?_);rw[Zm 1 i]
theorem RZ {f:Nat->V2}:∀(T:LV) (u:V2),(∀i,i<=T.length->f (i+1)=gt (u::T) i)->(bc f 0::gf u T).getLast (by simp)=bc f T.length:=by
 intro T;induction T generalizing f with
 |nil=>intro u _;rfl
 |cons a T c=>intro u b;have g:f 1=u:=b 0 (by simp);have h:f 2=a:=b 1 (by simp);have j:bc f 1=af a u:=(by show af (f 2) (f 1)=_;rw[g,h]);have:=c (f:=λi=>f (i+1)) a (λi l=>b (i+1) (by simp only[XZ];omega));have k:(bc f 0::gf u (a::T)).getLast (by simp)=(bc f 1::gf a T).getLast (by simp):=(by rw[j];exact Zk (by simp[gf]));rw[k];exact this
theorem Sq {f:Nat->V2}:∀(T:LV) (u:V2),(∀i,i<=T.length->f i=gt (u::T) i)->uC u T=vl T.length f:=by
 intro T;induction T generalizing f with
 |nil=>intro u _;rfl
 |cons a T c=>intro u b;have g:f 0=u:=b 0 (by simp);have h:f 1=a:=b 1 (by simp);have:=c (f:=λi=>f (i+1)) a (λi j=>b (i+1) (by simp only[XZ];omega));show(u,a)::uC a T=_;rw[this];unfold vl;rw[XZ,ZO,Yg,Yq,<-g,<-h];rfl
variable {K u:V2} {R T:LV}
theorem TA (h:T++[u]=K::R):R.length=T.length/\(∀i,i<=(K::R).length->rQ (u::T) i=gt (u::(K::R)) i)/\∀i,i<=R.length->rQ (u::T) (i+1)=gt (K::R) i:=by
 have f:R.length=T.length:=by have:=X5 List.length h;simp only[XR,XZ,Wy]at this;omega
 have a:∀i,i<=(K::R).length->rQ (u::T) i=gt (u::(K::R)) i:=λi b=>by rw[<-h];simp only[XZ]at b;unfold rQ;simp only[XZ];by_cases c:i=T.length+1;subst c;rw[Zz];have:u::(T++[u])=(u::T)++[u]:=rfl;rw[this];simp[gt,YA];rw[mOf];have:u::(T++[u])=(u::T)++[u]:=rfl;rw[this];unfold gt;rw[YA,YA,YW (by simp only[XZ];omega)]
 exact⟨f,a,λi b=>by rw[a (i+1) (by simp only[XZ];omega)];rfl⟩
theorem Sj (h:T++[u]=K::R) (g:U2 (af K u) (gf K R)) (h2:0<aa ((af K u::gf K R).getLast (by simp)) (af K u))
  (a:Be bn (af K u) (gf K R)+hp bn ((af K u::gf K R).getLast (by simp)) (af K u)=1):gd (u::T):=by
 obtain⟨x,j,b⟩:=TA h;have y:rQ (u::T) 0=u:=j 0 (by simp);have z:rQ (u::T) 1=K:=j 1 (by simp);have l:af K u=bc (rQ (u::T)) 0:=by show _=af (rQ (u::T) 1) (rQ (u::T) 0);rw[y,z]
 have A:(af K u::gf K R).getLast (by simp)=bc (rQ (u::T)) R.length:=by have:=RZ R K b;simp only[<-l]at this;exact this
 rw[A]at h2 a;rw[l]at g h2 a;have B:=TM R K b g;rw[TN bn R K b]at a;have m:∀i,rQ (u::T) (i+(u::T).length)=rQ (u::T) i:=λi=>by unfold rQ;rw[YE]
 have f:∀i k,bc (rQ (u::T)) (i+(u::T).length*k)=bc (rQ (u::T)) i:=λi k=>by show af (rQ _ (i+(u::T).length*k+1)) (rQ _ (i+(u::T).length*k))=_;rw[show i+(u::T).length*k+1=(i+1)+(u::T).length*k by omega];unfold rQ;rw[aaL,aaL]
 have o:bc (rQ (u::T)) (R.length+1)=bc (rQ (u::T)) 0:=by have:=f 0 1;simp only[XZ]at this;rw[<-this];congr 1;omega
 have left:∀i,0<aa (bc (rQ (u::T)) i) (bc (rQ (u::T)) (i+1)):=λi=>by have C:=ZJ i (show 0<(u::T).length by simp);have r:=f (i%(u::T).length) (i/(u::T).length);have t:=f (i%(u::T).length+1) (i/(u::T).length);rw[show i%(u::T).length+1+(u::T).length*(i/(u::T).length)=i+1 by have:=Nat.mod_add_div i (u::T).length;omega]at t;rw[Nat.mod_add_div]at r;rw[r,t];simp only[XZ]at C|-;by_cases c:i%(T.length+1)<R.length;exact B _ c;rw[show i%(T.length+1)=R.length by omega,o];exact h2
 refine⟨?_,m,left,?_⟩;refine Xz λk=>?_;have w:=left 0;simp only[XZ]at k;have p:=m 0;simp only[XZ,X6]at p;rcases(show T.length=0\/T.length=1 by omega)with q|q;rw[q]at p;have:bc (rQ (u::T)) 0=⟨0,0⟩:=(by show af (rQ (u::T) (0+1)) (rQ (u::T) 0)=_;rw[p];exact V2.ext (by simp[af]) (by simp[af]));rw[this,gz]at w;omega;rw[q]at p;have:aa (bc (rQ (u::T)) 0) (bc (rQ (u::T)) 1)=0:=(by show aa (af (rQ (u::T) 1) (rQ (u::T) 0)) (af (rQ (u::T) (1+1)) (rQ (u::T) 1))=0;rw[p];simp only[aa,af];grind);rw[this]at w;omega;rw[XZ,<-x];simp only[aT];rw[o];exact a
theorem GM {d:V2} {a:LV} (j:SP d a) (k:tf (ak u d) a=u) (hw:0<aa ((d::a).getLast (by simp)) d) (l:Be bn d a+hp bn ((d::a).getLast (by simp)) d=1):
  gd (u::kp d (ak u d) a)/\(∀(m:Int) (z:V2),0<m->W (bD m (bH (u::kp d (ak u d) a))) z=W (bD m (Gz u (d::a))) z)/\
  ∀(m:Int) (z:V2),0<m->(jY m (u::kp d (ak u d) a) z↔∀e∈Gz u (d::a),0<ai (ag m e.1) (ag m e.2) z):=by
 obtain⟨K,R,b,g,o,p,q,h,r⟩:=iC a u d j;rw[k]at b;obtain⟨t,w,_⟩:=TA b;have i:bH (u::kp d (ak u d) a)=uC u (K::R):=by rw[ir,Sq (f:=rQ (u::kp d (ak u d) a)) (K::R) u w];simp only[XZ];rw[t]
 refine⟨Sj b p ?_ ?_,λm z c=>by rw[i,o m z c],λm z c=>by unfold jY;rw[i];exact r m z c⟩;rw[(h.cr _).1];exact(g.cr _).2.2 hw;rw[q,<-l];unfold hp;rw[h.up,g.up]
theorem rv {a b:V2}:jG a b=true↔nj a b:=by
 unfold jG nj;simp only[Zo,XH,YK,aac,XU,js,ke];have:bn a=bn b↔(fa a↔fa b):=Yj;rw[this]
variable {x y z:V2}
theorem TP (b:x≠⟨0,0⟩) (f:y≠⟨0,0⟩) (nz:z≠⟨0,0⟩) (e1:bn x=bn y) (e2:bn y=bn z) (g:0<aa x y) (h2:0<aa y z):0<aa x z:=by
 refine Xz λk=>?_;have ex:=H8 x z y;have j:=H7 x z y;by_cases c:aa x z=0;rw[c,Yb]at ex j;have h:aa x y*(eH z).x=aa y z*x.x+0*x.x/\aa x y*(eH z).y=aa y z*x.y+0*x.y:=(by simp only[eH,YH,Yb,WT];omega);have:=NU (wK nz) b b g (XO h2) (Yc 0) (.inl (by omega)) h.1 h.2 rfl;have n:=fz nz;rw[e1,e2]at this;exact(aag (a:=fa z)) ((Yj.1 this).symm.trans n);have i:(-aa x z)*(eH y).x=aa x y*z.x+aa y z*x.x/\(-aa x z)*(eH y).y=aa x y*z.y+aa y z*x.y:=(by simp only[eH,WJ];omega);have:=NU (wK f) nz b (by omega) (XO g) (XO h2) (.inl (by omega)) i.1 i.2 (by rw[e1,e2]);have n:=fz f;rw[<-e2]at this;exact(aag (a:=fa y)) ((Yj.1 this).symm.trans n)
theorem sS (b:x≠⟨0,0⟩) (c:y≠⟨0,0⟩) (nz:z≠⟨0,0⟩) (f:jG x y=true) (h2:jG y z=true):jG x z=true:=by
 have q:=TP b c nz;unfold jG at*;cases g:bn x<;>cases a:bn y<;>cases h:bn z<;>rw[g,a]at f<;>rw[a,h]at h2<;>simp_all
def sE (f:V2->Int):LV->Int
 |[]=>0
 |x::l=>f x+sE f l
theorem qq (f:V2->Int) (l r:LV):sE f (l++r)=sE f l+sE f r:=by
 induction l with
 |nil=>simp[sE]
 |cons x l a=>simp only[YG,sE];rw[a];omega
theorem Az (f:V2->Int) {l r:LV} (h:l.Perm r):sE f l=sE f r:=by
 induction h with
 |nil=>rfl
 |cons x _ a=>simp only[sE];rw[a]
 |swap x y l=>simp only[sE];omega
 |trans _ _ b c=>exact b.trans c
theorem Cm {f g:V2->Int} {l:LV} (h:∀x∈l,f x=g x):sE f l=sE g l:=by
 induction l with
 |nil=>rfl
 |cons x l a=>simp only[sE];rw[h x (by simp),a (λy b=>h y (by simp[b]))]
def sV (l:LV):V2:=⟨sE (·.x) l,sE (·.y) l⟩
theorem vk:∀(a:LV) (u:V2),tf u a=ak u (sV a)
 |[],u=>V2.ext (by simp[tf,ak,sV,sE]) (by simp[tf,ak,sV,sE])
 |d::a,u=>by show tf (ak u d) a=_;rw[vk a];exact V2.ext (by simp only[ak,sV,sE];omega) (by simp only[ak,sV,sE];omega)
theorem T2 (δ:V2) (l:LV):aa δ (sV l)=sE (λx=>aa δ x) l:=by
 induction l with
 |nil=>simp[aa,sV,sE]
 |cons x l a=>have:aa δ (sV (x::l))=aa δ x+aa δ (sV l):=(by simp only[aa,sV,sE];grind);rw[this,a];rfl
def zq (a:LV):LV:=(List.range a.length).map (bc (rQ a))
structure Bg (a:LV):Prop where
 cv:gd a
 dn:bn (bc (rQ a) (a.length-1))=false
 up:bn (bc (rQ a) 0)=true
variable {i:Nat} {δ:V2}
section
variable {a:LV}
theorem Bg.flags (B:Bg a) (h:i+1<a.length):hp bn (bc (rQ a) i) (bc (rQ a) (i+1))=0:=by
 have o:=B.cv.one;have q:=B.cv.n3;obtain⟨m,b⟩:∃m,a.length=m+1:=⟨a.length-1,by omega⟩;rw[b]at o;simp only[aT]at o;have w:bc (rQ a) (m+1)=bc (rQ a) 0:=by have:=B.cv.iO 0;rw[X6,b]at this;exact this
 have dn:=B.dn;rw[b]at dn;have r:hp bn (bc (rQ a) m) (bc (rQ a) (m+1))=1:=by unfold hp;rw[w,B.up,show bc (rQ a) m=bc (rQ a) (m+1-1) from rfl,dn];simp
 have z:aT m (λi=>hp bn (bc (rQ a) i) (bc (rQ a) (i+1)))=0:=by omega
 have:∀k (f:Nat->Int),(∀i,0<=f i)->aT k f=0->∀i,i<k->f i=0:=by
  intro k f g;induction k with
  |zero=>intro _ i h;omega
  |succ k j=>
   intro l i t;simp only[aT]at l;have p:∀k,0<=aT k f:=λk=>by
    induction k with
    |zero=>exact Yc _
    |succ k j=>have:=g k;simp only[aT];omega
   have u:=p k;have x:=g k;by_cases c:i=k;subst c;omega;exact j (by omega) i (by omega)
 exact this m _ (λi=>Nh _ _ _) z i (by omega)
theorem Bg.step (B:Bg a) (h:i+1<a.length):jG (bc (rQ a) i) (bc (rQ a) (i+1))=true:=by
 have f:=B.flags h;have l:=B.cv.left i;unfold jG;unfold hp at f;cases b:bn (bc (rQ a) i)<;>cases c:bn (bc (rQ a) (i+1))<;>rw[b,c]at f<;>simp_all
theorem Bg.lt (B:Bg a):∀{k:Nat},i<k->k<a.length->jG (bc (rQ a) i) (bc (rQ a) k)=true
 |0,h,_=>by omega
 |k+1,h,b=>by by_cases c:i=k;subst c;exact B.step b;exact sS (B.cv.ne _) (B.cv.ne _) (B.cv.ne _) (B.lt (show i<k by omega) (by omega)) (B.step b)
theorem Bg.place (B:Bg a) (m:δ≠⟨0,0⟩):∃i,i<=a.length/\(∀t,t<a.length->(jG (bc (rQ a) t) δ=true↔t<i))/\ns δ (bc (rQ a) (i+a.length-1))=false/\ns δ (bc (rQ a) (i+a.length))=true:=by
 have C:=B.cv.n3;have ex:∀k,k<=a.length->∃i,i<=k/\∀t,t<k->(jG (bc (rQ a) t) δ=true↔t<i):=by
  intro k;induction k with
  |zero=>intro _;exact⟨0,XP _,λt h=>by omega⟩
  |succ k u=>
   intro D;obtain⟨i,o,f⟩:=u (by omega);cases c:jG (bc (rQ a) k) δ with
   |true=>refine⟨k+1,XP _,λt p=>⟨λ_=>p,λ_=>?_⟩⟩;by_cases e:t=k;subst e;exact c;exact sS (B.cv.ne _) (B.cv.ne _) m (B.lt (show t<k by omega) (by omega)) c
   |false=>refine⟨i,by omega,λt p=>?_⟩;by_cases e:t=k;subst e;rw[c];exact⟨λh=>(by cases h),λh=>(by omega)⟩;exact f t (by omega)
 obtain⟨i,o,f⟩:=ex a.length (XP _);refine⟨i,o,f,?_⟩;have b:=zA m (B.cv.left (i+a.length-1));rw[show i+a.length-1+1=i+a.length by omega]at b;have r:bc (rQ a) a.length=bc (rQ a) 0:=by have:=B.cv.iO 0;rwa [X6]at this
 have one:hp (ns δ) (bc (rQ a) (i+a.length-1)) (bc (rQ a) (i+a.length))=1:=by
  by_cases w:i=0
  ·subst w;rw[X6]at b|-;rw[r]at b|-;have x:jG (bc (rQ a) 0) δ=false:=by
    cases q:jG (bc (rQ a) 0) δ with
    |false=>rfl
    |true=>have:=(f 0 (by omega)).1 q;omega
   have j:jG (bc (rQ a) (a.length-1)) δ=false:=by
    cases q:jG (bc (rQ a) (a.length-1)) δ with
    |false=>rfl
    |true=>have:=(f _ (by omega)).1 q;omega
   have g:hp bn (bc (rQ a) (a.length-1)) (bc (rQ a) 0)=1:=(by unfold hp;rw[B.dn,B.up];simp);rw[x,j,g]at b;omega
  ·have y:bc (rQ a) (i+a.length-1)=bc (rQ a) (i-1):=by
    have:=B.cv.iO (i-1)
    rwa [show i-1+a.length=i+a.length-1 by omega]at this
   rw[y]at b|-;rw[B.cv.iO]at b|-;have l:=(f (i-1) (by omega)).2 (by omega);by_cases z:i=a.length;rw[z]at b l|-;rw[r]at b|-;have A:=(f 0 (by omega)).2 (by omega);have g:hp bn (bc (rQ a) (a.length-1)) (bc (rQ a) 0)=1:=(by unfold hp;rw[B.dn,B.up];simp);rw[l,A,g]at b;omega
   ·have j:jG (bc (rQ a) i) δ=false:=by
     cases q:jG (bc (rQ a) i) δ with
     |false=>rfl
     |true=>have:=(f _ (by omega)).1 q;omega
    have g:=B.flags (i:=i-1) (by omega);rw[show i-1+1=i by omega]at g;rw[l,j,g]at b;simp only[bI]at b;have:=Nh (ns δ) (bc (rQ a) (i-1)) (bc (rQ a) i);simp at b;omega
 unfold hp at one;by_cases c:ns δ (bc (rQ a) (i+a.length-1))=false/\ns δ (bc (rQ a) (i+a.length))=true;exact c;rw[XD c]at one;omega
theorem vn (f:V2->Int) (p:Nat->Bool) (hi:i<=a.length) (c:∀t,t<a.length->(p t=true↔t<i)) (g:V2->Int) (h:∀t,t<a.length->g (bc (rQ a) t)=if p t then f (bc (rQ a) t)else 0):sE g (zq a)=aT i λt=>f (bc (rQ a) t):=by
 have j:∀n,n<=a.length->sE g ((List.range n).map (bc (rQ a)))=aT n (λt=>if p t then f (bc (rQ a) t)else 0):=by
  intro n;induction n with
  |zero=>intro _;rfl
  |succ n b=>intro r;rw[ZU,Ys,qq,b (by omega)];simp only[Yg,W7,sE,aT];rw[h n (by omega)];omega
 unfold zq;rw[j _ (XP _)];obtain⟨m,l⟩:∃m,a.length=i+m:=⟨a.length-i,by omega⟩;rw[l,gg];have z:aT m (λt=>if p (i+t)then f (bc (rQ a) (i+t))else 0)=0:=by
  have:∀k,k<=m->aT k (λt=>if p (i+t)then f (bc (rQ a) (i+t))else 0)=0:=by
   intro k;induction k with
   |zero=>intro _;rfl
   |succ k b=>intro u;simp only[aT];rw[b (by omega),XD (λq=>by have:=(c (i+k) (by omega)).1 q;omega)];rfl
  exact this m (XP _)
 rw[z];have:aT i (λt=>if p t then f (bc (rQ a) t)else 0)=aT i (λt=>f (bc (rQ a) t)):=bA (λt o=>by rw[XG ((c t (by omega)).2 o)]);omega
theorem Oc (f:Nat->Int):∀i,aT i (λt=>f (t+1)-f t)=f i-f 0
 |0=>by simp[aT]
 |i+1=>by simp only[aT];rw[Oc f i];omega
theorem Kf (Q:Nat->V2) (i:Nat):aT i (λt=>(bc Q t).x)=(Q i).x-(Q 0).x:=Oc (λt=>(Q t).x) i
theorem Ke (Q:Nat->V2) (i:Nat):aT i (λt=>(bc Q t).y)=(Q i).y-(Q 0).y:=Oc (λt=>(Q t).y) i
theorem vp:x∈zq a↔∃t,t<a.length/\x=bc (rQ a) t:=by
 unfold zq;rw[XQ];exact⟨λ⟨i,h,k⟩=>⟨i,X4.1 h,k.symm⟩,λ⟨i,h,k⟩=>⟨i,X4.2 h,k.symm⟩⟩
theorem Bg.ahead (hi:i<=a.length) (h:∀t,t<a.length->(jG (bc (rQ a) t) δ=true↔t<i)):sE (λx=>if jG x δ then x.x else 0) (zq a)=(rQ a i).x-(rQ a 0).x/\sE (λx=>if jG x δ then x.y else 0) (zq a)=(rQ a i).y-(rQ a 0).y:=by
 refine⟨?_,?_⟩;rw[vn (·.x) (λt=>jG (bc (rQ a) t) δ) hi h _ (λt _=>rfl),Kf];rw[vn (·.y) (λt=>jG (bc (rQ a) t) δ) hi h _ (λt _=>rfl),Ke]
theorem DE (C:gd a):sE (·.x) (zq a)=0/\sE (·.y) (zq a)=0:=by
 have p:rQ a a.length=rQ a 0:=by have:=C.hZ 0;rwa [X6]at this
 refine⟨?_,?_⟩;rw[vn (·.x) (λ_=>true) (XP _) (λt b=>by simp[b]) _ (λt _=>rfl),Kf,p];omega;rw[vn (·.y) (λ_=>true) (XP _) (λt b=>by simp[b]) _ (λt _=>rfl),Ke,p];omega
theorem gd.ahead (C:gd a) {m:Int} (F:0<m) (t:δ≠⟨0,0⟩) (h:jY m a z) (u:ns δ (bc (rQ a) (i+a.length-1))=false) (h2:ns δ (bc (rQ a) (i+a.length))=true):0<aa δ (af z (ag m (rQ a i))):=by
 have G:=C.n3;have p:∀k,0<ai (ag m (rQ a k)) (ag m (rQ a (k+1))) z:=λk=>by have x:=ZJ k (show 0<a.length by omega);have:=h (rQ a (k%a.length),rQ a (k%a.length+1)) (by rw[ir];exact mq.2 ⟨_,x,rfl⟩);have f:rQ a (k%a.length)=rQ a k:=(by unfold rQ;rw[Nat.mod_mod]);have g:rQ a (k%a.length+1)=rQ a (k+1):=(by unfold rQ;rw[Z2]);simp only[f,g]at this;exact this
 have j:=p (i+a.length-1);have o:=p (i+a.length);have l:=C.left (i+a.length-1);rw[show i+a.length-1+1=i+a.length by omega]at j l;rw[C.hZ]at o;have f:ai (ag m (rQ a (i+a.length-1))) (ag m (rQ a (i+a.length))) z=m*aa (bc (rQ a) (i+a.length-1)) (af z (ag m (rQ a i))):=by have:rQ a (i+a.length)=rQ a i:=C.hZ i;have e:bc (rQ a) (i+a.length-1)=af (rQ a i) (rQ a (i+a.length-1)):=(by show af (rQ a (i+a.length-1+1)) _=_;rw[show i+a.length-1+1=i+a.length by omega,this]);rw[e,this];simp only[ai,aa,af,ag];grind
 have g:ai (ag m (rQ a i)) (ag m (rQ a (i+a.length+1))) z=m*aa (bc (rQ a) (i+a.length)) (af z (ag m (rQ a i))):=by have:rQ a (i+a.length)=rQ a i:=C.hZ i;have e:bc (rQ a) (i+a.length)=af (rQ a (i+a.length+1)) (rQ a i):=(by show af _ (rQ a (i+a.length))=_;rw[this]);rw[e];simp only[ai,aa,af,ag];grind
 rw[f]at j;rw[g]at o;have q:=(bg (show 1<=m by omega)).1.1 j;have r:=(bg (show 1<=m by omega)).1.1 o;generalize bc (rQ a) (i+a.length-1)=b at*;generalize bc (rQ a) (i+a.length)=c at*;generalize af z (ag m (rQ a i))=w at*;have H:=Qk u;have y:=Qi h2;have A:0<=aa b δ:=by have:=dP δ b;omega
 have id:aa b c*aa δ w=aa b δ*aa c w+aa δ c*aa b w:=by simp only[aa];grind
 have I:=XM A (XO r);have J:=XM y (XO q);have:aa b δ≠0\/aa δ c≠0:=by refine Xz λk=>t ?_;have B:aa b δ=0:=(by omega);have D:aa δ c=0:=(by omega);have ex:=H8 b c δ;have E:=H7 b c δ;rw[B,D,Yb,Yb]at ex E;exact V2.ext ((mz (show aa b c*δ.x=0 by omega)).resolve_left (by omega)) ((mz (show aa b c*δ.y=0 by omega)).resolve_left (by omega))
 have pos:0<aa b c*aa δ w:=by rw[id];rcases this with k|k;have:=XC (show 0<aa b δ by omega) r;omega;have:=XC (show 0<aa δ c by omega) q;omega
 exact(bg).1.1 pos
end
structure Mk (a b al:LV):Prop where
 ba:Bg a
 bb:Bg b
 perm:al.Perm (zq a++zq b)
 oN:al.Pairwise λx y=>jG y x=false
variable {x y:V2}
theorem CN (h:jG y x=false):(bn x=true\/bn y=false)/\(bn x=bn y->0<=aa x y):=by
 have c:=dP x y;unfold jG at h;cases a:bn x<;>cases b:bn y<;>rw[a,b]at h<;>simp at h|- <;>omega
theorem gK (a:x≠⟨0,0⟩) (b:y≠⟨0,0⟩) (h:bn x=bn y) (c:aa x y=0:=by omega):cY x y:=cY.of a c ((Lp a b c).2 h.symm)
theorem ve (h:bn x=bn y) (c:0<aa x y:=by omega):nj x y:= .inr ⟨Yj.1 h,c⟩
theorem Hu (a:bn x=true) (h2:bn y=false):nj x y:= .inl ⟨js.1 a,ke.1 h2⟩
section
variable {R X x y:V2}
theorem Oj (j:R≠⟨0,0⟩) (b:X≠⟨0,0⟩) (f:x≠⟨0,0⟩) (k:y≠⟨0,0⟩) (l:bn R=true) (g:bn X=false) (a:bn x=true) (i:bn y=false) (h:0<aa R X) (o:0<=aa R x) (h2:0<=aa y X):0<aa x y:=by
 have m:0<aa x X:=by by_cases c:aa R x=0;exact((gK j f (by rw[l,a]) c).cr X).1.2 h;exact(Ls j f b h (ve (by rw[l,a])) (Hu a g)).2
 by_cases c:aa y X=0;exact((gK k b (by rw[i,g]) c).cr x).2.1 m;exact(Ls f k b m (Hu a i) (ve (by rw[i,g]))).1
theorem Kx (b:R≠⟨0,0⟩) (j:X≠⟨0,0⟩) (k:x≠⟨0,0⟩) (f:y≠⟨0,0⟩) (a:bn R=false) (g:bn X=true) (l:bn x=false) (i:bn y=true) (h:0<aa R X) (o:0<=aa R x) (h2:0<=aa y X):0<aa x y:=by
 have m:0<aa R y:=by by_cases c:aa y X=0;exact((gK f j (by rw[i,g]) c).cr R).2.1 h;exact(QE b f j h (ve (by rw[i,g])) (Hu g a)).1
 by_cases c:aa R x=0;exact((gK b k (by rw[a,l]) c).cr y).1.2 m;exact(QD b k f m (Hu i a) (ve (by rw[a,l]))).2
end
theorem Bg.top {a:LV} (B:Bg a):∃i,i+1<a.length/\bn (bc (rQ a) i)=true/\bn (bc (rQ a) (i+1))=false:=by
 have f:=B.cv.n3;refine Xz λk=>?_;have:∀i,i<a.length->bn (bc (rQ a) i)=true:=by
  intro i;induction i with
  |zero=>intro _;exact B.up
  |succ i b=>
   intro c;cases q:bn (bc (rQ a) (i+1))with
   |true=>rfl
   |false=>exact absurd ⟨i,c,b (by omega),q⟩ k
 have:=this (a.length-1) (by omega);rw[B.dn]at this;cases this
theorem Ng:∀(a:LV) (d:V2),(∀s x y t,d::a=s++x::y::t->tx x y)->SP d a
 |[],_,_=>trivial
 |e::a,d,h=>⟨h [] d e a rfl,Ng a e (λs x y t k=>h (d::s) x y t (by rw[k];rfl))⟩
theorem Ma {p:V2->Bool}:∀(a:LV) (d:V2),(d::a).Pairwise (λx y=>p x=true\/p y=false)->Be p d a=0
 |[],_,_=>rfl
 |e::a,d,h=>by obtain⟨b,c⟩:=YJ.1 h;have:=b e (by simp);simp only[Be];rw[Ma a e c];unfold hp;rw[XD (λk=>by rw[k.1,k.2]at this;simp at this)];rfl
variable {s:LV}
section
variable {a b al:LV}
theorem Mk.nz (M:Mk a b al) (h:x∈al):x≠⟨0,0⟩:=by
 rcases XN.1 (M.perm.mem_iff.1 h)with k|k;obtain⟨t,_,rfl⟩:=vp.1 k;exact M.ba.cv.ne t;obtain⟨t,_,rfl⟩:=vp.1 k;exact M.bb.cv.ne t
theorem Mk.LR (M:Mk a b al) {t:Nat} (h:t<a.length):bc (rQ a) t∈al:=M.perm.mem_iff.2 (X0 _ (vp.2 ⟨t,h,rfl⟩))
theorem Mk.pH (M:Mk a b al) {t:LV} (e:al=s++x::y::t):tx x y:=by
 have p:=M.oN;rw[e]at p;obtain⟨J,D,E⟩:=Zw.1 p;obtain⟨F,G⟩:=YJ.1 D;obtain⟨H,K⟩:=YJ.1 G;have o:=CN (F y (by simp));have r:=M.nz (x:=x) (by rw[e];simp);have w:=M.nz (x:=y) (by rw[e];simp);have A:∀z∈al,z=x\/z=y\/jG x z=false\/jG z y=false:=λz B=>by rw[e]at B;rcases XN.1 B with k|k;exact .inr (.inr (.inl (E z k x (by simp))));rcases XF.1 k with k|k;exact .inl k;rcases XF.1 k with k|k;exact .inr (.inl k);exact .inr (.inr (.inr (H z k)))
 by_cases f:bn x=bn y;have c:=o.2 f;by_cases C:aa x y=0;exact .inr ⟨C,gK r w f C⟩;exact .inl (by omega)
 ·have g:bn x=true:=by
   cases u:bn x with
   |true=>rfl
   |false=>rw[u]at f o;rcases o.1 with q|q<;>simp_all
  have m:bn y=false:=by
   cases u:bn y with
   |false=>rfl
   |true=>rw[u,g]at f;exact absurd rfl f
  obtain⟨i,I,h,j⟩:=M.ba.top;have l:=M.ba.cv.left i;refine .inl (Oj (M.ba.cv.ne i) (M.ba.cv.ne (i+1)) r w h j g m l ?_ ?_);rcases A _ (M.LR (show i<a.length by omega))with k|k|k|k;rw[k,gY];exact Yc _;rw[k,m]at h;cases h;exact(CN k).2 (by rw[h,g]);have:=(CN k).1;rw[h,m]at this;simp at this;rcases A _ (M.LR I)with k|k|k|k;rw[k,g]at j;cases j;rw[k,gY];exact Yc _;have:=(CN k).1;rw[j,g]at this;simp at this;exact(CN k).2 (by rw[j,m])
theorem Mk.wrap (M:Mk a b al) {d:V2} {f:LV} (e:al=d::f):bn d=true/\bn ((d::f).getLast (by simp))=false/\0<aa ((d::f).getLast (by simp)) d:=by
 have x:=M.ba.cv.n3;have g:=M.oN;rw[e]at g;obtain⟨u,y⟩:=YJ.1 g;obtain⟨s,h⟩:∃s,d::f=s++[(d::f).getLast (by simp)]:=⟨(d::f).dropLast,(aay _).symm⟩;have m:(d::f).getLast (by simp)∈al:=by rw[e];exact List.getLast_mem _
 generalize (d::f).getLast (by simp)=l at h m;have o:=g;rw[h]at o;have w:=(Zw.1 o).2.2;have p:=M.LR (show 0<a.length by omega);have q:=M.LR (show a.length-1<a.length by omega);have r:d=bc (rQ a) 0\/jG (bc (rQ a) 0) d=false:=by rw[e]at p;rcases XF.1 p with k|k;exact .inl k.symm;exact .inr (u _ k)
 have t:l=bc (rQ a) (a.length-1)\/jG l (bc (rQ a) (a.length-1))=false:=by rw[e,h]at q;rcases XN.1 q with k|k;exact .inr (w _ k l (by simp));exact .inl (YB.1 k).symm
 have i:bn d=true:=by rcases r with k|k;rw[k];exact M.ba.up;have:=(CN k).1;rw[M.ba.up]at this;simpa using this
 have j:bn l=false:=by rcases t with k|k;rw[k];exact M.ba.dn;have:=(CN k).1;rw[M.ba.dn]at this;simpa using this
 refine⟨i,j,?_⟩;have c:=M.ba.cv.left (a.length-1);rw[show a.length-1+1=0+a.length by omega,M.ba.cv.iO]at c;refine Kx (M.ba.cv.ne _) (M.ba.cv.ne 0) (M.nz m) (M.nz (by rw[e];simp)) M.ba.dn M.ba.up j i c ?_ ?_;rcases t with k|k;rw[k,gY];exact Yc _;exact(CN k).2 (by rw[j,M.ba.dn]);rcases r with k|k;rw[k,gY];exact Yc _;exact(CN k).2 (by rw[i,M.ba.up])
theorem Ou {l r:LV} (h:l.Perm r):sV l=sV r:=by unfold sV;rw[Az _ h,Az _ h]
theorem Mk.zero (M:Mk a b al):sV al=⟨0,0⟩:=by
 rw[Ou M.perm];have c:=DE M.ba.cv;have f:=DE M.bb.cv;unfold sV;rw[qq,qq,c.1,c.2,f.1,f.2];rfl
def si (u:V2):LV->LV
 |[]=>[]
 |d::a=>u::kp d (ak u d) a
theorem Mk.ne (M:Mk a b al):∃d c,al=d::c:=by
 have f:=M.ba.cv.n3;have:=M.LR (show 0<a.length by omega);cases al with
 |nil=>cases this
 |cons d c=>exact⟨d,c,rfl⟩
theorem Mk.ring (M:Mk a b al) (u:V2):gd (si u al)/\∀(m:Int) (z:V2),0<m->(jY m (si u al) z↔∀e∈Gz u al,0<ai (ag m e.1) (ag m e.2) z):=by
 obtain⟨d,c,e⟩:=M.ne;obtain⟨f,g,i⟩:=M.wrap e;have j:SP d c:=Ng c d (λs x y t k=>M.pH (by rw[e,k]));have l:tf (ak u d) c=u:=by have:tf u al=tf (ak u d) c:=(by rw[e];rfl);rw[<-this,vk,M.zero];exact V2.ext (by simp[ak]) (by simp[ak])
 have o:Be bn d c=0:=Ma c d (by have:=M.oN;rw[e]at this;exact this.imp (λ{x y} h=>(CN h).1));have p:hp bn ((d::c).getLast (by simp)) d=1:=by unfold hp;rw[f,g];simp
 have:=GM j l i (by rw[o,p];rfl);rw[e];exact⟨this.1,this.2.2⟩
theorem Gy:∀{l:LV} {u:V2} {e:V2×V2},e∈Gz u l->∃s a t,l=s++a::t/\e=(ak u (sV s),ak (ak u (sV s)) a)
 |[],_,_,h=>by cases h
 |d::b,u,e,h=>by rcases XF.1 h with rfl|h;have:ak u (sV [])=u:=V2.ext (by simp[ak,sV,sE]) (by simp[ak,sV,sE]);exact⟨[],d,b,rfl,by rw[this]⟩;obtain⟨s,a,t,c,f⟩:=Gy h;refine⟨d::s,a,t,by rw[c];rfl,?_⟩;have:ak u (sV (d::s))=ak (ak u d) (sV s):=V2.ext (by simp only[ak,sV,sE];omega) (by simp only[ak,sV,sE];omega);rw[f,this]
theorem KS (a:V2) (p:V2->Bool) (l:LV):sE (λx=>if p x then aa a x else 0) l=a.x*sE (λx=>if p x then x.y else 0) l-a.y*sE (λx=>if p x then x.x else 0) l:=by
 induction l with
 |nil=>simp[sE]
 |cons x l b=>simp only[sE];rw[b];cases p x;simp;simp only[WH,aa];grind
theorem Ox {f:V2->Int} {l:LV} (h:∀x∈l,f x=0):sE f l=0:=by
 induction l with
 |nil=>rfl
 |cons x l a=>simp only[sE];rw[h x (by simp),a (λy b=>h y (by simp[b]))];rfl
theorem Mk.Mu (M:Mk a b al) {t:LV} {c:V2} (e:al=s++c::t):∃i j,ns c (bc (rQ a) (i+a.length-1))=false/\ns c (bc (rQ a) (i+a.length))=true/\ns c (bc (rQ b) (j+b.length-1))=false/\ns c (bc (rQ b) (j+b.length))=true/\
  aa c (sV s)=aa c (af (rQ a i) (rQ a 0))+aa c (af (rQ b j) (rQ b 0))/\
  ((∀x∈s,jG x c=true)->sV s=ak (af (rQ a i) (rQ a 0)) (af (rQ b j) (rQ b 0))):=by
 have p:=M.nz (x:=c) (by rw[e];simp);obtain⟨i,w,y,z,A⟩:=M.ba.place p;obtain⟨j,B,C,D,E⟩:=M.bb.place p;have h:=Bg.ahead (a:=a) w y;have m:=Bg.ahead (a:=b) B C;have r:=M.oN;rw[e]at r;obtain⟨P,F,G⟩:=Zw.1 r;obtain⟨H,Q⟩:=YJ.1 F;have I:jG c c=false:=by
  cases q:jG c c with
  |false=>rfl
  |true=>exact absurd (rv.1 q) w2
 have J:∀x∈c::t,jG x c=false:=λx g=>by rcases XF.1 g with rfl|k;exact I;exact H x k
 have o:∀f:V2->Int,sE (λx=>if jG x c then f x else 0) s=sE (λx=>if jG x c then f x else 0) (zq a)+sE (λx=>if jG x c then f x else 0) (zq b):=λf=>by rw[<-qq,<-Az _ M.perm,e,qq,Ox (l:=c::t) (λx g=>by rw[J x g];rfl)];omega
 refine⟨i,j,z,A,D,E,?_,λK=>?_⟩
 ·rw[T2];have:sE (λx=>aa c x) s=sE (λx=>if jG x c then aa c x else 0) s:=Cm (λx g=>by
   cases q:jG x c with
   |true=>rfl
   |false=>have N:=CN (G x g c (by simp));have O:=CN q;have f:bn x=bn c:=(by cases R:bn x<;>cases S:bn c<;>simp_all);have T:=N.2 f;have U:=O.2 f.symm;have:=dP c x;simp;omega)
  rw[this,o,KS,KS,h.1,h.2,m.1,m.2];simp only[aa,af]
 ·have u:∀f:V2->Int,sE f s=sE (λx=>if jG x c then f x else 0) s:=λf=>Cm (λx g=>by rw[K x g];rfl);refine V2.ext ?_ ?_;show sE (·.x) s=_;rw[u,o,h.1,m.1];rfl;show sE (·.y) s=_;rw[u,o,h.2,m.2];rfl
theorem Mk.qK (M:Mk a b al) {m:Int} (g:0<m) {v:V2} (o:jY m a x) (p:jY m b y) (k:ak x y=ag m v):jY 1 (si (ak (rQ a 0) (rQ b 0)) al) v:=by
 refine((M.ring _).2 1 v (by decide)).2 (λe q=>?_);obtain⟨s,c,t,f,rfl⟩:=Gy q;have l:=M.nz (x:=c) (by rw[f];simp);obtain⟨i,j,r,u,w,z,h,_⟩:=M.Mu f;show 0<ai (ag 1 (ak (ak (rQ a 0) (rQ b 0)) (sV s))) (ag 1 (ak (ak (ak (rQ a 0) (rQ b 0)) (sV s)) c)) v;have A:=gd.ahead M.ba.cv g l o r u;have B:=gd.ahead M.bb.cv g l p w z;have C:x.x+y.x=m*v.x:=X5 V2.x k;have D:x.y+y.y=m*v.y:=X5 V2.y k;have:m*ai (ag 1 (ak (ak (rQ a 0) (rQ b 0)) (sV s))) (ag 1 (ak (ak (ak (rQ a 0) (rQ b 0)) (sV s)) c)) v=aa c (af x (ag m (rQ a i)))+aa c (af y (ag m (rQ b j))):=by have f:ai (ag 1 (ak (ak (rQ a 0) (rQ b 0)) (sV s))) (ag 1 (ak (ak (ak (rQ a 0) (rQ b 0)) (sV s)) c)) v=aa c v-aa c (rQ a 0)-aa c (rQ b 0)-aa c (sV s):=(by simp only[ai,aa,af,ag,ak];grind);rw[f,h];simp only[aa,af,ag];grind
 exact(bg (show 1<=m by omega)).1.1 (by omega)
end
end Sg
end Go.Vm
