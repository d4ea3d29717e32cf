import Derived.Test.YtobmlkopbmakcaaGreatME
import Derived.Test.YtobmlkopbmakcaaGreatMD
set_option linter.unusedVariables false
set_option linter.unusedSimpArgs false
set_option maxRecDepth 20000
namespace Go.Vm
open Go Go.RowKit Go.Proofs
namespace Sg
variable {p q:V2} {m:Int}
section
variable {E D:Ed}
theorem qd (a b c:V2):aj b c a=aj a b c:=by simp only[aj,aa,ag];grind
theorem Ke (p q r:V2):aj r p q=aj p q r:=by simp only[aj,aa,ag];grind
theorem Kn.eX (h:Dis E D) {r:V2} (K:Kn E D p q r) {s:V2} (b:0<aa (ag r q) s) (h2:0<aa s (ag p q)):Ev λn=>W (bw n E) (nr n q s)=1:=by
 refine Fi h K.te ?_ (λy c ⟨f,a⟩=>K.free y c ⟨?_,a⟩);have:aa (ag q p) s=aa s (ag p q):=(by simp only[aa,ag];grind);omega;have id:aa (ag r q) (ag y q)*aa s (ag p q)=aa (ag r q) s*aa (ag y q) (ag p q)+aa (ag r q) (ag p q)*aa s (ag y q):=(by simp only[aa,ag];grind);have g:=XC b a;have i:=XF (XN (show 0<aa (ag r q) (ag p q) by rw[vN];exact K.left)) f;refine Y5.1 λk=>?_;have:=YH k (XN h2);omega
theorem ej {a b r:V2} (h:aU p q r) (j:r≠p):(0<=aj a b p->0<aj a b q->0<aj a b r)/\(aj a b q<aj a b p->r≠q->aj a b q<aj a b r):=by
 obtain⟨o,t⟩:=uT (a:=a) (b:=b) h.1;have i:=h.1;obtain⟨_,F,G,H,I⟩:=h;have m:∀x y z:Int,(y-x)*aj a b r=(y-z)*aj a b p+(z-x)*aj a b q->((x<=z/\z<=y)\/(y<=z/\z<=x))->x≠y->z≠x->(0<=aj a b p->0<aj a b q->0<aj a b r)/\(aj a b q<aj a b p->z≠y->aj a b q<aj a b r):=by intro x y z e J u K;rcases Yh u with c|c;refine⟨λf g=>?_,λf g=>?_⟩;have l:=XF (show 0<=y-z by omega) f;have w:=XC (show 0<z-x by omega) g;refine Y5.1 λk=>?_;have:=XM (show 0<=y-x by omega) k;omega;have l:=Yw f (show 0<y-z by omega);refine Zs (a:=y-x) ?_ (by omega);have:(y-x)*aj a b q=(y-z)*aj a b q+(z-x)*aj a b q:=(by grind);omega;have M:(x-y)*aj a b r=(z-y)*aj a b p+(x-z)*aj a b q:=(by grind);refine⟨λf g=>?_,λf g=>?_⟩;have l:=XF (show 0<=z-y by omega) f;have w:=XC (show 0<x-z by omega) g;refine Y5.1 λk=>?_;have:=XM (show 0<=x-y by omega) k;omega;have l:=Yw f (show 0<z-y by omega);refine Zs (a:=x-y) ?_ (by omega);have:(x-y)*aj a b q=(z-y)*aj a b q+(x-z)*aj a b q:=(by grind);omega
 have A:p≠q:=λe=>by subst e;exact j (V2.ext (by omega) (by omega))
 have B:p.x≠q.x->r.x≠p.x/\(r≠q->r.x≠q.x):=λc=>by refine⟨λk=>j (V2.ext k ?_),λC k=>C (V2.ext k ?_)⟩;have e:(q.x-p.x)*(r.y-p.y)=0:=(by simp only[aj,aa,ag]at i;rw[k]at i;grind);have:=(mz e).resolve_left (by omega);omega;have e:(q.x-p.x)*(r.y-q.y)=0:=(by simp only[aj,aa,ag]at i;rw[k]at i;grind);have:=(mz e).resolve_left (by omega);omega
 by_cases c:p.x=q.x;have D:p.y≠q.y:=λk=>A (V2.ext c k);have k:=m p.y q.y r.y t (by omega) D (λk=>j (V2.ext (by omega) k));exact⟨k.1,λf g=>k.2 f (λE=>g (V2.ext (by omega) E))⟩;have z:=B c;have k:=m p.x q.x r.x o (by omega) c z.1;exact⟨k.1,λf g=>k.2 f (z.2 g)⟩
theorem Dis.ox (h:Dis E D) {v:V2} (a:Vx E v) {f:V2×V2} (b:f∈E++D) (c:0<m) (g:aU (ah m f.1) (ah m f.2) (ah m v)):ah m v=ah m f.1\/ah m v=ah m f.2:=by
 rcases h.pz a b ((gW c).1 g)with k|k;left;rw[k];right;rw[k]
theorem dL (a b:V2):aj a b a=0:=by simp only[aj,aa,ag];grind
theorem dQ (a b:V2):aj a b b=0:=by simp only[aj,aa,ag];grind
theorem Kn.empty (h:pJ E D) {r:V2} (K:Kn E D p q r) {v:V2} (C:Vx E v) (a2:0<=aj q r v) (h2:0<=aj r p v) (a3:0<=aj p q v):v=p\/v=q\/v=r:=by
 have g:=h.toDis;refine Xz λa4=>?_;obtain⟨F,G⟩:∃F:V2->Prop,∀x,F x↔(0<=aj q r x/\0<=aj r p x/\0<=aj p q x)/\¬(x=p\/x=q\/x=r):=⟨_,λ_=>ZB⟩;obtain⟨a5,a6,rfl⟩:=C;obtain⟨e,a7,a8,a9⟩:=min_mem (λe:V2×V2=> -aj r p e.1) (λe=>F e.1) E ⟨a5,a6,(G _).2 ⟨⟨a2,h2,a3⟩,a4⟩⟩;obtain⟨⟨b0,i,b1⟩,H⟩:=(G _).1 a8;have o:Vx E e.1:=⟨e,a7,rfl⟩;generalize e.1=x at*;have b2:x≠p:=λk=>H (.inl k);have I:x≠q:=λk=>H (.inr (.inl k));have b3:x≠r:=λk=>H (.inr (.inr k));have T:=K.left;have c4:aj q r x+aj r p x+aj p q x=aj p q r:=by simp only[aj,aa,ag];grind
 have O:∀{a b:V2},ow E D a b->aU a b x->x=a\/x=b:=λ{a b} b4 P=>by rcases b4 with k|k;exact g.pz o k P;exact(g.pz o k (ax.1 P)).symm
 have Q:∀{a b c:V2},0<aj a b c->aj a b x=0->0<=aj b c x->0<=aj c a x->aU a b x:=λ{a b c} t z y A=>by
  have ex:aj a b c*(x.x-a.x)=aj c a x*(b.x-a.x):=(by simp only[aj,aa,ag]at z|-;grind);have b5:aj a b c*(x.y-a.y)=aj c a x*(b.y-a.y):=(by simp only[aj,aa,ag]at z|-;grind);have b6:aj a b c*(b.x-x.x)=aj b c x*(b.x-a.x):=(by simp only[aj,aa,ag]at z|-;grind);have b7:aj a b c*(b.y-x.y)=aj b c x*(b.y-a.y):=(by simp only[aj,aa,ag]at z|-;grind);have R:∀u w:Int,aj a b c*u=aj c a x*w->(0<=w->0<=u)/\(w<=0->u<=0):=λu w e=>by refine⟨λk=>?_,λk=>?_⟩;refine ZN.1 λq=>?_;have:=Yb t q;have:=XF A k;omega;refine ZN.1 λq=>?_;have:=XC t q;have:=XM A k;omega
  have S:∀u w:Int,aj a b c*u=aj b c x*w->(0<=w->0<=u)/\(w<=0->u<=0):=λu w e=>by refine⟨λk=>?_,λk=>?_⟩;refine ZN.1 λq=>?_;have:=Yb t q;have:=XF y k;omega;refine ZN.1 λq=>?_;have:=XC t q;have:=XM y k;omega
  have c5:=R _ _ ex;have c6:=R _ _ b5;have c7:=S _ _ b6;have c8:=S _ _ b7;exact⟨z,by omega,by omega,by omega,by omega⟩
 have U:0<aj p q x:=by refine Xz λk=>?_;rcases O K.te.qH.sym (Q T (by omega) b0 i)with q|q;exact b2 q;exact I q
 have V:0<aj q r x:=by refine Xz λk=>?_;have b8:0<aj q r p:=(by rw[qd];exact T);rcases O K.qH (Q b8 (by omega) i b1)with q|q;exact I q;exact b3 q
 have C:∀v,Vx E v->v≠q->0<=aj q r v->0<=aj r p v->0<=aj p q v->aj r p v<=aj r p x:=λv ⟨f,j,X⟩ b9 y A c0=>by by_cases c:v=p\/v=r;rcases c with c|c;rw[c,dQ];exact i;rw[c,dL];exact i;have:=a9 f j (by rw[X];exact(G v).2 ⟨⟨y,A,c0⟩,λk=>by rcases k with k|k|k;exact c (.inl k);exact b9 k;exact c (.inr k)⟩);rw[X]at this;omega
 refine h.clear (K.qH.vx g).1 o (Zf I) (λf j m c l J M=>?_) (K.eX g (s:=ag x q) (by rw[QL];exact V) (by rw[vN];exact U));by_cases B:c=ah m q;subst B;exact⟨.inl rfl,g.ox (K.qH.vx g).1 j l M⟩;by_cases Y:c=ah m x;subst Y;exact⟨.inr rfl,g.ox o j l M⟩;exfalso;have N:=XC l l;have Z:=(bf (n:=m*m) (x:=aj q r x) N).1.2 V;have a0:=(bf (n:=m*m) (x:=aj p q x) N).1.2 U;have c9:=Ke p q r;have a1:=Yw (show aj r p x<aj r p q by omega) N;rw[<-cc]at Z a0;rw[<-cc,<-cc]at a1;have c1:=(ej (a:=ah m q) (b:=ah m r) J B).1 (by rw[dL];exact Yf _) Z;have c2:=(ej (a:=ah m p) (b:=ah m q) J B).1 (by rw[dQ];exact Yf _) a0;have c3:=(ej (a:=ah m r) (b:=ah m p) J B).2 a1 Y;exact K.G5 g i C j l M c1 c2 (by rw[<-cc];exact c3)
theorem Kn.q7 (h:pJ E D) {r:V2} (K:Kn E D p q r) {f:V2×V2} (a:f∈E++D) (b:0<m) {c:V2} (g:aU (ah m f.1) (ah m f.2) c) (i:0<aj (ah m q) (ah m r) c) (h2:0<aj (ah m r) (ah m p) c) (j:0<aj (ah m p) (ah m q) c):False:=by
 refine K.G5 h.toDis (Yf 0) (λv k l o t u=>?_) a b g i j (by rw[X8];exact h2);rcases K.empty h k o t u with e|e|e;rw[e,dQ];exact Yf _;exact absurd e l;rw[e,dL];exact Yf _
theorem Kn.ne (h:Dis E D) {r:V2} (K:Kn E D p q r):p≠q/\q≠r/\r≠p:=by
 refine⟨K.te.ne h,K.qH.ne h,λe=>?_⟩;have:=K.left;rw[e,dL]at this;omega
theorem Kn.Uj (h:pJ E D) {r:V2} (K:Kn E D p q r):ow E D r p:=by
 have j:=h.toDis;obtain⟨f3,f4,Q⟩:=K.ne j;have a2:=(K.qH.vx j).2;have a3:=(K.te.qH.vx j).2;have f5:=(K.qH.vx j).1;have T:=K.left;refine Xz λc6=>?_;have a4:∀f∈E++D,AE r p f.1 f.2:=by
  intro f l m c i G o;have z:=XC i i;by_cases A:c=ah m r;subst A;exact⟨.inl rfl,j.ox a2 l i o⟩;by_cases B:c=ah m p;subst B;exact⟨.inr rfl,j.ox a3 l i o⟩;exfalso;have C:aj (ah m r) (ah m p) c=0:=G.1;have c7:0<aj (ah m q) (ah m r) (ah m p):=(by rw[cc,qd];exact XC z T);have c8:0<aj (ah m p) (ah m q) (ah m r):=(by rw[cc];exact XC z T);have R:=(ej (a:=ah m q) (b:=ah m r) G A).1 (by rw[dQ];exact Yf _) c7;have a5:=(ej (a:=ah m p) (b:=ah m q) (ax.1 G) B).1 (by rw[dL];exact Yf _) c8;have up:∀{g f1:V2},(f1,g)∈E++D\/(g,f1)∈E++D->aU (ah m f1) (ah m g) c->0<aj (ah m r) (ah m p) (ah m g)->False:=by
   intro g f1 c9 d0 H;obtain⟨n,f6,d1,d2⟩:=((dK (aa (ag (ah m r) (ah m q)) (ag (ah m g) c)) R).and (dK (aa (ag (ah m q) (ah m p)) (ag (ah m g) c)) a5)).ex 1;have O:0<(n:Int):=(by omega);have a6:=y6 n (by omega) c (ah m g);have a7:aU (ah n (ah m f1)) (ah n (ah m g)) (nr n c (ag (ah m g) c)):=(by have a:=iB O d0;exact aU.trans a (ax.1 a6));simp only[eu]at a7;have t:∀a b:V2,aj (ah (n*m) a) (ah (n*m) b) (nr n c (ag (ah m g) c))=n*(n*aj (ah m a) (ah m b) c+aa (ag (ah m b) (ah m a)) (ag (ah m g) c)):=λa b=>by rw[<-eu,<-eu,pN]
   have V:0<aj (ah (n*m) q) (ah (n*m) r) (nr n c (ag (ah m g) c)):=(by rw[t];exact XC O d1);have b6:0<aj (ah (n*m) p) (ah (n*m) q) (nr n c (ag (ah m g) c)):=(by rw[t];exact XC O d2);have X:0<aj (ah (n*m) r) (ah (n*m) p) (nr n c (ag (ah m g) c)):=(by rw[t,C,X8,Zk];have:aa (ag (ah m p) (ah m r)) (ag (ah m g) c)=aj (ah m r) (ah m p) (ah m g):=(by simp only[aj,aa,ag]at C|-;grind);rw[this];exact XC O H);rcases c9 with k|k;exact K.q7 h k (ny O i) a7 V X b6;exact K.q7 h k (ny O i) (ax.1 a7) V X b6
  have f7:¬0<aj (ah m r) (ah m p) (ah m f.1):=λk=>up (.inr l) (ax.1 o) k;have f8:¬0<aj (ah m r) (ah m p) (ah m f.2):=λk=>up (.inl l) o k;have zz:aj (ah m r) (ah m p) (ah m f.1)=0/\aj (ah m r) (ah m p) (ah m f.2)=0:=by
   have s:=qR (a:=ah m r) (b:=ah m p) o;have t:c≠ah m f.1:=λe=>by rcases K.empty h (j.ends l).1 (by have:=R;rw[e,cc]at this;exact XN ((bf (n:=m*m) z).1.1 this)) (by rw[e,cc]at C;exact ZX ((bf (n:=m*m) z).2.2.1 C).symm) (by have:=a5;rw[e,cc]at this;exact XN ((bf (n:=m*m) z).1.1 this))with k|k|k;exact B (by rw[e,k]);rw[e,k,dL]at R;omega;exact A (by rw[e,k])
   have Y:c≠ah m f.2:=λe=>by rcases K.empty h (j.ends l).2.1 (by have:=R;rw[e,cc]at this;exact XN ((bf (n:=m*m) z).1.1 this)) (by rw[e,cc]at C;exact ZX ((bf (n:=m*m) z).2.2.1 C).symm) (by have:=a5;rw[e,cc]at this;exact XN ((bf (n:=m*m) z).1.1 this))with k|k|k;exact B (by rw[e,k]);rw[e,k,dL]at R;omega;exact A (by rw[e,k])
   have d3:=(ej (a:=ah m r) (b:=ah m p) o t).2;have d4:=(ej (a:=ah m r) (b:=ah m p) (ax.1 o) Y).2;have f9:aj (ah m r) (ah m p) (ah m f.1)=aj (ah m r) (ah m p) (ah m f.2):=by
    rcases YJ (aj (ah m r) (ah m p) (ah m f.1)) (aj (ah m r) (ah m p) (ah m f.2))with k|k|k
    ·
     exfalso;have d5:=d4 k t;have g0:=gu (a:=ah m p) (b:=ah m r) (k:= -aj (ah m r) (ah m p) (ah m f.1)) o (by rw[aV];omega) (by rw[aV];omega);have S:=ej (a:=ah m p) (b:=ah m r) o t;rw[aV (ah m r) (ah m p) (ah m f.1),aV (ah m r) (ah m p) (ah m f.2),aV (ah m r) (ah m p) c]at S;have:=S.2 (by omega) Y;omega
    ·exact k
    ·exfalso;have d5:=d3 k Y;have S:=ej (a:=ah m p) (b:=ah m r) (ax.1 o) Y;rw[aV (ah m r) (ah m p) (ah m f.1),aV (ah m r) (ah m p) (ah m f.2),aV (ah m r) (ah m p) c]at S;have:=S.2 (by omega) t;omega
   have w:=gu (a:=ah m r) (b:=ah m p) (k:=aj (ah m r) (ah m p) (ah m f.1)) o (Yf _);omega
  have b7:∀{v:V2},v=r\/v=p->aU f.1 f.2 v:=by
   intro v P;refine Xz λa8=>?_;have g1:aU (ah m v) c c:=bp _ _;have d6:ah m v≠c:=λe=>by rcases P with k|k<;>rw[k]at e;exact A e.symm;exact B e.symm
   have b8:∀g:V2,aj (ah m r) (ah m p) (ah m g)=0->aj (ah m v) c (ah m g)=0:=λg H=>by have a9:ah m r≠ah m p:=λe=>Q (gC i e);have V:((ah m p).x-(ah m r).x)*aj (ah m v) c (ah m g)=0:=(by rcases P with k|k<;>(rw[k];simp only[aj,aa,ag]at H C|-;grind));have X:((ah m p).y-(ah m r).y)*aj (ah m v) c (ah m g)=0:=(by rcases P with k|k<;>(rw[k];simp only[aj,aa,ag]at H C|-;grind));refine Xz λk=>a9 (V2.ext ?_ ?_);have:=(mz V).resolve_right k;omega;have:=(mz X).resolve_right k;omega
   have fin:∀g:V2,Vx E g->(g=f.1\/g=f.2)->aU (ah m v) c (ah m g)->aj (ah m r) (ah m p) (ah m g)=0->False:=by
    intro g d7 H F b9;have d8:aU (ah m r) (ah m p) (ah m g):=(by rcases P with k|k;rw[k]at F;exact ax.1 (aU.trans (ax.1 G) (ax.1 F));rw[k]at F;exact aU.trans G (ax.1 F));have b0:aU r p g:=(gW i).1 d8;have d9:0<=aj q r g:=(by refine ZN.1 λk=>?_;have c0:=qd p q r;have:=gu (a:=r) (b:=q) (k:=0) b0 (by rw[dL];exact Yf _) (by rw[aV];omega);rw[aV]at this;omega);have e0:0<=aj p q g:=(by refine ZN.1 λk=>?_;have:=gu (a:=q) (b:=p) (k:=0) b0 (by rw[aV];omega) (by rw[dQ];exact Yf _);rw[aV]at this;omega);rcases K.empty h d7 d9 (by rw[b0.1];exact Yf _) e0 with k|k|k
    ·rcases P with I|I;rw[I,k]at F;exact B (kB F G)
     ·refine a8 ?_;rw[I,<-k];rcases H with e|e<;>rw[e]
      ·exact bK _ _
      ·exact bp _ _
    ·rw[k,cc]at b9;rw[Ke]at b9;have:=XC z T;omega
    ·rcases P with I|I
     ·refine a8 ?_;rw[I,<-k];rcases H with e|e<;>rw[e]
      ·exact bK _ _
      ·exact bp _ _
     ·rw[I,k]at F;exact A (kB F (ax.1 G))
   rcases AQ (b8 _ zz.1) (b8 _ zz.2) d6 o (λk=>a8 ((gW i).1 k))with k|k;exact fin f.1 (j.ends l).1 (.inl rfl) k zz.1;exact fin f.2 (j.ends l).2.1 (.inr rfl) k zz.2
  have e1:=j.pz a2 l (b7 (.inl rfl));have ep:=j.pz a3 l (b7 (.inr rfl));refine c6 ?_;rcases e1 with a|a<;>rcases ep with b|b
  ·exact absurd (a.trans b.symm) Q
  ·left;rw[a,b];exact l
  ·right;rw[a,b];exact l
  ·exact absurd (a.trans b.symm) Q
 refine h.max r p a2 a3 Q (λe b1=>a4 e (by simp[b1])) (λd e2=>a4 d (by simp[e2])) ?_;have e3:0<aa (ag r q) (an (ag r q) (ag p q)):=by have:aa (ag r q) (an (ag r q) (ag p q))=aj p q r:=(by simp only[aj,aa,ag,an];grind);omega
 have e4:0<aa (an (ag r q) (ag p q)) (ag p q):=by have:aa (an (ag r q) (ag p q)) (ag p q)=aj p q r:=(by simp only[aj,aa,ag,an];grind);omega
 obtain⟨N,e5⟩:=K.eX j e3 e4;have k:=e5 (2*(N+1)) (by omega);have Z:0<((N+1:Nat):Int):=by omega
 have t:nr ((2*(N+1):Nat):Int) q (an (ag r q) (ag p q))=nr ((N+1:Nat):Int) (ah 2 q) (ag (an r p) (ah 2 q)):=by refine V2.ext ?_ ?_;simp only[nr,ah,ag,an];rw[show((2*(N+1):Nat):Int)=2*((N+1:Nat):Int) by omega];grind;simp only[nr,ah,ag,an];rw[show((2*(N+1):Nat):Int)=2*((N+1:Nat):Int) by omega];grind
 have c1:=hA ((j.qh.cP.sc 2).sc ((N+1:Nat):Int)) (p:=ah ((N+1:Nat):Int) (an r p)) (q:=nr ((N+1:Nat):Int) (ah 2 q) (ag (an r p) (ah 2 q))) (λe b1=>by
  obtain⟨y,e6,rfl⟩:=aK.1 b1;obtain⟨x,c2,rfl⟩:=aK.1 e6;refine ko (λm u i a0 c3=>?_);simp only[eu]at a0;have a6:=y6 ((N+1:Nat):Int) (by omega) (ah 2 q) (an r p);have b2:0<m*(((N+1:Nat):Int)*2):=XC i (by omega);have c4:=iB i a6;have U:aU (ah m (ah ((N+1:Nat):Int) (an r p))) (ah m (ah ((N+1:Nat):Int) (ah 2 q))) u:=ax.1 (aU.trans (ax.1 c4) (ax.1 c3));have A0:aU (ah 2 r) (ah 2 p) (an r p)/\an r p≠ah 2 r/\an r p≠ah 2 p:=kI (x:=1) (y:=1) (by decide) (by decide) Q (u:=an r p) (by simp[an]) (by simp[an]);obtain⟨M,J⟩:∃M:Int,M=m*(((N+1:Nat):Int)*2):=⟨_,rfl⟩;simp only[eu]at U;rw[<-J]at U;rw[<-J]at a0 b2;by_cases a1:u=ah (m*((N+1:Nat):Int)) (an r p)
  ·
   have e7:aU (ah M r) (ah M p) u:=(by have:=iB (XC i Z) A0.1;rw[eu,eu,show m*((N+1:Nat):Int)*2=M by rw[J];grind]at this;rw[a1];exact this);rcases(a4 x (by simp[c2]) M u b2 e7 a0).1 with e|e;rw[a1,show M=m*((N+1:Nat):Int)*2 by rw[J];grind,<-eu]at e;rw[eu,<-eu (m*_) 2]at e;exact A0.2.1 (gC (XC i Z) e);rw[a1,show M=m*((N+1:Nat):Int)*2 by rw[J];grind,<-eu]at e;rw[eu,<-eu (m*_) 2]at e;exact A0.2.2 (gC (XC i Z) e)
  ·by_cases b3:u=ah M q
   ·
    have c5:aU (ah m (ah ((N+1:Nat):Int) (an r p))) (ah m (nr ((N+1:Nat):Int) (ah 2 q) (ag (an r p) (ah 2 q)))) (ah M q):=(by rw[<-b3];exact c3);have c0:ah M q=ah m (ah ((N+1:Nat):Int) (ah 2 q)):=(by rw[eu,eu,J,YZ]);rw[c0]at c5;have:=(kB c5 c4);have:=gC i this;have a9:an r p=ah 2 q:=(by simp only[nr,ah,ag,V2.mk.injEq]at this;exact V2.ext (by simp only[ah];omega) (by simp only[ah];omega));have:aj p q r=0:=(by simp only[an,ah,V2.mk.injEq]at a9;simp only[aj,aa,ag];grind);omega
   ·have b4:0<M:=b2;have g2:aj (ah M r) (ah M p) (ah M q)=M*M*aj p q r:=(by rw[cc,Ke]);have b5:∀a b:V2,aj (ah M a) (ah M b) (ah (m*((N+1:Nat):Int)) (an r p))*2=aj (ah M a) (ah M b) (ah M r)+aj (ah M a) (ah M b) (ah M p):=λa b=>by rw[show M=m*((N+1:Nat):Int)*2 by rw[J];grind];simp only[aj,aa,ag,ah,an];grind
    have e8:=b5 q r;have e9:=b5 r p;have f0:=b5 p q;have g3:=XC (XC b4 b4) T;rw[dQ,show aj (ah M q) (ah M r) (ah M p)=M*M*aj p q r by rw[cc,qd]]at e8;rw[dL,dQ]at e9;rw[dL,cc]at f0;have A:=(ej (a:=ah M q) (b:=ah M r) (ax.1 U) b3).1 (by rw[dL];exact Yf _) (by omega);have f2:=(ej (a:=ah M p) (b:=ah M q) (ax.1 U) b3).1 (by rw[dQ];exact Yf _) (by omega);have B:=(ej (a:=ah M r) (b:=ah M p) U a1).1 (by omega) (by omega);exact K.q7 h (f:=x) (by simp[c2]) b4 a0 A B f2)
 rw[kQ Z,ek]at c1;rw[c1,<-t,show((N+1:Nat):Int)*2=((2*(N+1):Nat):Int) by omega];exact k
theorem Kn.next (h:pJ E D) {r:V2} (K:Kn E D p q r):Kn E D q r p:=by
 have m:=h.toDis;have T:=K.left;refine⟨I9 m K.te K.qH (by rw[vN];exact T) K.free,K.Uj h,by rw[qd];exact T,λy o ⟨b,c⟩=>?_⟩;have t:aa (ag r q) (ag y r)=aj q r y:=by simp only[aj,aa,ag];grind
 have f:aa (ag p r) (ag y r)=aj r p y:=rfl;have u:aa (ag y r) (ag q r)=aj q r y:=by simp only[aj,aa,ag];grind
 rw[f]at b;rw[u]at c;obtain⟨n,x,k⟩:=(dK (aa (ag q p) (ag y r)) T).ex 1;have a:0<(n:Int):=by omega
 have g:=y6 n (by omega) r y;have i:0<aj (ah n q) (ah n r) (nr n r (ag y r)):=by rw[pN,dQ,X8,Zk,t];exact XC a c
 have j:0<aj (ah n r) (ah n p) (nr n r (ag y r)):=by rw[pN,dL,X8,Zk,f];exact XC a b
 have l:0<aj (ah n p) (ah n q) (nr n r (ag y r)):=by rw[pN];exact XC a k
 rcases o with w|w;exact K.q7 h w a (ax.1 g) i j l;exact K.q7 h w a g i j l
end
theorem Vq (u w c g:V2):aa u w*(aa c g+aa g u+aa u c)= -(aa u g*(aa u w-aa c w-aa u c))+aa u c*(aa u w-aa g w-aa u g):=by
 simp only[aa];grind
theorem Vp (u w c g:V2):aa u w*(aa c g+aa g w+aa w c)=aa g w*(aa u w-aa c w-aa u c)-aa c w*(aa u w-aa g w-aa u g):=by
 simp only[aa];grind
theorem Tp (u w d c g:V2):aa u w*(-aa d c*(aa c g+aa g u+aa u c))= -(aa c g*aa u d*(aa u w-aa c w-aa u c))+aa u c*((aa d g-aa d c)*aa u w-aa c g*(aa d w-aa d u)):=by
 simp only[aa];grind
theorem To (u w d c g:V2):aa u w*(-aa d c*(aa c g+aa g w+aa w c))=aa c g*aa d w*(aa u w-aa c w-aa u c)-aa c w*((aa d g-aa d c)*aa u w-aa c g*(aa d w-aa d u)):=by
 simp only[aa];grind
theorem Vr (u w d c g:V2):aa d g*(aa u w-aa c w-aa u c)-aa d c*(aa u w-aa g w-aa u g)=(aa d g-aa d c)*aa u w-aa c g*(aa d w-aa d u):=by
 simp only[aa];grind
theorem EW (Q a b c:V2):aj a b c=aa (ag a Q) (ag b Q)-aa (ag c Q) (ag b Q)-aa (ag a Q) (ag c Q):=by simp only[aj,aa,ag];grind
theorem u1 (Q a b c:V2):aj a b c=aa (ag a Q) (ag b Q)+aa (ag b Q) (ag c Q)+aa (ag c Q) (ag a Q):=by simp only[aj,aa,ag];grind
theorem GL (Q a b:V2):aj a b Q=aa (ag a Q) (ag b Q):=by simp only[aj,aa,ag];grind
variable {Q c g u w:V2}
theorem NA (a:0<aj u w Q) (h:0<aa (ag c Q) (ag w Q)) (h2:0<=aa (ag u Q) (ag c Q)) (i:0<aa (ag u Q) (ag g Q)) (j:0<=aa (ag g Q) (ag w Q)) (b:0<aj u w c) (f:aj u w g<0):aj c g u<0/\0<aj c g w:=by
 rw[GL]at a;rw[EW Q]at b f;rw[u1 Q c g u,u1 Q c g w];have l:=Vq (ag u Q) (ag w Q) (ag c Q) (ag g Q);have m:=Vp (ag u Q) (ag w Q) (ag c Q) (ag g Q);have o:=XC i b;have p:=XM h2 (XN f);have q:=XF j (XN b);have r:=Yb h f;refine⟨?_,?_⟩;refine Y5.1 λk=>?_;have:=XF (XN a) k;omega;refine Y5.1 λk=>?_;have:=XM (XN a) k;omega
theorem Nz {d:V2} (b:0<aj u w Q) (j:0<aa (ag c Q) (ag w Q)) (h2:0<=aa (ag u Q) (ag c Q)) (a:0<aj u w c) (q:aa d (ag c Q)<0) (l:0<aa d (ag g Q)) (r:aa d (ag u Q)<0) (m:0<aa d (ag w Q))
  (h:0<aa (ag c Q) (ag g Q)) (o:(aa d (ag g Q)-aa d (ag c Q))*aj u w Q<=aa (ag c Q) (ag g Q)*(aa d (ag w Q)-aa d (ag u Q))):aj u w g<0/\aj c g u<0/\0<aj c g w:=by
 rw[GL]at b o;rw[EW Q]at a;rw[EW Q u w g,u1 Q c g u,u1 Q c g w];have t:=Vr (ag u Q) (ag w Q) d (ag c Q) (ag g Q);have x:=Tp (ag u Q) (ag w Q) d (ag c Q) (ag g Q);have y:=To (ag u Q) (ag w Q) d (ag c Q) (ag g Q);have p:0<aa (ag u Q) d:=by have:=aO d (ag u Q);omega
 have f:0< -aa d (ag c Q):=by omega
 generalize z:(aa d (ag g Q)-aa d (ag c Q))*aa (ag u Q) (ag w Q)-aa (ag c Q) (ag g Q)*(aa d (ag w Q)-aa d (ag u Q))=Z at*;have i:Z<=0:=by omega
 generalize A:aa (ag u Q) (ag w Q)-aa (ag c Q) (ag w Q)-aa (ag u Q) (ag c Q)=B at*;generalize C:aa (ag u Q) (ag w Q)-aa (ag g Q) (ag w Q)-aa (ag u Q) (ag g Q)=D at*;have E:=XC l a;have F:=XC (XC h p) a;have G:=XM h2 i;have H:=XC (XC h m) a;have I:=XM (XN j) i;refine⟨?_,?_,?_⟩;refine Y5.1 λk=>?_;have:=XF (XN f) k;rw[Zc]at this;omega;refine Y5.1 λk=>?_;have:=XF (XN b) (XF (XN f) k);omega;refine Y5.1 λk=>?_;have:=XM (XN b) (XM (XN f) k);omega
variable {q x:V2}
theorem jF {a b p y:V2} (h:(aj x y a<=0/\aj x y b<=0/\0<aj x y p/\0<aj x y q)\/(0<aj x y a/\0<aj x y b/\aj x y p<=0/\aj x y q<=0)):NM a b p q:=by
 have l:∀{a b p q:V2},aj x y a<=0->aj x y b<=0->0<aj x y p->0<aj x y q->NM a b p q:=λ{a b p q} c f g i=>by refine ko (λm u o r t=>?_);have j:=XC o o;have w:=gu (a:=ah m x) (b:=ah m y) (k:=0) r (by rw[cc];exact XM (XN j) c) (by rw[cc];exact XM (XN j) f);have z:=(qR (a:=ah m x) (b:=ah m y) t).1 (by rw[cc];exact XC j g) (by rw[cc];exact XC j i);omega
 rcases h with⟨c,f,g,i⟩|⟨c,f,g,i⟩;exact l c f g i;exact(l g i c f).sym
variable {α:Type}
theorem C1 {L:List α} {x d:α} (h:x∈L):∃i,i<L.length/\L.getD i d=x:=by
 obtain⟨i,a⟩:=ZZ h;exact⟨i,(Ye.1 a).1,by rw[Yu,a];rfl⟩
theorem MJ {L:List α} {d:α} {i:Nat} (h:i<L.length):L.getD i d∈L:=by
 rw[Yu,XY h];exact Zy h
theorem sX (N D:α->Int) (p:α->Prop) (f:∀x,p x->0<D x) (L:List α) (h:∃x∈L,p x):∃x∈L,p x/\∀y∈L,p y->N x*D y<=N y*D x:=by
 obtain⟨a,g,k⟩:=h;obtain⟨b,l,m⟩:=C1 (d:=a) g;obtain⟨i,o,q,r⟩:=rj (λi=>N (L.getD i a)) (λi=>D (L.getD i a)) (λi=>p (L.getD i a)) (λi h=>f _ h) L.length ⟨b,l,by show p (L.getD b a);rw[m];exact k⟩;refine⟨_,MJ o,q,λy t u=>?_⟩;obtain⟨j,w,c⟩:=C1 (d:=a) t;have:=r j w (by show p (L.getD j a);rw[c];exact u);simp only[c]at this;exact this
theorem zS {E:Ed} (c:mT E) {z:V2} (h:(∀e∈E,e.1.y<z.y)\/(∀e∈E,z.y<e.1.y)):W E z=0:=by
 have f:∀e∈E,∃x∈E,x.1=e.2:=λe a=>by have:e.2∈E.map (·.1):=c.symm.subset (XS.2 ⟨e,a,rfl⟩);obtain⟨x,b,q⟩:=XS.1 this;exact⟨x,b,q⟩
 rcases h with h|h;refine NO (λe a=>?_);obtain⟨x,b,q⟩:=f e a;have:=h e a;have:=h x b;rw[q]at this;omega;refine Vu (λe a=>?_);obtain⟨x,b,q⟩:=f e a;have:=h e a;have:=h x b;rw[q]at this;omega
theorem LO {v:V2} (h:aU q x v) (f:v≠x):av (ag v q) (ag v q)<av (ag x q) (ag x q):=by
 have p:=h.1;obtain⟨_,r,t,u,w⟩:=h;have m:∀a b c:Int,((a<=c/\c<=b)\/(b<=c/\c<=a))->(c-a)*(c-a)<=(b-a)*(b-a)/\((c-a)*(c-a)=(b-a)*(b-a)->c=b):=by
  intro a b c g;rcases g with⟨i,j⟩|⟨i,j⟩;(have e:(b-a)*(b-a)-(c-a)*(c-a)=(b-c)*((b-a)+(c-a)):=(by grind);have:=XF (show 0<=b-c by omega) (show 0<=(b-a)+(c-a) by omega);refine⟨by omega,λk=>?_⟩;rcases mz (show(b-c)*((b-a)+(c-a))=0 by omega)with q|q<;>omega)
  ·have e:(b-a)*(b-a)-(c-a)*(c-a)=(c-b)*((a-b)+(a-c)):=(by grind);have:=XF (show 0<=c-b by omega) (show 0<=(a-b)+(a-c) by omega);refine⟨by omega,λk=>?_⟩;rcases mz (show(c-b)*((a-b)+(a-c))=0 by omega)with q|q<;>omega
 have l:=m q.x x.x v.x (by omega);have o:=m q.y x.y v.y (by omega);simp only[av,ag];refine Y5.1 λk=>f (V2.ext (l.2 (by omega)) (o.2 (by omega)))
variable {p q:V2}
section
variable {E D:Ed}
theorem Kf (p q v:V2):aj p q v=aa (ag q p) (ag v q):=by simp only[aj,aa,ag];grind
theorem OP (E:Ed) (b:p≠q):∃a:V2,a.y≠0/\0<aa (ag q p) a/\∀e∈E,e.1≠q->(0<aj p q e.1->aa a (ag e.1 q)<0)/\aa a (ag e.1 q)≠0:=by
 have r:=bL (cC b.symm);have g:Ev λK=>(mix K (ag p q) (dw (ag q p))).y≠0:=by by_cases c:p.y=q.y;refine .of λK=>?_;have:p.x≠q.x:=λk=>b (V2.ext k c);simp only[mix,ag,dw];rw[c,Int.sub_self,X8];omega;refine(kL (p.y-q.y) (q.x-p.x)).imp λK k=>?_;simp only[mix,ag,dw];omega
 have h:∀e∈E,Ev λK=>e.1≠q->(0<aj p q e.1->aa (mix K (ag p q) (dw (ag q p))) (ag e.1 q)<0)/\aa (mix K (ag p q) (dw (ag q p))) (ag e.1 q)≠0:=λe t=>by have z:aa (ag p q) (ag e.1 q)= -aj p q e.1:=(by simp only[aj,aa,ag];grind);by_cases c:aj p q e.1=0;refine .of λK i=>⟨λk=>by omega,?_⟩;rw[dW,z,c,Int.neg_zero,X8,Zk];intro k;have u:aa (dw (ag q p)) (ag e.1 q)= -av (ag q p) (ag e.1 q):=(by simp only[aa,dw,av];grind);have f:av (ag q p) (ag e.1 q)=0:=(by omega);rw[Kf]at c;have j:av (ag q p) (ag q p)*(ag e.1 q).x=0:=(by simp only[aa,av]at c f|-;grind);have l:av (ag q p) (ag q p)*(ag e.1 q).y=0:=(by simp only[aa,av]at c f|-;grind);refine cC i (V2.ext ?_ ?_);exact(mz j).resolve_left (by omega);exact(mz l).resolve_left (by omega);refine(kL (-aj p q e.1) (aa (dw (ag q p)) (ag e.1 q))).imp λK k _=>?_;rw[dW,z];exact⟨λ_=>by omega,by omega⟩
 obtain⟨K,_,m,o⟩:=(g.and (Ev.all E h)).ex 0;refine⟨_,m,?_,o⟩;have:aa (ag q p) (mix K (ag p q) (dw (ag q p)))=av (ag q p) (ag q p):=by simp only[mix,aa,ag,dw,av];grind
 omega
def Hit (q a:V2) (f:V2×V2):Prop:=aa a (ag f.1 q)<0/\0<aa a (ag f.2 q)/\0<aj f.1 f.2 q
theorem Lk (h:Dis E D) {g:V2} (a6:Vx E q) (O:g.y≠0) (z:0<aa (ag q p) g) (A:∀e∈E,e.1≠q->(0<aj p q e.1->aa g (ag e.1 q)<0)/\aa g (ag e.1 q)≠0)
  (B:∀y,ow E D q y->¬0<aj p q y) (hw:Ev λn=>W (bw n E) (nr n q g)=1):∃f,(f∈E\/(f.2,f.1)∈E)/\Hit q g f:=by
 have P:Ev λL=>W E (nr 1 q ⟨(L:Int)*g.x,L*g.y⟩)=0:=by rcases Yh O with c|c;refine(Ev.all E (p:=λe L=>(L:Int)*g.y+(q.y-e.1.y)<0) (λe _=>jR (q.y-e.1.y) c)).imp λL k=>zS h.qh.cP (.inr (λe i=>?_));have:=k e i;simp only[nr];omega;refine(Ev.all E (p:=λe L=>0<(L:Int)*g.y+(q.y-e.1.y)) (λe _=>dK (q.y-e.1.y) c)).imp λL k=>zS h.qh.cP (.inl (λe i=>?_));have:=k e i;simp only[nr];omega
 obtain⟨L,a7,C⟩:=P.ex 1;obtain⟨n,a8,Q⟩:=hw.ex 1;have j:0<(n:Int):=by omega
 obtain⟨F,t⟩:∃F,F=nr 1 q ⟨(L:Int)*g.x,L*g.y⟩:=⟨_,rfl⟩;rw[<-t]at C;refine Xz λG=>?_;have R:=hA (h.qh.cP.sc n) (p:=nr n q g) (q:=ah n F) (λa9 S=>by
  obtain⟨e,i,rfl⟩:=aK.1 S;show NM (ah n e.1) (ah n e.2) (nr n q g) (ah n F);have T:∃x∈E,x.1=e.2:=h.qh.head i;have H:∀a b:V2,aj (ah n a) (ah n b) (ah n F)=n*n*(aj a b q+L*aa (ag b a) g):=λa b=>by rw[cc,t];congr 1;simp only[aj,aa,ag,nr];grind
  have U:∀v:V2,aj (ah n q) (ah n (an q g)) (ah n v)=n*n*aa g (ag v q):=λv=>by rw[cc];congr 1;simp only[aj,aa,ag,an];grind
  have I:aj (ah n q) (ah n (an q g)) (nr n q g)=0:=(by simp only[aj,aa,ag,an,ah,nr];grind);have J:aj (ah n q) (ah n (an q g)) (ah n F)=0:=(by rw[t];simp only[aj,aa,ag,an,ah,nr];grind);have l:=XC j j;have V:aj (ah n p) (ah n q) (nr n q g)=n*aa (ag q p) g:=(by simp only[aj,aa,ag,ah,nr];grind);have X:0<aj (ah n p) (ah n q) (nr n q g):=(by rw[V];exact XC j z);have Y:0<aj (ah n p) (ah n q) (ah n F):=(by rw[H,dQ,Zk];exact XC l (XC (by omega) z));by_cases r:aj p q e.1<=0/\aj p q e.2<=0;refine jF (x:=ah n p) (y:=ah n q) (.inl ⟨?_,?_,X,Y⟩);rw[cc];exact XM (XN l) r.1;rw[cc];exact XM (XN l) r.2
  ·have Z:e.1≠q:=λk=>r ⟨by rw[k,dQ];exact Yf _,ZN.1 (B e.2 (.inl (by simp[<-k,i])))⟩;have a0:e.2≠q:=λk=>r ⟨ZN.1 (B e.1 (.inr (by simp[<-k,i]))),by rw[k,dQ];exact Yf _⟩;have a1:=(A e i Z).2;have a2:aa g (ag e.2 q)≠0:=(by obtain⟨x,a3,K⟩:=T;have:=(A x a3 (by rw[K];exact a0)).2;rw[K]at this;exact this);have a4:=bf (n:=(n:Int)*n) (x:=aa g (ag e.1 q)) l;have a5:=bf (n:=(n:Int)*n) (x:=aa g (ag e.2 q)) l;rw[<-U]at a4 a5;have M:∀{u w:V2},aa g (ag u q)<0->0<aa g (ag w q)->¬0<aj u w q->NM (ah n u) (ah n w) (nr n q g) (ah n F):=λ{u w} b0 b1 b2=>by refine Gx (.inr ⟨?_,?_⟩);rw[pN];have N:aa (ag w u) g= -(aa g (ag w q)-aa g (ag u q)):=(by simp only[aa,ag];grind);have:=XM (XN j) (show aj u w q<=0 by omega);exact Yb j (by omega);rw[H];have N:aa (ag w u) g= -(aa g (ag w q)-aa g (ag u q)):=(by simp only[aa,ag];grind);have:=XC (show 0<(L:Int) by omega) (show 0<aa g (ag w q)-aa g (ag u q) by omega);exact Yb l (by rw[N,Yv];omega)
   rcases Yh a1 with m|m<;>rcases Yh a2 with o|o
   ·refine(jF (x:=ah n (an q g)) (y:=ah n q) (.inr ⟨?_,?_,?_,?_⟩));rw[aV];omega;rw[aV];omega;rw[aV,I];exact Yf _;rw[aV,J];exact Yf _
   ·exact M m o (λk=>G ⟨e,.inl i,m,o,k⟩)
   ·exact(M o m (λk=>G ⟨(e.2,e.1),.inr i,o,m,k⟩)).rev
   ·refine(jF (x:=ah n q) (y:=ah n (an q g)) (.inr ⟨by omega,by omega,by rw[I];exact Yf _,by rw[J];exact Yf _⟩)))
 rw[Q,kQ j,C]at R;omega
theorem po (d v:V2):aa ⟨-d.x,-d.y⟩ v= -aa d v:=by simp only[aa];grind
theorem OT (a b c d:V2):aa a b*aa c d-aa a c*aa b d+aa a d*aa b c=0:=by simp only[aa];grind
theorem pJ.has (h:pJ E D) (a8:uP E D p q):∃y,ow E D q y/\0<aj p q y:=by
 have o:=h.toDis;refine Xz λg3=>?_;have a9:∀y,ow E D q y->¬0<aj p q y:=λy H k=>g3 ⟨y,H,k⟩;have g4:=a8.ne o;have Y:=(a8.qH.vx o).1;have c3:∀s,0<aa (ag q p) s->Ev λn=>W (bw n E) (nr n q s)=1:=λs g5=>Fi o a8 g5 (λy H k=>a9 y H (by have:=k.2;rw[vN]at this;exact this));obtain⟨i,H,Z,R⟩:=OP E g4;obtain⟨f,r,g6⟩:=Lk o Y H Z R a9 (c3 i Z);have c4:∀v,Vx E v->v≠q->(0<aj p q v->aa i (ag v q)<0)/\aa i (ag v q)≠0:=λv ⟨e,I,g7⟩ a0=>by rw[<-g7]at a0|-;exact R e I a0
 obtain⟨⟨u,w⟩,g8,g9,c5⟩:=sX (λf:V2×V2=>aj f.1 f.2 q) (λf=>aa i (ag f.2 q)-aa i (ag f.1 q)) (Hit q i) (λf r=>by have:=r.1;have:=r.2.1;show 0<aa i (ag f.2 q)-aa i (ag f.1 q);omega) ((E++D)++gT (E++D)) ⟨f,by
  rcases r with k|k;simp[k]
  ·exact XP.2 (.inr (dT.2 (by simp[k]))),g6⟩
 obtain⟨S,hw,K⟩:=g9;simp only at S hw K c5;have b0:(u,w)∈E++D\/(w,u)∈E++D:=by rcases XP.1 g8 with k|k;exact .inl k;exact .inr (dT.1 k)
 have h0:Vx E u:=by rcases b0 with k|k;exact(o.ends k).1;exact(o.ends k).2.1
 have h1:Vx E w:=by rcases b0 with k|k;exact(o.ends k).2.1;exact(o.ends k).1
 have c6:aa i (ag q q)=0:=by simp only[aa,ag];grind
 have h2:u≠q:=λk=>by rw[k,c6]at S;omega
 have h3:w≠q:=λk=>by rw[k,c6]at hw;omega
 have T:0<aa (ag u q) i:=by have:=aO i (ag u q);omega
 have h4:0<aj p q u:=by
  have m2:¬0<aj p q w:=λk=>by have:=(c4 w h1 h3).1 k;omega
  refine Xz λk=>?_;have id:aa (ag u q) (ag w q)*aa (ag q p) i=aa i (ag w q)*aj p q u-aa i (ag u q)*aj p q w:=(by simp only[aj,aa,ag];grind);have a1:=XC (show 0<aa (ag u q) (ag w q) by rw[<-GL];exact K) Z;have a2:=XM (XN hw) (show aj p q u<=0 by omega);have m3:=X2 (XN S) (show aj p q w<=0 by omega);omega
 obtain⟨B,M⟩:∃B:V2->Prop,∀x,B x↔x≠q/\aa i (ag x q)<0/\0<=aa (ag u q) (ag x q)/\0<=aj u w x:=⟨_,λ_=>ZB⟩;have h5:B u:=(M u).2 ⟨h2,S,by simp only[aa,ag];grind,by rw[dL];exact Yf _⟩;obtain⟨h6,h7,h8⟩:=h0;obtain⟨e1,h9,c7,PG⟩:=sX (λe:V2×V2=> -aa (ag u q) (ag e.1 q)) (λe=> -aa i (ag e.1 q)) (λe=>B e.1) (λe I=>by have:=((M _).1 I).2.1;show 0< -aa i (ag e.1 q);omega) E ⟨h6,h7,by rw[h8];exact h5⟩;have i0:∀y,Vx E y->B y->aa (ag e1.1 q) (ag y q)<=0:=λy ⟨e,I,N⟩ U=>by have k:=PG e I (by rw[N];exact U);rw[N]at k;have m4:=OT (ag u q) (ag y q) i (ag e1.1 q);have m5:aa (ag u q) (ag y q)*aa i (ag e1.1 q)-aa (ag u q) (ag e1.1 q)*aa i (ag y q)=aa (ag u q) i*aa (ag y q) (ag e1.1 q):=(by simp only[aa,ag];grind);refine ZN.1 λm6=>?_;have m7:=aO (ag e1.1 q) (ag y q);have m:=Yb T (show aa (ag y q) (ag e1.1 q)<0 by omega);have V: -aa (ag u q) (ag e1.1 q)* -aa i (ag y q)=aa (ag u q) (ag e1.1 q)*aa i (ag y q):=(by grind);have m8: -aa (ag u q) (ag y q)* -aa i (ag e1.1 q)=aa (ag u q) (ag y q)*aa i (ag e1.1 q):=(by grind);omega
 obtain⟨e2,i1,⟨c8,b1⟩,US⟩:=min_mem (λe:V2×V2=>av (ag e.1 q) (ag e.1 q)) (λe=>B e.1/\aa (ag e1.1 q) (ag e.1 q)=0) E ⟨e1,h9,c7,by simp only[aa,ag];grind⟩;obtain⟨x,c9⟩:∃x,x=e2.1:=⟨_,rfl⟩;have d0:Vx E x:=⟨e2,i1,c9.symm⟩;rw[<-c9]at c8 b1 US;obtain⟨b2,i2,a3,d1⟩:=(M x).1 c8;obtain⟨_,d2,_,_⟩:=(M e1.1).1 c7;have i3:ag x q≠⟨0,0⟩:=cC b2;have d3:ag e1.1 q≠⟨0,0⟩:=λk=>by rw[k]at d2;simp[aa]at d2
 have b3:∀e,_:=λe=>df (f:=ag e1.1 q) (d:=ag x q) e b1 d3;have d4:0<av (ag e1.1 q) (ag x q):=by refine Xz λk=>?_;have m9:=aO i (ag e1.1 q);have n0:=aO i (ag x q);by_cases c:av (ag e1.1 q) (ag x q)=0;have e:=fO (e:=i) b1;rw[c,Yd]at e;have:=(mz e).resolve_left (by have:=bL d3;omega);omega;have:=((b3 i).2 (by omega)).1;omega
 have i4:∀y,Vx E y->B y->aa (ag x q) (ag y q)<=0:=λy i5 U=>by have:=i0 y i5 U;have i6:=((b3 (ag y q)).1 d4).1;omega
 have i7:∀y,Vx E y->B y->aa (ag x q) (ag y q)=0->av (ag x q) (ag x q)<=av (ag y q) (ag y q):=λy ⟨e,I,N⟩ U z=>by have i6:=(b3 (ag y q)).1 d4;have:=US e I ⟨by rw[N];exact U,by rw[N];omega⟩;rw[N]at this;exact this
 have b4:0<aa (ag x q) i:=by have:=aO i (ag x q);omega
 have d5:0<aj p q x:=by have id:aa (ag u q) i*aj p q x=aa (ag x q) i*aj p q u+aa (ag u q) (ag x q)*aa (ag q p) i:=(by simp only[aj,aa,ag];grind);have a1:=XC b4 h4;have a2:=XF a3 (XN Z);refine Y5.1 λk=>?_;have:=XM (XN T) k;omega
 refine h.clear Y d0 b2.symm (λf r m c j J F=>?_) (c3 _ (by rw[<-Kf];exact d5));by_cases O:c=ah m q;subst O;exact⟨.inl rfl,o.ox Y r j F⟩;by_cases a4:c=ah m x;subst a4;exact⟨.inr rfl,o.ox d0 r j F⟩;exfalso;have G:=XC j j;have a5:0<aj (ah m u) (ah m w) c:=by have:=(ej (a:=ah m u) (b:=ah m w) (ax.1 J) a4).1 (by rw[cc];exact XF (XN G) d1) (by rw[cc];exact XC G K);exact this
 have n1:∀v:V2,aa (ag c (ah m q)) v=0\/True:=λ_=> .inr trivial;have b5:∀d:V2,0<aa d (ag x q)->0<aa d (ag c (ah m q)):=λd k=>by
  have e1:∀v:V2,aj (ah m q) (an (ah m q) d) v=aa d (ag v (ah m q)):=λv=>by simp only[aj,aa,ag,an];grind
  have:=(ej (a:=ah m q) (b:=an (ah m q) d) J O).1 (by rw[dL];exact Yf _) (by rw[e1];have:aa d (ag (ah m x) (ah m q))=m*aa d (ag x q):=(by simp only[aa,ag,ah];grind);rw[this];exact XC j k)
  rwa [e1]at this
 have i8:∀d:V2,0<=aa d (ag x q)->0<=aa d (ag c (ah m q)):=λd k=>by
  by_cases z:aa d (ag x q)=0
  ·have e1:∀v:V2,aj (ah m q) (an (ah m q) d) v=aa d (ag v (ah m q)):=λv=>by simp only[aj,aa,ag,an];grind
   have e2:aa d (ag (ah m x) (ah m q))=0:=(by have:aa d (ag (ah m x) (ah m q))=m*aa d (ag x q):=(by simp only[aa,ag,ah];grind);rw[this,z,X8]);have l:=gu (a:=an (ah m q) d) (b:=ah m q) (k:=0) J (by rw[dQ];exact Yf _) (by rw[aV,e1,e2];exact Yf _);rw[aV,e1]at l;omega
  ·exact XN (b5 d (by omega))
 have d6:∀d:V2,aa d (ag x q)<0->aa d (ag c (ah m q))<0:=λd k=>by have:=b5 ⟨-d.x,-d.y⟩ (by rw[po];omega);rw[po]at this;omega
 have d7:∀d:V2,0<aa (ag x q) d->0<aa (ag c (ah m q)) d:=λd k=>by have n3:=aO d (ag x q);have n4:=aO d (ag c (ah m q));have:=d6 d (by omega);omega
 have i9:aa i (ag c (ah m q))<0:=d6 i i2;have j0:0<=aa (ag u q) (ag c (ah m q)):=i8 _ a3;have n5:0<aj (ah m p) (ah m q) c:=by have:=b5 (ag q p) (by rw[<-Kf];exact d5);have e:aj (ah m p) (ah m q) c=m*aa (ag q p) (ag c (ah m q)):=(by simp only[aj,aa,ag,ah];grind);rw[e];exact XC j this
 have b6:∀v,Vx E v->v≠q->aU (ah m q) c (ah m v)->False:=λv b7 b8 C=>by
  have j1:aU (ah m q) (ah m x) (ah m v):=ax.1 (aU.trans (ax.1 J) (ax.1 C));have a6:aU q x v:=(gW j).1 j1;have d8:v≠x:=λk=>by rw[k]at C;exact a4 (kB C J).symm.symm
  have n6:ah m v≠ah m q:=λk=>b8 (gC j k);have d9:∀d:V2,0<aa d (ag x q)->0<aa d (ag v q):=λd k=>by
   have e1:∀v:V2,aj q (an q d) v=aa d (ag v q):=λv=>by simp only[aj,aa,ag,an];grind
   have:=(ej (a:=q) (b:=an q d) a6 b8).1 (by rw[dL];exact Yf _) (by rw[e1];exact k)
   rwa [e1]at this
  have e0:aa (ag x q) (ag v q)=0:=(by have:=a6.1;simp only[aj,aa,ag]at this|-;grind);have j2:B v:=(M v).2 ⟨b8,by
    have:=d9 ⟨-i.x,-i.y⟩ (by rw[po];omega);rw[po]at this;omega,by
    by_cases z:aa (ag u q) (ag x q)=0;have e1:av (ag x q) (ag x q)*aa (ag u q) (ag v q)=0:=(by simp only[aa,av]at z e0|-;grind);have:=(mz e1).resolve_left (by have:=bL i3;omega);omega
    ·exact XN (d9 _ (by omega)),by
    have:=(ej (a:=u) (b:=w) (ax.1 a6) d8).1 d1 K;omega⟩
  have:=i7 v b7 j2 e0;have:=LO a6 d8;omega
 have j3:ah m q≠c:=λk=>O k.symm;have j4:aU (ah m q) c c:=bp _ _;have e3:∀{g g':V2},((g',g)∈E++D\/(g,g')∈E++D)->aU (ah m g') (ah m g) c->0<aj (ah m q) (ah m x) (ah m g)->aj (ah m q) (ah m x) (ah m g')<0->False:=by
  intro g g' b9 C e4 n7;have e5:Vx E g:=(by rcases b9 with k|k;exact(o.ends k).2.1;exact(o.ends k).1);have a7:0<aa (ag x q) (ag g q):=(by have:aj (ah m q) (ah m x) (ah m g)=m*m*aa (ag x q) (ag g q):=(by simp only[aj,aa,ag,ah];grind);rw[this]at e4;exact(bf (n:=m*m) G).1.1 e4);have e6:g≠q:=λk=>by rw[k]at a7;simp[aa,ag]at a7
  have e7:¬kU (ah m u,ah m w) (c,ah m g):=λk=>by
   have V:kU (u,w) (g',g):=(xw j (e1:=(u,w)) (e2:=(g',g))).1 (pj C k);rcases b0 with a|a<;>rcases b9 with b|b
   ·exact o.nL a b V
   ·exact o.nL a b (eQ V)
   ·exact o.nL a b (eQ V.sym).sym
   ·exact o.nL a b (eQ (eQ V.sym).sym)
  have t:∀v:V2,ag (ah m v) (ah m q)=ah m (ag v q):=λv=>hQ m v q;have c0:∀a b:V2,aa (ah m a) b=m*aa a b:=λa b=>by simp only[aa,ah];grind
  have A:∀a b:V2,aa a (ah m b)=m*aa a b:=λa b=>by simp only[aa,ah];grind
  have Nm:0<aj (ah m u) (ah m w) (ah m q):=(by rw[cc];exact XC G K);have e8:0<aa (ag u q) (ag w q):=(by rw[<-GL];exact K);have e9:0<aa (ag c (ah m q)) (ag (ah m w) (ah m q)):=(by have j5:0<aa (ag x q) (ag w q):=(by have id:aa (ag u q) i*aa (ag x q) (ag w q)=aa (ag x q) i*aa (ag u q) (ag w q)+aa (ag u q) (ag x q)*aa i (ag w q):=(by simp only[aa,ag];grind);have a1:=XC b4 e8;have a2:=XF a3 (XN hw);refine Y5.1 λk=>?_;have:=XM (XN T) k;omega);rw[t,A];exact XC j (d7 _ j5));have f0:0<=aa (ag (ah m u) (ah m q)) (ag c (ah m q)):=(by rw[t,c0];exact XF (XN j) j0);rcases Yh (c4 g e5 e6).2 with X|X
  ·
   have f1:0<aa (ag g q) i:=(by have:=aO i (ag g q);omega);have c1:0<aa (ag u q) (ag g q):=(by have id:aa (ag x q) i*aa (ag u q) (ag g q)=aa (ag u q) (ag x q)*aa (ag g q) i+aa (ag u q) i*aa (ag x q) (ag g q):=(by simp only[aa,ag];grind);have a1:=XF a3 (XN f1);have a2:=XC T a7;refine Y5.1 λk=>?_;have:=XM (XN b4) k;omega);by_cases j6:0<=aj u w g;have:=i4 g e5 ((M g).2 ⟨e6,X,XN c1,j6⟩);omega;have j7:0<aa (ag g q) (ag w q):=(by have id:aa (ag u q) i*aa (ag g q) (ag w q)=aa (ag g q) i*aa (ag u q) (ag w q)+aa (ag u q) (ag g q)*aa i (ag w q):=(by simp only[aa,ag];grind);have a1:=XC f1 e8;have a2:=XF (XN c1) (XN hw);refine Y5.1 λk=>?_;have:=XM (XN T) k;omega);have f2:aj (ah m u) (ah m w) (ah m g)<0:=(by rw[cc];exact(bf (n:=m*m) G).2.1.2 (by omega));have j8:=NA (Q:=ah m q) (u:=ah m u) (w:=ah m w) (c:=c) (g:=ah m g) Nm e9 f0 (by rw[t,t,c0,A];exact XC j (XC j c1)) (by rw[t,t,c0,A];exact XN (XC j (XC j j7))) a5 f2;exact e7 ⟨.inr j8,.inl ⟨a5,f2⟩⟩
  ·
   have f3:aa i (ag (ah m g) (ah m q))=m*aa i (ag g q):=(by rw[t,A]);have j9:aa i (ag (ah m g') (ah m q))=m*aa i (ag g' q):=(by rw[t,A]);have c2:∀v:V2,aj (ah m q) (an (ah m q) i) v=aa i (ag v (ah m q)):=λv=>by simp only[aj,aa,ag,an];grind
   have f4:aa i (ag g' q)<0:=(by refine Y5.1 λk=>?_;have l:=gu (a:=an (ah m q) i) (b:=ah m q) (k:=0) C (by rw[aV,c2,j9];have:=XF (XN j) k;omega) (by rw[aV,c2,f3];have:=XC j X;omega);rw[aV,c2]at l;omega);have f5:0<aa (ag c (ah m q)) (ag (ah m g) (ah m q)):=(by rw[t,A];exact XC j (d7 _ a7));have k0:=C.1;have k1:aj (ah m g') (ah m g) (ah m q)*(aa i (ag (ah m g) (ah m q))-aa i (ag c (ah m q)))=aa (ag c (ah m q)) (ag (ah m g) (ah m q))*(aa i (ag (ah m g) (ah m q))-aa i (ag (ah m g') (ah m q))):=(by simp only[aj,aa,ag]at k0|-;grind);have mk:=XC j X;have mk':=Yb j f4;have f6:0<aa i (ag (ah m g) (ah m q))-aa i (ag (ah m g') (ah m q)):=(by omega);have f7:0<aa i (ag (ah m g) (ah m q))-aa i (ag c (ah m q)):=(by omega);have f8:0<aj (ah m g') (ah m g) (ah m q):=(by have:=XC f5 f6;refine Y5.1 λk=>?_;have:=YH k (XN f7);omega);have k2:0<aj g' g q:=(by rw[cc]at f8;exact(bf (n:=m*m) G).1.1 f8);have f9:=c5 (g',g) (by
    rcases b9 with k|k;exact XP.2 (.inl k)
    ·exact XP.2 (.inr (dT.2 k))) ⟨f4,X,k2⟩
   simp only at f9;have k3:(aa i (ag (ah m g) (ah m q))-aa i (ag c (ah m q)))*aj (ah m u) (ah m w) (ah m q)<=aa (ag c (ah m q)) (ag (ah m g) (ah m q))*(aa i (ag (ah m w) (ah m q))-aa i (ag (ah m u) (ah m q))):=(by refine YT (a:=aa i (ag (ah m g) (ah m q))-aa i (ag (ah m g') (ah m q))) ?_ f6;have e1:(aa i (ag (ah m g) (ah m q))-aa i (ag (ah m g') (ah m q)))*(aa (ag c (ah m q)) (ag (ah m g) (ah m q))*(aa i (ag (ah m w) (ah m q))-aa i (ag (ah m u) (ah m q))))=(aa i (ag (ah m g) (ah m q))-aa i (ag c (ah m q)))*(aj (ah m g') (ah m g) (ah m q)*(aa i (ag (ah m w) (ah m q))-aa i (ag (ah m u) (ah m q)))):=(by rw[<-YZ,<-YZ,X9 (aa i (ag (ah m g) (ah m q))-aa i (ag (ah m g') (ah m q))),<-k1,X9 (aa i (ag (ah m g) (ah m q))-aa i (ag c (ah m q)))]);rw[e1,<-YZ,X9 (aa i (ag (ah m g) (ah m q))-aa i (ag (ah m g') (ah m q))),YZ];refine XH ?_ (XN f7);rw[cc,cc,t,t,t,t,A,A,A,A];have:=XH f9 (XN (XC G j));have k4:(m*aa i (ag g q)-m*aa i (ag g' q))*(m*m*aj u w q)=m*m*m*(aj u w q*(aa i (ag g q)-aa i (ag g' q))):=(by grind);have k5:m*m*aj g' g q*(m*aa i (ag w q)-m*aa i (ag u q))=m*m*m*(aj g' g q*(aa i (ag w q)-aa i (ag u q))):=(by grind);rw[k4,k5];exact this);obtain⟨k6,k7,k8⟩:=Nz (Q:=ah m q) (u:=ah m u) (w:=ah m w) (c:=c) (g:=ah m g) (d:=i) Nm e9 f0 a5 i9 (by rw[f3];exact mk) (by rw[t,A];exact Yb j S) (by rw[t,A];exact XC j hw) f5 k3;exact e7 ⟨.inr ⟨k7,k8⟩,.inl ⟨a5,k6⟩⟩
 have g0:∀v,Vx E v->v≠q->c≠ah m v:=λv b7 a0 k=>b6 v b7 a0 (by rw[<-k];exact j4);have k9:c≠ah m f.1:=λk=>by by_cases e:f.1=q;rw[e]at k;exact O k;exact g0 f.1 (o.ends r).1 e k
 have l0:c≠ah m f.2:=λk=>by by_cases e:f.2=q;rw[e]at k;exact O k;exact g0 f.2 (o.ends r).2.1 e k
 have g1:aj (ah m q) (ah m x) c=0:=J.1;have l5:¬(aj (ah m q) (ah m x) (ah m f.1)=0/\aj (ah m q) (ah m x) (ah m f.2)=0):=λ⟨l6,l7⟩=>by
  have g2:∀g:V2,aj (ah m q) (ah m x) (ah m g)=0->aj (ah m q) c (ah m g)=0:=λg R=>by have l8:ah m q≠ah m x:=λe=>b2 (gC j e).symm;have l9:((ah m x).x-(ah m q).x)*aj (ah m q) c (ah m g)=0:=(by simp only[aj,aa,ag]at R g1|-;grind);have m1:((ah m x).y-(ah m q).y)*aj (ah m q) c (ah m g)=0:=(by simp only[aj,aa,ag]at R g1|-;grind);refine Xz λk=>l8 (V2.ext ?_ ?_);have:=(mz l9).resolve_right k;omega;have:=(mz m1).resolve_right k;omega
  by_cases P:aU (ah m f.1) (ah m f.2) (ah m q)
  ·have nb:∀{y:V2},ow E D q y->aU (ah m q) (ah m y) c->False:=λ{y} H C=>by refine a9 y H (Y5.1 λk=>?_);have:=gu (a:=ah m p) (b:=ah m q) (k:=0) C (by rw[dQ];exact Yf _) (by rw[cc];exact XM (XN G) k);omega
   rcases o.pz Y r ((gW j).1 P)with k|k;exact nb (y:=f.2) (.inl (by rw[k];exact r)) (by rw[k];exact F);exact nb (y:=f.1) (.inr (by rw[k];exact r)) (by rw[k];exact ax.1 F)
  ·rcases AQ (g2 _ l6) (g2 _ l7) j3 F P with k|k;by_cases e:f.1=q;rw[e]at P;exact P (bK _ _);exact b6 f.1 (o.ends r).1 e k;by_cases e:f.2=q;rw[e]at P;exact P (bp _ _);exact b6 f.2 (o.ends r).2.1 e k
 rcases kN J F O a4 k9 l0 with k|k;unfold kU at k;simp only at k;rcases k.1 with⟨a,b⟩|⟨a,b⟩;exact e3 (g:=f.1) (g':=f.2) (.inr r) (ax.1 F) a b;exact e3 (g:=f.2) (g':=f.1) (.inl r) F b a;exact l5 k
theorem pJ.gb (h:pJ E D) (b:uP E D p q):∃r,Kn E D p q r:=by
 obtain⟨y,c,i⟩:=h.has b;obtain⟨L,f⟩:∃L:LV,∀v,ow E D q v->v∈L:=⟨(E++D).map (·.2)++(E++D).map (·.1),λv a=>by
  rcases a with k|k;exact XP.2 (.inl (XS.2 ⟨_,k,rfl⟩))
  ·exact XP.2 (.inr (XS.2 ⟨_,k,rfl⟩))⟩
 obtain⟨r,_,⟨j,l⟩,m⟩:=sX (λv=> -av (ag p q) (ag v q)) (λv=>aj p q v) (λv=>ow E D q v/\0<aj p q v) (λv a=>a.2) L ⟨y,f y c,c,i⟩;refine⟨r,b,j,l,λv a ⟨o,g⟩=>?_⟩;rw[vN]at g;have k:=m v (f v a) ⟨a,g⟩;have id:av (ag p q) (ag v q)*aj p q r-av (ag p q) (ag r q)*aj p q v=av (ag p q) (ag p q)*aa (ag r q) (ag v q):=by simp only[aj,aa,ag,av];grind
 have t:=XC (bL (cC (b.ne h.toDis))) o;rw[Zc,Zc]at k;omega
end
def pv (b:Nat):List Nat->Nat->Nat
 |[],_=>b
 |y::r,x=>if y=x then b else pv y r x
def dV (b:Nat):List Nat->Nat
 |[]=>b
 |y::r=>dV y r
def bM (l:List Nat) (x:Nat):Nat:=pv (dV 0 l) l x
theorem EY (b:Nat) (l:List Nat) (x:Nat):pv b l x=b\/pv b l x∈l:=by
 induction l generalizing b with
 |nil=>left;rfl
 |cons y r a=>simp only[pv];split;left;rfl;rcases a y with h|h;right;rw[h];simp;right;simp[h]
theorem oY {b:Nat} {l:List Nat} (h:l≠[]):dV b l∈l:=by
 induction l generalizing b with
 |nil=>exact absurd rfl h
 |cons y r a=>simp only[dV];by_cases c:r=[];subst c;simp[dV];exact XK _ (a c)
variable {x:Nat}
theorem oo {l:List Nat} (h:l≠[]):bM l x∈l:=by
 rcases EY (dV 0 l) l x with k|k;unfold bM;rw[k];exact oY h;exact k
theorem wC {q x:Nat} (a:x≠q):∀(b:Nat) (l:List Nat),b≠q->l.Nodup->x∈l->pv b (l.erase q) x=if pv b l x=q then pv b l q else pv b l x
 |_,[],_,_,h=>by cases h
 |b,y::r,i,j,f=>by
  obtain⟨g,m⟩:=YA.1 j;by_cases c:y=q
  ·subst c;rw[abq];have o:x∈r:=(XD.1 f).resolve_left a;have p:pv b (y::r) x=pv y r x:=(by simp only[pv];rw[XG (Zf a)]);have t:pv b (y::r) y=b:=(by simp[pv]);rw[p,t];cases r with
   |nil=>cases o
   |cons z s=>
    simp only[pv];by_cases k:z=x;simp only[XL k,aaD]
    ·simp only[XG k];have:pv z s x≠y:=λe=>by rcases EY z s x with q|q;rw[q]at e;exact g (by rw[<-e];simp);rw[e]at q;exact g (by simp[q])
     rw[XG this]
  ·rw[aav (by simpa using c)];simp only[pv];by_cases k:y=x;simp only[XL k,XG i];simp only[XG k,XG c];exact wC a y r c m ((XD.1 f).resolve_left (Zf k))
theorem tW {q:Nat}:∀(b:Nat) (l:List Nat),dV b l≠q->dV b (l.erase q)=dV b l
 |_,[],_=>rfl
 |b,y::r,h=>by
  by_cases c:y=q
  ·subst c;rw[abq];cases r with
   |nil=>exact absurd rfl h
   |cons z s=>rfl
  ·rw[aav (by simpa using c)];exact tW y r h
theorem zf {q:Nat}:∀(b:Nat) (l:List Nat),l.Nodup->dV b l=q->q∈l->dV b (l.erase q)=pv b l q
 |_,[],_,_,h=>by cases h
 |b,y::r,a,h,f=>by
  obtain⟨g,i⟩:=YA.1 a;by_cases c:y=q
  ·subst c;rw[abq];cases r with
   |nil=>simp[pv,dV]
   |cons z s=>exfalso;have:dV y (z::s)∈z::s:=oY (by simp);simp only[dV]at h this;rw[h]at this;exact g this
  ·rw[aav (by simpa using c)];simp only[pv,dV];rw[XG c];exact zf y r i h ((XD.1 f).resolve_left (Zf c))
theorem xx {l:List Nat} {q:Nat} (h:l.Nodup) (i:q∈l) (a:x∈l) (g:x≠q):bM (l.erase q) x=if bM l x=q then bM l q else bM l x:=by
 unfold bM;by_cases c:dV 0 l=q
 ·have e:=zf 0 l h c i;have p:x∈l.erase q:=(abo g).2 a;rw[e,c];cases l with
  |nil=>cases a
  |cons y r=>
   obtain⟨j,m⟩:=YA.1 h;have o:r≠[]:=λk=>by subst k;simp only[dV]at c;subst c;have:=(XD.1 a).resolve_left g;cases this
   have f:y≠q:=λk=>by have:=oY (b:=y) o;simp only[dV]at c;rw[c]at this;exact j (by rw[k];exact this)
   by_cases k:y=x;subst k;rw[aav (by simpa using f)];simp only[pv];simp only[aaD,XG f];rw[aav (by simpa using f)];simp only[pv];simp only[XG k,XG f];exact wC g y r f m ((XD.1 a).resolve_left (Zf k))
 ·rw[tW 0 l c];exact wC g _ l c h a
variable {y:Nat}
theorem Sl {b:Nat}:∀{l:List Nat},l.Nodup->b∉l\/b=dV b l->x∈l->y∈l->pv b l x=pv b l y->x=y:=by
 intro l;induction l generalizing b with
 |nil=>intro _ _ h;cases h
 |cons z r j=>
  intro i f o p e;obtain⟨C,D⟩:=YA.1 i;have u:∀t,t∈r->z≠t->pv z r t=b->False:=λt m H k=>by
   have E:=EY z r t;rcases f with f|f;rcases E with q|q;rw[q]at k;exact f (by rw[<-k];simp);rw[k]at q;exact f (by simp[q])
   ·
    simp only[dV]at f;have F:∀(w:Nat) (s:List Nat),(w::s).Nodup->t∈s->pv w s t≠dV w s:=by
     intro w s;induction s generalizing w with
     |nil=>intro _ h;cases h
     |cons v s j=>intro i m;obtain⟨A,G⟩:=YA.1 i;simp only[pv,dV];by_cases c:v=t;rw[XL c];intro q;by_cases B:s=[];subst B;simp only[dV]at q;exact A (by rw[q];simp);have:=oY (b:=v) B;rw[<-q]at this;exact A (by simp[this]);rw[XG c];exact j v G ((XD.1 m).resolve_left (Zf c))
    exact F z r i m (k.trans f)
  simp only[pv]at e;by_cases g:z=x;by_cases a:z=y;rw[<-g,a];rw[XL g,XG a]at e;exact absurd e.symm (λk=>u y ((XD.1 p).resolve_left (Zf a)) a k);by_cases a:z=y;rw[XG g,XL a]at e;exact absurd e (λk=>u x ((XD.1 o).resolve_left (Zf g)) g k);rw[XG g,XG a]at e;exact j D (.inl C) ((XD.1 o).resolve_left (Zf g)) ((XD.1 p).resolve_left (Zf a)) e
theorem DK {l:List Nat} (c:l.Nodup) (b:x∈l) (f:y∈l) (e:bM l x=bM l y):x=y:=by
 unfold bM at e;refine Sl c (.inr ?_) b f e;cases l with
 |nil=>cases b
 |cons a r=>rfl
abbrev Dt:=Nat×Nat
def nx (nb:Nat->List Nat) (d:Dt):Dt:=(d.2,bM (nb d.2) d.1)
def mR (f:Dt->Dt):Dt->List Dt->Dt->Prop
 |d,[],e=>f d=e
 |d,x::l,e=>f d=x/\mR f x l e
def Cy (f:Dt->Dt):List Dt->Prop
 |[]=>False
 |d::l=>mR f d l d
theorem oW {f:Dt->Dt}:∀{l r:List Dt} {d x e:Dt},mR f d (l++x::r) e↔mR f d l x/\mR f x r e
 |[],_,_,_,_=>ZB
 |y::l,r,d,x,e=>by simp only[YM,mR];rw[oW (l:=l)];exact and_assoc.symm
theorem Na {f:Dt->Dt} {l r:List Dt} {d x:Dt} (h:Cy f (d::(l++x::r))):Cy f (x::(r++d::l)):=by
 obtain⟨a,b⟩:=oW.1 (show mR f d (l++x::r) d from h);exact oW.2 ⟨b,a⟩
variable {F:List Dt}
theorem DG {f:Dt->Dt} (h:Cy f F) {d:Dt} (g:d∈F):∃l,F.Perm (d::l)/\Cy f (d::l):=by
 cases F with
 |nil=>cases g
 |cons e l=>by_cases c:d=e;subst c;exact⟨l,.refl _,h⟩;obtain⟨a,b,rfl⟩:=aan ((XD.1 g).resolve_left c);refine⟨b++e::a,?_,Na h⟩;have:(e::(a++d::b)).Perm (d::b++e::a):=(abn (l₁:=e::a) (l₂:=d::b));exact this
theorem w5 {f:Dt->Dt}:∀{l:List Dt} {d e:Dt},mR f d l e->∃a y,d::l=a++[y]/\f y=e
 |[],d,e,h=>⟨[],d,rfl,h⟩
 |x::l,d,e,h=>by obtain⟨a,y,b,c⟩:=w5 h.2;exact⟨d::a,y,by rw[b];rfl,c⟩
theorem Da {f g:Dt->Dt} {z:Dt}:∀{l:List Dt} {d e:Dt},mR f d l e->(∀x∈d::l,f x≠e->g x=f x)->(∀x∈l,x≠e)->(∀x∈d::l,f x=e->g x=z)->mR g d l z
 |[],d,e,h,_,_,b=>b d (by simp) h
 |x::l,d,e,h,c,i,b=>by refine⟨?_,Da h.2 (λy a=>c y (by simp only[XD]at a|-;exact .inr a)) (λy a=>i y (by simp[a])) (λy a=>b y (by simp only[XD]at a|-;exact .inr a))⟩;rw[c d (by simp) (by rw[h.1];exact i x (by simp)),h.1]
def fv (t:Dt->Int):List Dt->Int
 |[]=>0
 |d::l=>t d+fv t l
theorem rL (t:Dt->Int) (l r:List Dt):fv t (l++r)=fv t l+fv t r:=by
 induction l with
 |nil=>simp[fv]
 |cons d l a=>simp only[YM,fv];rw[a];omega
theorem jt (t:Dt->Int) {l r:List Dt} (h:l.Perm r):fv t l=fv t r:=by
 induction h with
 |nil=>rfl
 |cons x _ a=>simp only[fv];rw[a]
 |swap x y l=>simp only[fv];omega
 |trans _ _ b c=>exact b.trans c
theorem xz {t s:Dt->Int} {l:List Dt} (h:∀d∈l,t d=s d):fv t l=fv s l:=by
 induction l with
 |nil=>rfl
 |cons d l a=>simp only[fv];rw[h d (by simp),a (λx b=>h x (by simp[b]))]
theorem Qa {t:Dt->Int} {l:List Dt} (h:∀d∈l,0<=t d):0<=fv t l:=by
 induction l with
 |nil=>exact Yf _
 |cons d l a=>have:=h d (by simp);have:=a (λx b=>h x (by simp[b]));simp only[fv];omega
theorem Qb {t:Dt->Int} {l:List Dt} (h:∀d∈l,0<=t d) {d:Dt} (b:d∈l):t d<=fv t l:=by
 induction l with
 |nil=>cases b
 |cons e l c=>have:=Qa (l:=l) (λx a=>h x (by simp[a]));have:=h e (by simp);simp only[fv];rcases XD.1 b with rfl|k;omega;have:=c (λx a=>h x (by simp[a])) k;omega
instance (d:V2):Decidable (gf d):=by unfold gf;exact inferInstance
def ji (P:Nat->V2) (d:Dt):Bool:=decide (gf (ag (P d.2) (P d.1)))
def ma (P:Nat->V2) (f:Dt->Dt) (d:Dt):Int:=if ji P d=false/\ji P (f d)=true then 1 else 0
theorem Kc (P:Nat->V2) (f:Dt->Dt) (d:Dt):0<=ma P f d:=by unfold ma;split<;>omega
def sW (a b:V2):Prop:=a.y<b.y\/(a.y=b.y/\a.x<b.x)
theorem Gc {a b:V2}:gf (ag b a)↔sW a b:=by unfold gf sW ag;simp only;omega
section
variable {P:Nat->V2}
theorem FK {f:Dt->Dt} (j:∀d,(f d).1=d.2) (h:Cy f F) (B:∀d∈F,P d.1≠P d.2):1<=fv (ma P f) F:=by
 have C:∀{l:List Dt} {d e:Dt},mR f d l e->(∀x∈d::l,sW (P x.1) (P x.2))->sW (P d.1) (P e.1):=by
  intro l;induction l with
  |nil=>intro d e h k;have:=k d (by simp);rw[<-h,j];exact this
  |cons x l i=>intro d e h k;have m:=k d (by simp);have D:=i h.2 (λy c=>k y (by simp only[XD]at c|-;exact .inr c));have o:d.2=x.1:=(by rw[<-h.1,j]);rw[o]at m;unfold sW at*;omega
 have E:∀{l:List Dt} {d e:Dt},mR f d l e->(∀x∈d::l,sW (P x.2) (P x.1))->sW (P e.1) (P d.1):=by
  intro l;induction l with
  |nil=>intro d e h k;have:=k d (by simp);rw[<-h,j];exact this
  |cons x l i=>intro d e h k;have m:=k d (by simp);have D:=i h.2 (λy c=>k y (by simp only[XD]at c|-;exact .inr c));have o:d.2=x.1:=(by rw[<-h.1,j]);rw[o]at m;unfold sW at*;omega
 have S:∀d∈F,ji P d=true\/ji P d=false:=λd _=>by cases ji P d<;>simp
 have G:∀{d:Dt},ji P d=true->sW (P d.1) (P d.2):=λ{d} k=>Gc.1 (XA k);have H:∀{d:Dt},d∈F->ji P d=false->sW (P d.2) (P d.1):=λ{d} I k=>by have k:=XB k;rw[Gc]at k;have:=B d I;have T:(P d.1).x≠(P d.2).x\/(P d.1).y≠(P d.2).y:=(by refine Xz λq=>this (V2.ext (by omega) (by omega)));unfold sW at*;omega
 obtain⟨a,J,p⟩:∃a∈F,ji P a=true:=by
  refine Xz λk=>?_;cases F with
  |nil=>exact h
  |cons d l=>
   have:=E (show mR f d l d from h) (λx g=>H g (by
    cases q:ji P x with
    |false=>rfl
    |true=>exact absurd ⟨x,g,q⟩ k))
   unfold sW at this;omega
 obtain⟨b,K,u⟩:∃b∈F,ji P b=false:=by
  refine Xz λk=>?_;cases F with
  |nil=>exact h
  |cons d l=>
   have:=C (show mR f d l d from h) (λx g=>G (by
    cases q:ji P x with
    |true=>rfl
    |false=>exact absurd ⟨x,g,q⟩ k))
   unfold sW at this;omega
 obtain⟨l,w,M⟩:=DG h K;have N:a∈l:=by have:=w.subset J;rcases XD.1 this with q|q;rw[q,u]at p;cases p;exact q
 have O:∀{l:List Dt} {d e:Dt},mR f d l e->ji P d=false->(∃x∈l,ji P x=true)->∃y∈d::l,ma P f y=1:=by
  intro l;induction l with
  |nil=>intro d e _ _ ⟨x,g,_⟩;cases g
  |cons x l i=>
   intro d e h k ⟨z,Q,t⟩;cases q:ji P x with
   |true=>exact⟨d,by simp,by unfold ma;rw[h.1,k,q];simp⟩
   |false=>have R:z∈l:=(by rcases XD.1 Q with r|r;rw[r,q]at t;cases t;exact r);obtain⟨y,c,A⟩:=i h.2 q ⟨z,R,t⟩;exact⟨y,by simp only[XD]at c|-;exact .inr c,A⟩
 obtain⟨y,c,A⟩:=O M u ⟨a,N,p⟩;rw[jt _ w];have:=Qb (l:=b::l) (λd _=>Kc P f d) c;omega
end
variable {X:V2}
theorem up_mul {a:Int} (f:0<a:=by omega):gf ⟨a*X.x,a*X.y⟩↔gf X:=by
 have c:=bf (n:=a) (x:=X.x);have b:=bf (n:=a) (x:=X.y);unfold gf;simp only;rw[c.1,b.1,b.2.2]
theorem qK {a b c:Int} {Y Z:V2} (g:0<a) (o:0<=b) (p:0<=c) (q:b≠0\/c≠0) (ex:a*X.x=b*Y.x+c*Z.x) (h:a*X.y=b*Y.y+c*Z.y) (i:gf Y) (f:gf Z):gf X:=by
 rw[<-up_mul g,ex,h];by_cases j:b=0;subst j;have k:=(up_mul (X:=Z) (a:=c)).2 f;rw[Yd,Yd,Zk,Zk];exact k;have l:=(up_mul (X:=Y) (a:=b)).2 i;by_cases m:c=0;subst m;rw[Yd,Yd,aad,aad];exact l;have r:=(up_mul (X:=Z) (a:=c)).2 f;unfold gf at*;simp only at*;omega
def gN (d:V2):V2:=⟨-d.x,-d.y⟩
theorem hP {d:V2} (h:d≠⟨0,0⟩):gf (gN d)↔¬gf d:=by
 have:d.x≠0\/d.y≠0:=by refine Xz λq=>h (V2.ext (by simp only;omega) (by simp only;omega))
 unfold gf gN;simp only;omega
theorem Rz {E A:V2} (a:gf E) (b:gf A) (h:aa E A=0:=by omega):0<av E A:=by
 simp only[aa]at h;have c:av E A=E.x*A.x+E.y*A.y:=rfl;rcases a with a|⟨a,f⟩;rcases b with b|⟨b,g⟩;have:E.y*av E A=(E.x*E.x+E.y*E.y)*A.y:=(by rw[c];grind);have p:0<(E.x*E.x+E.y*E.y)*A.y:=XC (by have:=KC E.x;have:=XC a a;omega) b;rw[<-this]at p;exact(bf).1.1 p;rw[b,X8]at h;have:=XC a g;omega;rw[a,Yd]at h;have i:A.y=0:=(mz (show E.x*A.y=0 by omega)).resolve_left (by omega);have:0<A.x:=(by rcases b with q|⟨_,q⟩<;>omega);have:=XC f this;rw[c,a,Yd];omega
theorem Ni (R X Y:V2):aa R X*Y.x=aa R Y*X.x+aa Y X*R.x:=by simp only[aa];grind
theorem Nh (R X Y:V2):aa R X*Y.y=aa R Y*X.y+aa Y X*R.y:=by simp only[aa];grind
variable {a e:V2}
theorem Bw {q:V2} (h:q≠⟨0,0⟩) (i:0<=aa e q) (h2:0<=aa q a) (o:0<=aa e a) (j:¬(aa e a=0/\0<av e a)) (b:gf e) (f:gf a):gf q:=by
 have c:0<aa e a:=by refine Xz λk=>j ⟨by omega,Rz b f⟩
 have ex:=Ni e a q;have g:=Nh e a q;refine qK c i h2 ?_ ex g f b;refine Xz λk=>h ?_;have l:aa e q=0:=by omega
 have m:aa q a=0:=by omega
 rw[l,m,Yd,Yd]at ex g;exact V2.ext ((mz (show aa e a*q.x=0 by omega)).resolve_left (by omega)) ((mz (show aa e a*q.y=0 by omega)).resolve_left (by omega))
theorem q9 (a b:V2):aa (gN a) (gN b)=aa a b:=by simp only[aa,gN];grind
theorem Sv (a b:V2):av (gN a) (gN b)=av a b:=by simp only[av,gN];grind
theorem wQ (h:a≠⟨0,0⟩):gN a≠⟨0,0⟩:=λe=>h (by
 have b:=XT V2.x e;have c:=XT V2.y e;simp only[gN]at b c;exact V2.ext (by simp only;omega) (by simp only;omega))
theorem H5 {q:V2} (b:q≠⟨0,0⟩) (c:e≠⟨0,0⟩) (f:a≠⟨0,0⟩) (g:0<=aa e q) (h2:0<=aa q a) (h:0<=aa e a) (i:¬(aa e a=0/\0<av e a)) (j:¬gf e) (k:¬gf a):¬gf q:=by
 rw[<-hP b];refine Bw (e:=gN e) (a:=gN a) (wQ b) (by rw[q9];exact g) (by rw[q9];exact h2) (by rw[q9];exact h) (by rw[q9,Sv];exact i) ((hP c).2 j) ((hP f).2 k)
structure Gr (P:Nat->V2) (nb:Nat->List Nat):Prop where
 nd:∀p,(nb p).Nodup
 nz:∀p q,q∈nb p->P q≠P p
 sym:∀p q,q∈nb p->p∈nb q
 dir:∀p a b,a∈nb p->b∈nb p->a≠b->¬(aa (ag (P a) (P p)) (ag (P b) (P p))=0/\0<av (ag (P a) (P p)) (ag (P b) (P p)))
structure Fc (P:Nat->V2) (nb:Nat->List Nat) (fs:List (List Dt)):Prop where
 cy:∀f∈fs,Cy (nx nb) f
 one:∀f∈fs,fv (ma P (nx nb)) f=1
 nd:fs.flatten.Nodup
 left:∀d∈fs.flatten,0<=aj (P d.1) (P d.2) (P (nx nb d).2)
 rev:∀d∈fs.flatten,d.1∈nb d.2
def dP (nb:Nat->List Nat) (p q:Nat) (x:Nat):List Nat:=if x=p then(nb p).erase q else if x=q then(nb q).erase p else nb x
def Ef (P:Nat->V2) (nb:Nat->List Nat) (p q:Nat):Prop:=∀a∈nb p,bM (nb p) a=q->0<=aj (P p) (P (bM (nb p) q)) (P a)/\bM (nb p) q≠a
variable {nb:Nat->List Nat} {p q:Nat}
theorem fR {x y:Nat} (g:∀p,(nb p).Nodup):y∈dP nb p q x↔y∈nb x/\¬(x=p/\y=q)/\¬(x=q/\y=p):=by
 unfold dP;by_cases c:x=p;subst c;rw[XL rfl,(g x).mem_erase_iff];constructor;rintro⟨a,b⟩;refine⟨b,λk=>a k.2,λ⟨k,i⟩=>a (by rw[i,k])⟩;rintro⟨a,b,_⟩;exact⟨λk=>b ⟨rfl,k⟩,a⟩;rw[XG c];by_cases f:x=q;subst f;rw[XL rfl,(g x).mem_erase_iff];constructor;rintro⟨a,b⟩;exact⟨b,λk=>c k.1,λk=>a k.2⟩;rintro⟨a,_,b⟩;exact⟨λk=>b ⟨rfl,k⟩,a⟩;rw[XG f];exact⟨λk=>⟨k,λh=>c h.1,λh=>f h.1⟩,λk=>k.1⟩
theorem Gr.drop {P:Nat->V2} (G:Gr P nb) (p q:Nat):Gr P (dP nb p q) where
 nd:=λx=>by unfold dP;split;exact(G.nd p).erase q;split;exact(G.nd q).erase p;exact G.nd x
 nz:=λx y h=>G.nz x y ((fR G.nd).1 h).1
 sym:=λx y h=>by obtain⟨c,f,g⟩:=(fR G.nd).1 h;exact(fR G.nd).2 ⟨G.sym x y c,λk=>g ⟨k.2,k.1⟩,λk=>f ⟨k.2,k.1⟩⟩
 dir:=λx a b i j=>G.dir x a b ((fR G.nd).1 i).1 ((fR G.nd).1 j).1
section
variable {P:Nat->V2} {nb:Nat->List Nat}
theorem wL (G:Gr P nb) {d a:Dt} (h:d.1∈nb d.2) (b:a.1∈nb a.2) (e:nx nb d=nx nb a):d=a:=by
 have c:d.2=a.2:=XT Prod.fst e;have f:bM (nb d.2) d.1=bM (nb a.2) a.1:=XT Prod.snd e;rw[<-c]at f b;exact aaz (DK (G.nd _) h b f) c
theorem va (G:Gr P nb) (a:q∈nb p) {d:Dt} (h:d.1∈nb d.2) (f:d≠(p,q)) (h2:d≠(q,p)):nx (dP nb p q) d=if nx nb d=(p,q)then(p,bM (nb p) q)else if nx nb d=(q,p)then(q,bM (nb q) p)else nx nb d:=by
 have g:q≠p:=λe=>G.nz p q a (by rw[e]);obtain⟨x,y⟩:=d;simp only at h;have i:¬(p=q):=λe=>g e.symm;have j:nx nb (x,y)=(y,bM (nb y) x):=rfl;have l:nx (dP nb p q) (x,y)=(y,bM (dP nb p q y) x):=rfl;rw[j,l];unfold dP;simp only[Zx];by_cases c:y=p;subst c;have m:x≠q:=λe=>h2 (by rw[e]);rw[XL rfl,xx (G.nd y) a h m];by_cases k:bM (nb y) x=q;simp[k];simp[k,i];rw[XG c];by_cases b:y=q;subst b;have o:x≠p:=λe=>f (by rw[e]);rw[XL rfl,xx (G.nd y) (G.sym p y a) h o];by_cases k:bM (nb y) x=p;simp[k,c];simp[k,c];rw[XG b,XG (λh=>c h.1),XG (λh=>b h.1)]
theorem A4 {f:Dt->Dt}:∀{l:List Dt} {d e:Dt},mR f d l e->∀y∈d::l,f y∈l\/f y=e
 |[],d,e,h,y,a=>by rcases XD.1 a with rfl|k;exact .inr h;cases k
 |x::l,d,e,h,y,a=>by rcases XD.1 a with rfl|k;left;rw[h.1];simp;rcases A4 h.2 y k with r|r;left;simp[r];exact .inr r
theorem Ku (a b:V2):ag a b=gN (ag b a):=V2.ext (by simp only[ag,gN];omega) (by simp only[ag,gN];omega)
theorem uQ {a b:Nat} (h:P a≠P b):ji P (a,b)=!(ji P (b,a)):=by
 unfold ji;have c:ag (P a) (P b)≠⟨0,0⟩:=cC h;have:=hP c;rw[<-Ku]at this;simp only;rw[<-abe];exact Ym.2 this
theorem Nv (b c a f g:Bool) (h:c=true->b=true->a=true) (h2:c=false->b=false->a=false) (i:g=true->f=true->a=false) (j:g=false->f=false->a=true):
  (if a=false/\g=true then(1:Int)else 0)+(if(!b)=false/\a=true then 1 else 0)+((if(!a)=false/\c=true then 1 else 0)+(if(!f)=false/\(!a)=true then 1 else 0))=1+(if(!b)=false/\c=true then 1 else 0)+(if(!f)=false/\g=true then 1 else 0):=by
 cases b<;>cases c<;>cases a<;>cases f<;>cases g<;>simp_all
theorem Ps {f:Dt->Dt} {d e:Dt} {l:List Dt} (h:mR f d l e) (g:l≠[]):∃b y,l=b++[y]/\f y=e:=by
 obtain⟨b,y,c,i⟩:=w5 h;cases b with
 |nil=>
  exfalso;cases l with
  |nil=>exact g rfl
  |cons a r=>cases c
 |cons a r=>simp only[YM,abl]at c;exact⟨r,y,c.2,i⟩
structure Wr (P:Nat->V2) (nb:Nat->List Nat) (p q a b:Nat):Prop where
 hq:q∈nb p
 ha:a∈nb p
 hb:b∈nb q
 na:bM (nb p) a=q
 Jc:bM (nb q) b=p
 e1:0<=aj (P a) (P p) (P q)
 e2:0<=aj (P q) (P p) (P (bM (nb p) q))
 e3:0<=aj (P p) (P (bM (nb p) q)) (P a)
 e4:bM (nb p) q≠a
 c1:0<=aj (P b) (P q) (P p)
 c2:0<=aj (P p) (P q) (P (bM (nb q) p))
 c3:0<=aj (P q) (P (bM (nb q) p)) (P b)
 c4:bM (nb q) p≠b
theorem Tc (x p y:V2):aj x p y=aa (ag y p) (ag x p):=by simp only[aj,aa,ag];grind
theorem Wr.cnt (G:Gr P nb) {a b:Nat} (T:Wr P nb p q a b):
  ma P (nx nb) (p,q)+ma P (nx nb) (a,p)+(ma P (nx nb) (q,p)+ma P (nx nb) (b,q))=
  1+(if ji P (a,p)=false/\ji P (p,bM (nb p) q)=true then 1 else 0)+(if ji P (b,q)=false/\ji P (q,bM (nb q) p)=true then 1 else 0):=by
 have C:p∈nb q:=G.sym _ _ T.hq;have u:bM (nb p) q∈nb p:=oo (λk=>by have:=T.hq;rw[k]at this;cases this);have w:bM (nb q) p∈nb q:=oo (λk=>by have:=C;rw[k]at this;cases this);have i:=G.nz _ _ T.hq;have na:=G.nz _ _ T.ha;have x:=G.nz _ _ T.hb;have D:=G.nz _ _ w;have ne:=G.nz _ _ u;have E:ji P (a,p)=!(ji P (p,a)):=uQ na;have F:ji P (b,q)=!(ji P (q,b)):=uQ x;have H:ji P (q,p)=!(ji P (p,q)):=uQ i;have I:nx nb (p,q)=(q,bM (nb q) p):=rfl;have J:nx nb (q,p)=(p,bM (nb p) q):=rfl;have K:nx nb (a,p)=(p,q):=by show(p,bM (nb p) a)=_;rw[T.na]
 have M:nx nb (b,q)=(q,p):=by show(q,bM (nb q) b)=_;rw[T.Jc]
 unfold ma;rw[I,J,K,M,E,F,H];have y:=G.dir p _ _ u T.ha T.e4;have z:=G.dir q _ _ w T.hb T.c4;have m:=T.e1;have o:=T.e2;have j:=T.e3;have r:=T.c1;have t:=T.c2;have l:=T.c3;rw[Tc]at m o r t;have j:0<=aa (ag (P (bM (nb p) q)) (P p)) (ag (P a) (P p)):=j;have l:0<=aa (ag (P (bM (nb q) p)) (P q)) (ag (P b) (P q)):=l;have A:=cC i;have B:=cC (Zf i);have g:=uQ (a:=q) (b:=p) i;refine Nv (ji P (p,a)) (ji P (p,bM (nb p) q)) (ji P (p,q)) (ji P (q,b)) (ji P (q,bM (nb q) p)) ?_ ?_ ?_ ?_;intro c f;exact X4 (Bw A o m j y (XA c) (XA f));intro c f;exact XZ (H5 A (cC ne) (cC na) o m j y (XB c) (XB f))
 ·intro c f;have:ji P (q,p)=true:=X4 (Bw B t r l z (XA c) (XA f));rw[this]at g;cases h:ji P (p,q)with
  |false=>rfl
  |true=>rw[h]at g;cases g
 ·intro c f;have:ji P (q,p)=false:=XZ (H5 B (cC D) (cC x) t r l z (XB c) (XB f));rw[this]at g;cases h:ji P (p,q)with
  |true=>rfl
  |false=>rw[h]at g;cases g
theorem oQ (G:Gr P nb) (i:q∈nb p) {l:List Dt} {d la e z:Dt} (A:l≠[]) (h:mR (nx nb) d l e) (B:l.Nodup)
  (f:∀y∈l,y.1∈nb y.2) (g:∀y∈l,y≠(p,q)) (h2:∀y∈l,y≠(q,p)) (C:e=(p,q)\/e=(q,p)) (I:z=if e=(p,q)then(p,bM (nb p) q)else(q,bM (nb q) p))
  (D:la.1∈nb la.2) (j:nx nb la=e):
  ∃x b,l=x::b/\nx nb d=x/\mR (nx (dP nb p q)) x b z/\la∈l/\
   fv (ma P (nx (dP nb p q))) l=fv (ma P (nx nb)) l-ma P (nx nb) la+(if ji P la=false/\ji P z=true then 1 else 0):=by
 have E:(p,q)≠(q,p):=λk=>G.nz p q i (by have:=XT Prod.fst k;simp only at this;rw[this]);have step:∀y∈l,nx nb y≠e->nx (dP nb p q) y=nx nb y:=λy a m=>by
  have J:∀y∈l,nx nb y∈l\/nx nb y=e:=λy a=>by rcases A4 h y (by simp[a])with r|r;exact .inl r;exact .inr r
  have F:=(J y a).resolve_right m;rw[va G i (f y a) (g y a) (h2 y a),XG (g _ F),XG (h2 _ F)]
 have o:∀y∈l,nx nb y=e->nx (dP nb p q) y=z:=λy a K=>by rw[va G i (f y a) (g y a) (h2 y a),K,I];rcases C with k|k;rw[XL k,XL k];rw[XG (λq=>E (by rw[<-q,<-k])),XL k,XG (λq=>E (by rw[<-q,<-k]))]
 obtain⟨u,y,w,a⟩:=Ps h A;have H:y∈l:=by rw[w];simp
 have M:y=la:=wL G (f y H) D (a.trans j.symm);subst M;cases l with
 |nil=>exact absurd rfl A
 |cons x b=>
  have N:∀y∈x::b,y≠e:=λy a=>by rcases C with k|k;rw[k];exact g y a;rw[k];exact h2 y a
  refine⟨x,b,rfl,h.1,Da h.2 (λy a m=>step y a m) (λy a=>N y (by simp[a])) (λy a k=>o y a k),H,?_⟩;rw[w]at B step o|-;have O:∀t∈u,nx nb t≠e:=λt c k=>by have:=wL G (f t (by rw[w];simp[c])) D (k.trans j.symm);subst this;exact(YW.1 B).2.2 t c t (by simp) rfl
  rw[rL,rL];have Q:fv (ma P (nx (dP nb p q))) u=fv (ma P (nx nb)) u:=xz (λt c=>by unfold ma;rw[step t (by simp[c]) (O t c)]);have R:ma P (nx (dP nb p q)) y=if ji P y=false/\ji P z=true then 1 else 0:=(by unfold ma;rw[o y (by simp) j]);rw[Q];simp only[fv];rw[R];omega
end
variable {F:List Dt} {fs:List (List Dt)} {p q:Nat}
section
variable {P:Nat->V2} {nb:Nat->List Nat}
theorem zc {f g:Dt->Dt}:∀{l:List Dt} {d e:Dt},mR f d l e->(∀y∈d::l,g y=f y)->mR g d l e
 |[],d,e,h,k=>(k d (by simp)).trans h
 |x::l,d,e,h,k=>⟨(k d (by simp)).trans h.1,zc h.2 (λy a=>k y (by simp only[XD]at a|-;exact .inr a))⟩
theorem Nb {f:Dt->Dt} (h:Cy f F) {y:Dt} (a:y∈F):f y∈F:=by
 cases F with
 |nil=>cases a
 |cons d l=>rcases A4 (show mR f d l d from h) y a with r|r;simp[r];rw[r];simp
theorem Nc {f g:Dt->Dt} (h:Cy f F) (k:∀y∈F,g y=f y):Cy g F:=by
 cases F with
 |nil=>exact h
 |cons d l=>exact zc (show mR f d l d from h) k
theorem PZ {f:Dt->Dt} (h:Cy f F) {d:Dt} (a:d∈F):∃y∈F,f y=d:=by
 obtain⟨l,b,c⟩:=DG h a;obtain⟨j,y,g,i⟩:=w5 (show mR f d l d from c);exact⟨y,b.mem_iff.2 (by rw[g];simp),i⟩
theorem jH {d:Dt} (h:d∈fs.flatten):∃f R,f∈fs/\d∈f/\fs.Perm (f::R)/\∀x∈R,x∈fs:=by
 obtain⟨f,a,b⟩:=Zn.1 h;obtain⟨s,t,rfl⟩:=aan a;exact⟨f,s++t,a,b,aaJ,λx c=>by
  rcases XP.1 c with k|k;simp[k]
  ·simp[k]⟩
theorem Fc.rest {g:List (List Dt)} (G:Gr P nb) (F:Fc P nb fs) {a b:Nat} (T:Wr P nb p q a b) (j:fs.flatten.Perm ((p,q)::(q,p)::g.flatten))
  (o:∀f∈g,Cy (nx (dP nb p q)) f) (r:∀f∈g,fv (ma P (nx (dP nb p q))) f=1):Fc P (dP nb p q) g:=by
 have t:=j.nodup F.nd;obtain⟨u,w⟩:=YA.1 t;obtain⟨x,y⟩:=YA.1 w;have h:∀d∈g.flatten,d∈fs.flatten:=λd c=>j.mem_iff.2 (by simp[c]);have l:∀d∈g.flatten,d≠(p,q):=λd c k=>u (by rw[<-k];simp[c]);have m:∀d∈g.flatten,d≠(q,p):=λd c k=>x (by rw[<-k];exact c);refine⟨o,r,y,λd c=>?_,λd c=>?_⟩;have i:=F.rev d (h d c);rw[va G T.hq i (l d c) (m d c)];split;rename_i k;have e:d=(a,p):=wL G i (show a∈nb p from T.ha) (k.trans (by show _=(p,bM (nb p) a);rw[T.na]));rw[e];have:=T.e3;rw[qd]at this;exact this;split;rename_i k;have e:d=(b,q):=wL G i (show b∈nb q from T.hb) (k.trans (by show _=(q,bM (nb q) b);rw[T.Jc]));rw[e];have:=T.c3;rw[qd]at this;exact this;exact F.left d (h d c);refine(fR G.nd).2 ⟨F.rev d (h d c),λk=>m d c (aaz k.2 k.1),λk=>l d c (aaz k.2 k.1)⟩
theorem Fc.two (F:Fc P nb fs) (D:q∈nb p) (k:(p,q)∈fs.flatten) (h2:(q,p)∈fs.flatten) (E:Ef P nb p q) (G:Ef P nb q p):∃a b,Wr P nb p q a b:=by
 have l:∀d∈fs.flatten,∃y∈fs.flatten,nx nb y=d:=λd c=>by obtain⟨f,m,c⟩:=Zn.1 c;obtain⟨y,H,e⟩:=PZ (F.cy f m) c;exact⟨y,Zn.2 ⟨f,m,H⟩,e⟩
 obtain⟨⟨a,g⟩,o,h⟩:=l _ k;obtain⟨⟨b,i⟩,r,j⟩:=l _ h2;have I:g=p:=XT Prod.fst h;have J:i=q:=XT Prod.fst j;subst I J;have t:bM (nb g) a=i:=XT Prod.snd h;have u:bM (nb i) b=g:=XT Prod.snd j;have w:=F.rev _ o;have x:=F.rev _ r;have z:=E a w t;have A:=G b x u;have B:=F.left _ o;have C:=F.left _ r;rw[h]at B;rw[j]at C;exact⟨a,b,D,w,x,t,u,B,F.left _ h2,z.1,z.2,C,F.left _ k,A.1,A.2⟩
theorem Fc.drop (G:Gr P nb) (F:Fc P nb fs) (i:q∈nb p) (a5:(p,q)∈fs.flatten) (h2:(q,p)∈fs.flatten) (a6:Ef P nb p q) (a7:Ef P nb q p):
  ∃a8,Fc P (dP nb p q) a8/\fs.flatten.Perm ((p,q)::(q,p)::a8.flatten):=by
 obtain⟨a,b,T⟩:=F.two i a5 h2 a6 a7;have K:(p,q)≠(q,p):=λk=>G.nz p q i (by have:=XT Prod.fst k;simp only at this;rw[this]);have a9:q≠p:=λk=>K (by rw[k]);have b0:nx nb (a,p)=(p,q):=by show(p,bM (nb p) a)=_;rw[T.na]
 have b1:nx nb (b,q)=(q,p):=by show(q,bM (nb q) b)=_;rw[T.Jc]
 have e9:=T.cnt G;have b2:(p,bM (nb p) q)=if(p,q)=(p,q)then(p,bM (nb p) q)else(q,bM (nb q) p):=by rw[XL rfl]
 have b3:(q,bM (nb q) p)=if(q,p)=(p,q)then(p,bM (nb p) q)else(q,bM (nb q) p):=by rw[XG (Zf K)]
 obtain⟨b4,m,b5,c7,c8,x⟩:=jH a5;obtain⟨A,b6,c9⟩:=DG (F.cy b4 b5) c7;have z:mR (nx nb) (p,q) A (p,q):=c9;have o:fs.flatten.Perm ((p,q)::(A++m.flatten)):=(c8.flatten).trans (by rw[Zg];exact(b6.append_right _));have C:=F.one b4 b5;rw[jt _ b6]at C;simp only[fv]at C;have d0:=o.nodup F.nd;obtain⟨b7,M⟩:=YA.1 d0;have other:∀f∈fs,(p,q)∉f->(q,p)∉f->Cy (nx (dP nb p q)) f/\fv (ma P (nx (dP nb p q))) f=1:=λf h b8 b9=>by
  have c:∀y∈f,nx (dP nb p q) y=nx nb y:=λy g=>by have:=Nb (F.cy f h) g;rw[va G i (F.rev y (Zn.2 ⟨f,h,g⟩)) (λe=>b8 (by rw[<-e];exact g)) (λe=>b9 (by rw[<-e];exact g)),XG (λe=>b8 (by rw[<-e];exact this)),XG (λe=>b9 (by rw[<-e];exact this))]
  refine⟨Nc (F.cy f h) c,?_⟩;rw[<-F.one f h];refine xz λy g=>?_;unfold ma;rw[c y g]
 have r:∀y∈A,y.1∈nb y.2:=λy g=>F.rev y (o.mem_iff.2 (by simp[g]));have d1:(q,p)∈A++m.flatten:=(XD.1 (o.mem_iff.1 h2)).resolve_left (Zf K);have c0:A.Nodup:=(YW.1 M).1;have N:∀y∈A,y≠(p,q):=λy g k=>b7 (by rw[<-k];simp[g]);rcases XP.1 d1 with k|k
 ·
  exfalso;obtain⟨D,E,rfl⟩:=aan k;obtain⟨O,Q⟩:=oW.1 z;have R:=YW.1 c0;obtain⟨d2,d3⟩:=YA.1 R.2.1;have S:D≠[]:=λe=>by rw[e]at O;have:bM (nb q) p=p:=XT Prod.snd (show nx nb (p,q)=(q,p) from O);exact(a7 p (G.sym _ _ i) this).2 this
  have U:E≠[]:=λe=>by rw[e]at Q;have:bM (nb p) q=q:=XT Prod.snd (show nx nb (q,p)=(p,q) from Q);exact(a6 q i this).2 this
  have d4:∀y∈D,y≠(q,p):=λy g e=>R.2.2 y g (q,p) (by simp) e;have d5:∀y∈E,y≠(q,p):=λy g e=>d2 (by rw[<-e];exact g);obtain⟨j,V,X,Y,H,_,d6⟩:=oQ (la:=(b,q)) (P:=P) G i S O R.1 (λy g=>r y (by simp[g])) (λy g=>N y (by simp[g])) d4 (.inr rfl) b3 T.hb b1;obtain⟨l,Z,a0,a1,I,_,d7⟩:=oQ (la:=(a,p)) (P:=P) G i U Q d3 (λy g=>r y (by simp[g])) (λy g=>N y (by simp[g])) d5 (.inl rfl) b2 T.ha b0;have d8:Cy (nx (dP nb p q)) D:=(by rw[X];show mR _ j V j;have e:j=(q,bM (nb q) p):=Y.symm;rw[e]at H|-;exact H);have d9:Cy (nx (dP nb p q)) E:=(by rw[a0];show mR _ l Z l;have e:l=(p,bM (nb p) q):=a1.symm;rw[e]at I|-;exact I);have e0:∀d∈D,P d.1≠P d.2:=λd a2=>G.nz _ _ (r d (by simp[a2]));have TG:∀d∈E,P d.1≠P d.2:=λd a2=>G.nz _ _ (r d (by simp[a2]));have f0:=FK (P:=P) (λd=>rfl) d8 e0;have f1:=FK (P:=P) (λd=>rfl) d9 TG;rw[rL]at C;simp only[fv]at C;omega
 ·
  obtain⟨J,t,c1,e1,e2,c2⟩:=jH k;obtain⟨B,c3,e3⟩:=DG (F.cy J (x J c1)) e1;have a3:mR (nx nb) (q,p) B (q,p):=e3;have c4:=F.one J (x J c1);rw[jt _ c3]at c4;simp only[fv]at c4;have u:m.flatten.Perm ((q,p)::(B++t.flatten)):=(e2.flatten).trans (by rw[Zg];exact(c3.append_right _));have e4:=u.nodup (YW.1 M).2.1;obtain⟨a4,e5⟩:=YA.1 e4;have Ek:B.Nodup:=(YW.1 e5).1;have En:∀y∈m.flatten,y∈fs.flatten/\y≠(p,q):=λy g=>⟨o.mem_iff.2 (by simp[g]),λe=>b7 (by rw[<-e];simp[g])⟩;have c5:∀y∈B,y∈m.flatten:=λy g=>u.mem_iff.2 (by simp[g]);have S:A≠[]:=λe=>by rw[e]at z;exact a9 (XT Prod.fst (show nx nb (p,q)=(p,q) from z))
  have U:B≠[]:=λe=>by rw[e]at a3;exact a9 (XT Prod.fst (show nx nb (q,p)=(q,p) from a3)).symm
  have e6:∀y∈A,y≠(q,p):=λy g e=>(YW.1 M).2.2 y g (q,p) k e;obtain⟨j,V,X,Y,H,_,d6⟩:=oQ (la:=(a,p)) (P:=P) G i S z c0 r N e6 (.inl rfl) b2 T.ha b0;obtain⟨l,Z,a0,a1,I,_,d7⟩:=oQ (la:=(b,q)) (P:=P) G i U a3 Ek (λy g=>F.rev y (En y (c5 y g)).1) (λy g=>(En y (c5 y g)).2) (λy g e=>a4 (by rw[<-e];simp[g])) (.inr rfl) b3 T.hb b1;have c6:fs.flatten.Perm ((p,q)::(q,p)::((A++B)::t).flatten):=(by refine o.trans (.cons _ ?_);refine(u.append_left A).trans ?_;rw[Zg];refine List.perm_middle.trans (.cons _ ?_);rw[Yk]);refine⟨(A++B)::t,F.rest G T c6 ?_ ?_,c6⟩
  ·intro f h;rcases XD.1 h with rfl|h;have e7:j=(q,bM (nb q) p):=Y.symm;have e8:l=(p,bM (nb p) q):=a1.symm;rw[X,a0];show mR _ j (V++l::Z) j;refine oW.2 ⟨?_,?_⟩;rw[e8];exact H;rw[e7];exact I
   ·have w:∀y∈f,y∈t.flatten:=λy g=>Zn.2 ⟨f,h,g⟩;exact(other f (x f (c2 f h)) (λe=>(En _ (u.mem_iff.2 (by simp[w _ e]))).2 rfl) (λe=>a4 (by simp[w _ e]))).1
  ·intro f h;rcases XD.1 h with rfl|h;rw[rL];omega
   ·have w:∀y∈f,y∈t.flatten:=λy g=>Zn.2 ⟨f,h,g⟩;exact(other f (x f (c2 f h)) (λe=>(En _ (u.mem_iff.2 (by simp[w _ e]))).2 rfl) (λe=>a4 (by simp[w _ e]))).2
end
def rh (a b:V2):Prop:=(gf a/\¬gf b)\/((gf a↔gf b)/\0<aa a b)
theorem Bm {a b c:Int} {X Y Z:V2} (f:0<a) (g:0<=b) (h:0<=c) (i:b≠0\/c≠0) (j:X≠⟨0,0⟩) (k:Y≠⟨0,0⟩) (l:Z≠⟨0,0⟩) (ex:a*X.x=b*Y.x+c*Z.x) (p:a*X.y=b*Y.y+c*Z.y) (m:¬gf Y) (o:¬gf Z):¬gf X:=by
 rw[<-hP j];refine qK (Y:=gN Y) (Z:=gN Z) f g h i ?_ ?_ ((hP k).2 m) ((hP l).2 o);simp only[gN,Yv];omega;simp only[gN,Yv];omega
theorem eR (a b:V2):aa a b= -aa b a:=by simp only[aa];grind
theorem lL (a:V2):aa a a=0:=by simp only[aa];grind
section
variable {R W X:V2}
theorem Tb (R W X:V2):(aa R W*X.x=aa R X*W.x+(-aa W X)*R.x/\aa R W*X.y=aa R X*W.y+(-aa W X)*R.y)/\(aa W X*R.x=aa R X*W.x+(-aa R W)*X.x/\aa W X*R.y=aa R X*W.y+(-aa R W)*X.y):=by
 refine⟨⟨?_,?_⟩,?_,?_⟩<;>(simp only[aa];grind)
theorem UF (g:R≠⟨0,0⟩) (h:W≠⟨0,0⟩) (i:X≠⟨0,0⟩) (t:0<aa R X) (b:rh R W) (h2:rh W X):0<aa R W/\0<aa W X:=by
 obtain⟨⟨j,l⟩,m,o⟩:=Tb R W X;unfold rh at b h2;by_cases a:gf W;have p:gf R:=(by rcases b with q|q;exact q.1;exact q.1.2 a);have c:0<aa R W:=(by rcases b with q|q;exact absurd a q.2;exact q.2);refine⟨c,?_⟩;rcases h2 with q|q;refine Xz λk=>q.2 ?_;exact qK c (by omega) (by omega) (by omega) j l a p;exact q.2
 ·have r:¬gf X:=λk=>by rcases h2 with q|q;exact a q.1;exact a (q.1.2 k)
  have f:0<aa W X:=(by rcases h2 with q|q;exact absurd q.1 a;exact q.2);refine⟨?_,f⟩;rcases b with q|q;refine Xz λk=>?_;exact Bm f (by omega) (by omega) (by omega) g h i m o a r q.1;exact q.2
theorem UE (h:R≠⟨0,0⟩) (i:W≠⟨0,0⟩) (j:X≠⟨0,0⟩) (l:0<aa R X) (a:rh W X) (h2:rh X R):0<aa R W/\0<aa W X:=by
 obtain⟨⟨m,o⟩,c,f⟩:=Tb R W X;have p:=eR R X;unfold rh at a h2;have h2:gf X/\¬gf R:=by rcases h2 with q|q;exact q;omega
 have g:gf W:=by rcases a with q|q;exact q.1;exact q.1.2 h2.1
 have b:0<aa W X:=by rcases a with q|q;exact absurd h2.1 q.2;exact q.2
 refine⟨?_,b⟩;refine Xz λk=>h2.2 ?_;exact qK b (by omega) (by omega) (by omega) c f g h2.1
theorem UD (c:R≠⟨0,0⟩) (f:W≠⟨0,0⟩) (g:X≠⟨0,0⟩) (l:0<aa R X) (a:rh X R) (h2:rh R W):0<aa R W/\0<aa W X:=by
 obtain⟨⟨h,i⟩,m,o⟩:=Tb R W X;have p:=eR R X;unfold rh at a h2;have a:gf X/\¬gf R:=by rcases a with q|q;exact q;omega
 have j:¬gf W:=λk=>by rcases h2 with q|q;exact a.2 q.1;exact a.2 (q.1.2 k)
 have b:0<aa R W:=by rcases h2 with q|q;exact absurd q.1 a.2;exact q.2
 refine⟨b,?_⟩;refine Xz λk=>?_;exact Bm b (by omega) (by omega) (by omega) g f c h i j a.2 a.1
end
theorem CC {b x:Nat}:∀{l:List Nat},x∈l->(∃t,l=x::t)\/∃s w t,l=s++w::x::t/\pv b l x=w
 |[],h=>by cases h
 |y::r,h=>by by_cases c:y=x;subst c;exact .inl ⟨r,rfl⟩;right;have a:=(XD.1 h).resolve_left (Zf c);rcases CC (b:=y) a with⟨t,rfl⟩|⟨s,w,t,e,f⟩;exact⟨[],y,t,rfl,by simp[pv,c]⟩;refine⟨y::s,w,t,by rw[e];rfl,?_⟩;rw[<-f];simp only[pv];rw[XG c]
theorem tV {b:Nat}:∀{l:List Nat},l≠[]->∃s,l=s++[dV b l]
 |[],h=>absurd rfl h
 |[y],_=>⟨[],rfl⟩
 |y::z::r,_=>by obtain⟨s,e⟩:=tV (b:=y) (l:=z::r) (by simp);exact⟨y::s,by rw[YM,<-show z::r=s++[dV b (y::z::r)] from e]⟩
theorem Fu {a:V2}:¬rh a a:=by
 unfold rh;rw[lL];rintro(⟨b,c⟩|⟨_,h⟩);exact c b;omega
variable {p:Nat}
theorem P6 {l:List Nat} {g:Nat->V2} (hs:l.Pairwise λi k=>rh (g i) (g k)) (q:∀i∈l,g i≠⟨0,0⟩) {r:Nat} (h:p∈l) (a:r∈l) (j:0<aa (g r) (g p))
  (F:∀y∈l,¬(0<aa (g r) (g y)/\0<aa (g y) (g p))):bM l p=r:=by
 refine Xz λm=>?_;have C:bM l p∈l:=oo (λk=>by rw[k]at h;cases h);have c:=F _ C;have u:=q p h;have x:=q r a;have f:=q _ C;have z:r≠p:=λe=>by rw[e,lL]at j;omega
 rcases CC (b:=dV 0 l) h with⟨t,e⟩|⟨s,w,t,e,G⟩
 ·have H:t≠[]:=λk=>by rw[e,k]at a;exact z (Yr.1 a)
  obtain⟨s,I⟩:=tV (b:=p) H;have A:bM l p=dV p t:=(by unfold bM;rw[e];simp[pv,dV]);rw[A]at m c f;rw[e]at hs a;have B:=(XD.1 a).resolve_left z;obtain⟨D,o⟩:=Y2.1 hs;have J:=D r B;rw[I]at B o;rcases XP.1 B with k|k;have K:=(aac.1 o).2.2 r k _ (Yr.2 rfl);exact c (UD x f u j J K);exact m (Yr.1 k).symm
 ·have A:bM l p=w:=G;rw[A]at m c f;rw[e]at hs a;obtain⟨D,o,M⟩:=aac.1 hs;obtain⟨N,O⟩:=Y2.1 o;obtain⟨P,Q⟩:=Y2.1 O;have E:=N p (by simp);rcases XP.1 a with k|k;exact c (UF x f u j (M r k w (by simp)) E);rcases XD.1 k with k|k;exact m k.symm;rcases XD.1 k with k|k;exact z k;exact c (UE x f u j E (P r k))
def eo (P:Nat->V2) (l:List Dt):Ed:=l.map λd=>(P d.1,P d.2)
def iM (d:Dt):Dt:=(d.2,d.1)
def nX (EI DI:List Dt):List Dt:=EI++(DI++DI.map iM)
structure tz (P:Nat->V2) (n:Nat) (EI DI:List Dt) (nb:Nat->List Nat):Prop where
 inj:∀i k,i<n->k<n->P i=P k->i=k
 lt:∀d∈EI++DI,d.1<n/\d.2<n
 mem:∀p y,y∈nb p↔(p,y)∈EI++DI\/(y,p)∈EI++DI
 tH:∀p,(nb p).Pairwise λi k=>rh (ag (P i) (P p)) (ag (P k) (P p))
theorem gY (P:Nat->V2) (a b:List Dt):eo P (a++b)=eo P a++eo P b:=YB ..
variable {q:Nat}
section
variable {P:Nat->V2} {n:Nat} {EI DI:List Dt} {nb:Nat->List Nat}
theorem dG {l:List Dt} {d:Dt} (h:d∈l):(P d.1,P d.2)∈eo P l:=XS.2 ⟨d,h,rfl⟩
theorem tz.back (G:tz P n EI DI nb) (c:p<n) (f:q<n) {l:List Dt} (b:∀d∈l,d∈EI++DI) (h:(P p,P q)∈eo P l):(p,q)∈l:=by
 obtain⟨d,a,e⟩:=XS.1 h;have g:=XT Prod.fst e;have i:=XT Prod.snd e;have:=G.lt d (b d a);have:=G.inj _ _ this.1 c g;have:=G.inj _ _ (G.lt d (b d a)).2 f i;have:d=(p,q):=aaz (by assumption) (by assumption);rw[<-this];exact a
theorem tz.qH (G:tz P n EI DI nb):q∈nb p->p<n/\q<n/\ow (eo P EI) (eo P DI) (P p) (P q):=λh=>by
 rcases(G.mem p q).1 h with k|k;exact⟨(G.lt _ k).1,(G.lt _ k).2,.inl (by rw[<-gY];exact dG k)⟩;exact⟨(G.lt _ k).2,(G.lt _ k).1,.inr (by rw[<-gY];exact dG k)⟩
theorem tz.E6 (G:tz P n EI DI nb) (a:p<n) (b:q<n) (h:ow (eo P EI) (eo P DI) (P p) (P q)):q∈nb p:=by
 refine(G.mem p q).2 ?_;unfold ow at h;rw[<-gY]at h;rcases h with h|h;exact .inl (G.back a b (λ_ k=>k) h);exact .inr (G.back b a (λ_ k=>k) h)
theorem tz.te (G:tz P n EI DI nb) (h:(p,q)∈nX EI DI):p<n/\q<n/\uP (eo P EI) (eo P DI) (P p) (P q):=by
 unfold nX at h;rcases XP.1 h with k|k;have:=G.lt _ (X7 DI k);exact⟨this.1,this.2,.inl (dG k)⟩;rcases XP.1 k with k|k;have:=G.lt _ (X1 EI k);exact⟨this.1,this.2,.inr (.inl (dG k))⟩;obtain⟨d,a,e⟩:=XS.1 k;have:=G.lt _ (X1 EI a);have b:d.2=p:=XT Prod.fst e;have c:d.1=q:=XT Prod.snd e;subst b c;exact⟨this.2,this.1,.inr (.inr (dG a))⟩
theorem tz.GV (G:tz P n EI DI nb) (a:p<n) (b:q<n) (h:uP (eo P EI) (eo P DI) (P p) (P q)):(p,q)∈nX EI DI:=by
 unfold nX;rcases h with h|h|h;exact X7 _ (G.back a b (λ_ k=>X7 _ k) h);exact X1 _ (X7 _ (G.back a b (λ_ k=>X1 _ k) h));exact X1 _ (X1 _ (XS.2 ⟨(q,p),G.back b a (λ_ k=>X1 _ k) h,rfl⟩))
theorem Hb {E D:Ed} (h:Dis E D) {q x y:V2} (c:ow E D q x) (f:ow E D q y) (g:x≠y):¬(aa (ag x q) (ag y q)=0/\0<av (ag x q) (ag y q)):=by
 rintro⟨r,t⟩;have i:∀{a b:V2},ow E D q a->ow E D q b->a≠b->aU q b a->False:=λ{a b} j u l m=>by have o:=(j.vx h).2;have p:=j.ne h;rcases u with k|k;rcases h.pz o k m with e|e;exact p e.symm;exact l e;rcases h.pz o k (ax.1 m)with e|e;exact l e;exact p e.symm
 rcases AM q r t with k|k;rw[cg,cg]at k;exact i c f g k;rw[cg,cg]at k;exact i f c g.symm k
theorem tz.gr (G:tz P n EI DI nb) (h:Dis (eo P EI) (eo P DI)):Gr P nb where
 nd:=λp=>(G.tH p).imp (λ{a b} k e=>by rw[e]at k;exact Fu k)
 nz:=λp q c=>λe=>(G.qH c).2.2.ne h e.symm
 sym:=λp q c=>(G.mem q p).2 ((G.mem p q).1 c).symm
 dir:=λp a b f g i=>Hb h (G.qH f).2.2 (G.qH g).2.2 (λe=>i (G.inj _ _ (G.qH f).2.1 (G.qH g).2.1 e))
theorem tz.vx (G:tz P n EI DI nb) {v:V2} (h:Vx (eo P EI) v):∃i,i<n/\P i=v:=by
 obtain⟨e,a,rfl⟩:=h;obtain⟨d,b,rfl⟩:=XS.1 a;exact⟨d.1,(G.lt d (X7 _ b)).1,rfl⟩
theorem tz.next (G:tz P n EI DI nb) (h:pJ (eo P EI) (eo P DI)) {r:Nat} (b:p<n) (a:q<n) (c:r<n) (K:Kn (eo P EI) (eo P DI) (P p) (P q) (P r)):nx nb (p,q)=(q,r):=by
 have f:p∈nb q:=G.E6 a b K.te.qH;have j:r∈nb q:=G.E6 a c K.qH;have:=P6 (l:=nb q) (g:=λi=>ag (P i) (P q)) (G.tH q) (λi hi=>cC ((G.gr h.toDis).nz _ _ hi)) f j (by rw[vN];exact K.left) (λy k=>K.free _ (G.qH k).2.2);show(q,bM (nb q) p)=(q,r);rw[this]
theorem tz.three (G:tz P n EI DI nb) (h:pJ (eo P EI) (eo P DI)) {d:Dt} (i:d∈nX EI DI):∃r,nx nb d=(d.2,r)/\nx nb (d.2,r)=(r,d.1)/\nx nb (r,d.1)=d/\(d.2,r)∈nX EI DI/\(r,d.1)∈nX EI DI/\d.1≠d.2/\d.2≠r/\r≠d.1/\0<aj (P d.1) (P d.2) (P r):=by
 obtain⟨p,q⟩:=d;obtain⟨b,c,j⟩:=G.te i;obtain⟨k,K⟩:=h.gb j;obtain⟨r,a,rfl⟩:=G.vx (K.qH.vx h.toDis).2;have f:=K.next h;have g:=f.next h;have ne:=K.ne h.toDis;exact⟨r,G.next h b c a K,G.next h c a b f,G.next h a b c g,G.GV c a f.te,G.GV a b g.te,λe=>ne.1 (by simp only at e;rw[e]),λe=>ne.2.1 (by simp only at e;rw[e]),λe=>ne.2.2 (by simp only at e;rw[e]),K.left⟩
end
theorem yA (f:Dt->Dt):∀(k:Nat) (I:List Dt),I.length<=k->I.Nodup->(∀d∈I,f d∈I/\f (f (f d))=d/\f d≠d)->∃j:List (List Dt),j.flatten.Perm I/\∀g∈j,∃d∈I,g=[d,f d,f (f d)]
 |_,[],_,_,_=>⟨[],.refl _,λg c=>by cases c⟩
 |0,_::_,h,_,_=>by simp at h
 |k+1,d::I,w,y,m=>by
  obtain⟨z,o⟩:=YA.1 y;have a:=m d (by simp);have l:=m (f d) a.1;have q:f d≠d:=a.2.2;have A:f (f d)≠f d:=l.2.2;have B:f (f d)≠d:=λe=>by have:=a.2.1;rw[e]at this;exact q this
  have r:f d∈I:=(XD.1 a.1).resolve_left q;have C:f (f d)∈I:=(XD.1 l.1).resolve_left B;have t:f (f d)∈I.erase (f d):=(abo A).2 C;have p:=o.erase (f d);have u:∀x∈(I.erase (f d)).erase (f (f d)),x∈I/\x≠f d/\x≠f (f d):=λx b=>by obtain⟨D,E⟩:=(p.mem_erase_iff).1 b;obtain⟨F,G⟩:=(o.mem_erase_iff).1 E;exact⟨G,F,D⟩
  obtain⟨j,H,J⟩:=yA f k ((I.erase (f d)).erase (f (f d))) (by have Q:=List.length_erase_of_mem r;have R:=List.length_erase_of_mem t;simp only[XV]at w;omega) (p.erase _) (λx b=>by obtain⟨b,K,M⟩:=u x b;have i:=m x (by simp[b]);refine⟨?_,i.2⟩;have N:f x≠d:=λe=>M (by rw[<-i.2.1,e]);have O:f x≠f d:=λe=>z (by rw[<-a.2.1,<-e,i.2.1];exact b);have P:f x≠f (f d):=λe=>K (by rw[<-i.2.1,e,a.2.1]);exact(p.mem_erase_iff).2 ⟨P,(o.mem_erase_iff).2 ⟨O,(XD.1 i.1).resolve_left N⟩⟩);refine⟨[d,f d,f (f d)]::j,?_,λg c=>?_⟩;rw[Zg];refine .cons _ ?_;refine abR ?_ (aat r).symm;refine .cons _ ?_;refine abR ?_ (aat t).symm;exact .cons _ H;rcases XD.1 c with rfl|c;exact⟨d,by simp,rfl⟩;obtain⟨e,l,rfl⟩:=J g c;exact⟨e,by simp[(u e l).1],rfl⟩
section
variable {P:Nat->V2} {n:Nat} {EI DI:List Dt} {nb:Nat->List Nat}
theorem Vo (a b c:Bool):(if a=false/\b=true then(1:Int)else 0)+((if b=false/\c=true then 1 else 0)+((if c=false/\a=true then 1 else 0)+0))<=1:=by
 cases a<;>cases b<;>cases c<;>decide
theorem tz.U5 (G:tz P n EI DI nb) (h:pJ (eo P EI) (eo P DI)) (o:(nX EI DI).Nodup):∃i,Fc P nb i/\i.flatten.Perm (nX EI DI):=by
 have g:=G.gr h.toDis;have three:=λd a=>G.three h (d:=d) a;obtain⟨i,j,p⟩:=yA (nx nb) _ (nX EI DI) (XU _) o (λd a=>by obtain⟨r,b,k,l,t,A,u,_⟩:=three d a;rw[b,k,l];exact⟨t,rfl,λe=>u (XT Prod.fst e).symm⟩);have rev:∀d∈nX EI DI,d.1∈nb d.2:=λd a=>by obtain⟨w,x,y⟩:=G.te a;exact G.E6 x w y.qH
 have q:∀f∈i,Cy (nx nb) f:=λf m=>by obtain⟨d,a,rfl⟩:=p f m;obtain⟨r,b,k,l,_⟩:=three d a;refine⟨rfl,rfl,?_⟩;rw[b,k];exact l
 refine⟨i,⟨q,λf m=>?_,j.symm.nodup o,λd a=>?_,λd a=>rev d (j.mem_iff.1 a)⟩,j⟩;have c:=FK (P:=P) (λd=>rfl) (q f m) (λd a=>g.nz _ _ (rev d (j.mem_iff.1 (Zn.2 ⟨f,m,a⟩))));obtain⟨d,a,rfl⟩:=p f m;obtain⟨r,b,k,l,_⟩:=three d a;have z:=Vo (ji P d) (ji P (nx nb d)) (ji P (nx nb (nx nb d)));have e:fv (ma P (nx nb)) [d,nx nb d,nx nb (nx nb d)]<=1:=(by simp only[fv];unfold ma;have:nx nb (nx nb (nx nb d))=d:=(by rw[b,k,l]);rw[this];exact z);omega;obtain⟨r,b,_,_,_,_,_,_,_,e⟩:=three d (j.mem_iff.1 a);rw[b];exact XN e
theorem xv (h:Dis (eo P EI) (eo P DI)) (q:EI.Nodup) (l:DI.Nodup):(nX EI DI).Nodup:=by
 have m:∀{a b:Nat},(a,b)∈EI++DI->(b,a)∈EI++DI->False:=λ{a b} g c=>by have o:(P a,P b)∈eo P EI++eo P DI:=(by rw[<-gY];exact dG g);have r:(P b,P a)∈eo P EI++eo P DI:=(by rw[<-gY];exact dG c);have p:=(h.ends o).2.2;have:=h.side o r (λe=>p (XT Prod.fst e));exact pt p (this.sym.swap.sym)
 have t:∀{d:Dt},d∈EI->d∈DI->False:=λ{d} g c=>by have:=h.ae _ (dG c) _ (dG (P:=P) g);exact pt (h.vd _ (dG c)).2.2 this
 unfold nX;refine YW.2 ⟨q,YW.2 ⟨l,?_,?_⟩,?_⟩;exact ZT.2 (l.imp (λ{a b} k e=>k (by have u:a.2=b.2:=XT Prod.fst e;have w:a.1=b.1:=XT Prod.snd e;exact aaz w u)));intro a f b i e;subst e;obtain⟨d,j,rfl⟩:=XS.1 i;exact m (a:=d.1) (b:=d.2) (X1 _ j) (X1 _ f);intro a f b i e;subst e;rcases XP.1 i with k|k;exact t f k;obtain⟨d,j,rfl⟩:=XS.1 k;exact m (a:=d.1) (b:=d.2) (X1 _ j) (X7 _ f)
end
def oy (d v:V2):Bool:=decide (0<aa d v\/(aa d v=0/\0<av d v))
def cw (v:V2):Bool:=decide (gf v)
def Ji (a b:V2):Bool:=(cw a&&!cw b)||(cw a==cw b&&decide (0<aa a b))
def lW (p:V2->Bool) (x y:V2):Int:=if p x=false/\p y=true then 1 else 0
def Em (p:V2->Bool):V2->LV->Int
 |_,[]=>0
 |x,y::r=>lW p x y+Em p y r
def Wf:V2->LV->Prop
 |_,[]=>True
 |x,y::r=>0<aa x y/\Wf y r
theorem tB {v:V2}:cw v=true↔gf v:=decide_eq_true_iff
theorem tC {v:V2}:cw v=false↔¬gf v:=Zm
variable {x:V2}
theorem Lv {d:V2} (f:d≠⟨0,0⟩) (i:x≠⟨0,0⟩) (h:aa d x=0):0<av d x↔cw x=cw d:=by
 have ex:av d d*x.x=av d x*d.x:=by simp only[aa,av]at h|-;grind
 have b:av d d*x.y=av d x*d.y:=by simp only[aa,av]at h|-;grind
 have g:=bL f;have m:av d x≠0:=λk=>by rw[k,Yd]at ex b;exact i (V2.ext ((mz ex).resolve_left (by omega)) ((mz b).resolve_left (by omega)))
 by_cases c:0<av d x;refine⟨λ_=>?_,λ_=>c⟩;have:gf x↔gf d:=(by rw[<-up_mul g,ex,b,up_mul c]);unfold cw;exact Ym.2 this;refine⟨λk=>absurd k c,λk=>?_⟩;exfalso;have j:0< -av d x:=(by omega);have:gf x↔gf (gN d):=(by rw[<-up_mul g,<-up_mul (X:=gN d) j,ex,b];simp only[gN,aaB]);rw[hP f]at this;have l:=Ym.1 k;exact(abD (a:=gf d)) (l.symm.trans this)
variable {a:Int}
theorem N5 {b c:Int} {X Y Z:V2} (m:X≠⟨0,0⟩) (o:Y≠⟨0,0⟩) (p:Z≠⟨0,0⟩) (f:0<a) (g:0<=b) (i:0<=c) (j:b≠0\/c≠0) (ex:a*X.x=b*Y.x+c*Z.x) (l:a*X.y=b*Y.y+c*Z.y) (h:cw Y=cw Z):cw X=cw Y:=by
 cases k:cw Y with
 |true=>rw[k]at h;exact tB.2 (qK f g i j ex l (tB.1 k) (tB.1 h.symm))
 |false=>rw[k]at h;exact tC.2 (Bm f g i j m o p ex l (tC.1 k) (tC.1 h.symm))
def bI (b:Bool):Int:=if b then 1 else 0
def sO (a:Int):Ordering:=if a<0 then .lt else if a=0 then .eq else .gt
theorem tI (h:a<0):sO a= .lt:=XL h
theorem yU (h:a=0):sO a= .eq:=by unfold sO;rw[iN,XL h]
theorem tJ (h:0<a):sO a= .gt:=by unfold sO;rw[iN,iN]
def Xy:Ordering->Ordering->Bool->Bool->Bool->Bool
 | .lt,.lt,x,y,d=>!(d==x)||(y==d)
 | .lt,.eq,_,y,d=>d==y
 | .lt,.gt,x,y,d=>!(x==y)||(d==x)
 | .eq,.lt,x,_,d=>d==!x
 | .eq,.eq,_,_,_=>false
 | .eq,.gt,x,_,d=>d==x
 | .gt,.lt,x,y,d=>!((d==x)&&(y==x))
 | .gt,.eq,_,y,d=>d==!y
 | .gt,.gt,x,y,d=>!(d==y)||(x==d)
def oU (s:Ordering) (x d:Bool):Bool:=s== .gt||(s== .eq&&x==d)
def oL (s:Ordering) (x d:Bool):Bool:=(x&&!d)||(x==d&&s== .lt)
theorem Qd (a b:Ordering) (x y d:Bool) (h:Xy a b x y d=true):(if x=false/\y=true then(1:Int)else 0)-(if oU a x d=false/\oU b y d=true then 1 else 0)=bI (oL b y d)-bI (oL a x d):=by
 revert h;cases a<;>cases b<;>cases x<;>cases y<;>cases d<;>decide
theorem QI {d v:V2} (a:d≠⟨0,0⟩) (b:v≠⟨0,0⟩):oy d v=oU (sO (aa d v)) (cw v) (cw d):=by
 unfold oy oU;rcases YJ (aa d v) 0 with k|k|k;rw[tI k];simp only[show¬(0<aa d v) by omega,show¬(aa d v=0) by omega,false_and,or_self];rfl
 ·rw[yU k];have:=Lv a b k;rw[k];cases h:cw v==cw d with
  |true=>have:=this.2 (by simpa using h);simp[this]
  |false=>
   have:¬0<av d v:=λq=>by have:=this.1 q;simp[this]at h
   simp[this]
 ·rw[tJ k];simp[k]
theorem Q9 {d v:V2}:Ji v d=oL (sO (aa d v)) (cw v) (cw d):=by
 unfold Ji oL;have a:=eR v d;rcases YJ (aa d v) 0 with k|k|k;rw[tI k];simp[show 0<aa v d by omega];rw[yU k];simp[show¬0<aa v d by omega];rw[tJ k];simp[show¬0<aa v d by omega]
variable {y:V2}
theorem Td {d:V2} (f:d≠⟨0,0⟩) (o:x≠⟨0,0⟩) (l:y≠⟨0,0⟩) (p:0<aa x y):Xy (sO (aa d x)) (sO (aa d y)) (cw x) (cw y) (cw d)=true:=by
 have ex:aa x y*d.x= -aa d x*y.x+aa d y*x.x:=by simp only[aa];grind
 have m:aa x y*d.y= -aa d x*y.y+aa d y*x.y:=by simp only[aa];grind
 generalize aa x y=c at p ex m;generalize aa d x=a at ex m;generalize aa d y=b at ex m;have g:∀{s t:Int},-s*t= -(s*t):=λ{s t}=>Zc s t;rw[g]at ex m;rcases YJ a 0 with i|i|i<;>rcases YJ b 0 with j|j|j
 ·rw[tI i,tI j];have:cw d=cw x->cw y=cw d:=λh=>N5 l f o (a:= -a) (b:=c) (c:= -b) (by omega) (by omega) (by omega) (by omega) (by rw[g,g];omega) (by rw[g,g];omega) h;revert this;cases cw x<;>cases cw y<;>cases cw d<;>decide
 ·rw[tI i,yU j];rw[j,Yd]at ex m;have:cw d=cw y:=N5 f l l (a:=c) (b:= -a) (c:=0) p (by omega) (by omega) (by omega) (by rw[g,Yd];omega) (by rw[g,Yd];omega) rfl;rw[this];cases cw y<;>rfl
 ·rw[tI i,tJ j];have:cw y=cw x->cw d=cw y:=λh=>N5 f l o (a:=c) (b:= -a) (c:=b) p (by omega) (by omega) (by omega) (by rw[g];omega) (by rw[g];omega) h;revert this;cases cw x<;>cases cw y<;>cases cw d<;>decide
 ·rw[yU i,tI j];rw[i,Yd]at ex m;have:cw (gN d)=cw x:=N5 (wQ f) o o (a:=c) (b:= -b) (c:=0) p (by omega) (by omega) (by omega) (by simp only[gN,Yv,Yd];rw[g];omega) (by simp only[gN,Yv,Yd];rw[g];omega) rfl;have n:=hP f;have:cw d=!cw x:=by
   rw[<-this];cases k:cw d with
   |true=>rw[tC.2 (λq=>(n.1 q) (tB.1 k))];rfl
   |false=>rw[tB.2 (n.2 (tC.1 k))];rfl
  rw[this];cases cw x<;>rfl
 ·exfalso;rw[i,j,Yd,Yd]at ex m;exact f (V2.ext ((mz (show c*d.x=0 by omega)).resolve_left (by omega)) ((mz (show c*d.y=0 by omega)).resolve_left (by omega)))
 ·rw[yU i,tJ j];rw[i,Yd]at ex m;have:cw d=cw x:=N5 f o o (a:=c) (b:=b) (c:=0) p (by omega) (by omega) (by omega) (by rw[Yd];omega) (by rw[Yd];omega) rfl;rw[this];cases cw x<;>rfl
 ·rw[tJ i,tI j];have:cw d=cw x->cw y=cw x->False:=λh w=>by
   have u:∀{t:V2},(gf t↔gf x)->t≠⟨0,0⟩->(gf (gN t)↔¬gf x):=λ{t} q n=>by rw[hP n,q]
   have z:cw (gN d)=cw (gN y):=(by have r:=u (Ym.1 h) f;have A:=u (Ym.1 w) l;exact Ym.2 (r.trans A.symm));have:=N5 o (wQ f) (wQ l) (a:= -b) (b:=c) (c:=a) (by omega) (by omega) (by omega) (by omega) (by simp only[gN,Yv];rw[g];omega) (by simp only[gN,Yv];rw[g];omega) z;have r:=u (Ym.1 h) f;have B:=Ym.1 this;exact(abD (a:=gf x)) (B.trans r)
  revert this;cases cw x<;>cases cw y<;>cases cw d<;>decide
 ·rw[tJ i,yU j];rw[j,Yd]at ex m;have:cw (gN d)=cw y:=N5 (wQ f) l l (a:=c) (b:=a) (c:=0) p (by omega) (by omega) (by omega) (by simp only[gN,Yv,Yd];omega) (by simp only[gN,Yv,Yd];omega) rfl;have n:=hP f;have:cw d=!cw y:=by
   rw[<-this];cases k:cw d with
   |true=>rw[tC.2 (λq=>(n.1 q) (tB.1 k))];rfl
   |false=>rw[tB.2 (n.2 (tC.1 k))];rfl
  rw[this];cases cw y<;>rfl
 ·rw[tJ i,tJ j];have:cw d=cw y->cw x=cw d:=λh=>N5 o f l (a:=b) (b:=c) (c:=a) (by omega) (by omega) (by omega) (by omega) (by omega) (by omega) h;revert this;cases cw x<;>cases cw y<;>cases cw d<;>decide
theorem CT (h:0<aa x y):x≠⟨0,0⟩/\y≠⟨0,0⟩:=by
 refine⟨λe=>?_,λe=>?_⟩;rw[e,gz]at h;omega;rw[e,eR,gz]at h;omega
theorem JJ {d:V2} (a:d≠⟨0,0⟩) (b:0<aa x y):lW cw x y-lW (oy d) x y=bI (Ji y d)-bI (Ji x d):=by
 obtain⟨c,f⟩:=CT b;have:=Qd _ _ _ _ _ (Td a c f b);rw[<-QI a c,<-QI a f,<-Q9,<-Q9]at this;exact this
abbrev bZ (Q:Nat->V2) (i:Nat):V2:=ag (Q (i+1)) (Q i)
structure mS (n:Nat) (Q:Nat->V2):Prop where
 n3:3<=n
 iD:∀i,Q (i+n)=Q i
 left:∀i,0<aa (bZ Q i) (bZ Q (i+1))
 one:bz n (λi=>lW cw (bZ Q i) (bZ Q (i+1)))=1
theorem vS {n:Nat} {f:Nat->Int} (h:∀i,f (i+n)=f i):∀j,bz n (λi=>f (j+i))=bz n f
 |0=>ck (λi _=>by rw[Ya])
 |j+1=>by have a:=gQ (λi=>f (j+i)) 1 n;have b:=gQ (λi=>f (j+i)) n 1;rw[Zu 1 n,b]at a;simp only[bz,YG]at a;have e:bz n (λi=>f (j+1+i))=bz n (λi=>f (j+(1+i))):=ck (λi _=>by rw[YE]);rw[e,<-vS h j];rw[h j]at a;omega
theorem GP (p:Nat->Bool) (g:p 0=true):∀k,bz k (λt=>if p t=false/\p (t+1)=true then 1 else 0)=0->∃m,∀t,t<=k->(p t=true↔t<m)
 |0,_=>⟨1,λt b=>by rw[show t=0 by omega,g];simp⟩
 |k+1,h=>by
  simp only[bz]at h;have j:0<=bz k (λt=>if p t=false/\p (t+1)=true then(1:Int)else 0):=by
   clear h;induction k with
   |zero=>exact Yf _
   |succ k i=>have:=i;simp only[bz];split<;>omega
  have c:¬(p k=false/\p (k+1)=true):=λc=>by rw[XL c]at h;omega
  rw[XG c]at h;obtain⟨m,a⟩:=GP p g k (by omega);cases q:p (k+1)with
  |true=>
   have:p k=true:=by
    cases r:p k with
    |true=>rfl
    |false=>exact absurd ⟨r,q⟩ c
   have:=(a k (by omega)).1 this;refine⟨m+k+2,λt b=>?_⟩;by_cases e:t=k+1;rw[e,q];exact⟨λ_=>by omega,λ_=>rfl⟩;have f:=a t (by omega);exact⟨λ_=>by omega,λ_=>f.2 (by omega)⟩
  |false=>by_cases l:m<=k+1;refine⟨m,λt b=>?_⟩;by_cases e:t=k+1;rw[e,q];exact⟨λh=>by simp at h,λh=>by omega⟩;exact a t (by omega);refine⟨k+1,λt b=>?_⟩;by_cases e:t=k+1;rw[e,q];exact⟨λh=>by simp at h,λh=>by omega⟩;have f:=a t (by omega);exact⟨λ_=>by omega,λ_=>f.2 (by omega)⟩
variable {i j k:Nat}
section
variable {n:Nat} {Q:Nat->V2}
theorem sv {d:V2} (a:d≠⟨0,0⟩) (b:∀i,0<aa (bZ Q i) (bZ Q (i+1))) (j:Nat):∀k,bz k (λt=>lW cw (bZ Q (j+t)) (bZ Q (j+t+1)))-bz k (λt=>lW (oy d) (bZ Q (j+t)) (bZ Q (j+t+1)))=bI (Ji (bZ Q (j+k)) d)-bI (Ji (bZ Q j) d)
 |0=>by simp[bz]
 |k+1=>by have c:=sv a b j k;have f:=JJ a (b (j+k));simp only[bz];rw[show j+(k+1)=j+k+1 by omega];omega
theorem mS.nI (C:mS n Q) (i:Nat):bZ Q (i+n)=bZ Q i:=by
 show ag (Q (i+n+1)) (Q (i+n))=_;rw[show i+n+1=(i+1)+n by omega,C.iD,C.iD]
theorem mS.unit (C:mS n Q) {d:V2} (a:d≠⟨0,0⟩) (j:Nat):bz n (λt=>lW (oy d) (bZ Q (j+t)) (bZ Q (j+t+1)))=1:=by
 have h:=sv a C.left j n;rw[C.nI]at h;have:bz n (λt=>lW cw (bZ Q (j+t)) (bZ Q (j+t+1)))=1:=by rw[vS (f:=λi=>lW cw (bZ Q i) (bZ Q (i+1))) (λi=>by show lW cw (bZ Q (i+n)) (bZ Q (i+n+1))=_;rw[show i+n+1=(i+1)+n by omega,C.nI,C.nI]) j];exact C.one
 omega
theorem mS.pat (C:mS n Q) {d:V2} (a:d≠⟨0,0⟩) (b:oy d (bZ Q j)=false) (h2:oy d (bZ Q (j+1))=true):∃m,∀t,t<n->(oy d (bZ Q (j+1+t))=true↔t<m):=by
 have u:=C.unit a j;have n3:=C.n3;rw[show n=1+(n-1) by omega,gQ]at u;simp only[bz,YG]at u;have c:lW (oy d) (bZ Q j) (bZ Q (j+1))=1:=by unfold lW;rw[b,h2];simp
 rw[c]at u;obtain⟨m,f⟩:=GP (λt=>oy d (bZ Q (j+1+t))) h2 (n-1) (by have:bz (n-1) (λt=>if oy d (bZ Q (j+1+t))=false/\oy d (bZ Q (j+1+(t+1)))=true then(1:Int)else 0)=bz (n-1) (λi=>lW (oy d) (bZ Q (j+(1+i))) (bZ Q (j+(1+i)+1))):=ck (λi _=>by unfold lW;rw[show j+(1+i)=j+1+i by omega];rfl);omega);exact⟨m,λt g=>f t (by omega)⟩
theorem QH {d v:V2} (h:oy d v=true):0<=aa d v:=by
 have:=XA h;omega
theorem QJ {d v:V2} (h:oy d v=false):aa d v<=0:=by
 have:=XB h;omega
theorem rK (d:V2) (Q:Nat->V2) (a k:Nat):aa d (ag (Q (k+1)) (Q a))=aa d (ag (Q k) (Q a))+aa d (bZ Q k):=by simp only[aa,ag,bZ];grind
theorem mS.walk (C:mS n Q) {d:V2} (i:d≠⟨0,0⟩) (l:oy d (bZ Q j)=false) (h2:oy d (bZ Q (j+1))=true) {a b:Nat} (u:b<=n) (w:a<=k) (x:k<=b):
  aa d (ag (Q (j+1+a)) (Q (j+1)))<=aa d (ag (Q (j+1+k)) (Q (j+1)))\/aa d (ag (Q (j+1+b)) (Q (j+1)))<=aa d (ag (Q (j+1+k)) (Q (j+1))):=by
 obtain⟨m,h⟩:=C.pat i l h2;by_cases c:k<=m
 ·left;have:∀s,a+s<=k->aa d (ag (Q (j+1+a)) (Q (j+1)))<=aa d (ag (Q (j+1+(a+s))) (Q (j+1))):=by
   intro s;induction s with
   |zero=>intro _;exact Yf _
   |succ s g=>intro o;have p:=g (by omega);have r:=QH ((h (a+s) (by omega)).2 (by omega));have t:=rK d Q (j+1) (j+1+(a+s));rw[show j+1+(a+(s+1))=j+1+(a+s)+1 by omega];omega
  have:=this (k-a) (by omega)
  rwa [show a+(k-a)=k by omega]at this
 ·right;have:∀s,k+s<=b->aa d (ag (Q (j+1+(k+s))) (Q (j+1)))<=aa d (ag (Q (j+1+k)) (Q (j+1))):=by
   intro s;induction s with
   |zero=>intro _;exact Yf _
   |succ s g=>
    intro o;have p:=g (by omega);have f:oy d (bZ Q (j+1+(k+s)))=false:=by
     cases q:oy d (bZ Q (j+1+(k+s)))with
     |false=>rfl
     |true=>have:=(h (k+s) (by omega)).1 q;omega
    have r:=QJ f;have t:=rK d Q (j+1) (j+1+(k+s));rw[show j+1+(k+(s+1))=j+1+(k+s)+1 by omega];omega
  have:=this (b-k) (by omega)
  rwa [show k+(b-k)=b by omega]at this
theorem Ri (d v:V2):aa d (ag v v)=0:=by simp only[aa,ag];grind
theorem mS.Wx (C:mS n Q) {d:V2} (c:d≠⟨0,0⟩) (f:oy d (bZ Q j)=false) (h2:oy d (bZ Q (j+1))=true) (k:Nat) (g:k<=n):0<=aa d (ag (Q (j+1+k)) (Q (j+1))):=by
 have:=C.walk c f h2 (a:=0) (b:=n) (XU _) (k:=k) (by omega) g;rw[YG,C.iD,Ri]at this;omega
theorem mS.ne (C:mS n Q) (i:Nat):bZ Q i≠⟨0,0⟩:=(CT (C.left i)).1
theorem mS.head (C:mS n Q) (j:Nat):oy (bZ Q j) (bZ Q (j+n-1))=false/\oy (bZ Q j) (bZ Q (j+n-1+1))=true/\aa (bZ Q j) (bZ Q (j+n-1))<0:=by
 have n3:=C.n3;have l:=C.left (j+n-1);rw[show j+n-1+1=j+n by omega,C.nI]at l|-;have a:=eR (bZ Q j) (bZ Q (j+n-1));refine⟨dF,X4 (.inr ⟨lL _,bL (C.ne j)⟩),by omega⟩
theorem mS.TP (C:mS n Q) (j k:Nat) (a:k<=n):0<=aj (Q j) (Q (j+1)) (Q (j+k)):=by
 have n3:=C.n3;obtain⟨b,c,_⟩:=C.head j;have:=C.Wx (C.ne j) b c k a;rw[show j+n-1+1+k=(j+k)+n by omega,show j+n-1+1=j+n by omega,C.iD,C.iD]at this;exact this
theorem mS.strict (C:mS n Q) (j k:Nat) (h2:2<=k) (i:k+1<=n):0<aj (Q j) (Q (j+1)) (Q (j+k)):=by
 have n3:=C.n3;obtain⟨c,f,m⟩:=C.head j;have:=C.walk (C.ne j) c f (a:=2) (b:=n-1) (by omega) (k:=k) h2 (by omega);rw[show j+n-1+1+k=(j+k)+n by omega,show j+n-1+1+2=(j+2)+n by omega,show j+n-1+1+(n-1)=(j+n-1)+n by omega,show j+n-1+1=j+n by omega,C.iD,C.iD,C.iD,C.iD]at this;have o:=rK (bZ Q j) Q j j;have g:=rK (bZ Q j) Q j (j+1);have h:=rK (bZ Q j) Q j (j+n-1);rw[show j+n-1+1=j+n by omega,C.iD,Ri]at h;have l:=C.left j;have p:aa (bZ Q j) (ag (Q (j+1)) (Q j))=0:=lL _;rw[show j+1+1=j+2 from rfl]at g;have:0<aa (bZ Q j) (ag (Q (j+k)) (Q j)):=by omega
 exact this
def InC (n:Nat) (Q:Nat->V2) (z:V2):Prop:=∀i,i<n->0<aj (Q i) (Q (i+1)) z
def vr (n:Nat) (Q:Nat->V2):Ed:=(List.range n).map λi=>(Q i,Q (i+1))
theorem kr {e:V2×V2}:e∈vr n Q↔∃i,i<n/\e=(Q i,Q (i+1)):=by
 unfold vr;rw[XS];exact⟨λ⟨i,h,k⟩=>⟨i,X6.1 h,k.symm⟩,λ⟨i,h,k⟩=>⟨i,X6.2 h,k.symm⟩⟩
theorem PR (h:0<n) (a:Q n=Q 0):mT (vr n Q):=by
 unfold mT vr;rw[Yp,Yp];obtain⟨m,rfl⟩:∃m,n=m+1:=⟨n-1,by omega⟩;have b:(List.range (m+1)).map ((·.1)∘λi=>(Q i,Q (i+1)))=Q 0::(List.range m).map (λi=>Q (i+1)):=by rw[ZS,Yz,Yp];rfl
 have c:(List.range (m+1)).map ((·.2)∘λi=>(Q i,Q (i+1)))=(List.range m).map (λi=>Q (i+1))++[Q 0]:=by rw[ZL,YB,<-a];rfl
 rw[b,c];exact(abW _ _).symm
theorem mS.cP (C:mS n Q):mT (vr n Q):=PR (by have:=C.n3;omega) (by have:=C.iD 0;rwa [Ya]at this)
theorem mS.BU (C:mS n Q) (hi:i<n) (a:k<=n):0<=aj (Q i) (Q (i+1)) (Q k):=by
 by_cases c:i<=k
 ·have:=C.TP i (k-i) (by omega)
  rwa [show i+(k-i)=k by omega]at this
 ·have:=C.TP i (k+n-i) (by omega)
  rwa [show i+(k+n-i)=k+n by omega,C.iD]at this
theorem mS.Oz (C:mS n Q) (hi:i<n) (a:k<n) (b:k≠i) (h2:Q k≠Q (i+1)):0<aj (Q i) (Q (i+1)) (Q k):=by
 have n3:=C.n3;by_cases c:i<=k
 ·have:=C.strict i (k-i) (by have:k≠i+1:=λe=>h2 (by rw[e]);omega) (by omega)
  rwa [show i+(k-i)=k by omega]at this
 ·have:=C.strict i (k+n-i) (by have:k+n≠i+1:=λe=>h2 (by rw[<-e,C.iD]);omega) (by omega)
  rwa [show i+(k+n-i)=k+n by omega,C.iD]at this
theorem mS.Ih (C:mS n Q) {z:V2} (hi:i<n) (h:aj (Q i) (Q (i+1)) z<0):W (vr n Q) z=0:=by
 have f:=C.ne i;obtain⟨a,g,j⟩:∃s:V2,s.y≠0/\aa (bZ Q i) s<=0:=by by_cases c:(bZ Q i).x=0;exact⟨bZ Q i,λq=>f (V2.ext c q),by rw[lL];exact Yf _⟩;refine⟨⟨(bZ Q i).y,-(bZ Q i).x⟩,by simp only;omega,?_⟩;have p:=bL f;have:aa (bZ Q i) ⟨(bZ Q i).y,-(bZ Q i).x⟩= -av (bZ Q i) (bZ Q i):=(by simp only[aa,av];grind);omega
 have l:Ev λK=>(∀e∈vr n Q,e.1.y<(nr 1 z (ah K a)).y)\/(∀e∈vr n Q,(nr 1 z (ah K a)).y<e.1.y):=by rcases Yh g with q|q;refine(Ev.all (vr n Q) (λe _=>jR (z.y-e.1.y) q)).imp λK k=> .inr λe b=>?_;have:=k e b;simp only[nr,ah];omega;refine(Ev.all (vr n Q) (λe _=>dK (z.y-e.1.y) q)).imp λK k=> .inl λe b=>?_;have:=k e b;simp only[nr,ah];omega
 obtain⟨K,_,hK⟩:=l.ex 0;rw[hA C.cP (q:=nr 1 z (ah K a)) (λe b=>?_)];exact zS C.cP hK;obtain⟨k,m,rfl⟩:=kr.1 b;have o:aj (Q i) (Q (i+1)) (nr 1 z (ah K a))=aj (Q i) (Q (i+1)) z+K*aa (bZ Q i) a:=(by simp only[aj,aa,ag,nr,ah,bZ];grind);have r:(K:Int)*aa (bZ Q i) a<=0:=XM (by omega) j;have t:=C.BU hi (show k<=n by omega);have u:=C.BU hi (show k+1<=n by omega);refine jF (x:=Q (i+1)) (y:=Q i) (.inl ?_);have s:=λv=>aV (Q i) (Q (i+1)) v;show aj (Q (i+1)) (Q i) (Q k)<=0/\aj (Q (i+1)) (Q i) (Q (k+1))<=0/\0<aj (Q (i+1)) (Q i) z/\0<aj (Q (i+1)) (Q i) (nr 1 z (ah K a));have w:=s (Q k);have A:=s (Q (k+1));have B:=s z;have D:=s (nr 1 z (ah K a));omega
end
variable {m:Int} {z:V2}
section
variable {n:Nat} {Q:Nat->V2}
theorem Ka (a:0<m) (d:V2):cw (ah m d)=cw d:=Ym.2 (up_mul a)
theorem Bj (m:Int) (Q:Nat->V2) (i:Nat):bZ (λi=>ah m (Q i)) i=ah m (bZ Q i):=by
 apply V2.ext;simp only[ag,ah];rw[Zp];simp only[ag,ah];rw[Zp]
theorem mS.sc (C:mS n Q) (a:0<m):mS n (λi=>ah m (Q i)) where
 n3:=C.n3
 iD:=λi=>by rw[C.iD]
 left:=λi=>by rw[Bj,Bj];have b:aa (ah m (bZ Q i)) (ah m (bZ Q (i+1)))=m*m*aa (bZ Q i) (bZ Q (i+1)):=(by simp only[aa,ah];grind);rw[b];exact XC (XC a a) (C.left i)
 one:=by rw[<-C.one];refine ck (λi _=>?_);unfold lW;rw[Bj,Bj,Ka a,Ka a]
theorem Bi (m:Int) (n:Nat) (Q:Nat->V2):vr n (λi=>ah m (Q i))=bw m (vr n Q):=by
 unfold vr bw;rw[Yp];rfl
theorem vM (m:Int) (a b c:V2):aj (ah m a) (ah m b) (ah m c)=m*m*aj a b c:=by simp only[aj,aa,ag,ah];grind
theorem RB (p q a b:V2):aj (ah 2 p) (ah 2 q) (an a b)=2*(aj p q a+aj p q b):=by simp only[aj,aa,ag,ah,an];grind
theorem mS.A0 (C:mS n Q) {i:Nat} (a:1<=i) (hi:i<n):0<aj (ah 2 (Q i)) (ah 2 (Q (i+1))) (an (Q 0) (Q 1)):=by
 have n3:=C.n3;rw[RB];have w0:=C.BU hi (show 0<=n by omega);have b:=C.BU hi (show 1<=n by omega);by_cases c:i+1=n;have s:=C.strict i 2 (XU _) (by omega);rw[show i+2=1+n by omega,C.iD]at s;omega;have s:=C.strict i (n-i) (by omega) (by omega);rw[show i+(n-i)=0+n by omega,C.iD]at s;omega
theorem mS.Qw (C:mS n Q) (h:InC n Q z):W (vr n Q) z=1:=by
 have n3:=C.n3;have j:Ev λK=>∀i∈List.range n,1<=i->0<(K:Int)*aj (ah 2 (Q i)) (ah 2 (Q (i+1))) (an (Q 0) (Q 1))+aa (ag (ah 2 (Q (i+1))) (ah 2 (Q i))) (ag (an (Q 0) (Q 1)) (ah 2 z)):=Ev.all _ λi hi=>by by_cases c:1<=i;exact(dK _ (C.A0 c (X6.1 hi))).imp λK k _=>k;exact Ev.of λK k=>absurd k c
 obtain⟨K,w,hK⟩:=j.ex 1;have a:0<(K:Int):=by omega
 have f:mS n (λi=>ah K (ah 2 (Q i))):=(C.sc (by decide)).sc a;have l:W (vr n Q) z=W (vr n (λi=>ah K (ah 2 (Q i)))) (ah K (ah 2 z)):=by rw[Bi K n (λi=>ah 2 (Q i)),Bi,kQ a,kQ (by decide)]
 have b:0<aj (Q 0) (Q 1) z:=h 0 (by omega);have o:0<aj (ah K (ah 2 (Q 0))) (ah K (ah 2 (Q 1))) (ah K (ah 2 z)):=by rw[vM,vM];exact XC (XC a a) (XC (by decide) b)
 have g:aj (ah K (ah 2 (Q 0))) (ah K (ah 2 (Q 1))) (nr K (an (Q 0) (Q 1)) (ag (an (Q 0) (Q 1)) (ah 2 z)))<0:=by have:aj (ah K (ah 2 (Q 0))) (ah K (ah 2 (Q 1))) (nr K (an (Q 0) (Q 1)) (ag (an (Q 0) (Q 1)) (ah 2 z)))= -(4*(K*aj (Q 0) (Q 1) z)):=(by simp only[aj,aa,ag,ah,an,nr];grind);have:=XC a b;omega
 have p:aj (ah K (ah 2 z)) (nr K (an (Q 0) (Q 1)) (ag (an (Q 0) (Q 1)) (ah 2 z))) (ah K (ah 2 (Q 0)))<0:=by have:aj (ah K (ah 2 z)) (nr K (an (Q 0) (Q 1)) (ag (an (Q 0) (Q 1)) (ah 2 z))) (ah K (ah 2 (Q 0)))= -(2*((K+1)*(K*aj (Q 0) (Q 1) z))):=(by simp only[aj,aa,ag,ah,an,nr];grind);have:=XC (show 0<(K:Int)+1 by omega) (XC a b);omega
 have q:0<aj (ah K (ah 2 z)) (nr K (an (Q 0) (Q 1)) (ag (an (Q 0) (Q 1)) (ah 2 z))) (ah K (ah 2 (Q 1))):=by have:aj (ah K (ah 2 z)) (nr K (an (Q 0) (Q 1)) (ag (an (Q 0) (Q 1)) (ah 2 z))) (ah K (ah 2 (Q 1)))=2*((K+1)*(K*aj (Q 0) (Q 1) z)):=(by simp only[aj,aa,ag,ah,an,nr];grind);have:=XC (show 0<(K:Int)+1 by omega) (XC a b);omega
 have out:=f.Ih (i:=0) (by omega) g;have r:=F6 f.cP (ah K (ah 2 z)) (nr K (an (Q 0) (Q 1)) (ag (an (Q 0) (Q 1)) (ah 2 z)));rw[out]at r;rw[l];have A:Qs (vr n (λi=>ah K (ah 2 (Q i)))) (ah K (ah 2 z)) (nr K (an (Q 0) (Q 1)) (ag (an (Q 0) (Q 1)) (ah 2 z)))=1:=by obtain⟨m,rfl⟩:∃m,n=m+1:=⟨n-1,by omega⟩;have t:vr (m+1) (λi=>ah K (ah 2 (Q i)))=(ah K (ah 2 (Q 0)),ah K (ah 2 (Q 1)))::(List.range m).map (λi=>(ah K (ah 2 (Q (i+1))),ah K (ah 2 (Q (i+1+1))))):=(by unfold vr;rw[ZS,Yz,Yp];rfl);rw[t];unfold Qs;simp only[eE];rw[wB o g p q,jk];rfl;intro e u;obtain⟨i,hi,rfl⟩:=XS.1 u;have hi:=X6.1 hi;refine q3 (jF (x:=ah K (ah 2 (Q (i+1)))) (y:=ah K (ah 2 (Q (i+1+1)))) (.inl ⟨by rw[dL];exact Yf _,by rw[dQ];exact Yf _,?_,?_⟩));rw[vM,vM];exact XC (XC a a) (XC (by decide) (h (i+1) (by omega)));rw[pN];exact XC a (hK (i+1) (X6.2 (by omega)) (by omega))
 omega
end
theorem Ds {a b:V2} (z:V2) (g:a≠b):Ev λn=>aj (ah (n*n) a) (ah (n*n) b) (nr (n*n) z ⟨n,1⟩)≠0:=by
 have i:∀n:Int,aj (ah (n*n) a) (ah (n*n) b) (nr (n*n) z ⟨n,1⟩)=(n*n)*(n*(n*aj a b z-(b.y-a.y))+(b.x-a.x)):=λn=>by simp only[aj,aa,ag,ah,nr];grind
 have j:Ev λn=>(n:Int)*(n*aj a b z-(b.y-a.y))+(b.x-a.x)≠0:=by
  by_cases c:aj a b z=0;by_cases l:b.y-a.y=0;refine Ev.of λn k=>g ?_;rw[c,l]at k;simp only[X8,Int.sub_zero]at k;exact V2.ext (by omega) (by omega);refine(kL (-(b.y-a.y)) (b.x-a.x)).imp λn k=>?_;rw[c,X8,abG];omega
  ·have m:Ev λn=>(n:Int)*aj a b z-(b.y-a.y)≠0:=(kL (aj a b z) (-(b.y-a.y)) c).imp λn k=>by omega
   refine(m.and (Ev.ge ((b.x-a.x).natAbs+1))).imp λn ⟨f,o⟩ k=>?_;generalize (n:Int)*aj a b z-(b.y-a.y)=t at f k;rcases Yh f with q|q;have:=XH (show t<= -1 by omega) (show(0:Int)<=n by omega);omega;have:=XH (show 1<=t by omega) (show(0:Int)<=n by omega);omega
 refine(j.and (Ev.ge 1)).imp λn ⟨k,p⟩ h=>?_;rw[i]at h;have:=XC (show(0:Int)<n by omega) (show(0:Int)<n by omega);exact k ((mz h).resolve_left (by omega))
theorem HJ (E:Ed) (z:V2) (c:∀e∈E,e.1≠e.2):∃(m:Int) (b:V2),0<m/\(∀F:Ed,(∀e∈F,e∈E)->W (bw m F) b=W F z)/\∀e∈E,aj (ah m e.1) (ah m e.2) b≠0:=by
 obtain⟨n,g,k⟩:=((Ev.all E (λe _=>PN e.1 e.2 z)).and (Ev.all E (λe a=>Ds z (c e a)))).ex 1;refine⟨n*n,nr (n*n) z ⟨n,1⟩,XC (by omega) (by omega),λF f=>?_,k.2⟩;rw[fY,fY,bw,kY];exact gA (λe a=>(k.1 e (f e a)).1)
def rQ (r:LV) (i:Nat):V2:=gt r (i%r.length)
def gg (r:LV):Prop:=mS r.length (rQ r)
theorem gw (r:LV):bJ r=vr r.length (rQ r):=by
 unfold bJ vr;refine YS (λi a=>?_);have:=X6.1 a;unfold rQ bA;rw[X5 this]
def px (m:Int) (r:LV) (z:V2):Prop:=∀e∈bJ r,0<aj (ah m e.1) (ah m e.2) z
theorem gg.Qw {r:LV} (C:gg r) (a:0<m) (h:px m r z):W (bw m (bJ r)) z=1:=by
 rw[gw,<-Bi];exact(mS.sc C a).Qw (λi hi=>h (rQ r i,rQ r (i+1)) (by rw[gw];exact kr.2 ⟨i,hi,rfl⟩))
theorem gg.Ih {r:LV} (C:gg r) (b:0<m) {e:V2×V2} (a:e∈bJ r) (h:aj (ah m e.1) (ah m e.2) z<0):W (bw m (bJ r)) z=0:=by
 rw[gw]at a;obtain⟨i,hi,rfl⟩:=kr.1 a;rw[gw,<-Bi];exact(mS.sc C b).Ih hi h
theorem gg.nz {r:LV} (C:gg r):∀e∈bJ r,e.1≠e.2:=λe a k=>by
 rw[gw]at a;obtain⟨i,_,rfl⟩:=kr.1 a;refine C.ne i ?_;simp only at k;rw[bZ,<-k];exact V2.ext (by simp[ag]) (by simp[ag])
theorem gg.NP {r:LV} (C:gg r) (b:0<m) (h:∀e∈bJ r,aj (ah m e.1) (ah m e.2) z≠0):(px m r z/\W (bw m (bJ r)) z=1)\/W (bw m (bJ r)) z=0:=by
 by_cases c:px m r z;exact .inl ⟨c,C.Qw b c⟩
 ·right;obtain⟨e,a,k⟩:∃e∈bJ r,¬0<aj (ah m e.1) (ah m e.2) z:=Xz λq=>c (λe a=>Xz λk=>q ⟨e,a,k⟩);exact C.Ih b a (by have:=h e a;omega)
theorem EN (m n:Int) (E:Ed):bw m (bw n E)=bw (m*n) E:=by
 unfold bw;rw[Yp];refine YS (λe _=>?_);refine aaz (V2.ext ?_ ?_) (V2.ext ?_ ?_)<;>simp only[Function.comp,ah]<;>rw[YZ]
theorem gg.Vt {r:LV} (C:gg r) (b:0<m) (z:V2):0<=W (bw m (bJ r)) z:=by
 obtain⟨n,c,f,g,h⟩:=HJ (bw m (bJ r)) z (λe a k=>by obtain⟨x,i,rfl⟩:=aK.1 a;exact C.nz x i (gC b k));rw[<-g _ (λ_ k=>k),EN];rcases C.NP (XC f b) (z:=c) (λe a=>by have:=h (ah m e.1,ah m e.2) (aK.2 ⟨e,a,rfl⟩);have q:∀v:V2,ah n (ah m v)=ah (n*m) v:=λv=>V2.ext (by simp only[ah];rw[YZ]) (by simp only[ah];rw[YZ]);simp only[q]at this;exact this)with k|k;omega;omega
def WL (m:Int) (L:List (LV)) (z:V2):Int:=(L.map λr=>W (bw m (bJ r)) z).sum
theorem iu (m:Int) (r:LV) (L:List (LV)) (z:V2):WL m (r::L) z=W (bw m (bJ r)) z+WL m L z:=by simp[WL]
theorem Vw {L:List (LV)} (h:∀r∈L,gg r) (a:0<m) (z:V2):0<=WL m L z:=by
 induction L with
 |nil=>simp[WL]
 |cons r L b=>have:=(h r (by simp)).Vt a z;have:=b (λx c=>h x (by simp[c]));rw[iu];omega
theorem NR {L:List (LV)} (h:∀r∈L,gg r) (a:0<m) {r:LV} (c:r∈L) (f:px m r z):1<=WL m L z:=by
 induction L with
 |nil=>cases c
 |cons s L g=>rw[iu];have i:=(h s (by simp)).Vt a z;have j:=Vw (L:=L) (λx b=>h x (by simp[b])) a z;rcases XD.1 c with rfl|k;have:=(h r (by simp)).Qw a f;omega;have:=g (λx b=>h x (by simp[b])) k;omega
theorem NS {L:List (LV)} (h:WL m L z≠0):∃r∈L,W (bw m (bJ r)) z≠0:=by
 induction L with
 |nil=>exact absurd rfl h
 |cons s L a=>rw[iu]at h;by_cases c:W (bw m (bJ s)) z=0;obtain⟨r,b,k⟩:=a (by omega);exact⟨r,by simp[b],k⟩;exact⟨s,by simp,c⟩
theorem DO {X Y:Ed} (A:lX X 0) (B:lX Y 0) {L M:List (LV)} (j:∀r∈L,gg r) (l:∀r∈M,gg r)
  (sL:∀(m:Int) (z:V2),0<m->W (bw m X) z=WL m L z) (t:∀(m:Int) (z:V2),0<m->W (bw m Y) z=WL m M z):
  Comm X 0 Y 0↔∃r∈L,∃s∈M,∃(m:Int) (z:V2),0<m/\px m r z/\px m s z:=by
 constructor
 ·rintro⟨m,z,b,u,w⟩;obtain⟨n,i,y,D,E⟩:=HJ (bw m ((L++M).flatMap bJ)) z (λe c k=>by obtain⟨x,f,rfl⟩:=aK.1 c;obtain⟨r,a,f⟩:=aaK.1 f;have C:gg r:=(by rcases XP.1 a with q|q;exact j r q;exact l r q);exact C.nz x f (gC b k));have F:∀r∈L++M,W (bw (n*m) (bJ r)) i=W (bw m (bJ r)) z:=λr a=>by rw[<-EN];refine D _ (λe c=>?_);obtain⟨x,f,rfl⟩:=aK.1 c;exact aK.2 ⟨x,aaK.2 ⟨r,a,f⟩,rfl⟩
  have G:∀r∈L++M,∀e∈bJ r,aj (ah (n*m) e.1) (ah (n*m) e.2) i≠0:=λr a e c=>by have:=E (ah m e.1,ah m e.2) (aK.2 ⟨e,aaK.2 ⟨r,a,c⟩,rfl⟩);have q:∀v:V2,ah n (ah m v)=ah (n*m) v:=λv=>V2.ext (by simp only[ah];rw[YZ]) (by simp only[ah];rw[YZ]);simp only[q]at this;exact this
  have one:∀{N:List (LV)},(∀r∈N,r∈L++M/\gg r)->WL m N z≠0->∃r∈N,px (n*m) r i:=λ{N} o h=>by obtain⟨r,a,k⟩:=NS h;refine⟨r,a,?_⟩;rcases(o r a).2.NP (XC y b) (G r (o r a).1)with q|q;exact q.1;rw[F r (o r a).1]at q;exact absurd q k
  obtain⟨r,a,H⟩:=one (N:=L) (λr a=>⟨by simp[a],j r a⟩) (by rw[<-sL m z b];omega);obtain⟨s,p,I⟩:=one (N:=M) (λr a=>⟨by simp[a],l r a⟩) (by rw[<-t m z b];omega);exact⟨r,a,s,p,n*m,i,XC y b,H,I⟩
 ·rintro⟨r,a,s,p,m,z,b,u,w⟩;refine⟨m,z,b,?_,?_⟩;have g:=NR j b a u;rw[<-sL m z b]at g;have:=A m z b;omega;have g:=NR l b p w;rw[<-t m z b]at g;have:=B m z b;omega
def cV (d x:V2):Prop:=∃a b:Int,0<a/\0<b/\a*x.x=b*d.x/\a*x.y=b*d.y
theorem cV.refl (d:V2):cV d d:=⟨1,1,by decide,by decide,rfl,rfl⟩
theorem cV.trans {d e f:V2} (h:cV d e) (k:cV e f):cV d f:=by
 obtain⟨a,b,i,j,l,m⟩:=h;obtain⟨c,g,o,p,q,r⟩:=k;refine⟨a*c,g*b,XC i o,XC p j,?_,?_⟩;rw[YZ,q,Int.mul_left_comm,l,YZ];rw[YZ,r,Int.mul_left_comm,m,YZ]
variable {x:V2}
theorem cV.add {d:V2} (h:cV d x):cV d (an d x):=by
 obtain⟨a,b,c,i,f,g⟩:=h;refine⟨a,a+b,c,by omega,?_,?_⟩;simp only[an];rw[aaN,f,abx];simp only[an];rw[aaN,g,abx]
theorem cV.cr {d:V2} (h:cV d x) (v:V2):(0<aa x v↔0<aa d v)/\(0<aa v x↔0<aa v d):=by
 obtain⟨a,b,l,m,o,p⟩:=h;have g:a*aa x v=b*aa d v:=by simp only[aa];grind
 have i:a*aa v x=b*aa v d:=by simp only[aa];grind
 have c:=(bf (x:=aa x v) (show 1<=a by omega)).1;have j:=(bf (x:=aa d v) (show 1<=b by omega)).1;have f:=(bf (x:=aa v x) (show 1<=a by omega)).1;have k:=(bf (x:=aa v d) (show 1<=b by omega)).1;rw[g]at c;rw[i]at f;exact⟨c.symm.trans j,f.symm.trans k⟩
theorem cV.up {d:V2} (h:cV d x):cw x=cw d:=by
 obtain⟨a,b,c,f,g,i⟩:=h;refine Ym.2 ?_;rw[<-up_mul c,g,i,up_mul f]
theorem cV.of {d:V2} (b:d≠⟨0,0⟩) (a:aa d x=0) (h2:0<av d x):cV d x:=by
 refine⟨av d d,av d x,bL b,h2,?_,?_⟩;simp only[aa,av]at a|-;grind;simp only[aa,av]at a|-;grind
theorem cV.on {d:V2} (h:cV d x) (u:V2):aU u (an (an u d) x) (an u d):=by
 obtain⟨a,b,j,k,c,f⟩:=h;have g:=bf (x:=x.x) (show 1<=a by omega);have l:=bf (x:=d.x) (show 1<=b by omega);have i:=bf (x:=x.y) (show 1<=a by omega);have m:=bf (x:=d.y) (show 1<=b by omega);rw[c]at g;rw[f]at i;have t:aj u (an (an u d) x) (an u d)=0:=by have e:a*aj u (an (an u d) x) (an u d)=0:=(by simp only[aj,aa,ag,an];grind);exact(mz e).resolve_left (by omega)
 refine⟨t,?_,?_,?_,?_⟩<;>(simp only[an];omega)
def BL (d a:V2):Prop:=0<aa d a\/(aa d a=0/\cV d a)
def Ws:V2->LV->Prop
 |_,[]=>True
 |d,a::b=>BL d a/\Ws a b
def yo:V2->LV->V2
 |u,[]=>u
 |u,d::a=>yo (an u d) a
def kp:V2->V2->LV->LV
 |_,_,[]=>[]
 |p,u,d::a=>if aa p d≠0 then u::kp d (an u d) a else kp d (an u d) a
def uM:V2->LV->Ed
 |_,[]=>[]
 |u,x::r=>(u,x)::uM x r
def JW:V2->LV->Ed
 |_,[]=>[]
 |u,d::a=>(u,an u d)::JW (an u d) a
def gh:V2->LV->LV
 |_,[]=>[]
 |u,x::r=>ag x u::gh x r
theorem qM (u d:V2):ag (an u d) u=d:=V2.ext (by simp only[ag,an];omega) (by simp only[ag,an];omega)
theorem Kw (u d x:V2):ag x u=an d (ag x (an u d)):=V2.ext (by simp only[ag,an];omega) (by simp only[ag,an];omega)
theorem Tr (u d x:V2):an (an u d) (ag x (an u d))=x:=V2.ext (by simp only[ag,an];omega) (by simp only[ag,an];omega)
theorem Ew (u x z:V2):aj u x z=aa (ag x u) (ag z u):=rfl
theorem ic:∀(f:LV) (u d:V2),Ws d f->∃K R,kp d (an u d) f++[yo (an u d) f]=K::R/\cV d (ag K u)/\
  (∀(m:Int) (z:V2),0<m->W (bw m (uM u (K::R))) z=W (bw m (JW u (d::f))) z)/\Wf (ag K u) (gh K R)/\Em cw (ag K u) (gh K R)=Em cw d f/\
  cV ((d::f).getLast (by simp)) ((ag K u::gh K R).getLast (by simp))/\
  (∀(m:Int) (z:V2),0<m->((∀e∈uM u (K::R),0<aj (ah m e.1) (ah m e.2) z)↔∀e∈JW u (d::f),0<aj (ah m e.1) (ah m e.2) z))
 |[],u,d,_=>by refine⟨an u d,[],rfl,?_,λm z _=>rfl,trivial,rfl,?_,λm z _=>ZB⟩;rw[qM];exact cV.refl d;show cV d (ag (an u d) u);rw[qM];exact cV.refl d
 |g::f,u,d,h=>by
  obtain⟨K,R,w,j,y,o,A,p,B⟩:=ic f (an u d) g h.2;have C:yo (an u d) (g::f)=yo (an (an u d) g) f:=rfl;have D:((d::g::f).getLast (by simp))=((g::f).getLast (by simp)):=Y1 (by simp);rcases h.1 with c|⟨c,k⟩
  ·refine⟨an u d,K::R,?_,?_,λm z i=>?_,?_,?_,?_,λm z i=>?_⟩;rw[C,<-w];simp only[kp];rw[iP];rfl;rw[qM];exact cV.refl d;show W ((ah m u,ah m (an u d))::bw m (uM (an u d) (K::R))) z=W ((ah m u,ah m (an u d))::bw m (JW (an u d) (g::f))) z;rw[xS,xS,y m z i];rw[qM];exact⟨(j.cr d).2.2 c,o⟩;rw[qM];show lW cw d (ag K (an u d))+Em cw (ag K (an u d)) (gh K R)=lW cw d g+Em cw g f;rw[A];unfold lW;rw[j.up];rw[D];have:((ag (an u d) u::gh (an u d) (K::R)).getLast (by simp))=((ag K (an u d)::gh K R).getLast (by simp)):=Y1 (by simp[gh]);rw[this];exact p
   ·have:=B m z i;show(∀e∈(u,an u d)::uM (an u d) (K::R),_)↔∀e∈(u,an u d)::JW (an u d) (g::f),_;rw[aau,aau,this]
  ·have q:cV d (ag K u):=(by rw[Kw u d K];exact(k.trans j).add);have Xg:aU u K (an u d):=by
    have:=(k.trans j).on u
    rwa [Tr]at this
   have r:cV (ag K (an u d)) (ag K u):=(by obtain⟨a,b,E,F,G,H⟩:=k.trans j;obtain⟨I,t,J,M,N,O⟩:=q;refine⟨I*b,t*a,XC J F,XC M E,?_,?_⟩;rw[aaZ,N,YZ t a,G,aaZ,YZ];rw[aaZ,O,YZ t a,H,aaZ,YZ]);refine⟨K,R,?_,q,λm z i=>?_,?_,?_,?_,λm z i=>?_⟩;rw[C,<-w];simp only[kp];rw[iN];have:=y m z i;show W ((ah m u,ah m K)::bw m (uM K R)) z=W ((ah m u,ah m (an u d))::bw m (JW (an u d) (g::f))) z;rw[xS,xS,<-this];show _=_+W ((ah m (an u d),ah m K)::bw m (uM K R)) z;rw[xS];have:=DJ (iB i Xg) z;simp only;omega
   ·cases R with
    |nil=>exact trivial
    |cons x R=>exact⟨(r.cr _).1.2 o.1,o.2⟩
   ·have:Em cw (ag K u) (gh K R)=Em cw (ag K (an u d)) (gh K R):=by
     cases R with
     |nil=>rfl
     |cons x R=>simp only[gh,Em];unfold lW;rw[r.up]
    rw[this,A];show _=lW cw d g+Em cw g f;have:lW cw d g=0:=(by unfold lW;rw[k.up];cases cw d<;>simp);omega
   ·rw[D];cases R with
    |nil=>exact p.trans r
    |cons x R=>have P:((ag K u::gh K (x::R)).getLast (by simp))=((gh K (x::R)).getLast (by simp[gh])):=Y1 (by simp[gh]);have Q:((ag K (an u d)::gh K (x::R)).getLast (by simp))=((gh K (x::R)).getLast (by simp[gh])):=Y1 (by simp[gh]);rw[P,<-Q];exact p
   ·have:=B m z i;show(∀e∈(u,K)::uM K R,_)↔∀e∈(u,an u d)::JW (an u d) (g::f),_;rw[aau,aau,<-this];show _↔_/\∀e∈(an u d,K)::uM K R,_;rw[aau];have S:0<aj (ah m u) (ah m K) z↔0<aa d (ag z (ah m u)):=(by rw[Ew];have:ag (ah m K) (ah m u)=ah m (ag K u):=V2.ext (by simp only[ag,ah];rw[Zp]) (by simp only[ag,ah];rw[Zp]);rw[this];have l:cV d (ah m (ag K u)):=q.trans ⟨1,m,by decide,i,by simp[ah],by simp[ah]⟩;exact(l.cr _).1);have T:0<aj (ah m u) (ah m (an u d)) z↔0<aa d (ag z (ah m u)):=(by rw[Ew];have:ag (ah m (an u d)) (ah m u)=ah m d:=V2.ext (by simp only[ag,ah,an];grind) (by simp only[ag,ah,an];grind);rw[this];have l:cV d (ah m d):=⟨1,m,by decide,i,by simp[ah],by simp[ah]⟩;exact(l.cr _).1);have U:0<aj (ah m (an u d)) (ah m K) z↔0<aa d (ag z (ah m u)):=(by rw[Ew];have:ag (ah m K) (ah m (an u d))=ah m (ag K (an u d)):=V2.ext (by simp only[ag,ah];rw[Zp]) (by simp only[ag,ah];rw[Zp]);rw[this];have l:cV d (ah m (ag K (an u d))):=(k.trans j).trans ⟨1,m,by decide,i,by simp[ah],by simp[ah]⟩;rw[(l.cr _).1];have:aa d (ag z (ah m (an u d)))=aa d (ag z (ah m u)):=(by simp only[aa,ag,ah,an];grind);rw[this]);simp only[S,T,U];exact⟨λh=>⟨h.1,h.1,h.2⟩,λh=>⟨h.1,h.2.2⟩⟩
theorem UN {f:Nat->V2}:∀(T:LV) (u:V2),(∀i,i<=T.length->f (i+1)=gt (u::T) i)->Wf (bZ f 0) (gh u T)->∀i,i<T.length->0<aa (bZ f i) (bZ f (i+1)):=by
 intro T;induction T generalizing f with
 |nil=>intro u _ _ i h;simp at h
 |cons a T j=>
  intro u b h i c;have k:f 1=u:=b 0 (by simp);have l:f 2=a:=b 1 (by simp);have g:bZ f 1=ag a u:=(by show ag (f 2) (f 1)=_;rw[k,l]);cases i with
  |zero=>have:=h.1;rw[<-g]at this;exact this
  |succ i=>have:=j (f:=λi=>f (i+1)) a (λi c=>by have:=b (i+1) (by simp only[XV];omega);exact this) (by have:=h.2;rw[<-g]at this;exact this) i (by simp only[XV]at c;omega);exact this
theorem UO {f:Nat->V2} (p:V2->Bool):∀(T:LV) (u:V2),(∀i,i<=T.length->f (i+1)=gt (u::T) i)->Em p (bZ f 0) (gh u T)=bz T.length λi=>lW p (bZ f i) (bZ f (i+1)):=by
 intro T;induction T generalizing f with
 |nil=>intro u _;rfl
 |cons a T c=>intro u b;have g:f 1=u:=b 0 (by simp);have h:f 2=a:=b 1 (by simp);have j:bZ f 1=ag a u:=(by show ag (f 2) (f 1)=_;rw[g,h]);have:=c (f:=λi=>f (i+1)) a (λi l=>b (i+1) (by simp only[XV];omega));show lW p (bZ f 0) (ag a u)+Em p (ag a u) (gh a T)=_;rw[<-j];have k:Em p (bZ f 1) (gh a T)=bz T.length λi=>lW p (bZ f (i+1)) (bZ f (i+1+1)):=this;rw[k,XV,Zu,gQ];simp only[bz,Ya];rw[Zk];congr 1;refine ck (λi _=>?_);rw[Zu 1 i]
theorem SH {f:Nat->V2}:∀(T:LV) (u:V2),(∀i,i<=T.length->f (i+1)=gt (u::T) i)->(bZ f 0::gh u T).getLast (by simp)=bZ f T.length:=by
 intro T;induction T generalizing f with
 |nil=>intro u _;rfl
 |cons a T c=>intro u b;have g:f 1=u:=b 0 (by simp);have h:f 2=a:=b 1 (by simp);have j:bZ f 1=ag a u:=(by show ag (f 2) (f 1)=_;rw[g,h]);have:=c (f:=λi=>f (i+1)) a (λi l=>b (i+1) (by simp only[XV];omega));have k:(bZ f 0::gh u (a::T)).getLast (by simp)=(bZ f 1::gh a T).getLast (by simp):=(by rw[j];exact Y1 (by simp[gh]));rw[k];exact this
theorem Tf {f:Nat->V2}:∀(T:LV) (u:V2),(∀i,i<=T.length->f i=gt (u::T) i)->uM u T=vr T.length f:=by
 intro T;induction T generalizing f with
 |nil=>intro u _;rfl
 |cons a T c=>intro u b;have g:f 0=u:=b 0 (by simp);have h:f 1=a:=b 1 (by simp);have:=c (f:=λi=>f (i+1)) a (λi j=>b (i+1) (by simp only[XV];omega));show(u,a)::uM a T=_;rw[this];unfold vr;rw[XV,ZS,Yz,Yp,<-g,<-h];rfl
variable {K u:V2} {R T:LV}
theorem UC (h:T++[u]=K::R):R.length=T.length/\(∀i,i<=(K::R).length->rQ (u::T) i=gt (u::(K::R)) i)/\∀i,i<=R.length->rQ (u::T) (i+1)=gt (K::R) i:=by
 have f:R.length=T.length:=by have:=XT List.length h;simp only[XQ,XV,Z2]at this;omega
 have a:∀i,i<=(K::R).length->rQ (u::T) i=gt (u::(K::R)) i:=λi b=>by rw[<-h];simp only[XV]at b;unfold rQ;simp only[XV];by_cases c:i=T.length+1;subst c;rw[Zt];have:u::(T++[u])=(u::T)++[u]:=rfl;rw[this];simp[gt,Yu];rw[mOf];have:u::(T++[u])=(u::T)++[u]:=rfl;rw[this];unfold gt;rw[Yu,Yu,Zq (by simp only[XV];omega)]
 exact⟨f,a,λi b=>by rw[a (i+1) (by simp only[XV];omega)];rfl⟩
theorem Ta (h:T++[u]=K::R) (g:Wf (ag K u) (gh K R)) (h2:0<aa ((ag K u::gh K R).getLast (by simp)) (ag K u))
  (a:Em cw (ag K u) (gh K R)+lW cw ((ag K u::gh K R).getLast (by simp)) (ag K u)=1):gg (u::T):=by
 obtain⟨x,j,b⟩:=UC h;have y:rQ (u::T) 0=u:=j 0 (by simp);have z:rQ (u::T) 1=K:=j 1 (by simp);have l:ag K u=bZ (rQ (u::T)) 0:=by show _=ag (rQ (u::T) 1) (rQ (u::T) 0);rw[y,z]
 have A:(ag K u::gh K R).getLast (by simp)=bZ (rQ (u::T)) R.length:=by have:=SH R K b;simp only[<-l]at this;exact this
 rw[A]at h2 a;rw[l]at g h2 a;have B:=UN R K b g;rw[UO cw R K b]at a;have m:∀i,rQ (u::T) (i+(u::T).length)=rQ (u::T) i:=λi=>by unfold rQ;rw[YI]
 have f:∀i k,bZ (rQ (u::T)) (i+(u::T).length*k)=bZ (rQ (u::T)) i:=λi k=>by show ag (rQ _ (i+(u::T).length*k+1)) (rQ _ (i+(u::T).length*k))=_;rw[show i+(u::T).length*k+1=(i+1)+(u::T).length*k by omega];unfold rQ;rw[ab0,ab0]
 have o:bZ (rQ (u::T)) (R.length+1)=bZ (rQ (u::T)) 0:=by have:=f 0 1;simp only[XV]at this;rw[<-this];congr 1;omega
 have left:∀i,0<aa (bZ (rQ (u::T)) i) (bZ (rQ (u::T)) (i+1)):=λi=>by have C:=ZC i (show 0<(u::T).length by simp);have r:=f (i%(u::T).length) (i/(u::T).length);have t:=f (i%(u::T).length+1) (i/(u::T).length);rw[show i%(u::T).length+1+(u::T).length*(i/(u::T).length)=i+1 by have:=Nat.mod_add_div i (u::T).length;omega]at t;rw[Nat.mod_add_div]at r;rw[r,t];simp only[XV]at C|-;by_cases c:i%(T.length+1)<R.length;exact B _ c;rw[show i%(T.length+1)=R.length by omega,o];exact h2
 refine⟨?_,m,left,?_⟩;refine Xz λk=>?_;have w:=left 0;simp only[XV]at k;have p:=m 0;simp only[XV,Ya]at p;rcases(show T.length=0\/T.length=1 by omega)with q|q;rw[q]at p;have:bZ (rQ (u::T)) 0=⟨0,0⟩:=(by show ag (rQ (u::T) (0+1)) (rQ (u::T) 0)=_;rw[p];exact V2.ext (by simp[ag]) (by simp[ag]));rw[this,gz]at w;omega;rw[q]at p;have:aa (bZ (rQ (u::T)) 0) (bZ (rQ (u::T)) 1)=0:=(by show aa (ag (rQ (u::T) 1) (rQ (u::T) 0)) (ag (rQ (u::T) (1+1)) (rQ (u::T) 1))=0;rw[p];simp only[aa,ag];grind);rw[this]at w;omega;rw[XV,<-x];simp only[bz];rw[o];exact a
theorem OI {d:V2} {a:LV} (j:Ws d a) (k:yo (an u d) a=u) (hw:0<aa ((d::a).getLast (by simp)) d) (l:Em cw d a+lW cw ((d::a).getLast (by simp)) d=1):
  gg (u::kp d (an u d) a)/\(∀(m:Int) (z:V2),0<m->W (bw m (bJ (u::kp d (an u d) a))) z=W (bw m (JW u (d::a))) z)/\
  ∀(m:Int) (z:V2),0<m->(px m (u::kp d (an u d) a) z↔∀e∈JW u (d::a),0<aj (ah m e.1) (ah m e.2) z):=by
 obtain⟨K,R,b,g,o,p,q,h,r⟩:=ic a u d j;rw[k]at b;obtain⟨t,w,_⟩:=UC b;have i:bJ (u::kp d (an u d) a)=uM u (K::R):=by rw[gw,Tf (f:=rQ (u::kp d (an u d) a)) (K::R) u w];simp only[XV];rw[t]
 refine⟨Ta b p ?_ ?_,λm z c=>by rw[i,o m z c],λm z c=>by unfold px;rw[i];exact r m z c⟩;rw[(h.cr _).1];exact(g.cr _).2.2 hw;rw[q,<-l];unfold lW;rw[h.up,g.up]
theorem A3 {a b:V2}:Ji a b=true↔rh a b:=by
 unfold Ji rh;simp only[Zl,XJ,Yx,abA,X0,tB,tC];have:cw a=cw b↔(gf a↔gf b):=Ym;rw[this]
variable {x y z:V2}
theorem UX (b:x≠⟨0,0⟩) (f:y≠⟨0,0⟩) (nz:z≠⟨0,0⟩) (e1:cw x=cw y) (e2:cw y=cw z) (g:0<aa x y) (h2:0<aa y z):0<aa x z:=by
 refine Xz λk=>?_;have ex:=Ni x z y;have j:=Nh x z y;by_cases c:aa x z=0;rw[c,Yd]at ex j;have h:aa x y*(gN z).x=aa y z*x.x+0*x.x/\aa x y*(gN z).y=aa y z*x.y+0*x.y:=(by simp only[gN,Yv,Yd,aad];omega);have:=N5 (wQ nz) b b g (XN h2) (Yf 0) (.inl (by omega)) h.1 h.2 rfl;have n:=hP nz;rw[e1,e2]at this;exact(abD (a:=gf z)) ((Ym.1 this).symm.trans n);have i:(-aa x z)*(gN y).x=aa x y*z.x+aa y z*x.x/\(-aa x z)*(gN y).y=aa x y*z.y+aa y z*x.y:=(by simp only[gN,aaB];omega);have:=N5 (wQ f) nz b (by omega) (XN g) (XN h2) (.inl (by omega)) i.1 i.2 (by rw[e1,e2]);have n:=hP f;rw[<-e2]at this;exact(abD (a:=gf y)) ((Ym.1 this).symm.trans n)
theorem Jh (b:x≠⟨0,0⟩) (c:y≠⟨0,0⟩) (nz:z≠⟨0,0⟩) (f:Ji x y=true) (h2:Ji y z=true):Ji x z=true:=by
 have q:=UX b c nz;unfold Ji at*;cases g:cw x<;>cases a:cw y<;>cases h:cw z<;>rw[g,a]at f<;>rw[a,h]at h2<;>simp_all
def sE (f:V2->Int):LV->Int
 |[]=>0
 |x::l=>f x+sE f l
theorem KY (f:V2->Int) (l r:LV):sE f (l++r)=sE f l+sE f r:=by
 induction l with
 |nil=>simp[sE]
 |cons x l a=>simp only[YM,sE];rw[a];omega
def sV (l:LV):V2:=⟨sE (·.x) l,sE (·.y) l⟩
theorem Bf:∀(a:LV) (u:V2),yo u a=an u (sV a)
 |[],u=>V2.ext (by simp[yo,an,sV,sE]) (by simp[yo,an,sV,sE])
 |d::a,u=>by show yo (an u d) a=_;rw[Bf a];exact V2.ext (by simp only[an,sV,sE];omega) (by simp only[an,sV,sE];omega)
def Xv (a:LV):LV:=(List.range a.length).map (bZ (rQ a))
structure Bg (a:LV):Prop where
 cv:gg a
 dn:cw (bZ (rQ a) (a.length-1))=false
 up:cw (bZ (rQ a) 0)=true
section
variable {a:LV}
theorem gg.ahead (C:gg a) {m:Int} (G:0<m) {b:V2} (u:b≠⟨0,0⟩) (h:px m a z) {i:Nat} (x:oy b (bZ (rQ a) (i+a.length-1))=false) (h2:oy b (bZ (rQ a) (i+a.length))=true):0<aa b (ag z (ah m (rQ a i))):=by
 have H:=C.n3;have q:∀k,0<aj (ah m (rQ a k)) (ah m (rQ a (k+1))) z:=λk=>by have y:=ZC k (show 0<a.length by omega);have:=h (rQ a (k%a.length),rQ a (k%a.length+1)) (by rw[gw];exact kr.2 ⟨_,y,rfl⟩);have g:rQ a (k%a.length)=rQ a k:=(by unfold rQ;rw[Nat.mod_mod]);have j:rQ a (k%a.length+1)=rQ a (k+1):=(by unfold rQ;rw[ZU]);simp only[g,j]at this;exact this
 have o:=q (i+a.length-1);have p:=q (i+a.length);have l:=C.left (i+a.length-1);rw[show i+a.length-1+1=i+a.length by omega]at o l;rw[C.iD]at p;have g:aj (ah m (rQ a (i+a.length-1))) (ah m (rQ a (i+a.length))) z=m*aa (bZ (rQ a) (i+a.length-1)) (ag z (ah m (rQ a i))):=by have:rQ a (i+a.length)=rQ a i:=C.iD i;have e:bZ (rQ a) (i+a.length-1)=ag (rQ a i) (rQ a (i+a.length-1)):=(by show ag (rQ a (i+a.length-1+1)) _=_;rw[show i+a.length-1+1=i+a.length by omega,this]);rw[e,this];simp only[aj,aa,ag,ah];grind
 have j:aj (ah m (rQ a i)) (ah m (rQ a (i+a.length+1))) z=m*aa (bZ (rQ a) (i+a.length)) (ag z (ah m (rQ a i))):=by have:rQ a (i+a.length)=rQ a i:=C.iD i;have e:bZ (rQ a) (i+a.length)=ag (rQ a (i+a.length+1)) (rQ a i):=(by show ag _ (rQ a (i+a.length))=_;rw[this]);rw[e];simp only[aj,aa,ag,ah];grind
 rw[g]at o;rw[j]at p;have r:=(bf (show 1<=m by omega)).1.1 o;have t:=(bf (show 1<=m by omega)).1.1 p;generalize bZ (rQ a) (i+a.length-1)=c at*;generalize bZ (rQ a) (i+a.length)=f at*;generalize ag z (ah m (rQ a i))=w at*;have I:=QJ x;have A:=QH h2;have B:0<=aa c b:=by have:=eR b c;omega
 have id:aa c f*aa b w=aa c b*aa f w+aa b f*aa c w:=by simp only[aa];grind
 have J:=XF B (XN t);have K:=XF A (XN r);have:aa c b≠0\/aa b f≠0:=by refine Xz λk=>u ?_;have D:aa c b=0:=(by omega);have E:aa b f=0:=(by omega);have ex:=Ni c f b;have F:=Nh c f b;rw[D,E,Yd,Yd]at ex F;exact V2.ext ((mz (show aa c f*b.x=0 by omega)).resolve_left (by omega)) ((mz (show aa c f*b.y=0 by omega)).resolve_left (by omega))
 have pos:0<aa c f*aa b w:=by rw[id];rcases this with k|k;have:=XC (show 0<aa c b by omega) t;omega;have:=XC (show 0<aa b f by omega) r;omega
 exact(bf).1.1 pos
end
structure Mk (a b al:LV):Prop where
 ba:Bg a
 bb:Bg b
 perm:al.Perm (Xv a++Xv b)
 tH:al.Pairwise λx y=>Ji y x=false
theorem yT {x y:V2} (a:x≠⟨0,0⟩) (b:y≠⟨0,0⟩) (h:cw x=cw y) (c:aa x y=0):cV x y:=cV.of a c ((Lv a b c).2 h.symm)
section
variable {R X x y:V2}
end
section
variable {a b al:LV}
end
section
variable {a b al:LV}
theorem u2 (C:gg a) (i k:Nat):0<=aa (bZ (rQ a) i) (ag (rQ a k) (rQ a i)):=by
 have g:=C.n3;have b:=ZC i (show 0<a.length by omega);have c:=ZC k (show 0<a.length by omega);have:=C.BU b (ZQ c);have e:∀i,rQ a (i%a.length)=rQ a i:=λi=>by unfold rQ;rw[Nat.mod_mod]
 have f:rQ a (i%a.length+1)=rQ a (i+1):=by unfold rQ;rw[ZU]
 rw[e,e,f]at this;exact this
def JZ (a:LV):V2:=an (an (rQ a 0) (rQ a 1)) (rQ a 2)
theorem Tg (C:gg a) {t:Nat} (b:t<a.length):0<aa (bZ (rQ a) t) (ag (JZ a) (ah 3 (rQ a t))):=by
 have c:=C.n3;have f:=u2 C t 0;have g:=u2 C t 1;have h:=u2 C t 2;have e:aa (bZ (rQ a) t) (ag (JZ a) (ah 3 (rQ a t)))=aa (bZ (rQ a) t) (ag (rQ a 0) (rQ a t))+aa (bZ (rQ a) t) (ag (rQ a 1) (rQ a t))+aa (bZ (rQ a) t) (ag (rQ a 2) (rQ a t)):=by simp only[JZ,aa,ag,an,ah];grind
 rw[e];rcases(show t=0\/t=1\/2<=t by omega)with k|k|k;subst k;have s:0<aa (bZ (rQ a) 0) (ag (rQ a 2) (rQ a 0)):=C.strict 0 2 (by omega) (by omega);omega;subst k;have s:=C.strict 1 (a.length-1) (by omega) (by omega);rw[show 1+(a.length-1)=0+a.length by omega,C.iD]at s;have s:0<aa (bZ (rQ a) 1) (ag (rQ a 0) (rQ a 1)):=s;omega;have s:=C.strict t (a.length+1-t) (by omega) (by omega);rw[show t+(a.length+1-t)=1+a.length by omega,C.iD]at s;have s:0<aa (bZ (rQ a) t) (ag (rQ a 1) (rQ a t)):=s;omega
end
def JG (l:List Nat) (x:Nat):Nat:=l.getD ((l.idxOf x+1)%l.length) 0
theorem Ln {b:Nat}:∀{l:List Nat} {i:Nat},l.Nodup->(h:i+1<l.length)->pv b l l[i+1]=l[i]
 |[],i,_,h=>by simp at h
 |[y],i,_,h=>by simp at h
 |y::z::r,0,a,h=>by have:y≠z:=λe=>(YA.1 a).1 (by rw[e];simp);simp[pv,this]
 |y::z::r,i+1,a,h=>by obtain⟨c,f⟩:=YA.1 a;have g:i+1<(z::r).length:=(by simp only[XV]at h|-;omega);have:=Ln (b:=y) (i:=i) f g;have j:y≠(z::r)[i+1]:=λe=>c (by rw[e];exact Zy _);show(if y=(z::r)[i+1]then b else pv y (z::r) (z::r)[i+1])=(z::r)[i];rw[XG j,this]
theorem zg {b:Nat}:∀{l:List Nat} (h:l≠[]),dV b l=l[l.length-1]'(by have:=ZH.2 h;omega)
 |[],h=>absurd rfl h
 |[y],_=>rfl
 |y::z::r,_=>by have:=zg (b:=y) (l:=z::r) (by simp);show dV y (z::r)=_;rw[this];simp
theorem oq {l:List Nat} (a:l.Nodup) {i:Nat} (h:i<l.length):bM l l[i]=if i=0 then l[l.length-1]'(by omega)else l[i-1]'(by omega):=by
 cases i with
 |zero=>
  cases l with
  |nil=>simp at h
  |cons y r=>rw[XL rfl];have:bM (y::r) (y::r)[0]=dV 0 (y::r):=(by simp[bM,pv]);rw[this,zg (by simp)]
 |succ i=>rw[iN];exact Ln a h
variable {q:Nat}
theorem Te {l:List Nat} (f:l.Nodup) (g:q∈l):JG l q∈l/\bM l (JG l q)=q:=by
 have h:=aae.2 g;have a:l[l.idxOf q]=q:=List.getElem_idxOf h;have b:=ZC (l.idxOf q+1) (show 0<l.length by omega);have e:JG l q=l[(l.idxOf q+1)%l.length]:=by unfold JG;rw[Yu,XY b];rfl
 rw[e];refine⟨Zy _,?_⟩;rw[oq f b];by_cases c:l.idxOf q+1=l.length;have z:(l.idxOf q+1)%l.length=0:=(by rw[c,Zt]);rw[XL z];refine Eq.trans ?_ a;congr 1;omega;have z:(l.idxOf q+1)%l.length=l.idxOf q+1:=mOf;rw[iN];simp only[z,aaW];exact a
variable {x y:Nat}
theorem FN {l:List Nat} (g:l.Nodup) {a:Nat} (h:a∈l) (o:q∈l) (p:x∈l) (r:y∈l) (u:x≠y) (w:x≠q) (z:y≠q) (b:bM l a=q) (h2:bM l q=a):False:=by
 obtain⟨i,A,rfl⟩:=ZI h;obtain⟨j,B,rfl⟩:=ZI o;obtain⟨k,F,rfl⟩:=ZI p;obtain⟨m,G,rfl⟩:=ZI r;have f:∀{s t:Nat} (hs:s<l.length) (C:t<l.length),l[s]=l[t]->s=t:=λhs C e=>(aba g).1 e;have H:k≠m:=λe=>u (by simp only[e]);have I:k≠j:=λe=>w (by simp only[e]);have J:m≠j:=λe=>z (by simp only[e]);rw[oq g A]at b;rw[oq g B]at h2;have D:(if i=0 then l.length-1 else i-1)=j:=by by_cases c:i=0;rw[XL c]at b|-;exact f _ _ b;rw[XG c]at b|-;exact f _ _ b
 have E:(if j=0 then l.length-1 else j-1)=i:=by by_cases c:j=0;rw[XL c]at h2|-;exact f _ _ h2;rw[XG c]at h2|-;exact f _ _ h2
 split at D<;>split at E<;>omega
def nM (P:Nat->V2) (nb:Nat->List Nat) (p q:Nat):Bool:=decide (0<=aj (P p) (P (bM (nb p) q)) (P (JG (nb p) q)))
def cY (P:Nat->V2):(Nat->List Nat)->List Dt->(Nat->List Nat)×List Dt
 |nb,[]=>(nb,[])
 |nb,d::L=>if nM P nb d.1 d.2&&nM P nb d.2 d.1 then cY P (dP nb d.1 d.2) L else((cY P nb L).1,d::(cY P nb L).2)
section
variable {P:Nat->V2}
theorem Ha {nb:Nat->List Nat} (G:Gr P nb) {p:Nat} (b:q∈nb p) (f:x∈nb p) (g:y∈nb p) (i:x≠y) (j:x≠q) (l:y≠q) (h:nM P nb p q=true):Ef P nb p q:=λa c e=>by
 obtain⟨m,o⟩:=Te (G.nd p) b;have:a=JG (nb p) q:=DK (G.nd p) c m (e.trans o.symm);refine⟨?_,λk=>FN (G.nd p) c b f g i j l e k⟩;rw[this];exact XA h
theorem Ms (EI O L:List Dt) (d:Dt):(nX EI (O++d::L)).Perm (d::iM d::nX EI (O++L)):=by
 unfold nX;have b:(O++d::L).Perm (d::(O++L)):=aaJ;have c:=b.map iM;rw[Yz]at c;refine((b.append c).append_left EI).trans ?_;rw[YM];refine List.perm_middle.trans (.cons _ ?_);refine((aaJ (l₁:=O++L) (a:=iM d)).append_left EI).trans ?_;exact aaJ
structure Sds (EI DI:List Dt) (nb:Nat->List Nat):Prop where
 mem:∀p y,y∈nb p↔(p,y)∈EI++DI\/(y,p)∈EI++DI
 two:∀d∈DI,∀p q,(d=(p,q)\/d=(q,p))->∃x y,x≠y/\x≠q/\y≠q/\((p,x)∈EI\/(x,p)∈EI)/\((p,y)∈EI\/(y,p)∈EI)
theorem v7 {EI:List Dt}:∀(L O:List Dt) (nb:Nat->List Nat) (b:List (List Dt)),Gr P nb->Fc P nb b->b.flatten.Perm (nX EI (O++L))->Sds EI (O++L) nb->
  ∃q,Gr P (cY P nb L).1/\Fc P (cY P nb L).1 q/\q.flatten.Perm (nX EI (O++(cY P nb L).2))/\
   ∀p y,y∈(cY P nb L).1 p↔(p,y)∈EI++(O++(cY P nb L).2)\/(y,p)∈EI++(O++(cY P nb L).2)
 |[],O,nb,b,G,F,f,a=>⟨b,G,F,f,a.mem⟩
 |d::L,O,nb,b,G,F,f,a=>by
  have j:=f.trans (Ms EI O L d);have m:d∈O++d::L:=(by simp);by_cases c:(nM P nb d.1 d.2&&nM P nb d.2 d.1)=true
  ·have e:cY P nb (d::L)=cY P (dP nb d.1 d.2) L:=(by simp only[cY];rw[XL c]);rw[e];rw[XJ]at c;have r:d.2∈nb d.1:=(a.mem _ _).2 (.inl (X1 _ m));have C:d.1∈nb d.2:=(a.mem _ _).2 (.inr (X1 _ m));have o:∀{p x:Nat},(p,x)∈EI\/(x,p)∈EI->x∈nb p:=λ{p x} h=>(a.mem _ _).2 (by
    rcases h with h|h;exact .inl (X7 _ h)
    ·exact .inr (X7 _ h))
   obtain⟨x,y,D,E,H,I,J⟩:=a.two d m d.1 d.2 (.inl rfl);obtain⟨a6,a7,K,M,N,Q,R⟩:=a.two d m d.2 d.1 (.inr rfl);have S:=Ha G r (o I) (o J) D E H c.1;have T:=Ha G C (o Q) (o R) K M N c.2;have U:(d.1,d.2)∈b.flatten:=j.mem_iff.2 (by simp);have V:(d.2,d.1)∈b.flatten:=j.mem_iff.2 (by simp[iM]);obtain⟨t,X,Y⟩:=F.drop G r U V S T;have Z:=j.nodup F.nd;obtain⟨a0,a1⟩:=YA.1 Z;obtain⟨a2,a8⟩:=YA.1 a1;have a3:t.flatten.Perm (nX EI (O++L)):=(by have:=Y.symm.trans j;exact(List.perm_cons (iM d)).1 ((List.perm_cons d).1 this));refine v7 L O (dP nb d.1 d.2) t (G.drop _ _) X a3 ⟨λp y=>?_,λa4 a5=>a.two a4 (by
    rcases XP.1 a5 with k|k;simp[k]
    ·simp[k])⟩
   rw[fR G.nd,a.mem];have u:∀e,e∈EI++(O++d::L)↔e∈EI++(O++L)\/e=d:=λe=>by
    simp only[XP,XD];constructor;(rintro(h|h|h|h)<;>simp[h])
    ·rintro((h|h|h)|h)<;>simp[h]
   have w:∀e,e∈EI++(O++L)->e∈nX EI (O++L):=λe h=>by unfold nX;rcases XP.1 h with k|k;exact X7 _ k;exact X1 _ (X7 _ k)
   have z:d∉EI++(O++L):=λh=>a0 (XK _ (w _ h));have A:iM d∉EI++(O++L):=λh=>a2 (w _ h);rw[u,u];constructor;rintro⟨h,g,i⟩;rcases h with(h|h)|(h|h);exact .inl h;exact absurd ⟨by rw[<-h],by rw[<-h]⟩ g;exact .inr h;exact absurd ⟨by rw[<-h],by rw[<-h]⟩ i;intro h;refine⟨h.imp .inl .inl,λ⟨g,i⟩=>?_,λ⟨g,i⟩=>?_⟩;subst g i;exact h.elim z A;subst g i;exact h.elim A z
  ·have e:cY P nb (d::L)=((cY P nb L).1,d::(cY P nb L).2):=(by simp only[cY];rw[XG c]);rw[e];have B:∀l:List Dt,O++d::l=(O++[d])++l:=λl=>by simp
   rw[B]at f a;have:=v7 L (O++[d]) nb b G F f a;simp only;rw[B];exact this
end
theorem Sa (l r:LV):sV (l++r)=an (sV l) (sV r):=by
 unfold sV;rw[KY,KY];rfl
theorem Fx:∀(x y:LV) (p u:V2),kp p u (x++y)=kp p u x++kp ((p::x).getLast (by simp)) (an u (sV x)) y
 |[],y,p,u=>by have:an u (sV [])=u:=V2.ext (by simp[an,sV,sE]) (by simp[an,sV,sE]);rw[this];rfl
 |d::x,y,p,u=>by have a:an u (sV (d::x))=an (an u d) (sV x):=V2.ext (by simp only[an,sV,sE];omega) (by simp only[an,sV,sE];omega);have b:(p::d::x).getLast (by simp)=(d::x).getLast (by simp):=Y1 (by simp);have c:=Fx x y d (an u d);simp only[YM,kp];rw[a,b,c];split;rfl;rfl
variable {x y:LV}
theorem Ll (i:Nat):rQ (y++x) i=rQ (x++y) (i+x.length):=by
 unfold rQ;have g:(y++x).length=(x++y).length:=by simp[Zu]
 rw[g];by_cases b:(x++y).length=0
 ·have h:x=[]:=by cases x with
   |nil=>rfl
   |cons a r=>simp at b
  have j:y=[]:=by cases y with
   |nil=>rfl
   |cons a r=>simp at b
  rw[h,j];rfl
 ·have f:=ZC i (show 0<(x++y).length by omega);have e:(i+x.length)%(x++y).length=(i%(x++y).length+x.length)%(x++y).length:=(by rw[ZU]);rw[e];generalize i%(x++y).length=k at f;simp only[XQ]at f|-;unfold gt;rw[Yu,Yu];by_cases c:k<y.length;rw[mOf,Zq c,Zo (by omega),aaW];have:(k+x.length)%(x.length+y.length)=k-y.length:=(by rw[show k+x.length=(k-y.length)+(x.length+y.length) by omega,YI,mOf]);rw[this,Zo (by omega),Zq (by omega)]
theorem gg.Xf (C:gg (x++y)):gg (y++x):=by
 have b:(y++x).length=(x++y).length:=by simp[Zu]
 have eq:rQ (y++x)=λi=>rQ (x++y) (i+x.length):=funext λi=>Ll i;have a:∀i,bZ (λi=>rQ (x++y) (i+x.length)) i=bZ (rQ (x++y)) (i+x.length):=λi=>by show ag (rQ (x++y) (i+1+x.length)) _=ag (rQ (x++y) (i+x.length+1)) _;rw[show i+1+x.length=i+x.length+1 by omega]
 unfold gg;rw[b,eq];refine⟨C.n3,λi=>?_,λi=>?_,?_⟩;show rQ _ (i+(x++y).length+x.length)=_;rw[show i+(x++y).length+x.length=i+x.length+(x++y).length by omega,C.iD];rw[a,a,show i+1+x.length=i+x.length+1 by omega];exact C.left _;have:=vS (n:=(x++y).length) (f:=λi=>lW cw (bZ (rQ (x++y)) i) (bZ (rQ (x++y)) (i+1))) (λi=>by show lW cw (bZ _ (i+_)) (bZ _ (i+_+1))=_;rw[show i+(x++y).length+1=(i+1)+(x++y).length by omega,C.nI,C.nI]) x.length;rw[C.one]at this;rw[<-this];refine ck (λi _=>?_);rw[a,a,show i+1+x.length=x.length+i+1 by omega,show i+x.length=x.length+i by omega]
theorem HW (x y:LV):(bJ (y++x)).Perm (bJ (x++y)):=by
 rw[gw,gw];have b:(y++x).length=(x++y).length:=by simp[Zu]
 have c:rQ (y++x)=λi=>rQ (x++y) (i+x.length):=funext λi=>Ll i;rw[b,c];have a:∀i,rQ (x++y) (i+(x++y).length)=rQ (x++y) i:=λi=>by unfold rQ;rw[YI]
 generalize rQ (x++y)=Q at a;generalize (x++y).length=n at a;generalize x.length=k;induction k with
 |zero=>exact .refl _
 |succ k f=>
  refine abR ?_ f;unfold vr;cases n with
  |zero=>exact .refl _
  |succ n=>have g:(List.range (n+1)).map (λi=>(Q (i+(k+1)),Q (i+1+(k+1))))=(List.range n).map (λi=>(Q (i+(k+1)),Q (i+1+(k+1))))++[(Q k,Q (k+1))]:=(by rw[ZL,YB];congr 1;simp only[Yz,abh];rw[show n+(k+1)=k+(n+1) by omega,show n+1+(k+1)=k+1+(n+1) by omega,a,a]);have h:(List.range (n+1)).map (λi=>(Q (i+k),Q (i+1+k)))=(Q k,Q (k+1))::(List.range n).map (λi=>(Q (i+(k+1)),Q (i+1+(k+1)))):=(by rw[ZS,Yz,Yp];congr 1;rw[Ya,Ya,Zu 1 k];refine YS (λi _=>?_);simp only[Function.comp];rw[show i.succ+k=i+(k+1) by omega,show i.succ+1+k=i+1+(k+1) by omega]);rw[g,h];exact abW _ _
theorem Vs (x y:LV) (m:Int) (z:V2):W (bw m (bJ (y++x))) z=W (bw m (bJ (x++y))) z:=jV ((HW x y).map _) z
theorem P4 {d:V2} {u:V2} (a:an (sV x) (sV (d::y))=⟨0,0⟩) (b:aa ((((d::y).getLast (by simp))::x).getLast (by simp)) d≠0):
  kp ((d::y).getLast (by simp)) u (x++d::y)=kp ((d::y).getLast (by simp)) u x++an u (sV x)::kp d (an (an u (sV x)) d) y/\
  an u (sV x)::kp d (an (an u (sV x)) d) (y++x)=(an u (sV x)::kp d (an (an u (sV x)) d) y)++kp ((d::y).getLast (by simp)) u x:=by
 refine⟨?_,?_⟩;rw[Fx];simp only[kp];rw[XL b];rw[Fx];have:an (an (an u (sV x)) d) (sV y)=u:=(by have c:=XT V2.x a;have f:=XT V2.y a;simp only[an,sV,sE]at c f;exact V2.ext (by simp only[an,sV];omega) (by simp only[an,sV];omega));rw[this];rfl
def bu (P:Nat->V2) (d:Dt):V2:=ag (P d.2) (P d.1)
def lH (P:Nat->V2) (f:List Dt):LV:=f.map (bu P)
section
variable {P:Nat->V2} {nb:Nat->List Nat} {fs:List (List Dt)}
theorem xj (P:Nat->V2) (d:Dt) (l:List Dt):(bu P d::lH P l).getLast (by simp)=bu P ((d::l).getLast (by simp)):=by
 induction l generalizing d with
 |nil=>rfl
 |cons x l a=>have b:(bu P d::lH P (x::l)).getLast (by simp)=(bu P x::lH P l).getLast (by simp):=Y1 (by simp[lH]);have c:(d::x::l).getLast (by simp)=(x::l).getLast (by simp):=Y1 (by simp);rw[b,c];exact a x
theorem oz (d:Dt):cw (bu P d)=ji P d:=rfl
theorem Fc.sd (G:Gr P nb) (F:Fc P nb fs) {d:Dt} (g:d∈fs.flatten) (h2:∃x∈nb d.2,x≠d.1):BL (bu P d) (bu P (nx nb d)):=by
 have a:=F.rev d g;have t:=F.left d g;have e:aj (P d.1) (P d.2) (P (nx nb d).2)=aa (bu P d) (bu P (nx nb d)):=by have:(nx nb d).1=d.2:=rfl;unfold bu;rw[this];simp only[aj,aa,ag];grind
 rw[e]at t;by_cases c:aa (bu P d) (bu P (nx nb d))=0
 ·refine .inr ⟨c,?_⟩;have u:P d.2≠P d.1:=λk=>G.nz _ _ a k.symm;have h:bM (nb d.2) d.1∈nb d.2:=oo (λk=>by rw[k]at a;cases a);have w:d.1≠bM (nb d.2) d.1:=λk=>by obtain⟨x,y,z⟩:=h2;obtain⟨i,hi,b⟩:=ZI a;obtain⟨j,D,f⟩:=ZI y;rw[<-b,oq (G.nd _) hi]at k;have E:i≠j:=λq=>z (by rw[<-f,<-b];simp only[q]);by_cases l:i=0;rw[XL l]at k;have:=(aba (G.nd d.2)).1 k;omega;rw[XG l]at k;have:=(aba (G.nd d.2)).1 k;omega
  have m:=G.dir d.2 _ _ a h w;have A:=cC (G.nz _ _ h);have b:ag (P d.1) (P d.2)=gN (bu P d):=Ku _ _;have f:ag (P (bM (nb d.2) d.1)) (P d.2)=bu P (nx nb d):=rfl;rw[b,f]at m;have o:bu P d≠⟨0,0⟩:=cC u;have B:bu P (nx nb d)≠⟨0,0⟩:=A;have C:aa (gN (bu P d)) (bu P (nx nb d))=0:=(by have:aa (gN (bu P d)) (bu P (nx nb d))= -aa (bu P d) (bu P (nx nb d)):=(by simp only[aa,gN];grind);omega);have H:av (gN (bu P d)) (bu P (nx nb d))= -av (bu P d) (bu P (nx nb d)):=(by simp only[av,gN];grind);have I:av (bu P d) (bu P (nx nb d))≠0:=λk=>by have p:=bL o;have ex:av (bu P d) (bu P d)*(bu P (nx nb d)).x=av (bu P d) (bu P (nx nb d))*(bu P d).x:=(by simp only[aa,av]at c|-;grind);have r:av (bu P d) (bu P d)*(bu P (nx nb d)).y=av (bu P d) (bu P (nx nb d))*(bu P d).y:=(by simp only[aa,av]at c|-;grind);rw[k,Yd]at ex r;exact B (V2.ext ((mz ex).resolve_left (by omega)) ((mz r).resolve_left (by omega)))
  exact cV.of o c (by have:¬0<av (gN (bu P d)) (bu P (nx nb d)):=λk=>m ⟨C,k⟩;omega)
 ·exact .inl (by omega)
theorem Hr {f:Dt->Dt}:∀{l:List Dt} {d e:Dt},mR f d l e->(∀x∈d::l,BL (bu P x) (bu P (f x)))->Ws (bu P d) (lH P l)
 |[],_,_,_,_=>trivial
 |x::l,d,e,h,k=>⟨by have:=k d (by simp);rw[h.1]at this;exact this,Hr h.2 (λy a=>k y (by simp only[XD]at a|-;exact .inr a))⟩
theorem A5 {f:Dt->Dt} (a:∀d,(f d).1=d.2):∀{l:List Dt} {d e:Dt},mR f d l e->yo (an (P d.1) (bu P d)) (lH P l)=P e.1
 |[],d,e,h=>by show an (P d.1) (ag (P d.2) (P d.1))=_;rw[cg,<-h,a]
 |x::l,d,e,h=>by have:an (P d.1) (bu P d)=P x.1:=(by show an (P d.1) (ag (P d.2) (P d.1))=_;rw[cg,<-h.1,a]);rw[this];exact A5 a h.2
theorem Ho {f:Dt->Dt} (a:∀d,(f d).1=d.2):∀{l:List Dt} {d e:Dt},mR f d l e->JW (P d.1) (lH P (d::l))=eo P (d::l)
 |[],d,e,h=>by show[(P d.1,an (P d.1) (ag (P d.2) (P d.1)))]=_;rw[cg];rfl
 |x::l,d,e,h=>by have:an (P d.1) (bu P d)=P d.2:=cg _ _;have b:P d.2=P x.1:=(by rw[<-h.1,a]);show(P d.1,an (P d.1) (bu P d))::JW (an (P d.1) (bu P d)) (lH P (x::l))=_;rw[this,b,Ho a h.2,<-b];rfl
theorem Hq {f:Dt->Dt}:∀{l:List Dt} {d e:Dt},mR f d l e->Em cw (bu P d) (lH P l)+lW cw (bu P ((d::l).getLast (by simp))) (bu P e)=fv (ma P f) (d::l)
 |[],d,e,h=>by show 0+lW cw (bu P d) (bu P e)=ma P f d+0;unfold lW ma;rw[h];rw[oz,oz];omega
 |x::l,d,e,h=>by have a:=Hq h.2;have b:(d::x::l).getLast (by simp)=(x::l).getLast (by simp):=Y1 (by simp);rw[b];show lW cw (bu P d) (bu P x)+Em cw (bu P x) (lH P l)+_=ma P f d+fv (ma P f) (x::l);rw[<-a];have:ma P f d=lW cw (bu P d) (bu P x):=(by unfold lW ma;rw[h.1,oz,oz]);omega
theorem tS {f:Dt->Dt}:∀{l:List Dt} {d e:Dt},mR f d l e->f ((d::l).getLast (by simp))=e
 |[],d,e,h=>h
 |x::l,d,e,h=>by have a:(d::x::l).getLast (by simp)=(x::l).getLast (by simp):=Y1 (by simp);rw[a];exact tS h.2
def Bv (P:Nat->V2) (f:List Dt):LV:=match f with
 |[]=>[]
 |d::l=>kp (bu P ((d::l).getLast (by simp))) (P d.1) (lH P (d::l))
theorem Fc.ring (G:Gr P nb) (F:Fc P nb fs) (h2:∀d∈fs.flatten,∃x∈nb d.2,x≠d.1) {f:List Dt} (D:f∈fs):gg (Bv P f)/\∀(m:Int) (z:V2),0<m->W (bw m (bJ (Bv P f))) z=W (bw m (eo P f)) z:=by
 have g:∀d∈f,d∈fs.flatten:=λd i=>Zn.2 ⟨f,D,i⟩;have cy:=F.cy f D;have one:=F.one f D;have sd:∀d∈f,BL (bu P d) (bu P (nx nb d)):=λd i=>F.sd G (g d i) (h2 d (g d i));obtain⟨e,E,O⟩:∃e∈f,ma P (nx nb) e=1:=by
  refine Xz λk=>?_;have:fv (ma P (nx nb)) f=0:=by
   have z:∀l:List Dt,(∀d∈l,ma P (nx nb) d=0)->fv (ma P (nx nb)) l=0:=by
    intro l;induction l with
    |nil=>intro _;rfl
    |cons d l X=>intro h;simp only[fv];rw[h d (by simp),X (λx H=>h x (by simp[H]))];rfl
   refine z f (λd i=>?_);have a7:=Kc P (nx nb) d;have le:ma P (nx nb) d<=1:=(by unfold ma;split<;>omega);have:ma P (nx nb) d≠1:=λq=>k ⟨d,i,q⟩;omega
  omega
 have I:ji P e=false/\ji P (nx nb e)=true:=by unfold ma at O;by_cases c:ji P e=false/\ji P (nx nb e)=true;exact c;rw[XG c]at O;omega
 obtain⟨A,B,j⟩:=aan (Nb cy E);have Q:0<aa (bu P e) (bu P (nx nb e)):=by rcases sd e E with q|⟨_,q⟩;exact q;have:=q.up;rw[oz,oz,I.1,I.2]at this;cases this
 obtain⟨a,R⟩:∃a,nx nb e=a:=⟨_,rfl⟩;rw[R]at j Q I;have p:mR (nx nb) a (B++A) a:=by
  rw[j]at cy;cases A with
  |nil=>simpa[Cy]using cy
  |cons b A=>have:=Na (l:=A) (r:=B) (d:=b) (x:=a) cy;exact this
 have t:f.Perm (a::(B++A)):=by rw[j];exact abn (l₁:=A) (l₂:=a::B)
 have Y:=Hr (P:=P) p (λx H=>sd x (t.mem_iff.2 H));have w:=A5 (P:=P) (λd=>rfl) p;have J:=Hq (P:=P) p;rw[<-jt _ t,one]at J;have Z:=tS p;have S:(a::(B++A)).getLast (by simp)=e:=by refine wL G (F.rev _ (g _ (t.mem_iff.2 (List.getLast_mem _)))) (F.rev _ (g e E)) (Z.trans R.symm)
 rw[S]at J;have K:(bu P a::lH P (B++A)).getLast (by simp)=bu P e:=by rw[xj,S]
 obtain⟨T,a0,_⟩:=OI (u:=P a.1) Y w (by rw[K];exact Q) (by rw[K];exact J);have a1:=Ho (P:=P) (λd=>rfl) p;have U:∀(m:Int) (z:V2),0<m->W (bw m (bJ (P a.1::kp (bu P a) (an (P a.1) (bu P a)) (lH P (B++A))))) z=W (bw m (eo P f)) z:=λm z g=>by rw[a0 m z g];have:JW (P a.1) (bu P a::lH P (B++A))=eo P (a::(B++A)):=a1;rw[this];exact(jV ((t.map _).map _) z).symm
 have M:lH P (B++A)=lH P B++lH P A:=YB ..;have two:∀{l x:LV} (h:l≠[]),(l.getLast h::x).getLast (by simp)=(l++x).getLast (by simp[h]):=λ{l x} h=>by
  cases x with
  |nil=>simp
  |cons c x=>rw[Y1 (by simp),abP (by simp) (by simp)]
 have a2:aa (((bu P a::lH P B).getLast (by simp)::lH P A).getLast (by simp)) (bu P a)≠0:=by rw[two (by simp)];have o:(bu P a::lH P B++lH P A)=bu P a::lH P (B++A):=(by rw[M];rfl);have:(bu P a::lH P B++lH P A).getLast (by simp)=(bu P a::lH P (B++A)).getLast (by simp):=(by simp only[o]);rw[this,K];omega
 obtain⟨y,a3,a4⟩:∃y,an y (sV (lH P A))=P a.1/\Bv P f=kp ((bu P a::lH P B).getLast (by simp)) y (lH P A++bu P a::lH P B):=by
  cases A with
  |nil=>refine⟨P a.1,V2.ext (by simp[an,sV,sE,lH]) (by simp[an,sV,sE,lH]),?_⟩;rw[j,xj];rfl
  |cons b A=>have a5:mR (nx nb) b A a:=(by have c:=cy;rw[j]at c;exact(oW.1 (show mR (nx nb) b (A++a::B) b from c)).1);have:=A5 (P:=P) (λd=>rfl) a5;refine⟨P b.1,?_,?_⟩;rw[<-this,Bf];exact V2.ext (by simp only[an,sV,sE,lH,Yz];omega) (by simp only[an,sV,sE,lH,Yz];omega);rw[j,xj];have o:(b::A++a::B).getLast (by simp)=(a::B).getLast (by simp):=abP (by simp) (by simp);show kp (bu P ((b::(A++a::B)).getLast (by simp))) (P b.1) (lH P (b::(A++a::B)))=_;have C:(b::(A++a::B)).getLast (by simp)=(a::B).getLast (by simp):=o;rw[C];congr 1;simp[lH]
 have a6:an (sV (lH P A)) (sV (bu P a::lH P B))=⟨0,0⟩:=by rw[Bf,M,Sa]at w;have o:=XT V2.x w;have C:=XT V2.y w;simp only[an]at o C;refine V2.ext ?_ ?_;simp only[an];simp only[sV,sE]at o|-;omega;simp only[an];simp only[sV,sE]at C|-;omega
 obtain⟨V,N⟩:=P4 (u:=y) a6 a2;rw[a3]at V N;rw[<-M]at N;rw[a4,V];rw[N]at T U;exact⟨T.Xf,λm z g=>by rw[Vs];exact U m z g⟩
end
variable {D E:Ed}
theorem Dis.Gf (h:Dis E D) {a b:V2} (c:(a,b)∈E++D) (h2:(b,a)∈E++D):False:=by
 have ne:=(h.ends c).2.2;have:=h.side c h2 (λe=>ne (XT Prod.fst e));exact pt ne (this.sym.swap.sym)
theorem Dis.both (h:Dis E D) {d:V2×V2} (a:d∈E) (h2:d∈D):False:=pt (h.vd _ h2).2.2 (h.ae _ h2 _ a)
section
variable {P:Nat->V2} {n:Nat} {EI DI:List Dt} {nb:Nat->List Nat}
theorem tz.QW (G:tz P n EI DI nb) (h:Dis (eo P EI) (eo P DI)) {p:Nat} (f:p<n) (m:Vx (eo P EI) (P p)):∃x y,x≠y/\(p,x)∈EI/\(y,p)∈EI:=by
 obtain⟨x,y,a,b,_⟩:=h.qh.two m;have sub:∀d∈EI,d∈EI++DI:=λd c=>X7 _ c;have g:∀{e:V2×V2},e∈eo P EI->∃i k,i<n/\k<n/\P i=e.1/\P k=e.2:=λ{e} o=>by obtain⟨d,c,rfl⟩:=XS.1 o;have:=G.lt d (sub d c);exact⟨d.1,d.2,this.1,this.2,rfl,rfl⟩
 obtain⟨_,k,_,q,_,j⟩:=g a;obtain⟨i,_,hi,_,l,_⟩:=g b;simp only at j l;rw[<-j]at a;rw[<-l]at b;refine⟨k,i,λe=>?_,G.back f q sub a,G.back hi f sub b⟩;subst e;exact h.Gf (X7 _ a) (X7 _ b)
theorem tz.sds (G:tz P n EI DI nb) (h:Dis (eo P EI) (eo P DI)):Sds EI DI nb where
 mem:=G.mem
 two:=λd f p q g=>by have b:=G.lt d (X1 _ f);have c:=h.vd _ (dG f);have key:p<n/\Vx (eo P EI) (P p):=(by rcases g with e|e;rw[e]at b c;exact⟨b.1,c.1⟩;rw[e]at b c;exact⟨b.2,c.2.1⟩);obtain⟨x,y,m,i,j⟩:=G.QW h key.1 key.2;have k:=dG (P:=P) i;have l:=dG (P:=P) j;have a:=dG (P:=P) f;refine⟨x,y,m,λe=>?_,λe=>?_,.inl i,.inr j⟩;subst e;rcases g with e|e;rw[e]at a;exact h.both k a;rw[e]at a;exact h.Gf (X7 _ k) (X1 _ a);subst e;rcases g with e|e;rw[e]at a;exact h.Gf (X7 _ l) (X1 _ a);rw[e]at a;exact h.both l a
theorem lf (P:Nat->V2):∀(L:List Dt) (nb:Nat->List Nat),∀d∈(cY P nb L).2,d∈L
 |[],_,d,h=>by cases h
 |e::L,nb,d,h=>by simp only[cY]at h;split at h;exact XK _ (lf P L _ d h);rcases XD.1 h with rfl|h;simp;exact XK _ (lf P L _ d h)
theorem Vv (P:Nat->V2) (EI DI:List Dt) (m:Int) (z:V2):W (bw m (eo P (nX EI DI))) z=W (bw m (eo P EI)) z:=by
 have:eo P (DI.map iM)=gT (eo P DI):=by unfold eo gT;rw[Yp,Yp];rfl
 unfold nX;rw[gY,gY,this,fK,fK,um,um,kj,uk];omega
theorem NQ (P:Nat->V2) (m:Int) (z:V2):∀a:List (List Dt),W (bw m (eo P a.flatten)) z=(a.map λf=>W (bw m (eo P f)) z).sum
 |[]=>rfl
 |f::a=>by rw[Zg,gY,fK,um,NQ P m z a];simp
theorem tz.pieces (G:tz P n EI DI nb) (h:pJ (eo P EI) (eo P DI)) (A:EI.Nodup) (B:DI.Nodup):
  ∃g,Gr P (cY P nb DI).1/\Fc P (cY P nb DI).1 g/\g.flatten.Perm (nX EI (cY P nb DI).2)/\(∀p y,y∈(cY P nb DI).1 p->y∈nb p)/\
   ∀a,Fc P (cY P nb DI).1 a->a.flatten.Perm (nX EI (cY P nb DI).2)->(∀f∈a,gg (Bv P f))/\∀(m:Int) (z:V2),0<m->W (bw m (eo P EI)) z=WL m (a.map (Bv P)) z:=by
 obtain⟨C,D,p0⟩:=G.U5 h (xv h.toDis A B);obtain⟨g,i,E,r,j⟩:=v7 (EI:=EI) DI [] nb C (G.gr h.toDis) D p0 (G.sds h.toDis);rw[Z1]at r;have l:∀d∈nX EI (cY P nb DI).2,∃x∈(cY P nb DI).1 d.2,x≠d.1:=λd b=>by have F:(d.1,d.2)∈nX EI DI:=(by unfold nX at b|-;rcases XP.1 b with k|k;exact X7 _ k;rcases XP.1 k with k|k;exact X1 _ (X7 _ (lf P DI nb d k));obtain⟨e,H,rfl⟩:=XS.1 k;exact X1 _ (X1 _ (XS.2 ⟨e,lf P DI nb e H,rfl⟩)));obtain⟨_,I,J⟩:=G.te F;obtain⟨x,y,K,M,l⟩:=G.QW h.toDis I (J.qH.vx h.toDis).1;have N:x∈(cY P nb DI).1 d.2:=(j _ _).2 (.inl (X7 _ M));have O:y∈(cY P nb DI).1 d.2:=(j _ _).2 (.inr (X7 _ l));by_cases c:x=d.1;exact⟨y,O,λe=>K (by rw[c,e])⟩;exact⟨x,N,c⟩
 have sub:∀p y,y∈(cY P nb DI).1 p->y∈nb p:=λp y Q=>by
  rw[G.mem];have q:∀d,d∈EI++([]++(cY P nb DI).2)->d∈EI++DI:=λd b=>by rcases XP.1 b with k|k;exact X7 _ k;exact X1 _ (lf P DI nb d k)
  rcases(j p y).1 Q with k|k;exact .inl (q _ k);exact .inr (q _ k)
 refine⟨g,i,E,r,sub,λa t u=>?_⟩;have w:∀d∈a.flatten,∃x∈(cY P nb DI).1 d.2,x≠d.1:=λd b=>l d (u.mem_iff.1 b);refine⟨λf o=>(t.ring i w o).1,λm z R=>?_⟩;have S:(bw m (eo P a.flatten)).Perm (bw m (eo P (nX EI (cY P nb DI).2))):=(u.map _).map _;rw[<-Vv P EI (cY P nb DI).2 m z,<-jV S z,NQ P m z a];unfold WL;rw[Yp];congr 1;exact YS (λf o=>((t.ring i w o).2 m z R).symm)
end
theorem Gi (x:Int) (v:V2):aj ⟨x,0⟩ ⟨x,1⟩ v=x-v.x:=by simp only[aj,aa,ag];grind
theorem Gk (x:Int) (v:V2):aj ⟨x,1⟩ ⟨x,0⟩ v=v.x-x:=by simp only[aj,aa,ag];grind
theorem NN {E:Ed} (c:mT E) {z:V2} (h:(∀e∈E,z.x<e.1.x)\/(∀e∈E,e.1.x<z.x)):W E z=0:=by
 have g:∀e∈E,∃x∈E,x.1=e.2:=λe a=>by have:e.2∈E.map (·.1):=c.symm.subset (XS.2 ⟨e,a,rfl⟩);obtain⟨x,b,q⟩:=XS.1 this;exact⟨x,b,q⟩
 have i:Ev λK=>∀e∈E,e.1.y<z.y+K:=Ev.all E λe _=>⟨(e.1.y-z.y).natAbs+1,λn k=>by omega⟩;obtain⟨K,_,hK⟩:=i.ex 0;rw[hA c (q:=⟨z.x,z.y+K⟩) (λe a=>?_)];exact zS c (.inl λe a=>hK e a);obtain⟨x,b,q⟩:=g e a;rcases h with h|h;have j:=h e a;have f:=h x b;rw[q]at f;refine jF (x:=⟨z.x,1⟩) (y:=⟨z.x,0⟩) (.inr ?_);rw[Gk,Gk,Gk,Gk];simp only;omega;have j:=h e a;have f:=h x b;rw[q]at f;refine jF (x:=⟨z.x,0⟩) (y:=⟨z.x,1⟩) (.inr ?_);rw[Gi,Gi,Gi,Gi];simp only;omega
section
variable {r:LV}
theorem gg.LI (C:gg r):r≠[]:=λe=>by have:=C.n3;rw[e]at this;simp at this
end
def cn (t:List Dt->Dt->Bool):List Dt->List Dt->List Dt
 |acc,[]=>acc
 |acc,c::a=>if t acc c then cn t (acc++[c]) a else cn t acc a
def Ep (P:Nat->V2) (c d:Dt):Prop:=AE (P c.1) (P c.2) (P d.1) (P d.2)
structure Good (P:Nat->V2) (EI:List Dt) (c:Dt):Prop where
 ae:∀e∈EI,Ep P c e
 A0:W (bw 2 (eo P EI)) (an (P c.1) (P c.2))=1
section
variable {P:Nat->V2} {EI:List Dt} {t:List Dt->Dt->Bool}
theorem mF:∀{cs acc:List Dt},∀d∈acc,d∈cn t acc cs
 |[],_,d,h=>h
 |c::cs,acc,d,h=>by simp only[cn];split;exact mF d (by simp[h]);exact mF d h
theorem mH:∀{cs acc:List Dt},∀d∈cn t acc cs,d∈acc\/d∈cs
 |[],_,d,h=> .inl h
 |c::cs,acc,d,h=>by simp only[cn]at h;split at h;rcases mH d h with k|k;rcases XP.1 k with k|k;exact .inl k;rw[Yr.1 k];simp;simp[k];rcases mH d h with k|k;exact .inl k;simp[k]
theorem s6 (i:∀acc c,t acc c=true↔Good P EI c/\∀d∈acc,Ep P c d):∀{cs acc:List Dt},(∀d∈acc,Good P EI d)->acc.Pairwise (λd b=>Ep P b d)->(∀d∈cn t acc cs,Good P EI d)/\(cn t acc cs).Pairwise (λd b=>Ep P b d)
 |[],_,f,h=>⟨f,h⟩
 |c::cs,acc,f,h=>by simp only[cn];split;rename_i k;obtain⟨g,a⟩:=(i acc c).1 k;refine s6 i (λd j=>?_) ?_;rcases XP.1 j with q|q;exact f d q;rw[Yr.1 q];exact g;refine aac.2 ⟨h,List.pairwise_singleton ..,λd j b l=>?_⟩;rw[Yr.1 l];exact a d j;exact s6 i f h
theorem qz (a:∀acc c,t acc c=true↔Good P EI c/\∀d∈acc,Ep P c d) {c:Dt} (g:Good P EI c):∀{cs acc:List Dt},c∈cs->(∀d∈cn t acc cs,Ep P c d)->c∈cn t acc cs
 |[],_,h,_=>by cases h
 |e::cs,acc,h,k=>by simp only[cn]at k|-;by_cases q:t acc e=true;rw[XL q]at k|-;rcases XD.1 h with rfl|h;exact mF _ (by simp);exact qz a g h k;rw[XG q]at k|-;rcases XD.1 h with rfl|h;exact absurd ((a acc c).2 ⟨g,λd b=>k d (mF d b)⟩) q;exact qz a g h k
theorem mG:∀{cs acc:List Dt},(acc++cs).Nodup->(cn t acc cs).Nodup
 |[],acc,h=>by simpa[cn]using h
 |c::cs,acc,h=>by simp only[cn];split;exact mG (by simpa using h);refine mG ?_;obtain⟨f,g,i⟩:=YW.1 h;exact YW.2 ⟨f,(YA.1 g).2,λa j b k=>i a j b (by simp[k])⟩
theorem Dr {n:Nat} (qh:ix (eo P EI)) (yg:lX (eo P EI) 0) (inj:∀i k,i<n->k<n->P i=P k->i=k) (B:∀i,i<n->Vx (eo P EI) (P i)) (p:∀v,Vx (eo P EI) v->∃i,i<n/\P i=v)
  (C:∀acc c,t acc c=true↔Good P EI c/\∀d∈acc,Ep P c d) {cs:List Dt} (D:∀c,c∈cs↔c.1<c.2/\c.2<n):pJ (eo P EI) (eo P (cn t [] cs)):=by
 obtain⟨E,G⟩:=s6 C (cs:=cs) (acc:=[]) (by simp) List.Pairwise.nil;have H:∀d∈cn t [] cs,d.1<d.2/\d.2<n:=λd m=>by rcases mH d m with k|k;cases k;exact(D d).1 k
 refine{qh:=qh,yg:=yg,vd:=?_,ae:=?_,dd:=?_,A0:=?_,max:=?_};intro e j;obtain⟨d,m,rfl⟩:=XS.1 j;have:=H d m;refine⟨B _ (by omega),B _ (by omega),λk=>?_⟩;have:=inj _ _ (by omega) (by omega) k;omega;intro e j f A;obtain⟨d,m,rfl⟩:=XS.1 j;obtain⟨x,p,rfl⟩:=XS.1 A;exact(E d m).ae x p
 ·intro e j f A I;obtain⟨d,m,rfl⟩:=XS.1 j;obtain⟨x,p,rfl⟩:=XS.1 A;have J:d≠x:=λk=>I (by rw[k]);have sym:∀{a b:Dt},Ep P a b->Ep P b a:=λh=>AE.sym h;have K:∀{l:List Dt},l.Pairwise (λd M=>Ep P M d)->d∈l->x∈l->Ep P d x:=by
   intro l;induction l with
   |nil=>intro _ h;cases h
   |cons a l N=>
    intro O r o;obtain⟨F,Q⟩:=Y2.1 O;rcases XD.1 r with u|u<;>rcases XD.1 o with w|w
    ·exact absurd (u.trans w.symm) J
    ·rw[u];exact sym (F x w)
    ·rw[w];exact F d u
    ·exact N Q u w
  exact K G m p
 ·intro e j;obtain⟨d,m,rfl⟩:=XS.1 j;exact(E d m).A0
 ·intro a b R S T r o y;obtain⟨i,U,rfl⟩:=p a R;obtain⟨k,z,rfl⟩:=p b S;have one:∀{i k:Nat},i<k->k<n->(∀e∈eo P EI,AE (P i) (P k) e.1 e.2)->(∀d∈eo P (cn t [] cs),AE (P i) (P k) d.1 d.2)->W (bw 2 (eo P EI)) (an (P i) (P k))=1->False:=λ{i k} V z r o y=>by have g:Good P EI (i,k):=⟨λe j=>r _ (dG j),y⟩;have nX:=qz C (c:=(i,k)) g (cs:=cs) (acc:=[]) ((D _).2 ⟨V,z⟩) (λd m=>o _ (dG m));have:=o _ (dG nX);exact pt (λe=>by have:=inj _ _ (by omega) z e;omega) this
  rcases Z0 i k with q|q|q;exact one q z r o y;exact T (by rw[q]);refine one q U (λe j=>(r e j).swap) (λe j=>(o e j).swap) ?_;have:an (P k) (P i)=an (P i) (P k):=V2.ext (by simp only[an];omega) (by simp only[an];omega);rw[this];exact y
end
def V5 (lo hi:V2) (E:Ed):Prop:=∀e∈E,lo.x<=e.1.x/\e.1.x<=hi.x/\lo.y<=e.1.y/\e.1.y<=hi.y
theorem UP {S:Ed} (c:mT S) {lo hi:V2} (h:V5 lo hi S) {m:Int} (g:0<m) {z:V2} (q:W (bw m S) z=1):m*lo.x<=z.x/\z.x<=m*hi.x/\m*lo.y<=z.y/\z.y<=m*hi.y:=by
 have b:∀{s t:Int},s<=t->m*s<=m*t:=λh=>XH h (XN g);have f:∀e∈bw m S,m*lo.x<=e.1.x/\e.1.x<=m*hi.x/\m*lo.y<=e.1.y/\e.1.y<=m*hi.y:=λe a=>by obtain⟨x,i,rfl⟩:=aK.1 a;obtain⟨j,l,o,p⟩:=h x i;exact⟨b j,b l,b o,b p⟩
 refine⟨?_,?_,?_,?_⟩<;>refine Xz λk=>?_
 ·have:=NN (c.sc m) (z:=z) (.inl λe a=>by have:=f e a;omega);omega
 ·have:=NN (c.sc m) (z:=z) (.inr λe a=>by have:=f e a;omega);omega
 ·have:=zS (c.sc m) (z:=z) (.inr λe a=>by have:=f e a;omega);omega
 ·have:=zS (c.sc m) (z:=z) (.inl λe a=>by have:=f e a;omega);omega
variable {s:cp} {c:V2}
theorem lB {t:cp} (hs:aB s=true) (a:aB t=true):c∈aT s t↔(c=s.a\/c=s.b\/c=t.a\/c=t.b)/\aU s.a s.b c/\aU t.a t.b c:=by
 unfold aT;rw[(eF _).2,aaq];unfold eN fI;rw[XJ,jD hs,jD a];simp
theorem NK {t:cp} (hs:aB s=true) (a:aB t=true) (h:AE s.a s.b t.a t.b) (b:c∈aT s t):(c=s.a\/c=s.b)/\(c=t.a\/c=t.b):=by
 obtain⟨_,f,g⟩:=(lB hs a).1 b;have:=h 1 c (by decide) (by rw[aZ,aZ];exact f) (by rw[aZ,aZ];exact g);rw[aZ,aZ,aZ,aZ]at this;exact this
theorem Qr {t:cp} (hs:aB s=true) (i:aB t=true) (C:s.a≠s.b) (h:AE s.a s.b t.a t.b):aH s t=0\/(aH s t=1/\(s.a=t.a\/s.a=t.b\/s.b=t.a\/s.b=t.b)):=by
 cases e:aT s t with
 |nil=>
  left;refine(oS hs i).2 (ko λm u w D E=>?_);obtain⟨j,k⟩:=h m u w D E;have:∀c,c∉aT s t:=λc z=>by rw[e]at z;cases z
  have o:∀{x y:V2},u=ah m x->u=ah m y->x=y:=λa b=>gC w (a.symm.trans b);rcases j with j|j<;>rcases k with k|k
  ·have q:=o j k;exact this s.a ((lB hs i).2 ⟨.inl rfl,bK _ _,by rw[q];exact bK _ _⟩)
  ·have q:=o j k;exact this s.a ((lB hs i).2 ⟨.inl rfl,bK _ _,by rw[q];exact bp _ _⟩)
  ·have q:=o j k;exact this s.b ((lB hs i).2 ⟨.inr (.inl rfl),bp _ _,by rw[q];exact bK _ _⟩)
  ·have q:=o j k;exact this s.b ((lB hs i).2 ⟨.inr (.inl rfl),bp _ _,by rw[q];exact bp _ _⟩)
 |cons c r=>
  right;have p:=NK hs i h (c:=c) (by rw[e];simp);refine⟨?_,?_⟩
  ·have F:r=[]:=by
    cases r with
    |nil=>rfl
    |cons d r=>
     exfalso;have A:=NK hs i h (c:=d) (by rw[e];simp);have G:=(eF ((eN s t).filter (fI s t))).1;have B:c≠d:=λq=>by have:J2 (aT s t):=G;rw[e]at this;have:=this.1 d (by simp);rw[q]at this;simp[bt]at this
     have H:AE s.a s.b s.a s.b:=by
      have I:(t.a=s.a/\t.b=s.b)\/(t.a=s.b/\t.b=s.a):=by
       rcases p.1 with f|f<;>rcases p.2 with g|g<;>rcases A.1 with l|l<;>rcases A.2 with q4|q4
       all_goals first
        |exact absurd (f.trans l.symm) B
        |exact absurd (g.trans q4.symm) B
        |exact .inl ⟨g.symm.trans f,q4.symm.trans l⟩
        |exact .inl ⟨q4.symm.trans l,g.symm.trans f⟩
        |exact .inr ⟨g.symm.trans f,q4.symm.trans l⟩
        |exact .inr ⟨q4.symm.trans l,g.symm.trans f⟩
      rcases I with⟨a,b⟩|⟨a,b⟩;rw[a,b]at h;exact h;rw[a,b]at h;exact h.sym.swap.sym
     exact pt C H
   unfold aH;rw[XG (by rw[hs,i];simp),e,F];rfl
  ·rcases p.1 with f|f<;>rcases p.2 with g|g
   ·exact .inl (f.symm.trans g)
   ·exact .inr (.inl (f.symm.trans g))
   ·exact .inr (.inr (.inl (f.symm.trans g)))
   ·exact .inr (.inr (.inr (f.symm.trans g)))
theorem UI {a b p q:V2} (h:NM a b p q):AE a b p q:=λm u c f g=>absurd f ((pS c h).Bn g)
variable {x:V2}
theorem cV.symm {d:V2} (h:cV d x):cV x d:=by
 obtain⟨a,b,c,f,g,i⟩:=h;exact⟨b,a,f,c,g.symm,i.symm⟩
theorem cV.par {d:V2} (h:cV d x) (c:d≠⟨0,0⟩):aa d x=0/\0<av d x:=by
 obtain⟨a,b,j,f,k,l⟩:=h;have g:a*aa d x=0:=by simp only[aa];grind
 have i:a*av d x=b*av d d:=by simp only[av];grind
 refine⟨(mz g).resolve_left (by omega),?_⟩;have:=XC f (bL c);rw[<-i]at this;exact(bf (show 1<=a by omega)).1.1 this
variable {a p:V2}
theorem LA {u:V2} {m:Int} (b:0<m) (j:a≠p) (h:aU (ah m p) (ah m a) u) (l:u≠ah m p):cV (ag a p) (ag u (ah m p)):=by
 obtain⟨f,o,r,t,x⟩:=h;have g:=cC j;have hw:=cC l;have c:aa (ag a p) (ag u (ah m p))=0:=by have:aj (ah m p) (ah m a) u=m*aa (ag a p) (ag u (ah m p)):=(by simp only[aj,aa,ag,ah];grind);rw[this]at f;exact(mz f).resolve_left (by omega)
 refine cV.of g c ?_;have y:0<=(a.x-p.x)*(u.x-m*p.x):=by simp only[ah]at o r;have e:=Zp m a.x p.x;rcases YJ (a.x-p.x) 0 with k|k|k;have:=Yb b k;exact X2 (by omega) (by omega);rw[k,Yd];exact Yf _;have:=XC b k;exact XF (by omega) (by omega)
 have z:0<=(a.y-p.y)*(u.y-m*p.y):=by simp only[ah]at t x;have e:=Zp m a.y p.y;rcases YJ (a.y-p.y) 0 with k|k|k;have:=Yb b k;exact X2 (by omega) (by omega);rw[k,Yd];exact Yf _;have:=XC b k;exact XF (by omega) (by omega)
 have B:0<=av (ag a p) (ag u (ah m p)):=by simp only[av,ag,ah];omega
 have C:av (ag a p) (ag u (ah m p))≠0:=λk=>by have q:=bL g;have ex:av (ag a p) (ag a p)*(ag u (ah m p)).x=av (ag a p) (ag u (ah m p))*(ag a p).x:=(by generalize ag a p=A at*;generalize ag u (ah m p)=w at*;simp only[aa,av]at c|-;grind);have i:av (ag a p) (ag a p)*(ag u (ah m p)).y=av (ag a p) (ag u (ah m p))*(ag a p).y:=(by generalize ag a p=A at*;generalize ag u (ah m p)=w at*;simp only[aa,av]at c|-;grind);rw[k,Yd]at ex i;exact hw (V2.ext ((mz ex).resolve_left (by omega)) ((mz i).resolve_left (by omega)))
 omega
theorem vA {b:V2} (f:a≠p) (h:b≠p) (i:¬aU p b a) (h2:¬aU p a b):AE p a p b:=λm u g j l=>by
 by_cases c:u=ah m p;exact⟨.inl c,.inl c⟩;exfalso;have s:=(LA g f j c).trans (LA g h l c).symm;obtain⟨o,q⟩:=s.par (cC f);rcases AM p o q with k|k;rw[cg,cg]at k;exact i k;rw[cg,cg]at k;exact h2 k
theorem Py {s t:cp} (hs:aB s=true) (o:aB t=true) (i:s.a≠s.b) (j:t.a≠t.b) (h:aH s t=0\/(aH s t=1/\(s.a=t.a\/s.a=t.b\/s.b=t.a\/s.b=t.b))):AE s.a s.b t.a t.b:=by
 rcases h with h|⟨q,h⟩;exact UI ((oS hs o).1 h)
 ·have r:=IM.1 q;have one:∀{x y:V2},x∈aT s t->y∈aT s t->x=y:=λ{x y} l m=>by
   match e:aT s t,r,l,m with
   |[c],_,l,m=>rw[Yr.1 l,Yr.1 m]
  have f:=λc=>lB hs o (c:=c);rcases h with e|e|e|e;have g:s.a∈aT s t:=(f _).2 ⟨.inl rfl,bK _ _,by rw[e];exact bK _ _⟩;have:=vA (p:=s.a) (a:=s.b) (b:=t.b) i.symm (by rw[e];exact j.symm) (λk=>i (one g ((f _).2 ⟨.inr (.inl rfl),bp _ _,by rw[<-e];exact k⟩))) (λk=>j (by rw[<-e];exact one g ((f _).2 ⟨.inr (.inr (.inr rfl)),k,bp _ _⟩)));rw[<-e];exact this;have g:s.a∈aT s t:=(f _).2 ⟨.inl rfl,bK _ _,by rw[e];exact bp _ _⟩;have:=vA (p:=s.a) (a:=s.b) (b:=t.a) i.symm (by rw[e];exact j) (λk=>i (one g ((f _).2 ⟨.inr (.inl rfl),bp _ _,by rw[<-e];exact ax.1 k⟩))) (λk=>j (by rw[<-e];exact(one g ((f _).2 ⟨.inr (.inr (.inl rfl)),k,bK _ _⟩)).symm));rw[<-e];exact this.sym.swap.sym;have g:s.b∈aT s t:=(f _).2 ⟨.inr (.inl rfl),bp _ _,by rw[e];exact bK _ _⟩;have:=vA (p:=s.b) (a:=s.a) (b:=t.b) i (by rw[e];exact j.symm) (λk=>i (one g ((f _).2 ⟨.inl rfl,bK _ _,by rw[<-e];exact k⟩)).symm) (λk=>j (by rw[<-e];exact one g ((f _).2 ⟨.inr (.inr (.inr rfl)),ax.1 k,bp _ _⟩)));rw[<-e];exact this.swap;have g:s.b∈aT s t:=(f _).2 ⟨.inr (.inl rfl),bp _ _,by rw[e];exact bp _ _⟩;have:=vA (p:=s.b) (a:=s.a) (b:=t.a) i (by rw[e];exact j) (λk=>i (one g ((f _).2 ⟨.inl rfl,bK _ _,by rw[<-e];exact ax.1 k⟩)).symm) (λk=>j (by rw[<-e];exact(one g ((f _).2 ⟨.inr (.inr (.inl rfl)),ax.1 k,bK _ _⟩)).symm));rw[<-e];exact this.swap.sym.swap.sym
def zR (s t:cp):Bool:=decide ((cU s t).kind=0)||(decide ((cU s t).kind=1)&&(decide (s.a=t.a)||decide (s.a=t.b)||decide (s.b=t.a)||decide (s.b=t.b)))
theorem Ea (s t:cp):DP 229 [sD s,sD t] (aE (zR s t)):=by
 refine dg Tryz.func229 [] ?_;refine ai.int (kV s t) (λm j=>?_);unfold zR;rw[<-j];apply af.mk<;>intro g
 ·have e:m=0:=(by simpa using g);exact Fin.bool (by rw[e];rfl)
 ·have e:m≠0:=(by simpa using g);apply af.mk<;>intro h
  ·have a:m=1:=(by simpa using h);rw[a];refine rY.v s.a t.a (λb q=>?_);have k:decide (s.a=t.a)=b:=(by cases b<;>simp_all);rw[k];cases b with
   |true=>
    repeat' first|apply af.t|apply af.f|refine ak.n ?_|fail
    exact Fin.bool rfl
   |false=>
    repeat' first|apply af.t|apply af.f|refine ak.n ?_|fail
    refine rY.v s.a t.b (λc r=>?_);have l:decide (s.a=t.b)=c:=(by cases c<;>simp_all);rw[l];cases c with
    |true=>
     repeat' first|apply af.t|apply af.f|refine ak.n ?_|fail
     exact Fin.bool rfl
    |false=>
     repeat' first|apply af.t|apply af.f|refine ak.n ?_|fail
     refine rY.v s.b t.a (λf u=>?_);have o:decide (s.b=t.a)=f:=(by cases f<;>simp_all);rw[o];cases f with
     |true=>
      repeat' first|apply af.t|apply af.f|refine ak.n ?_|fail
      exact Fin.bool rfl
     |false=>
      repeat' first|apply af.t|apply af.f|refine ak.n ?_|fail
      refine rY.v s.b t.b (λi w=>?_);have p:decide (s.b=t.b)=i:=(by cases i<;>simp_all);rw[p];repeat' first|apply af.t|apply af.f|refine ak.n ?_|fail
      exact Fin.bool rfl
  ·have a:m≠1:=(by simpa using h);exact Fin.bool (by rw[XZ e,XZ a];rfl)
structure Rs (p:V2):Prop where
 x0: -8000<=p.x
 x1:p.x<=8000
 y0: -8000<=p.y
 y1:p.y<=8000
def yj (c:cp):P3:=if(c.a.x+c.b.x).tmod 2=0/\(c.a.y+c.b.y).tmod 2=0 then⟨(c.a.x+c.b.x).tdiv 2,(c.a.y+c.b.y).tdiv 2,1⟩else⟨c.a.x+c.b.x,c.a.y+c.b.y,2⟩
theorem L0 (c:cp) (b:Rs c.a) (f:Rs c.b):DP 241 [sD c] (.d (pD (yj c))):=by
 refine dg Tryz.func241 [3] ?_;have o:=b.x0;have p:=b.x1;have q:=b.y0;have r:=b.y1;have t:=f.x0;have u:=f.x1;have w:=f.y0;have z:=f.y1;have ex:IntKind.i64.wrap (c.a.x+c.b.x)=c.a.x+c.b.x:=hw _;have k:IntKind.i64.wrap (c.a.y+c.b.y)=c.a.y+c.b.y:=hw _;refine ak.n ?_;refine Cut.mk (aG.ic [(2,.ptr 2 0),(3,au (c.a.x+c.b.x)),(4,au (c.a.y+c.b.y))] [(2,.box [i64 0,i64 0,i64 0])]
  (.cX .nil) (.cB (.cons (ar.int ex) (.cons (ar.int k) .nil))) ?_)
 unfold yj;have l: -16000<=c.a.x+c.b.x/\c.a.x+c.b.x<=16000:=by omega
 have m: -16000<=c.a.y+c.b.y/\c.a.y+c.b.y<=16000:=by omega
 generalize c.a.x+c.b.x=x at l;generalize c.a.y+c.b.y=y at m;refine ak.mk (by decide) ?_;apply af.mk<;>intro a
 ·have g:x.tmod 2=0:=(by simpa using a);have A:x.tdiv 2*2=x:=Int.tdiv_mul_cancel (Int.dvd_of_tmod_eq_zero g);repeat' first|apply af.is a|apply af.t|apply af.f
  refine ak.mk (by decide) ?_;repeat' first|apply af.is a|apply af.t|apply af.f
  apply af.mk<;>intro i
  ·have j:y.tmod 2=0:=(by simpa using i);have B:y.tdiv 2*2=y:=Int.tdiv_mul_cancel (Int.dvd_of_tmod_eq_zero j);repeat' first|apply af.is i|apply af.is a|apply af.t|apply af.f
   refine ak.mk (by decide) ?_;refine ak.mk (by decide) ?_;rw[XL ⟨g,j⟩];exact Fin.d (dX.of_eq (by rw[hw (x.tdiv 2),hw (y.tdiv 2)];rfl))
  ·have j:¬y.tmod 2=0:=(by simpa using i);repeat' first|apply af.is i|apply af.is a|apply af.t|apply af.f
   rw[XG (λh=>j h.2)];exact Fin.d (dX.refl _)
 ·have g:¬x.tmod 2=0:=(by simpa using a);repeat' first|apply af.is a|apply af.t|apply af.f
  rw[XG (λh=>g h.1)];exact Fin.d (dX.refl _)
theorem Nq {o:LV} {hs:List (LV)} (V:VS o hs) (E:List cp) (y:E.length<=40000) (c:cp) (l:Rs c.a) (m:Rs c.b):
  DP 230 [iO o hs,.one (mX E),sD c] (aE (bn E.length (λi=>zR (bh E i) c)&&decide (J5 o hs (yj c)=2))):=by
 refine dg Tryz.func230 [] ?_;refine Loop.by (α:=Nat) (λi=>[(3,.ptr 3 0),(5,.ptr 5 0),(9,.d (.one (mX E))),(10,au E.length),(11,au i)]) (λ_=>[(3,.box [aN o,hS hs]),(5,.box (sL c))]) (λi=>i<=E.length/\∀j,j<i->zR (bh E j) c=true) (λi=>E.length-i)
  (aG.at 0 ⟨XR _,λj h=>absurd h (XO _)⟩ (.cX (.cX .nil)) (.cB (.cB (.cS (.cS (.cS .nil)))))) (λi b=>?_)
 apply af.mk<;>intro f
 ·have p:i<E.length:=(by have:=XA f;omega);refine ak.o ?_;refine ai.bool (Ea (bh E i) c) (λq g=>?_);apply af.mk<;>intro k
  ·have r:zR (bh E i) c=false:=(by rw[<-g];simpa using k);exact Fin.bool (by rw[bD i p r];rfl)
  ·have a:zR (bh E i) c=true:=(by rw[<-g];simpa using k);exact aG.back (x:=i) (i+1) ⟨by omega,λj z=>by
    by_cases e:j=i;subst e;exact a
    ·exact b.2 j (by omega)⟩ (by omega) (.cX (.cX .nil)) (.cB (.cB (.cS (.cS (.cons (ar.int (by rw[hw _];omega)) .nil)))))
 ·obtain⟨A,u⟩:=b;obtain rfl:i=E.length:=(by have:=XB f;omega);have w:bn E.length (λi=>zR (bh E i) c)=true:=aF.2 u;rw[w];refine ai.mk' (L0 c l m) ?_;refine ai.int (yP V (yj c)) (λt a=>?_);refine ak.n ?_;exact Fin.bool (by rw[<-a];rfl)
abbrev Uu (c:cp):Nat->SV:=λj=>[SV.ad 4 λj=>(sL c).getD j (.v Go.undef)].getD j (.v Go.undef)
theorem I2 (c d:cp):DP 228 [sD d,.one (Uu c 0)] (aE (!zR c d)):=by
 refine dg Tryz.func228 [] ?_;refine ai.bool (Ea c d) (λb a=>?_);exact Fin.bool (by rw[a])
abbrev bc (l:List Dt) (i:Nat):Dt:=l.getD i (0,0)
abbrev kT (l:List Dt):Nat->Nat->SV:=λi j=>match j with
 |0=>i64 ((bc l i).1:Int)
 |_=>i64 ((bc l i).2:Int)
abbrev nf (v:LV) (d:Dt):cp:=⟨gt v d.1,gt v d.2⟩
def Ix (o:LV) (hs:List (LV)) (v:LV) (acc:List Dt) (c:Dt):Bool:=
 (bn acc.length λi=>zR (nf v c) (nf v (bc acc i)))&&(bn (cI (o::hs)).length (λi=>zR (bh (cI (o::hs)) i) (nf v c))&&decide (J5 o hs (yj (nf v c))=2))
def uA (n i:Nat):Nat->Nat->List Dt
 |0,_=>[]
 |m+1,k=>(i,k)::uA n i m (k+1)
def fW (n:Nat):Nat->Nat->List Dt
 |0,_=>[]
 |m+1,i=>uA n i (n-(i+1)) (i+1)++fW n m (i+1)
def qG (o:LV) (hs:List (LV)) (v:LV):List Dt:=cn (Ix o hs v) [] (fW v.length v.length 0)
theorem oi (l:List Dt) (d:Dt) (i j:Nat) (hi:i<l.length+1) (a:j<2):aD (bif Nat.blt i l.length then kT l i j else[i64 (d.1:Int),i64 (d.2:Int)].getD ((i-l.length)*2+j) (.v Go.undef)) (kT (l++[d]) i j):=by
 refine aD.bif (λh=>?_) (λh=>?_);have:bc (l++[d]) i=bc l i:=(by simp[List.getD,Yl,h]);refine aD.of_eq ?_;unfold kT;rw[this]
 ·obtain rfl:i=l.length:=(by omega);have:bc (l++[d]) l.length=d:=(by simp[List.getD]);refine aD.of_eq ?_;unfold kT;rw[this,Zb]
  match j,a with
  |0,_=>rfl
  |1,_=>rfl
theorem GC (l:List cp) (d:cp) (i j:Nat) (hi:i<l.length+1) (a:j<4):aD (bif Nat.blt i l.length then sG l i j else[i64 d.a.x,i64 d.a.y,i64 d.b.x,i64 d.b.y].getD ((i-l.length)*4+j) (.v Go.undef)) (sG (l++[d]) i j):=by
 refine aD.bif (λh=>?_) (λh=>?_);have:bh (l++[d]) i=bh l i:=(by simp[List.getD,Yl,h]);exact aD.of_eq (KW this.symm j)
 ·obtain rfl:i=l.length:=(by omega);have:bh (l++[d]) l.length=d:=(by simp[List.getD]);refine aD.of_eq ?_;unfold sG;rw[this,Zb]
  match j,a with
  |0,_=>rfl
  |1,_=>rfl
  |2,_=>rfl
  |3,_=>rfl
set_option maxRecDepth 2000 in
theorem OS {o:LV} {hs:List (LV)} (V:VS o hs) (v:LV) (U:v.length<=80) (D:∀i,i<v.length->Rs (gt v i)):
  DP 200 [iO o hs,.one (aN v)] (.d (.one (.sl (qG o hs v).length 2 (kT (qG o hs v))))):=by
 refine dg Tryz.func200 [] ?_;have X:=V.eZ;have K:(cI (o::hs)).length<=40000:=Yg (oh _) (by omega);refine ai.mk' (kh o hs) ?_;unfold qG;have F:∀p c,Ix o hs v p c=((bn p.length λi=>zR (nf v c) (nf v (bc p i)))&&(bn (cI (o::hs)).length (λi=>zR (bh (cI (o::hs)) i) (nf v c))&&decide (J5 o hs (yj (nf v c))=2))):=λ_ _=>rfl;generalize Ix o hs v=t at F|-;have M:∀c:cp,Rs c.a->Rs c.b->DP 230 [iO o hs,.one (mX (cI (o::hs))),sD c] (aE (bn (cI (o::hs)).length (λi=>zR (bh (cI (o::hs)) i) c)&&decide (J5 o hs (yj c)=2))):=λc=>Nq V _ K c;generalize cI (o::hs)=E at*;refine Loop.by (α:=Nat×List Dt) (λx=>[(1,.d (.one (aN v))),(2,.ptr 2 0),(5,.d (.one (mX E))),(6,.aJ 501 0),(7,.aJ 502 0),(15,au v.length),(16,au x.1)]) (λx=>[(2,.box [aN o,hS hs]),(501,.aL 0 x.2.length 2 83 (kT x.2)),(502,.aL 0 (x.2.map (nf v)).length 4 163 (sG (x.2.map (nf v))))])
  (λx=>x.1<=v.length/\x.2.length<=x.1*80/\cn t x.2 (fW v.length (v.length-x.1) x.1)=cn t [] (fW v.length v.length 0)) (λx=>v.length-x.1)
  (aG.nil 6 501 2 83 (kT []) rfl rfl (aG.nil 7 502 4 163 (sG []) rfl rfl (aG.at (0,[]) ⟨XR _,XR _,rfl⟩ (.cX (.cons (.aR rfl (λi l=>absurd l (XO i))) (.cons (.aR rfl (λi l=>absurd l (XO i))) .nil))) (.cS (.cB (.cS (.cH (.cH (.cS (.cS .nil))))))))))
  (λx y=>?_)
 obtain⟨i,p⟩:=x;obtain⟨l,N,r⟩:=y;simp only at l N r;apply af.mk<;>intro G
 ·have z:i<v.length:=(by have:=XA G;omega);have H:IntKind.i64.wrap ((i:Int)+1)=((i+1:Nat):Int):=(by rw[hw _];omega);rw[show v.length-i=(v.length-(i+1))+1 by omega]at r;simp only[fW]at r;refine Loop.by (α:=Nat×List Dt) (λx=>[(1,.d (.one (aN v))),(2,.ptr 2 0),(5,.d (.one (mX E))),(6,.aJ 501 0),(7,.aJ 502 0),(8,au i),(9,au x.1),(15,au v.length),(16,au i)]) (λx=>[(2,.box [aN o,hS hs]),(501,.aL 0 x.2.length 2 83 (kT x.2)),(502,.aL 0 (x.2.map (nf v)).length 4 163 (sG (x.2.map (nf v))))])
   (λx=>i+1<=x.1/\x.1<=v.length/\x.2.length<=i*80+x.1/\cn t x.2 (uA v.length i (v.length-x.1) x.1++fW v.length (v.length-(i+1)) (i+1))=cn t [] (fW v.length v.length 0)) (λx=>v.length-x.1)
   (aG.at (i+1,p) ⟨XU _,z,by show p.length<=i*80+(i+1);omega,r⟩ (.cX (.cons (.aR rfl (λi l j g=>aD.refl _)) (.cons (.aR rfl (λi l j g=>aD.refl _)) .nil))) (.cS (.cB (.cS (.cH (.cH (.cS (.cons (ar.int H) (.cS (.cS .nil))))))))))
   (λx y=>?_)
  obtain⟨k,f⟩:=x;obtain⟨O,P,Q,m⟩:=y;simp only at O P Q m;apply af.mk<;>intro I
  ·have w:k<v.length:=(by have:=XA I;omega);have A:IntKind.i64.wrap ((k:Int)+1)=((k+1:Nat):Int):=(by rw[hw _];omega);rw[show v.length-k=(v.length-(k+1))+1 by omega]at m;simp only[uA,YM,cn]at m;have u:=F f (i,k);refine ak.o ?_;refine ak.o ?_;refine ak.n ?_;have eg:∀j,j<f.length->bh (f.map (nf v)) j=nf v (bc f j):=λj g=>by simp[List.getD,g]
   have J:t f (i,k)=false->cn t f (uA v.length i (v.length-(k+1)) (k+1)++fW v.length (v.length-(i+1)) (i+1))=cn t [] (fW v.length v.length 0):=λh=>by rw[h,XG (by simp)]at m;exact m
   refine ai.bool (H8 (f.map (nf v)) 228 1 (Uu (nf v (i,k))) (λj=>!zR (nf v (i,k)) (nf v (bc f j))) (by rw[Yy];omega) (λj g=>by rw[Yy]at g;rw[eg j g];exact I2 _ _)) (λb B=>?_);have B:(bn f.length λj=>zR (nf v (i,k)) (nf v (bc f j)))=!b:=(by rw[B,Yy];simp);rw[B]at u;cases b with
   |true=>
    repeat' first|apply af.t|apply af.f
    exact aG.back (x:=(k,f)) (k+1,f) ⟨by show i+1<=k+1;omega,w,by show f.length<=i*80+(k+1);omega,J u⟩ (by show v.length-(k+1)<v.length-k;omega) (.cX (.cons (.aR rfl (λi l j g=>aD.refl _)) (.cons (.aR rfl (λi l j g=>aD.refl _)) .nil))) (.cS (.cB (.cS (.cH (.cH (.cS (.cons (ar.int A) (.cS (.cS .nil)))))))))
   |false=>
    repeat' first|apply af.t|apply af.f
    refine ai.bool (M (nf v (i,k)) (D i z) (D k w)) (λq R=>?_);rw[<-R]at u;cases q with
    |false=>
     repeat' first|apply af.t|apply af.f
     exact aG.back (x:=(k,f)) (k+1,f) ⟨by show i+1<=k+1;omega,w,by show f.length<=i*80+(k+1);omega,J u⟩ (by show v.length-(k+1)<v.length-k;omega) (.cX (.cons (.aR rfl (λi l j g=>aD.refl _)) (.cons (.aR rfl (λi l j g=>aD.refl _)) .nil))) (.cS (.cB (.cS (.cH (.cH (.cS (.cons (ar.int A) (.cS (.cS .nil)))))))))
    |true=>
     repeat' first|apply af.t|apply af.f
     rw[u,XL (by rfl)]at m;have Y:(k,f).snd.length<=10000:=(by show f.length<=_;omega);refine ak.mk (aS (by rw[Yy];omega)) ?_;refine ak.mk (aS) ?_;refine aG.back (x:=(k,f)) (k+1,f++[(i,k)]) ⟨by show i+1<=k+1;omega,w,by show(f++[(i,k)]).length<=i*80+(k+1);simp;omega,m⟩ (by show v.length-(k+1)<v.length-k;omega)
      (.cX (.cons (.aR (by simp) (λa C j g=>?_)) (.cons (.aR (by simp) (λa C j g=>?_)) .nil))) (.cS (.cB (.cS (.cH (.cH (.cS (.cons (ar.int A) (.cS (.cS .nil)))))))))
     ·exact oi f (i,k) a j C g
     ·rw[YB];exact GC (f.map (nf v)) (nf v (i,k)) a j C g
  ·have S:k=v.length:=(by have:=XB I;omega);subst S;rw[Zb]at m;exact aG.back (x:=(i,p)) (i+1,f) ⟨z,by show f.length<=(i+1)*80;omega,m⟩ (by show v.length-(i+1)<v.length-i;omega) (.cX (.cons (.aR rfl (λi l j g=>aD.refl _)) (.cons (.aR rfl (λi l j g=>aD.refl _)) .nil))) (.cS (.cB (.cS (.cH (.cH (.cS (.cons (ar.int H) .nil)))))))
 ·have T:i=v.length:=(by have:=XB G;omega);subst T;rw[Zb]at r;have r:p=cn t [] (fW v.length v.length 0):=r;rw[<-r];exact Fin.one (aD.pQ rfl (λi l j g=>aD.refl _))
theorem qW {n i:Nat}:∀{m k:Nat} {c:Dt},c∈uA n i m k↔c.1=i/\k<=c.2/\c.2<k+m
 |0,k,c=>by simp only[uA,YD,abK];omega
 |m+1,k,c=>by simp only[uA,XD,qW (m:=m)];constructor;rintro(rfl|h);simp;omega;rintro⟨a,b,f⟩;by_cases e:c.2=k;left;exact aaz a e;right;omega
theorem lp {n:Nat}:∀{m i:Nat} {c:Dt},i+m=n->(c∈fW n m i↔i<=c.1/\c.1<c.2/\c.2<n)
 |0,i,c,h=>by simp only[fW,YD,abK];omega
 |m+1,i,c,h=>by have:=lp (n:=n) (m:=m) (i:=i+1) (c:=c) (by omega);simp only[fW,XP,qW,this];omega
theorem wD {o:LV} {hs:List (LV)} {v:LV} {d:Dt} (h:d∈qG o hs v):d.1<d.2/\d.2<v.length:=by
 rcases mH d h with k|k;cases k;have:=(lp (by omega)).1 k;omega
theorem mI {t:List Dt->Dt->Bool}:∀{cs acc:List Dt},(cn t acc cs).length<=acc.length+cs.length
 |[],acc=>by simp[cn]
 |c::cs,acc=>by simp only[cn];split;have:=mI (t:=t) (cs:=cs) (acc:=acc++[c]);simp at this|-;omega;have:=mI (t:=t) (cs:=cs) (acc:=acc);simp;omega
theorem wm {n i:Nat}:∀{m k:Nat},(uA n i m k).length=m
 |0,_=>rfl
 |m+1,k=>by simp[uA,wm (m:=m)]
theorem yV {n:Nat}:∀{m i:Nat},(fW n m i).length<=m*n
 |0,_=>by simp[fW]
 |m+1,i=>by have:=yV (n:=n) (m:=m) (i:=i+1);simp only[fW,XQ,wm,aak];omega
theorem u5 {o:LV} {hs:List (LV)} {v:LV} (h:v.length<=80:=by omega):(qG o hs v).length<=6400:=by
 have a:=mI (t:=Ix o hs v) (cs:=fW v.length v.length 0) (acc:=[]);have b:=yV (n:=v.length) (m:=v.length) (i:=0);have c:=aaE h h;simp only[Z2]at a;unfold qG;omega
variable {p:V2}
theorem DU {o:LV} {hs:List (LV)}:p∈aA o hs↔∃r∈aX o::hs.map aX,p∈r:=by
 unfold aA;rw[Zn];constructor;rintro⟨r,a,b⟩;refine⟨r,?_,b⟩;rcases XD.1 a with h|h;rw[h];simp;exact XK _ ((lO hs).mem_iff.1 h);rintro⟨r,a,b⟩;refine⟨r,?_,b⟩;rcases XD.1 a with h|h;rw[h];simp;exact XK _ ((lO hs).mem_iff.2 h)
theorem iJ {o:LV} {hs:List (LV)} (V:VS o hs):(aA o hs).length=aP (o::hs):=by
 unfold aA;rw[gX,nT V]
theorem xK {l:LV}:p∈bC l->p∈l:=by
 intro h;rcases XP.1 h with k|k;exact List.mem_of_mem_drop k;exact List.mem_of_mem_take k
theorem DW {l:LV} (h:p∈aX l):p∈l:=by
 unfold aX at h;split at h;exact xK h;cases h
theorem VS.in4 {o:LV} {hs:List (LV)} (V:VS o hs) (h:p∈aA o hs):Rs p:=by
 obtain⟨r,c,b⟩:=DU.1 h;obtain⟨a,f,g⟩:∃a,a∈o::hs/\p∈a:=by rcases XD.1 c with k|k;exact⟨o,by simp,DW (k▸b)⟩;obtain⟨q,i,rfl⟩:=XS.1 k;exact⟨q,by simp[i],DW b⟩
 have:=Zz.1 (fg.1 (V.ring f)).eX p g;simp only[aY,XJ,X0,ng]at this;rw[show bW (0-2000)= -2000 from wid]at this;exact⟨by omega,by omega,by omega,by omega⟩
abbrev Va (v:LV) (D:List Dt):Nat->Nat->SV:=λi j=>match j with
 |0=>i64 (gt v (bc D i).1).x
 |1=>i64 (gt v (bc D i).1).y
 |2=>i64 (gt v (bc D i).2).x
 |_=>i64 (gt v (bc D i).2).y
theorem M8 {o:LV} {hs:List (LV)} (V:VS o hs):DP 142 [iO o hs] (.eD [.one (.sl (qG o hs (aA o hs)).length 4 (Va (aA o hs) (qG o hs (aA o hs)))),.one (i64 0)]):=by
 refine dg Tryz.func142 [] ?_;have p:=V.eZ;refine ai.mk' (vI V) ?_;repeat' first|apply af.t|apply af.f
 have q:=iJ V;refine ai.mk' (OS V (aA o hs) (by omega) (λi b=>V.in4 (by simp[List.getD,b]))) ?_;have l:∀d∈qG o hs (aA o hs),d.1<(aA o hs).length/\d.2<(aA o hs).length:=λd c=>by have:=wD c;omega
 have r:=u5 (o:=o) (hs:=hs) (v:=aA o hs);generalize qG o hs (aA o hs)=D at*;generalize aA o hs=v at*;refine Loop.by (α:=Nat) (λi=>[(4,.d (.one (aN v))),(6,.aJ 501 0),(19,.d (.one (.sl D.length 2 (kT D)))),(20,au D.length),(21,au i)]) (λi=>[(501,.aL 0 ((D.take i).map (nf v)).length 4 163 (sG ((D.take i).map (nf v))))]) (λi=>i<=D.length) (λi=>D.length-i)
  (aG.nil 6 501 4 163 (sG []) rfl rfl (aG.at 0 (XR _) (.cons (.aR rfl (λi b=>absurd b (XO i))) .nil) (.cS (.cH (.cS (.cS (.cS .nil)))))))
  (λi b=>?_)
 apply af.mk<;>intro g
 ·have h:i<D.length:=(by have:=XA g;omega);have c:=l (bc D i) (by simp[List.getD,h]);have k:(D.take (i+1)).map (nf v)=(D.take i).map (nf v)++[nf v (bc D i)]:=(by rw[YL,YB];simp[List.getD,h]);have t:(bc D (i:Int).toNat).1<v.length:=c.1;have u:(bc D (i:Int).toNat).2<v.length:=c.2;refine ak.o ?_;refine ak.mk (by decide) ?_;refine ak.o ?_;refine ak.mk (by decide) ?_;refine ak.o ?_;have w:(D.take i).length<=6400:=(by rw[Yj];omega);refine ak.mk (aS (by rw[Yy];omega)) ?_;refine ak.n ?_;refine aG.back (x:=i) (i+1) (by show i+1<=_;omega) (by omega) (.cons (.aR (by rw[k,XQ];rfl) (λa m j f=>?_)) .nil) (.cS (.cH (.cS (.cS (.cons (ar.int (by rw[hw _];omega)) .nil)))));rw[k];exact GC _ (nf v (bc D i)) a j m f
 ·have:D.take i=D:=Zi (by have:=XB g;omega);rw[this];refine Fin.eD (.cons (dX.one (aD.pQ (by rw[Yy]) (λi b j f=>aD.of_eq ?_))) (.cR .nil));rw[Yy]at b;have e:bh (D.map (nf v)) i=nf v (bc D i):=(by simp[List.getD,b]);unfold sG;rw[e]
  match j,f with
  |0,_=>rfl
  |1,_=>rfl
  |2,_=>rfl
  |3,_=>rfl
def Eo (d:V2):Int:=if cw d=true then 0 else 1
theorem Dp (d:V2):DP 203 [vD d] (au (Eo d)):=by
 refine dg Tryz.func203 [] ?_;have c:cw d=true↔0<d.y\/(d.y=0/\0<d.x):=by unfold cw;rw[X0];exact ZB
 have f:(0<d.y\/(d.y=0/\0<d.x))->Eo d=0:=λh=>by unfold Eo;rw[XL (c.2 h)]
 have g:¬(0<d.y\/(d.y=0/\0<d.x))->Eo d=1:=λh=>by unfold Eo;rw[XG (λk=>h (c.1 k))]
 apply af.mk<;>intro a
 ·have i:0<d.y:=XA a;repeat' first|apply af.is a|apply af.t|apply af.f
  exact Fin.int (f (.inl i)).symm
 ·have i:¬0<d.y:=XB a;repeat' first|apply af.is a|apply af.t|apply af.f
  apply af.mk<;>intro b
  ·have j:d.y=0:=(by simpa using b);repeat' first|apply af.is b|apply af.is a|apply af.t|apply af.f
   apply af.mk<;>intro l
   ·exact Fin.int (f (.inr ⟨j,XA l⟩)).symm
   ·have:=XB l;exact Fin.int (g (by omega)).symm
  ·have j:¬d.y=0:=(by simpa using b);repeat' first|apply af.is b|apply af.is a|apply af.t|apply af.f
   exact Fin.int (g (by omega)).symm
abbrev nG (l:List Nat):Nat->Nat->SV:=λi _=>i64 ((l.getD i 0:Nat):Int)
abbrev nS (l:List Nat):SV:= .sl l.length 1 (nG l)
abbrev nbS (n:Nat) (nb:Nat->List Nat):SV:= .sl n 1 λi _=> .sl (nb i).length 1 (nG (nb i))
def Vf (v:LV) (p i k:Nat):Int:=if Eo (cW (gt v i) (gt v p))=Eo (cW (gt v k) (gt v p))then-ct ⟨0,0⟩ (cW (gt v i) (gt v p)) (cW (gt v k) (gt v p))else Eo (cW (gt v i) (gt v p))-Eo (cW (gt v k) (gt v p))
theorem R8 (n:Int): -1<=bN n/\bN n<=1:=by
 unfold bN;split;omega;(split<;>omega)
theorem EF (v:LV) (p i k:Nat) (c0 c1:Nat->SV) (m:c0 0= .ad 1 λ_=>aN v) (o:c1 0=i64 p) (t:p<v.length) (hi:i<v.length) (u:k<v.length):
  DP 202 [.one (i64 i),.one (i64 k),.one (.ad 1 c0),.one (.ad 1 c1)] (au (Vf v p i k)):=by
 refine lY.le (uh:=[.one (i64 i),.one (i64 k),.one (.ad 1 λj=>match j with|0=> .ad 1 (λ_=>aN v)|j=>c0 j),.one (.ad 1 λj=>match j with|0=>i64 p|j=>c1 j)]) (.cR (.cR (.cons (dX.of_eq ?_) (.cons (dX.of_eq ?_) .nil)))) ?_
 ·congr 2;funext j;cases j with
  |zero=>exact m.symm▸rfl
  |succ j=>rfl
 ·congr 2;funext j;cases j with
  |zero=>exact o.symm▸rfl
  |succ j=>rfl
 refine dg Tryz.func202 [] ?_;refine ak.o ?_;refine ak.o ?_;refine ai.v (ca (gt v i) (gt v p)) (λa q=>?_);refine ak.o ?_;refine ak.o ?_;refine ai.v (ca (gt v k) (gt v p)) (λb r=>?_);refine ak.n ?_;refine ai.int (Dp a) (λx g=>?_);refine ai.int (Dp b) (λy h=>?_);refine ak.n ?_;unfold Vf;rw[<-q,<-r,<-g,<-h];have w:0<=x/\x<=1:=by rw[g];unfold Eo;split<;>omega
 have A:0<=y/\y<=1:=by rw[h];unfold Eo;split<;>omega
 have c:IntKind.i64.wrap (x-y)=x-y:=hw _;apply af.mk<;>intro c1
 ·have f:¬x=y:=(by have:(IntKind.i64.wrap (x-y) !=0)=true:=c1;rw[c]at this;have:¬x-y=0:=(by simpa[bne]using this);omega);exact Fin.int (by rw[XG f,c])
 ·have f:x=y:=(by have:(IntKind.i64.wrap (x-y) !=0)=false:=c1;rw[c]at this;have:x-y=0:=(by simpa[bne]using this);omega);refine ai.int (eW ⟨0,0⟩ a b) (λz l=>?_);have B: -1<=z/\z<=1:=(by rw[l];exact R8 _);refine Fin.int ?_;rw[XL f,<-l];show IntKind.i64.wrap (0-z)= -z;rw[abG];exact hw _
abbrev MH (v:LV) (nb:Nat->List Nat) (x:SV):Nat->SV:=λj=>match j with
 |0=>aN v
 |1=>nbS v.length nb
 |_=>x
theorem Di (l:List Nat) (q:Nat) (c:l.length<=40000) (f:q∈l):DP 94 [.one (nS l),.one (i64 q)] (au (l.idxOf q)):=by
 refine lY.vi (Dj l.length (λi=>((l.getD i 0:Nat):Int)) q c) _ ?_;have a:=aae.2 f;refine jQ a (X4 ?_) (λj b=>XZ (λe=>?_));simp[List.getD,a];have e:l.getD j 0=q:=(by exact_mod_cast e);have:=List.not_of_lt_findIdx (p:=(·==q)) (xs:=l) b;have g:j<l.length:=Nat.lt_trans b a;rw[List.getD,XY g]at e;rw[show l[j]=q from e]at this;simp at this
theorem P7 {l:List Nat} (b:l.Nodup) {q:Nat} (c:q∈l):bM l q=l.getD ((l.idxOf q+l.length-1)%l.length) 0:=by
 have f:=aae.2 c;have a:=oq b f;rw[List.getElem_idxOf]at a;rw[a];generalize l.idxOf q=i at*;split
 ·next h=>subst h;rw[Ya,mOf];simp[List.getD,show l.length-1<l.length by omega]
 ·next h=>rw[show i+l.length-1=(i-1)+l.length by omega,YI,mOf];simp[List.getD,show i-1<l.length by omega]
theorem ug (v:LV) (nb:Nat->List Nat) (x:SV) (p q:Nat) (g:v.length<=40000) (h:p<v.length) (a:q∈nb p) (b:(nb p).Nodup) (c:(nb p).length<=40000):
  DP 47 [.one (.ad 3 (MH v nb x)),.one (i64 p),.one (i64 q),.one (i64 (-1))] (au (bM (nb p) q:Nat)):=by
 refine dg Tryz.func47 [] ?_;have j:=aae.2 a;rw[P7 b a];refine ak.o ?_;refine ai.mk' (Di (nb p) q c a) ?_;generalize (nb p).idxOf q=i at*;have e:IntKind.i64.wrap (IntKind.i64.wrap ((i:Int)+ -1)+(nb p).length)=((i+(nb p).length-1:Nat):Int):=by rw[hw ((i:Int)+ -1),hw _];omega
 have f:=kg (i+(nb p).length-1) (nb p).length;refine ak.mk (by rw[Yi];omega) ?_;refine ak.mk (by rw[Yi,e];exact f) ?_;refine Fin.int ?_;show(((nb p).getD (Int.toNat ((IntKind.i64.wrap (IntKind.i64.wrap ((i:Int)+ -1)+(nb p).length)).tmod (nb p).length)) 0:Nat):Int)=_;rw[e,kf]
theorem D6 (v:LV) (nb:Nat->List Nat) (x:SV) (p q:Nat) (f:v.length<=40000) (g:p<v.length) (a:q∈nb p) (b:(nb p).length<=40000):
  DP 47 [.one (.ad 3 (MH v nb x)),.one (i64 p),.one (i64 q),.one (i64 1)] (au (JG (nb p) q:Nat)):=by
 refine dg Tryz.func47 [] ?_;have h:=aae.2 a;unfold JG;refine ak.o ?_;refine ai.mk' (Di (nb p) q b a) ?_;generalize (nb p).idxOf q=i at*;have e:IntKind.i64.wrap (IntKind.i64.wrap ((i:Int)+(1:Nat))+(nb p).length)=((i+1+(nb p).length:Nat):Int):=by rw[hw ((i:Int)+(1:Nat)),hw _];omega
 have c:=kg (i+1+(nb p).length) (nb p).length;refine ak.mk (by rw[Yi];omega) ?_;refine ak.mk (by rw[Yi,show(1:Int)=(1:Nat) from rfl,e];exact c) ?_;refine Fin.int ?_;show(((nb p).getD (Int.toNat ((IntKind.i64.wrap (IntKind.i64.wrap ((i:Int)+(1:Nat))+(nb p).length)).tmod (nb p).length)) 0:Nat):Int)=_;rw[e,kf,YI]
theorem P9 {l:List Nat} {x:Nat} (h:x∈l):JG l x∈l:=by
 have:=List.length_pos_of_mem h;have a:=ZC (l.idxOf x+1) this;unfold JG;simp[List.getD,a]
def Ek (v:LV) (nb:Nat->List Nat) (p q:Nat):Bool:=decide (ct (gt v p) (gt v (bM (nb p) q)) (gt v (JG (nb p) q))>=0)
theorem zl (v:LV) (nb:Nat->List Nat) (x:SV) (p q:Nat) (f:v.length<=40000) (g:p<v.length) (c:q∈nb p) (j:(nb p).Nodup) (h:(nb p).length<=40000) (i:∀y∈nb p,y<v.length):
  DP 87 [.one (.ad 3 (MH v nb x)),.one (i64 p),.one (i64 q)] (aE (Ek v nb p q)):=by
 refine dg Tryz.func87 [] ?_;have m:=i _ (oo (l:=nb p) (x:=q) (List.ne_nil_of_mem c));have o:=i _ (P9 c);refine ai.mk' (ug v nb x p q f g c j h) ?_;refine ai.mk' (D6 v nb x p q f g c h) ?_;unfold Ek;generalize bM (nb p) q=a at*;generalize JG (nb p) q=b at*;refine ak.o ?_;refine ak.o ?_;refine ak.o ?_;refine ai.int (eW (gt v p) (gt v a) (gt v b)) (λz k=>?_);refine ak.n ?_;exact Fin.bool (by rw[<-k])
theorem Dh (l:LV) (i:Nat) (f:l.length<=40000) (hi:i<l.length) (h:∀j,j<i->gt l j≠gt l i):DP 143 [.one (aN l),vD (gt l i)] (au i):=by
 refine dg Tryz.func143 [] ?_;refine Loop.by (α:=Nat) (λk=>[(0,.d (.one (aN l))),(3,.ptr 3 0),(7,au l.length),(8,au k)]) (λ_=>[(3,.box (vL (gt l i)))]) (λk=>k<=i) (λk=>l.length-k)
  (aG.at 0 (XR _) (.cons (.box (iy.of_eq rfl)) .nil) (.cS (.cB (.cS (.cS .nil))))) (λk g=>?_)
 refine af.gF (X4 (by omega)) ?_;refine ak.o ?_;refine rY.v (gt l i) (gt l k) (λq b=>?_);refine ak.n ?_;apply af.mk<;>intro a
 ·refine Fin.int ?_;have e:=b.1 a;rcases aam k i with c|c;exact absurd e.symm (h k c);omega
 ·have m:k≠i:=λe=>by have:q=true:=b.2 (by rw[e]);rw[this]at a;cases a
  refine aG.back (x:=k) (k+1) (by omega) (by omega) (.cons (.box (iy.of_eq rfl)) .nil) (.cS (.cB (.cS (.cons (ar.int ?_) .nil))));rw[hw _];omega
end Sg
end Go.Vm
