import Derived.Test.YtobmlkopbmakcaaGreatLG
set_option linter.unusedVariables false
set_option linter.unusedSimpArgs false
set_option maxRecDepth 20000
namespace Go.Vm
open Go Go.RowKit Go.Proofs
namespace Sg
variable {F:Ed} {z:V2}
theorem Qa (b:∀e∈F,e.1.y≠z.y/\e.2.y≠z.y) (c:W F z≠0):∃e∈F,(e.1.y<z.y/\z.y<e.2.y/\0<ai e.1 e.2 z)\/(e.2.y<z.y/\z.y<e.1.y/\ai e.1 e.2 z<0):=by
 refine Xz λf=>c ?_;rw[gN];refine ji (λe a=>?_);have g:=b e a;have i:¬((e.1.y<z.y/\z.y<e.2.y/\0<ai e.1 e.2 z)\/(e.2.y<z.y/\z.y<e.1.y/\ai e.1 e.2 z<0)):=λh=>f ⟨e,a,h⟩;refine H9 ?_ ?_ ?_;rw[iG];simp only[af];omega;simp only[af];omega;simp only[af];omega
variable {E:Ed}
theorem zk (B:∀e∈F,e∈E) (C:∀e∈E,e.1.y≠z.y/\e.2.y≠z.y/\¬aV e.1 e.2 z) (a2:W F z≠0:=by omega):
  ∃(D:Int) (w:V2),0<D/\w.y=D*z.y/\(∃e∈E,aV (ag D e.1) (ag D e.2) w)/\∀e∈E,aV (ag D e.1) (ag D e.2) w\/NM (ag D e.1) (ag D e.2) (ag D z) w:=by
 obtain⟨a3,a4,a5⟩:=Qa (λe l=>⟨(C e (B e l)).1,(C e (B e l)).2.1⟩) a2;obtain⟨f,T⟩:=ZT (B a3 a4);have a6:=(Ye.1 T).1;obtain⟨g,G⟩:∃g:Nat->V2×V2,∀i,g i=E.getD i (⟨0,0⟩,⟨0,0⟩):=⟨_,λ_=>rfl⟩;have a7:∀i,i<E.length->g i∈E:=λi m=>by rw[G,YA,XV m];exact YU m
 let p:Nat->Prop:=λi=>(((g i).1.y<z.y/\z.y<(g i).2.y/\0<ai (g i).1 (g i).2 z)\/((g i).2.y<z.y/\z.y<(g i).1.y/\ai (g i).1 (g i).2 z<0));obtain⟨k,a8,H,U⟩:=rA (λi=>jc (ai (g i).1 (g i).2 z)) (λi=>jc ((g i).2.y-(g i).1.y)) p (λi m=>by have m:(((g i).1.y<z.y/\z.y<(g i).2.y/\0<ai (g i).1 (g i).2 z)\/((g i).2.y<z.y/\z.y<(g i).1.y/\ai (g i).1 (g i).2 z<0)):=m;show 0<jc _;unfold jc;split<;>omega) E.length ⟨f,a6,by show(((g f).1.y<z.y/\z.y<(g f).2.y/\0<ai (g f).1 (g f).2 z)\/((g f).2.y<z.y/\z.y<(g f).1.y/\ai (g f).1 (g f).2 z<0));rw[G,YA,T];exact a5⟩;replace H:(((g k).1.y<z.y/\z.y<(g k).2.y/\0<ai (g k).1 (g k).2 z)\/((g k).2.y<z.y/\z.y<(g k).1.y/\ai (g k).1 (g k).2 z<0)):=H;obtain⟨N,t⟩:∃N,N=jc (ai (g k).1 (g k).2 z):=⟨_,rfl⟩;obtain⟨D,u⟩:∃D,D=jc ((g k).2.y-(g k).1.y):=⟨_,rfl⟩;rw[<-t,<-u]at U;have c:0<D:=by rw[u];unfold jc;split<;>omega
 have a9:0<N:=by rw[t];unfold jc;split<;>omega
 refine⟨D,⟨(ag D z).x+N,(ag D z).y⟩,c,rfl,⟨g k,a7 k a8,?_⟩,λe l=>?_⟩
 ·have V:∀a b:V2,ai (ag D a) (ag D b) ⟨(ag D z).x+N,(ag D z).y⟩=D*(D*ai a b z-(b.y-a.y)*N):=λa b=>by simp only[ai,aa,af,ag];grind
  rcases H with⟨I,J,b0⟩|⟨I,J,b0⟩;have X:D=(g k).2.y-(g k).1.y:=(by rw[u];unfold jc;rw[iP]);have Y:N=ai (g k).1 (g k).2 z:=(by rw[t];unfold jc;rw[iP]);have K:=Yv I c;have M:=Yv J c;have O:=Yv (show(g k).1.y<(g k).2.y by omega) c;refine dj ?_ O (XO K) (XO M);rw[V,<-X,<-Y];grind;have X:D=(g k).1.y-(g k).2.y:=(by rw[u];unfold jc;rw[iN];omega);have Y:N= -ai (g k).1 (g k).2 z:=(by rw[t];unfold jc;rw[iN]);have K:=Yv I c;have M:=Yv J c;have O:=Yv (show(g k).2.y<(g k).1.y by omega) c;refine au.1 (dj ?_ O (XO K) (XO M));rw[aU,V,show ai (g k).1 (g k).2 z= -N by omega,show(g k).2.y-(g k).1.y= -D by omega];grind
 ·by_cases Z:aV (ag D e.1) (ag D e.2) ⟨(ag D z).x+N,(ag D z).y⟩;exact .inl Z
  ·right;obtain⟨b1,b2,b3⟩:=C e l;obtain⟨j,a0⟩:=ZT l;have b4:=(Ye.1 a0).1;have P:g j=e:=(by rw[G,YA,a0];rfl);have Q:=U j b4;rw[P]at Q;refine CM a9 (λq=>b1 (Y7 (show D≠0 by omega) q)) (λq=>b2 (Y7 (show D≠0 by omega) q)) (λq=>b3 ((gW c).1 q)) Z ?_;rw[bZ];have A:∀x y:Int,(D*x<D*y↔x<y):=λx y=>⟨λh=>ZZ h (by omega),λh=>Yv h c⟩;have b5:=ct (ai e.1 e.2 z) (XC c c);rw[Yd]at b5;have b6:(D*e.2.y-D*e.1.y)*N=D*((e.2.y-e.1.y)*N):=(by grind);have a1:D*D*ai e.1 e.2 z=D*(D*ai e.1 e.2 z):=(by grind);simp only[ag];rw[b6];rintro(⟨o,r,b7,R⟩|⟨o,r,b7,R⟩);rw[A]at o r;rw[a1,A]at R;have S:0<ai e.1 e.2 z:=(by omega);have:=Q (show p j by show(((g j).1.y<z.y/\z.y<(g j).2.y/\0<ai (g j).1 (g j).2 z)\/((g j).2.y<z.y/\z.y<(g j).1.y/\ai (g j).1 (g j).2 z<0));rw[P];exact .inl ⟨o,r,S⟩);unfold jc at this;rw[iP,iP,Yd N,Yd (ai e.1 e.2 z)]at this;omega;rw[A]at o r;rw[a1,A]at R;have S:ai e.1 e.2 z<0:=(by omega);have:=Q (show p j by show(((g j).1.y<z.y/\z.y<(g j).2.y/\0<ai (g j).1 (g j).2 z)\/((g j).2.y<z.y/\z.y<(g j).1.y/\ai (g j).1 (g j).2 z<0));rw[P];exact .inr ⟨o,r,S⟩);unfold jc at this;rw[iN,iN,YH,ZF,Yd N,Yd (ai e.1 e.2 z)]at this;omega
variable {m:Int}
theorem nH {n:Int} (h:0<m) (k:0<n):0<m*n:=XC h k
structure JR (E:Ed):Prop where
 cV:mT E
 wu:nc E 0
 conn:∀f:V2->Int,(∀e∈E,f e.1=f e.2)->∀e∈E,∀e'∈E,f e.1=f e'.1
theorem JR.sc (h:JR E) (b:0<m):JR (bD m E):=by
 refine⟨h.cV.sc m,λn z c=>by rw[eO];exact h.wu _ z (nH c b),λf g e a l i=>?_⟩;obtain⟨x,j,rfl⟩:=aK.1 a;obtain⟨y,k,rfl⟩:=aK.1 i;exact h.conn (λv=>f (ag m v)) (λe a=>g _ (aK.2 ⟨e,a,rfl⟩)) x j y k
theorem AL (h:nc E 0) (z:V2):W E z=0\/W E z=1:=by
 have:=h 1 z (by decide);rw[gT]at this;omega
def qd (A B:Ed):Prop:=∀a∈A,∀b∈B,NM a.1 a.2 b.1 b.2
variable {A B:Ed}
theorem qd.sym (h:qd A B):qd B A:=λb c a f=>(h a f b c).sym
theorem qd.sc (h:qd A B) (c:0<m):qd (bD m A) (bD m B):=by
 intro a f b g;obtain⟨x,i,rfl⟩:=aK.1 f;obtain⟨y,j,rfl⟩:=aK.1 g;exact rn c (h x i y j)
theorem BP (c:mT A) {b:V2×V2} (h:∀a∈A,NM a.1 a.2 b.1 b.2) {w:V2} (hw:aV b.1 b.2 w):W A w=W A b.1/\W A w=W A b.2:=by
 refine⟨ih c (λa f=>?_),ih c (λa f=>(h a f).sub hw)⟩;exact(((h a f).swap).sub (au.2 hw))
theorem P8 (c:mT A) (b:JR B) (h:qd A B):∀e∈B,∀f∈B,W A e.1=W A f.1:=
 b.conn (W A) (λe g=>ih c (λa i=>h a i e g))
theorem HI (r:JR A) (t:JR B) (h:qd A B) (u:∀e∈A++B,e.1.y≠z.y/\e.2.y≠z.y/\¬aV e.1 e.2 z) (C:W B z≠0:=by omega):
  (∃b∈B,W A b.1=W A z)\/(∃a∈A,W B a.1=W B z):=by
 obtain⟨D,w,g,_,⟨e,i,j⟩,G⟩:=zk (E:=A++B) (F:=B) (λe i=>by simp[i]) u C;have k:∀{X Y:Ed},JR X->qd X Y->(∀x∈X,x∈A++B)->e∈Y->W X e.1=W X z:=λ{X Y} l m H o=>by
  have I:∀x∈bD D X,NM x.1 x.2 (ag D z) w:=λx c=>by obtain⟨y,J,rfl⟩:=aK.1 c;exact(G y (H y J)).resolve_left (((m.sc g) _ c (ag D e.1,ag D e.2) (aK.2 ⟨e,o,rfl⟩)).DG j)
  have p:=ih (l.cV.sc D) I;have q:=(BP (l.cV.sc D) (b:=(ag D e.1,ag D e.2)) (λx c=>(m.sc g) x c _ (aK.2 ⟨e,o,rfl⟩)) j).1;rw[kK g]at p q;rw[<-q,<-p]
 rcases XN.1 i with f|f;exact .inr ⟨e,f,k t h.sym (λx c=>by simp[c]) f⟩;exact .inl ⟨e,f,k r h (λx c=>by simp[c]) f⟩
theorem xb {P:V2->Ed->Prop} (E:Ed) (z:V2) (h:∀(m:Int) (a:V2),0<m->(∀e∈bD m E,e.1.y≠a.y/\e.2.y≠a.y/\¬aV e.1 e.2 a)->(∀F:Ed,(∀e∈F,e∈E)->W (bD m F) a=W F z)->P z E):P z E:=by
 obtain⟨n,j,c,f⟩:=((Ev.all E (λe _=>R5 e.1 e.2 z)).imp λn k=>(⟨λ(F:Ed) (g:∀e∈F,e∈E)=>by
   rw[gN,gN,bD,nw];exact hP (λe b=>(k e (g e b)).1),λe b=>by
   obtain⟨x,i,rfl⟩:=XQ.1 b;exact(k x i).2⟩:(∀F:Ed,(∀e∈F,e∈E)->W (bD (n*n) F) (nr (n*n) z ⟨n,1⟩)=W F z)/\∀e∈bD (n*n) E,e.1.y≠(nr (n*n) z ⟨n,1⟩).y/\e.2.y≠(nr (n*n) z ⟨n,1⟩).y/\¬aV e.1 e.2 (nr (n*n) z ⟨n,1⟩))).ex 1
 exact h (n*n) _ (XC (by omega) (by omega)) f c
theorem max_mem {α:Type} (f:α->Int):∀L:List α,L≠[]->∃t∈L,∀a∈L,f a<=f t
 |[],h=>absurd rfl h
 |[x],_=>⟨x,by simp,λa b=>by simp at b;rw[b];exact Yc _⟩
 |x::y::r,_=>by
  obtain⟨t,i,g⟩:=max_mem f (y::r) (by simp);by_cases c:f t<=f x
  ·exact⟨x,by simp,λa b=>by
    rcases XF.1 b with rfl|b;exact Yc _
    ·exact Int.le_trans (g a b) c⟩
  ·exact⟨t,XK _ i,λa b=>by
    rcases XF.1 b with rfl|b;omega
    ·exact g a b⟩
theorem Iq (c:mT E) (h:W E z≠0):∃e∈E,z.y<e.1.y:=by
 refine Xz λf=>h (NG (λe a=>?_));have b:∀e∈E,e.1.y<=z.y:=λe a=>Zx.1 λq=>f ⟨e,a,q⟩;refine⟨b e a,?_⟩;have:e.2∈E.map (·.1):=c.symm.subset (XQ.2 ⟨e,a,rfl⟩);obtain⟨x,g,q⟩:=XQ.1 this;rw[<-q];exact b x g
theorem nested (g:JR A) (i:JR B) (h:qd A B) (o:∀b∈B,W A b.1=1) (z:V2) (E:W B z=1):W A z=1:=by
 refine xb (P:=λ_ _=>W A z=1) (A++B) z (λm F c p q=>?_);have r:=q A (λe j=>by simp[j]);have G:=q B (λe j=>by simp[j]);rw[ed]at p;rcases HI (g.sc c) (i.sc c) (h.sc c) p with⟨b,k,e⟩|⟨a,f,e⟩;obtain⟨y,u,rfl⟩:=aK.1 k;simp only[kK c]at e;rw[<-r,<-e];exact o y u
 ·exfalso;obtain⟨x,l,rfl⟩:=aK.1 f;simp only[kK c]at e;have w:∀a∈A,W B a.1=1:=λa f=>by rw[P8 i.cV g h.sym a f x l];omega
  obtain⟨t,C,D⟩:=max_mem (λa:V2×V2=>a.1.y) A (λe=>by rw[e]at l;cases l);obtain⟨b,k,H⟩:=Iq i.cV (z:=t.1) (by rw[w t C];decide);obtain⟨a,f,I⟩:=Iq g.cV (z:=b.1) (by rw[o b k];decide);have:=D a f;omega
theorem P5 (k:JR A) (g:JR B) (h:qd A B) (l:∀b∈B,W A b.1=0) (h2:∀a∈A,W B a.1=0) (z:V2) (u:W A z=1):W B z=0:=by
 refine xb (P:=λ_ _=>W B z=0) (A++B) z (λm w c i j=>?_);have C:=j A (λe f=>by simp[f]);have D:=j B (λe f=>by simp[f]);rw[ed]at i;refine Xz λo=>?_;have E:W B z=1:=(AL g.wu z).resolve_left o;rcases HI (k.sc c) (g.sc c) (h.sc c) i with⟨b,p,e⟩|⟨a,q,e⟩;obtain⟨y,r,rfl⟩:=aK.1 p;simp only[kK c]at e;have:=l y r;omega;obtain⟨x,t,rfl⟩:=aK.1 q;simp only[kK c]at e;have:=h2 x t;omega
theorem rf {l:LV} (c:bk l):JR (bH l):=by
 refine⟨mK l,iA c,λf g e h p k=>?_⟩;have b:∀i,i<l.length->f (gt l i)=f (gt l 0):=λi=>by
  induction i with
  |zero=>intro _;rfl
  |succ i m=>intro a;have:=g _ (bC.2 ⟨i,by omega,rfl⟩);simp only[bw,X3 a]at this;rw[<-this];exact m (by omega)
 obtain⟨i,a,rfl⟩:=bC.1 h;obtain⟨j,o,rfl⟩:=bC.1 k;rw[b i a,b j o]
def cL:List (LV)->Ed
 |[]=>[]
 |h::r=>dx (bH h)++cL r
def dk (o:LV) (hs:List (LV)):Ed:=bH o++cL hs
theorem dZ {e:V2×V2}:∀{hs:List (LV)},e∈cL hs↔∃h∈hs,(e.2,e.1)∈bH h
 |[]=>by simp[cL]
 |h::r=>by simp only[cL,XN,XF,exists_eq_or_imp,dZ (hs:=r)];refine or_congr ?_ ZC;unfold dx;rw[XQ];exact⟨λ⟨x,a,e⟩=>by rw[<-e];exact a,λa=>⟨_,a,rfl⟩⟩
structure cJ (o:LV) (hs:List (LV)):Prop where
 outer:bk o
 ring:∀h∈hs,bk h
 off:∀h∈hs,qd (bH o) (bH h)
 Pq:∀h∈hs,∀e∈bH h,W (bH o) e.1=1
 pair:hs.Pairwise λh k=>qd (bH h) (bH k)/\(∀e∈bH k,W (bH h) e.1=0)/\∀e∈bH h,W (bH k) e.1=0
theorem eP (m:Int) (E:Ed):bD m (dx E)=dx (bD m E):=by
 unfold bD dx;rw[Yq,Yq];rfl
theorem s3 {hs:List (LV)} (i:∀h∈hs,bk h) (l:hs.Pairwise λh k=>qd (bH h) (bH k)/\(∀e∈bH k,W (bH h) e.1=0)/\∀e∈bH h,W (bH k) e.1=0) (m:Int) (f:0<m) (z:V2):
  W (bD m (cL hs)) z=0\/(W (bD m (cL hs)) z= -1/\∃h∈hs,W (bD m (bH h)) z=1):=by
 induction hs with
 |nil=>left;rfl
 |cons h r g=>
  have g:=g (λk c=>i k (by simp[c])) (YJ.1 l).2;have o:=(rf (i h (by simp))).sc f;simp only[cL];rw[ed,lO,eP,ja];rcases AL o.wu z with e|e;rw[e];rcases g with q|⟨q,k,c,p⟩;left;omega;right;exact⟨by omega,k,by simp[c],p⟩
  ·right;refine⟨?_,h,by simp,e⟩;rcases g with q|⟨q,k,c,p⟩;omega
   ·exfalso;obtain⟨t,u,w⟩:=(YJ.1 l).1 k c;have x:=(rf (i k (by simp[c]))).sc f;have:=P5 o x (t.sc f) (λb A=>by
     obtain⟨y,j,rfl⟩:=aK.1 A;simp only[kK f];exact u y j) (λa B=>by
     obtain⟨y,j,rfl⟩:=aK.1 B;simp only[kK f];exact w y j) z e
    omega
theorem cJ.wu {o:LV} {hs:List (LV)} (h:cJ o hs):nc (dk o hs) 0:=by
 intro m z a;unfold dk;rw[ed,lO];have f:=(rf h.outer).sc a;have l:=AL f.wu z;rcases s3 h.ring h.pair m a z with q|⟨q,k,c,g⟩;omega;have:=nested f ((rf (h.ring k c)).sc a) ((h.off k c).sc a) (λb i=>by obtain⟨y,j,rfl⟩:=aK.1 i;simp only[kK a];exact h.Pq k c y j) z g;omega
theorem OX {a b:V2} (h:NM a b a b):False:=h.a_ (cd a b)
theorem iU.app (c:iU E) (g:iU F) (h:qd E F):iU (E++F):=by
 refine⟨c.cV.app g.cV,?_,λe a=>?_,λe a b G B m u j k C D=>?_,λe a=>?_,λe a=>?_⟩;refine Y0.2 ⟨c.nodup,g.nodup,λe a f H q=>?_⟩;subst q;exact OX (h e a e H);rcases XN.1 a with q|q;exact c.nz e q;exact g.nz e q
 ·rcases XN.1 a with q|q<;>rcases XN.1 G with i|i
  ·exact c.one e q b i B m u j k C D
  ·exact(rn j (h e q b i)).sym.DG k
  ·exact(rn j (h b i e q)).DG k
  ·exact g.one e q b i B m u j k C D
 ·rcases XN.1 a with q|q;obtain⟨b,l,o,p,r⟩:=c.out e q;refine⟨b,by simp[l],o,p,λx t w A=>?_⟩;rcases XN.1 t with y|y;exact r x y w A;exact(h e q x y).a_;obtain⟨b,l,o,p,r⟩:=g.out e q;refine⟨b,by simp[l],o,p,λx t w A=>?_⟩;rcases XN.1 t with y|y;exact(h x y e q).p_;exact r x y w A
 ·rcases XN.1 a with q|q;obtain⟨x,y,z⟩:=c.qK e q;exact⟨x,by simp[y],z⟩;obtain⟨x,y,z⟩:=g.qK e q;exact⟨x,by simp[y],z⟩
variable {e:V2×V2}
theorem cw:e∈dx E↔(e.2,e.1)∈E:=by
 unfold dx;rw[XQ];exact⟨λ⟨x,a,q⟩=>by rw[<-q];exact a,λa=>⟨_,a,rfl⟩⟩
theorem nP {x:V2×V2} (h:(e.2,e.1)=(x.2,x.1)):e=x:=by
 obtain⟨a,b⟩:=e;obtain⟨c,d⟩:=x;simp only[Zq]at h|-;exact⟨h.2,h.1⟩
theorem iU.rev (c:iU E):iU (dx E):=by
 refine⟨c.cV.rev,?_,λe h=>(c.nz _ (cw.1 h)).symm,λe h M j y m u z A B C k=>?_,λe h=>?_,λe h=>?_⟩;unfold dx;rw[List.Nodup,ZE];exact c.nodup.imp (λ{a b} D q=>D (nP (by simpa using q)));exact c.one _ (cw.1 h) _ (cw.1 j) (λq=>y (nP q)) m u z (au.1 A) C B (au.1 k)
 ·have j:=cw.1 h;obtain⟨f,o,i⟩:=c.qK _ j;obtain⟨g,p,r,l,t⟩:=c.out f o;simp only at i;have F:f≠(e.2,e.1):=λq=>by rw[q]at i;exact c.nz _ j i
  have w:(e.2,e.1)=g:=(by refine Xz λq=>?_;refine t _ j (λG=>F G.symm) q ?_;rw[i];exact bE _ _);refine⟨(f.2,f.1),cw.2 o,i,?_,λx H I J k=>?_⟩;rw[<-w]at l;simp only at l|-;rw[i]at l;intro q;refine l ?_;simp only[ai,aa,af]at q|-;grind;have K:=cw.1 H;have:=t _ K (λq=>J (nP q)) (λq=>I (nP (by rw[q,<-w])));simp only[i]at this;exact this (au.1 k)
 ·obtain⟨g,p,r,_⟩:=c.out _ (cw.1 h);exact⟨(g.2,g.1),cw.2 p,r⟩
theorem iU.nil:iU []:={cV:= .nil,nodup:=WQ,nz:=by simp,one:=by simp,out:=by simp,qK:=by simp}
theorem Jq {hs:List (LV)} (f:∀h∈hs,bk h) (g:hs.Pairwise λh k=>qd (bH h) (bH k)/\(∀e∈bH k,W (bH h) e.1=0)/\∀e∈bH h,W (bH k) e.1=0):iU (cL hs):=by
 induction hs with
 |nil=>exact iU.nil
 |cons h r i=>refine(CA (f h (by simp))).rev.app (i (λk c=>f k (by simp[c])) (YJ.1 g).2) (λa j b l=>?_);obtain⟨k,c,m⟩:=dZ.1 l;exact((((YJ.1 g).1 k c).1 _ (cw.1 j) _ m).swap).rev
theorem cJ.oO {o:LV} {hs:List (LV)} (h:cJ o hs):iU (dk o hs):=by
 refine(CA h.outer).app (Jq h.ring h.pair) (λa c b f=>?_);obtain⟨k,g,i⟩:=dZ.1 f;exact(h.off k g a c _ i).swap
def dy (v:V2):V2:=⟨-v.y,v.x⟩
def mix (K:Int) (d t:V2):V2:=⟨K*d.x+t.x,K*d.y+t.y⟩
theorem eD (K:Int) (f d t:V2):aa f (mix K d t)=K*aa f d+aa f t:=by simp only[aa,mix];grind
theorem ec (K:Int) (f d t:V2):aa (mix K d t) f=K*aa d f+aa t f:=by simp only[aa,mix];grind
theorem Kz (x:Int):0<=x*x:=by rcases YI 0 x with q|q;exact XM q q;exact X7 q q
theorem cg {f:V2} (h:f≠⟨0,0⟩):0<ay f f:=by
 have a:=Kz f.x;have b:=Kz f.y;have:f.x*f.x≠0\/f.y*f.y≠0:=by refine Xz λc=>h ?_;exact V2.ext ((mz (show f.x*f.x=0 by omega)).elim id id) ((mz (show f.y*f.y=0 by omega)).elim id id)
 simp only[ay];omega
theorem pA (f:V2):aa f (dy f)=ay f f:=by simp only[aa,dy,ay];grind
theorem ia {f d e:V2} (h:aa f d=0):ay f f*aa d e=ay f d*aa f e:=by simp only[aa,ay]at h|-;grind
theorem di {f d:V2} (e:V2) (b:aa f d=0) (c:f≠⟨0,0⟩):(0<ay f d->(0<aa d e↔0<aa f e)/\(aa d e<0↔aa f e<0))/\(ay f d<0->(0<aa d e↔aa f e<0)/\(aa d e<0↔0<aa f e)):=by
 have k:=ia (e:=e) b;have g:=ct (aa d e) (cg c);rw[Yd,k]at g;refine⟨λh=>?_,λh=>?_⟩;have a:=ct (aa f e) h;rw[Yd]at a;omega;have a:=ct (aa f e) (show 0< -ay f d by omega);rw[YH,Yd]at a;omega
theorem gz (d:V2):aa ⟨0,0⟩ d=0:=by simp[aa]
theorem lp {f d:V2} (h:rk f d=3) (b:f≠⟨0,0⟩) (g:d≠⟨0,0⟩):aa f d=0/\0<ay f d:=by
 have c:=bq f d;refine⟨by omega,?_⟩;have a:aa f d=0:=by omega
 refine Xz λk=>g ?_;have e:ay f d=0:=by omega
 have p:=cg b;have i:ay f f*d.x=0:=by simp only[aa,ay]at a e|-;grind
 have j:ay f f*d.y=0:=by simp only[aa,ay]at a e|-;grind
 exact V2.ext ((mz i).resolve_left (by omega)) ((mz j).resolve_left (by omega))
variable {g:V2}
theorem Ax {f d:V2} (h:mO f g d) (i:rk f g≠3):f≠⟨0,0⟩/\d≠⟨0,0⟩/\rk f d≠3:=by
 have b:=bq f d;have j:=bq f g;have a:rk f d≠3:=by rcases h with h|h<;>omega
 refine⟨λe=>?_,λe=>?_,a⟩;rw[e]at b a;have:=gz d;have c:ay ⟨0,0⟩ d=0:=(by simp[ay]);omega;rw[e]at b a;have k:aa f ⟨0,0⟩=0:=(by simp[aa]);have c:ay f ⟨0,0⟩=0:=(by simp[ay]);omega
theorem gu {f d:V2}:mO f g d↔(0<aa f d/\(0<aa f g->0<aa d g))\/(aa f d=0/\ay f d<0/\(aa f g<0\/(aa f g=0/\0<=ay f g)\/(aa f g=0/\0<aa d g)))\/(aa f d<0/\((aa f g=0/\0<=ay f g)\/(aa f g<0/\0<aa d g))):=by
 have c1:=bq f d;have c2:=bq f g;unfold mO;rcases c1 with c1|c1|c1|c1<;>rcases c2 with c2|c2|c2|c2<;>omega
theorem vZ {f d:V2} (h:mO f g d) (k:rk f g≠3) (t:V2):Ev λK=>mO f g (mix K d t):=by
 obtain⟨l,_,_⟩:=Ax h k;have u:=bq f g;have o:¬(aa f g=0/\0<=ay f g):=by omega
 rw[gu]at h;rcases h with⟨a,m⟩|⟨a,m,b⟩|⟨a,b⟩;by_cases c:0<aa f g;refine((eo (aa f t) a).and (eo (aa t g) (m c))).imp λK ⟨i,j⟩=>gu.2 (.inl ?_);rw[eD,ec];exact⟨i,λ_=>j⟩;refine(eo (aa f t) a).imp λK i=>gu.2 (.inl ?_);rw[eD];exact⟨i,λq=>absurd q c⟩
 ·have w:=(di g a l).2 m;have k:aa f g<0:=(by rcases b with q|q|q;exact q;exact absurd q o;omega);have p:0<aa d g:=(by omega);refine(eo (aa t g) p).imp λK j=>?_;rw[gu,eD,ec,a,Yh,Zf];by_cases c:0<aa f t;exact .inl ⟨c,λq=>by omega⟩
  ·by_cases r:aa f t<0;exact .inr (.inr ⟨r,.inr ⟨k,j⟩⟩)
   ·refine .inr (.inl ⟨by omega,?_,.inl k⟩);have z:aa f (mix K d t)=0:=(by rw[eD,a];omega);have:=(di g z l);rw[ec]at this;have x:¬0<ay f (mix K d t):=λq=>by have:=(this.1 q).1;omega
    have y:ay f (mix K d t)≠0:=λq=>by have e:=ia (e:=g) z;rw[q,Yb,ec]at e;have:=(mz e).resolve_left (by have:=cg l;omega);omega
    omega
 ·have b:aa f g<0/\0<aa d g:=b.resolve_left o;refine((kG (aa f t) a).and (eo (aa t g) b.2)).imp λK ⟨i,j⟩=>gu.2 (.inr (.inr ?_));rw[eD,ec];exact⟨i,.inr ⟨b.1,j⟩⟩
theorem jj {f d t:V2} (p:rk f g≠3) (b:f≠⟨0,0⟩) (j:d≠⟨0,0⟩) (h:rk f d=3) (l:0<aa d t):Ev λK=>mO f g (mix K d t):=by
 obtain⟨a,i⟩:=lp h b j;have m:=((di t a b).1 i).1;have o:=(di g a b).1 i;have r:0<aa f t:=m.1 l;by_cases c:0<aa f g;refine(eo (aa t g) (o.1.2 c)).imp λK k=>gu.2 (.inl ?_);rw[eD,ec,a];exact⟨by omega,λ_=>k⟩;refine .of λK=>gu.2 (.inl ?_);rw[eD,a];exact⟨by omega,λq=>absurd q c⟩
theorem v7 {f d t:V2} (w:rk f g≠3) (l:f≠⟨0,0⟩) (b:g≠⟨0,0⟩) (m:d≠⟨0,0⟩) (h:rk g d=3) (o:aa d t<0):Ev λK=>mO f g (mix K d t):=by
 obtain⟨c,i⟩:=lp h b m;have p:=((di t c b).1 i).2;have x:=(di f c b).1 i;have y:aa g t<0:=p.1 o;have z:=aQ g t;have A:=aQ d f;have B:=aQ g f;have r:=aQ g d;have a:=bq f g;have j:∀K:Int,aa (mix K d t) g=aa t g:=λK=>by rw[ec,r,c];simp
 rcases a with a|a|a|a;refine(eo (aa f t) (show 0<aa f d by omega)).imp λK k=>gu.2 (.inl ?_);rw[eD,j];exact⟨k,λ_=>by omega⟩;refine(kG (aa f t) (show aa f d<0 by omega)).imp λK k=>gu.2 (.inr (.inr ?_));rw[eD,j];exact⟨k,.inr ⟨a.2,by omega⟩⟩
 ·
  have C:=(di t a.2.1 l).2 a.2.2;refine .of λK=>gu.2 (.inl ?_);have u:aa f d=0:=(by omega);rw[eD,u];exact⟨by omega,λq=>by omega⟩
 ·omega
theorem KK {f:V2} (b:rk f g≠3) (a:f≠⟨0,0⟩):∃s,mO f g s:=by
 have i:rk f f=3:=by have c:=bq f f;have j:aa f f=0:=(by simp only[aa];grind);have:=cg a;omega
 obtain⟨K,_,h⟩:=(jj (t:=dy f) b a a i (by rw[pA];exact cg a)).ex 0;exact⟨_,h⟩
theorem uU {f:V2} (a:f≠⟨0,0⟩):rk f f=3:=by
 have c:=bq f f;have b:aa f f=0:=by simp only[aa];grind
 have:=cg a;omega
def lQ (f1 g1 f2 g2:V2):Prop:=rk f1 f2=3\/mO f1 g1 f2\/mO f2 g2 f1
variable {s:V2}
theorem sy {f d:V2} (h:mO f g s) (k:mO f s d):mO f g d:=by
 have A:=bq f s;have B:=bq f d;have C:=bq f g;have m:0<aa f d/\0<aa f s/\0<aa f g\/aa f d<0/\aa f s<0/\aa f g<0->0<aa d s->0<aa s g->0<aa d g:=by intro o j l;have id:aa f s*aa d g=aa f d*aa s g+aa f g*aa d s:=(by simp only[aa];grind);rcases o with⟨a,b,c⟩|⟨a,b,c⟩;have r:=XC a l;have t:=XC c j;exact(ct (aa d g) b|>λp=>by refine Y3.1 λq=>?_;have:=XI (XO b) q;omega);have r:=X2 a l;have t:=X2 c j;refine Y3.1 λq=>?_;have:=X7 (XO b) q;omega
 unfold mO at*;rcases h with h|⟨D,E,u⟩;rcases k with k|⟨w,_⟩;exact .inl (by omega);exact .inl (by omega)
 ·rcases k with k|⟨w,F,x⟩;exact .inl (by omega)
  ·refine .inr ⟨by omega,by omega,?_⟩;by_cases c:rk f s=1
   ·exfalso;have G:aa f s=0:=(by omega);have y:aa f d=0:=(by omega);have i:ay f d<0:=(by omega);have z:f≠⟨0,0⟩:=λe=>by rw[e]at i;simp[ay]at i
    have:=((di s y z).2 i).1;omega
   ·exact m (by omega) x u
variable {f1 f2:V2}
theorem Ci (a:f1≠⟨0,0⟩) (h2:f2≠⟨0,0⟩) (hs:s≠⟨0,0⟩) (k:rk f1 s≠3) (l:rk f2 s≠3):rk f1 f2=3\/mO f1 s f2\/mO f2 s f1:=by
 have m:=aQ f1 f2;have c1:=bq f1 s;have c2:=bq f1 f2;have p:=bq f2 f1;have q:=bq f2 s;have r:ay f2 f1=ay f1 f2:=by simp only[ay];grind
 have g:rk f1 f2=1->_:=λh=>(di s (show aa f1 f2=0 by omega) a).2 (by omega);have c:rk f1 s=1->_:=λh=>(di f2 (show aa f1 s=0 by omega) a).2 (by omega);have t:=aQ s f2;have f:aa f2 s=0->0<aa f1 f2/\0<aa f1 s\/aa f1 f2<0/\aa f1 s<0->False:=λz u=>by have b:ay f2 s<0:=(by omega);have:=(di f1 z h2).2 b;have w:=aQ f1 s;omega
 unfold mO;rcases c2 with c2|c2|c2|c2;rcases c1 with c1|c1|c1|c1;by_cases z:0<aa f2 s;right;left;right;exact⟨by omega,by omega,z⟩;have:aa f2 s≠0:=λz=>f z (.inl ⟨c2.2,c1.2⟩);right;right;right;exact⟨by omega,by omega,c1.2⟩;right;left;left;omega;right;left;left;omega;omega;rcases c1 with c1|c1|c1|c1;right;right;by_cases z:0<aa f2 s;right;exact⟨by omega,by omega,c1.2⟩;left;omega;by_cases z:0<aa f2 s;right;left;right;exact⟨by omega,by omega,z⟩;have:aa f2 s≠0:=λz=>f z (.inr ⟨c2.2,c1.2⟩);right;right;left;omega;right;right;left;have:=c c1.1;omega;omega;have o:=g c2.1;rcases c1 with c1|c1|c1|c1;right;right;left;omega;right;left;left;omega;exfalso;have x:=c c1.1;have z:aa f2 s=0:=(by omega);have b:ay f2 s<0:=(by omega);have id:ay f1 f1*ay f2 s=ay f1 f2*ay f1 s:=(by have i:aa f1 f2=0:=(by omega);have j:aa f1 s=0:=(by omega);simp only[aa,ay]at i j|-;grind);have y:=Zl (show ay f1 f2<0 by omega) (show ay f1 s<0 by omega);have A:=Ya (cg a) b;omega;omega;left;exact c2.1
variable {g1 g2:V2}
theorem C5 (b:rk f1 g1≠3) (c:rk f2 g2≠3) (a:mO f1 g1 s) (h2:mO f2 g2 s):lQ f1 g1 f2 g2:=by
 obtain⟨f,g,i⟩:=Ax a b;obtain⟨j,_,k⟩:=Ax h2 c;rcases Ci f j g i k with h|h|h;exact .inl h;exact .inr (.inl (sy a h));exact .inr (.inr (sy h2 h))
theorem LS (g:rk f1 g1≠3) (i:rk f2 g2≠3) (f:f1≠⟨0,0⟩) (c:f2≠⟨0,0⟩) (h:lQ f1 g1 f2 g2):∃s,mO f1 g1 s/\mO f2 g2 s:=by
 have j:0<aa f2 (dy f2):=by rw[pA];exact cg c
 have k:0<aa f1 (dy f1):=by rw[pA];exact cg f
 rcases h with h|h|h;obtain⟨K,_,a,b⟩:=((jj (t:=dy f2) g f c h j).and (jj (t:=dy f2) i c c (uU c) j)).ex 0;exact⟨_,a,b⟩;obtain⟨K,_,a,b⟩:=((vZ h g (dy f2)).and (jj (t:=dy f2) i c c (uU c) j)).ex 0;exact⟨_,a,b⟩;obtain⟨K,_,a,b⟩:=((jj (t:=dy f1) g f f (uU f) k).and (vZ h i (dy f1))).ex 0;exact⟨_,a,b⟩
theorem sz {f:V2} (i:f≠⟨0,0⟩) (l:g≠⟨0,0⟩) (hs:s≠⟨0,0⟩) (r:rk f g≠3) (t:rk f s≠3) (h2:rk g s≠3) (h:¬mO f g s):mO g f s:=by
 have m:rk s f≠3:=λq=>by have c:=bq f s;have u:=bq s f;have w:=aQ f s;have:ay s f=ay f s:=(by simp only[ay];grind);omega
 have o:rk g f≠3:=λq=>by have c:=bq f g;have u:=bq g f;have w:=aQ f g;have:ay g f=ay f g:=(by simp only[ay];grind);omega
 rcases Ci (f1:=g) (f2:=s) (s:=f) l hs i o m with q|q|q;exact absurd q h2;exact q;(exfalso;refine h ?_;have j:=aQ f s;have k:=aQ f g;have x:=aQ s g;have p:ay s f=ay f s:=(by simp only[ay];grind);have E:¬(aa f s=0/\0<=ay f s):=(by have y:=bq f s;omega);have F:¬(aa f g=0/\0<=ay f g):=(by have y:=bq f g;omega);have G:¬(aa f s=0/\ay f s<0)\/((0<aa s g↔aa f g<0)/\(aa s g<0↔0<aa f g)):=(by by_cases z:aa f s=0/\ay f s<0;exact .inr ((di g z.1 i).2 z.2);exact .inl z);have A:¬(aa s g=0/\ay s g<0)\/(0<aa g f↔aa s f<0):=(by by_cases z:aa s g=0/\ay s g<0;exact .inr ((di f z.1 hs).2 z.2).1;exact .inl z);rw[gu]at q|-;rw[p,j]at q;rw[j,k]at A;rw[k]at q;clear t h2 m o r h j k x p i l hs;generalize aa f s=B at*;generalize aa f g=C at*;generalize aa s g=D at*;generalize ay f s=H at*;generalize ay f g=I at*;generalize ay s g=J at*;rcases YF B 0 with a|a|a<;>rcases YF C 0 with b|b|b<;>rcases YF D 0 with c|c|c<;>omega)
def Cn (E:Ed) (u f g:V2):Prop:=(∃e∈E,∃a∈E,e.1=u/\a.2=u/\f=af e.2 u/\g=af a.1 u)\/(∃e∈E,aV e.1 e.2 u/\u≠e.1/\u≠e.2/\f=af e.2 u/\g=af e.1 u)
theorem cj (u v:V2):ak u (af v u)=v:=V2.ext (by simp only[ak,af];omega) (by simp only[ak,af];omega)
variable {u:V2}
theorem df {v:V2} (h:v≠u):af v u≠⟨0,0⟩:=λe=>h (by rw[<-cj u v,e];simp[ak])
variable {a:V2}
theorem M9 {b z:V2} (h:a.y<=b.y):cq (af a z) (af b z)=if a.y<=z.y/\z.y<b.y/\0<ai a b z then 1 else 0:=by
 unfold cq;rw[iG];simp only[af];repeat' split
 all_goals omega
theorem DL {b:V2} (h:aV a b u) (z:V2):cq (af a z) (af b z)=cq (af a z) (af u z)+cq (af u z) (af b z):=by
 have m:∀{a b u:V2},aV a b u->a.y<=b.y->cq (af a z) (af b z)=cq (af a z) (af u z)+cq (af u z) (af b z):=by
  intro a b u h y;obtain⟨l,A,B,C,D⟩:=h;have o:(b.y-a.y)*ai a u z=(u.y-a.y)*ai a b z:=(by simp only[ai,aa,af]at l|-;grind);have p:(b.y-a.y)*ai u b z=(b.y-u.y)*ai a b z:=(by simp only[ai,aa,af]at l|-;grind);rw[M9 y,M9 (show a.y<=u.y by omega),M9 (show u.y<=b.y by omega)];by_cases c:a.y<b.y
  ·have i:=ct (ai a u z) (show 0<b.y-a.y by omega);have j:=ct (ai u b z) (show 0<b.y-a.y by omega);have f:=λk=>ct (ai a b z) (show 0<u.y-a.y from k);have g:=λk=>ct (ai a b z) (show 0<b.y-u.y from k);rw[Yd]at i j;rw[o]at i;rw[p]at j;simp only[Yd (ai a b z)]at f g;generalize (u.y-a.y)*ai a b z=E at*;generalize (b.y-u.y)*ai a b z=F at*;generalize ai a b z=t at*;generalize ai a u z=q at*;generalize ai u b z=r at*;clear o p l A B;by_cases w:0<u.y-a.y<;>by_cases x:0<b.y-u.y
   ·have f:=f w;have g:=g x;have e1:0<q↔0<t:=(by omega);have e2:0<r↔0<t:=(by omega);clear i j f g;repeat' split
    all_goals omega
   ·have f:=f w;clear g;have e1:0<q↔0<t:=(by omega);clear i j f;repeat' split
    all_goals omega
   ·have g:=g x;clear f;have e2:0<r↔0<t:=(by omega);clear i j g;repeat' split
    all_goals omega
   ·omega
  ·rw[iN,iN,iN];rfl
 rcases YI a.y b.y with c|c;exact m h c;have:=m (au.2 h) c;rw[dc (af a z) (af b z),dc (af u z) (af b z),dc (af a z) (af u z)]at this;omega
variable {E:Ed} {m:Int}
theorem iU.sc (h:iU E) (c:0<m):iU (bD m E):=by
 have r:∀{e x:V2×V2},(ag m e.1,ag m e.2)=(ag m x.1,ag m x.2)->e=x:=λ{e x} q=>by simp only[Zq]at q;exact WE (gS c q.1) (gS c q.2)
 refine⟨h.cV.sc m,?_,λe f=>?_,λe f J w z n u A l o p=>?_,λe f=>?_,λe f=>?_⟩;unfold bD;rw[List.Nodup,ZE];exact h.nodup.imp (λ{a b} B q=>B (r q));obtain⟨x,g,rfl⟩:=aK.1 f;exact λq=>h.nz x g (gS c q);obtain⟨x,g,rfl⟩:=aK.1 f;obtain⟨y,i,rfl⟩:=aK.1 w;simp only[gR]at l o p|-;exact h.one x g y i (λq=>z (by rw[q])) _ u (nH A c) l o p;obtain⟨x,g,rfl⟩:=aK.1 f;obtain⟨y,i,j,C,D⟩:=h.out x g;refine⟨_,aK.2 ⟨y,i,rfl⟩,by simp only[j],λq=>C ?_,λK F G H=>?_⟩;rw[bZ]at q;exact(mz q).resolve_left (by have:=XC c c;omega);obtain⟨t,I,rfl⟩:=aK.1 F;exact λk=>D t I (λq=>G (by rw[q])) (λq=>H (by rw[q])) ((gW c).1 k);obtain⟨x,g,rfl⟩:=aK.1 f;obtain⟨y,i,j⟩:=h.qK x g;exact⟨_,aK.2 ⟨y,i,rfl⟩,by simp only[j]⟩
variable {k:Int}
theorem nc.sc (h:nc E k) (a:0<m):nc (bD m E) k:=λn z b=>by
 rw[eO];exact h _ z (nH b a)
theorem nc.rev (h:nc E k):nc (dx E) (1-k):=λn z a=>by
 have:=h n z a;rw[eP,ja];omega
theorem xQ (e:V2×V2) (E:Ed) (z:V2):W (e::E) z=cq (af e.1 z) (af e.2 z)+W E z:=rfl
theorem iz (c:0<m) {b:V2} (h:aV a b u):aV (ag m a) (ag m b) (ag m u):=(gW c).2 h
variable {g:V2}
theorem iU.fZ (h:iU E) {f:V2} (D:Cn E u f g):NP E u f g/\rk f g≠3/\f≠⟨0,0⟩/\g≠⟨0,0⟩:=by
 rcases D with⟨e,j,a,t,l,i,rfl,rfl⟩|⟨e,j,w,l,i,rfl,rfl⟩
 ·obtain⟨e1,J,K,F,y⟩:=h.out e j;have G:a=e1:=(by refine Xz λq=>?_;refine y a t (λk=>h.nz a t ?_) q ?_;rw[i,k,l];rw[l,<-i];exact bE _ _);subst G;subst l;have H:a≠e:=λk=>h.nz e j (by rw[<-k];rw[k]at i;rw[k];exact i.symm);obtain⟨b,p0⟩:∃b:Ed,b=(E.erase a).erase e:=⟨_,rfl⟩;have o:E.Perm (a::e::b):=(by rw[p0];exact(Wz t).trans ((Wz ((Xw (Zr H)).2 j)).cons _));have A:a.1≠e.1:=λk=>h.nz a t (k.trans i.symm);refine⟨⟨b,λm z B=>?_,?_,λx p=>?_⟩,λk=>?_,df (h.nz e j).symm,df A⟩;rw[cj,cj];have:(a.1,e.1)=a:=(by rw[<-i]);rw[this];exact jT (o.map _) z;rw[cj,cj];have:(a.1,e.1)=a:=(by rw[<-i]);rw[this];exact h.cV.perm o;rw[p0]at p;have I:(E.erase a).Nodup:=h.nodup.erase _;have C:=(I.mem_erase_iff).1 p;have r:=(h.nodup.mem_erase_iff).1 C.2;exact y x r.2 C.1 r.1;obtain⟨z,_⟩:=lp k (df (h.nz e j).symm) (df A);refine F ?_;simp only[ai,aa,af]at z|-;grind
 ·obtain⟨b,p0⟩:∃b:Ed,b=E.erase e:=⟨_,rfl⟩;have o:E.Perm (e::b):=(by rw[p0];exact Wz j);refine⟨⟨b,λm z B=>?_,?_,λx p=>?_⟩,λk=>?_,df (Zr i),df (Zr l)⟩;rw[cj,cj];have e1:W (bD m E) z=W (bD m (e::b)) z:=jT (o.map _) z;rw[e1];show cq (af (ag m e.1) z) (af (ag m e.2) z)+W (bD m b) z=cq (af (ag m e.1) z) (af (ag m u) z)+(cq (af (ag m u) z) (af (ag m e.2) z)+W (bD m b) z);rw[DL (iz B w) z];omega;rw[cj,cj];have:=h.cV.perm o;unfold mT at this|-;simp only[Yg]at this|-;exact(List.Perm.swap u e.1 _).trans (this.cons u)
  ·rw[p0]at p;have r:=(h.nodup.mem_erase_iff).1 p;have:=h.one e j x r.2 (Zr r.1) 1 u (by decide) (by rw[bt,bt];exact w) (by rw[bt];exact l) (by rw[bt];exact i)
   rwa [bt,bt]at this
  ·obtain⟨z,d⟩:=lp k (df (Zr i)) (df (Zr l));obtain⟨_,M,N,O,P⟩:=w;simp only[ay,af]at d;have Q:(e.2.x-u.x)*(e.1.x-u.x)<=0:=(by rcases YI u.x e.1.x with q|q;by_cases c:e.1.x=u.x;rw[c];simp;exact YD (by omega) (by omega);by_cases c:e.1.x=u.x;rw[c];simp;exact XI (by omega) (by omega));have R:(e.2.y-u.y)*(e.1.y-u.y)<=0:=(by rcases YI u.y e.1.y with q|q;by_cases c:e.1.y=u.y;rw[c];simp;exact YD (by omega) (by omega);by_cases c:e.1.y=u.y;rw[c];simp;exact XI (by omega) (by omega));omega
theorem NP.rev {f:V2} (h:NP E u f g):NP (dx E) u g f:=by
 obtain⟨a,b,c,i⟩:=h;have e:dx ((ak u g,u)::(u,ak u f)::a)=(u,ak u g)::(ak u f,u)::dx a:=rfl;have p:((u,ak u g)::(ak u f,u)::dx a).Perm ((ak u f,u)::(u,ak u g)::dx a):=List.Perm.swap _ _ _;refine⟨dx a,λm z j=>?_,?_,λx l k=>i _ (cw.1 l) (au.1 k)⟩;rw[eP,ja,b m z j,<-ja,<-eP,e];exact jT (p.map _) z;have:=c.rev;rw[e]at this;exact this.perm p
def Comm (E1:Ed) (k1:Int) (E2:Ed) (k2:Int):Prop:=∃(m:Int) (z:V2),0<m/\W (bD m E1) z+k1=1/\W (bD m E2) z+k2=1
variable {E1 E2:Ed} {k1 k2:Int}
theorem Comm.swap (h:Comm E1 k1 E2 k2):Comm E2 k2 E1 k1:=by
 obtain⟨m,z,c,a,b⟩:=h;exact⟨m,z,c,b,a⟩
theorem Comm.Vf (c:0<m) (h:Comm (bD m E1) k1 (bD m E2) k2):Comm E1 k1 E2 k2:=by
 obtain⟨n,z,f,a,b⟩:=h;rw[eO]at a b;exact⟨_,z,nH f c,a,b⟩
variable {f2 g2 s:V2} {e1 e2:V2×V2}
section
variable {E1 E2:Ed} {k1 k2:Int}
theorem BG {f1 c:V2} (c1:NP E1 u f1 c) (c2:NP E2 u f2 g2) (f:nc E1 k1) (g:nc E2 k2) (h:rk f1 c≠3) (i:rk f2 g2≠3) (j:mO f1 c s) (h2:mO f2 g2 s):Comm E1 k1 E2 k2:=by
 obtain⟨n,k,a,b⟩:=((c1.inside f h j).and (c2.inside g i h2)).ex 1;exact⟨n,_,by omega,a,b⟩
theorem Na (c1:mT E1) (f:∀e∈E1,¬aV e.1 e.2 u) (hw:W E1 u+k1=1) (c2:NP E2 u f2 g2) (g:nc E2 k2) (c:rk f2 g2≠3) (h:f2≠⟨0,0⟩):Comm E1 k1 E2 k2:=by
 obtain⟨s,i⟩:=KK c h;obtain⟨n,j,a,b⟩:=((SC c1 s f).and (c2.inside g c i)).ex 1;exact⟨n,_,by omega,by rw[a];exact hw,b⟩
def kN (e1 e2:V2×V2):Prop:=((0<ai e2.1 e2.2 e1.1/\ai e2.1 e2.2 e1.2<0)\/(ai e2.1 e2.2 e1.1<0/\0<ai e2.1 e2.2 e1.2))/\((0<ai e1.1 e1.2 e2.1/\ai e1.1 e1.2 e2.2<0)\/(ai e1.1 e1.2 e2.1<0/\0<ai e1.1 e1.2 e2.2))
theorem kN.sym (h:kN e1 e2):kN e2 e1:=⟨h.2,h.1⟩
theorem ml {b:V2} {x y:Int} (r:0<x) (t:0<y) (i:a≠b) (f:u.x=x*a.x+y*b.x) (h2:u.y=x*a.y+y*b.y):
  aV (ag (x+y) a) (ag (x+y) b) u/\u≠ag (x+y) a/\u≠ag (x+y) b:=by
 have m:∀p q:Int,((x+y)*p<=x*p+y*q\/(x+y)*q<=x*p+y*q)/\(x*p+y*q<=(x+y)*p\/x*p+y*q<=(x+y)*q):=λp q=>by rw[aav,aav];rcases YI p q with c|c;have l:=XT c (show 0<=y by omega);have o:=XT c (show 0<=x by omega);omega;have l:=XT c (show 0<=y by omega);have o:=XT c (show 0<=x by omega);omega
 have j:=m a.x b.x;have k:=m a.y b.y;refine⟨⟨?_,?_,?_,?_,?_⟩,λe=>i ?_,λe=>i ?_⟩;simp only[ai,aa,af,ag];rw[f,h2];grind;simp only[ag];rw[f];exact j.1;simp only[ag];rw[f];exact j.2;simp only[ag];rw[h2];exact k.1;simp only[ag];rw[h2];exact k.2;rw[e]at f h2;simp only[ag]at f h2;have g:y*(b.x-a.x)=0:=(by grind);have h:y*(b.y-a.y)=0:=(by grind);have:=(mz g).resolve_left (by omega);have:=(mz h).resolve_left (by omega);exact V2.ext (by omega) (by omega);rw[e]at f h2;simp only[ag]at f h2;have g:x*(b.x-a.x)=0:=(by grind);have h:x*(b.y-a.y)=0:=(by grind);have:=(mz g).resolve_left (by omega);have:=(mz h).resolve_left (by omega);exact V2.ext (by omega) (by omega)
theorem ti (h:kN e1 e2):∃(m:Int) (u:V2),0<m/\(aV (ag m e1.1) (ag m e1.2) u/\u≠ag m e1.1/\u≠ag m e1.2)/\(aV (ag m e2.1) (ag m e2.2) u/\u≠ag m e2.1/\u≠ag m e2.2):=by
 obtain⟨a,b⟩:=e1;obtain⟨p,q⟩:=e2;unfold kN at h;simp only at h;have j:a≠b:=λe=>by rw[e]at h;omega
 have k:p≠q:=λe=>by rw[e]at h;omega
 have s:ai p q b-ai p q a=ai a b p-ai a b q:=by simp only[ai,aa,af];grind
 have o:ai p q b*a.x-ai p q a*b.x=ai a b p*q.x-ai a b q*p.x:=by simp only[ai,aa,af];grind
 have r:ai p q b*a.y-ai p q a*b.y=ai a b p*q.y-ai a b q*p.y:=by simp only[ai,aa,af];grind
 rcases Int.lt_or_le 0 (ai p q b)with c|c;have f:0< -ai p q a:=(by omega);have g:0< -ai a b q:=(by omega);have i:0<ai a b p:=(by omega);refine⟨ai p q b+ -ai p q a,⟨ai p q b*a.x+ -ai p q a*b.x,ai p q b*a.y+ -ai p q a*b.y⟩,by omega,ml c f j rfl rfl,?_⟩;have:=ml (u:=⟨ai p q b*a.x+ -ai p q a*b.x,ai p q b*a.y+ -ai p q a*b.y⟩) g i k (by simp only;grind) (by simp only;grind);rw[show-ai a b q+ai a b p=ai p q b+ -ai p q a by omega]at this;exact this;have l:0< -ai p q b:=(by omega);have f:0<ai p q a:=(by omega);have g:0<ai a b q:=(by omega);have i:0< -ai a b p:=(by omega);refine⟨-ai p q b+ai p q a,⟨-ai p q b*a.x+ai p q a*b.x,-ai p q b*a.y+ai p q a*b.y⟩,by omega,ml l f j rfl rfl,?_⟩;have:=ml (u:=⟨-ai p q b*a.x+ai p q a*b.x,-ai p q b*a.y+ai p q a*b.y⟩) g i k (by simp only;grind) (by simp only;grind);rw[show ai a b q+ -ai a b p= -ai p q b+ai p q a by omega]at this;exact this
theorem q9 {b:V2} (i:aV a b u) (j:u≠a) (h2:u≠b):mO (af b u) (af a u) s↔0<aa (af b u) s:=by
 have z:aa (af b u) (af a u)=0:=by have:=i.1;simp only[ai,aa,af]at this|-;grind
 have d:ay (af b u) (af a u)<0:=by obtain⟨_,m,o,p,r⟩:=i;have t:u.x≠a.x\/u.y≠a.y:=(by refine Xz λq=>j (V2.ext (by omega) (by omega)));have w:u.x≠b.x\/u.y≠b.y:=(by refine Xz λq=>h2 (V2.ext (by omega) (by omega)));have x:=cg (df (Zr j));have f2:=cg (df (Zr h2));refine Xz λy=>?_;have A:(b.x-u.x)*(a.x-u.x)<=0:=(by rcases YI u.x a.x with q|q;by_cases c:a.x=u.x;rw[c];simp;exact YD (by omega) (by omega);by_cases c:a.x=u.x;rw[c];simp;exact XI (by omega) (by omega));have B:(b.y-u.y)*(a.y-u.y)<=0:=(by rcases YI u.y a.y with q|q;by_cases c:a.y=u.y;rw[c];simp;exact YD (by omega) (by omega);by_cases c:a.y=u.y;rw[c];simp;exact XI (by omega) (by omega));have k:ay (af b u) (af a u)=0:=(by have:ay (af b u) (af a u)=(b.x-u.x)*(a.x-u.x)+(b.y-u.y)*(a.y-u.y):=rfl;omega);have e1:ay (af b u) (af b u)*ay (af a u) (af a u)=0:=(by have:ay (af b u) (af b u)*ay (af a u) (af a u)=ay (af b u) (af a u)*ay (af b u) (af a u)+aa (af b u) (af a u)*aa (af b u) (af a u):=(by simp only[ay,aa];grind);rw[this,k,z];rfl);rcases mz e1 with q|q<;>omega
 rw[gu];constructor;intro h;rcases h with h|⟨l,C,g⟩|⟨l,g⟩;exact h.1;exfalso;rcases g with g|g|g;omega;omega;have:=(di (f:=af b u) (d:=af a u) s z (df (Zr h2))).2 d;have D:=aQ s (af a u);omega;omega;intro h;exact .inl ⟨h,λq=>by omega⟩
theorem JB (C:iU E1) (D:iU E2) (q:nc E1 k1) (r:nc E2 k2) (E:e1∈E1) (h2:e2∈E2) (h:kN e1 e2):Comm E1 k1 E2 k2:=by
 obtain⟨m,u,b,⟨j,w,k⟩,l,x,o⟩:=ti h;refine Comm.Vf b ?_;have g:=(C.sc b).fZ (u:=u) (.inr ⟨_,aK.2 ⟨e1,E,rfl⟩,j,w,k,rfl,rfl⟩);have i:=(D.sc b).fZ (u:=u) (.inr ⟨_,aK.2 ⟨e2,h2,rfl⟩,l,x,o,rfl,rfl⟩);simp only at g i;have F:aa (af (ag m e1.2) u) (af (ag m e2.2) u)≠0:=λz=>by have G:=j.1;have y:=l.1;have k1:af (ag m e1.2) u≠⟨0,0⟩:=df (Zr k);have k2:af (ag m e2.2) u≠⟨0,0⟩:=df (Zr o);have H:aa (af (ag m e2.2) u) (af (ag m e2.1) u)=0:=(by simp only[ai,aa,af]at y|-;grind);have I:aa (af (ag m e1.2) u) (af (ag m e1.1) u)=0:=(by simp only[ai,aa,af]at G|-;grind);have zz:aa (af (ag m e2.2) u) (af (ag m e1.2) u)=0:=(by rw[aQ,z];rfl);have J:=ia (f:=af (ag m e2.2) u) (d:=af (ag m e1.2) u) (e:=af (ag m e1.1) u) zz;rw[I,Yh]at J;have t:ai (ag m e2.1) (ag m e2.2) (ag m e1.2)=0:=(by have p:=ia (f:=af (ag m e2.2) u) (d:=af (ag m e2.1) u) (e:=af (ag m e1.2) u) H;rw[zz,Yh]at p;have p:=(mz p).resolve_left (by have:=cg k2;omega);simp only[ai,aa,af]at p zz y|-;grind);rw[bZ]at t;have:=(mz t).resolve_left (by have:=XC b b;omega);unfold kN at h;omega
 have A:=λs=>(q9 (s:=s) j w k).2;have B:=λs=>(q9 (s:=s) l x o).2;generalize af (ag m e1.2) u=a at*;generalize af (ag m e2.2) u=f2 at*;rcases Yi F with c|c;refine BG (s:=af a f2) g.1 i.1 (q.sc b) (r.sc b) g.2.1 i.2.1 (A _ ?_) (B _ ?_);have:aa a (af a f2)= -aa a f2:=(by simp only[aa,af];grind);omega;have:aa f2 (af a f2)= -aa a f2:=(by simp only[aa,af];grind);omega;refine BG (s:=af f2 a) g.1 i.1 (q.sc b) (r.sc b) g.2.1 i.2.1 (A _ ?_) (B _ ?_);have:aa a (af f2 a)=aa a f2:=(by simp only[aa,af];grind);omega;have:aa f2 (af f2 a)=aa a f2:=(by simp only[aa,af];grind);omega
def JM (E1:Ed) (k1:Int) (E2:Ed) (k2:Int):Prop:=
 (∃e1∈E1,∃e2∈E2,kN e1 e2)\/(∃e∈E1,(∀y∈E2,¬aV y.1 y.2 e.1)/\W E2 e.1+k2=1)\/(∃e∈E2,(∀x∈E1,¬aV x.1 x.2 e.1)/\W E1 e.1+k1=1)\/
 (∃u a b f2 g2,((∃e∈E1,e.1=u)\/(∃e∈E2,e.1=u))/\Cn E1 u a b/\Cn E2 u f2 g2/\lQ a b f2 g2)
theorem iU.kU (s:iU E) {e:V2×V2} (h:e∈E):∃f g,Cn E e.1 f g:=by
 obtain⟨a,b,c,_⟩:=s.out e h;exact⟨_,_,.inl ⟨e,h,a,b,rfl,c,rfl,rfl⟩⟩
theorem FT (i:iU E1) (j:iU E2) (p:nc E1 k1) (q:nc E2 k2) (h:JM E1 k1 E2 k2):Comm E1 k1 E2 k2:=by
 rcases h with⟨e1,k,e2,l,h⟩|⟨e,r,k,l⟩|⟨e,r,k,l⟩|⟨u,C,D,f2,g2,_,x,y,z⟩;exact JB i j p q k l h;obtain⟨f,g,t⟩:=i.kU r;obtain⟨m,c,o,_⟩:=i.fZ t;exact(Na j.cV k l m p c o).swap;obtain⟨f,g,t⟩:=j.kU r;obtain⟨m,c,o,_⟩:=j.fZ t;exact Na i.cV k l m q c o;obtain⟨A,w,B,_⟩:=i.fZ x;obtain⟨m,c,o,_⟩:=j.fZ y;obtain⟨s,a,b⟩:=LS w c B o z;exact BG A m p q w c a b
end
variable {E:Ed} {u:V2}
theorem I8 (s:iU E) (h:∃e∈E,aV e.1 e.2 u):∃f g,Cn E u f g:=by
 obtain⟨e,a,i⟩:=h;by_cases b:u=e.1;subst b;exact s.kU a;by_cases c:u=e.2;obtain⟨l,j,k⟩:=s.qK e a;rw[c,<-k];exact s.kU j;exact⟨_,_,.inr ⟨e,a,i,b,c,rfl,rfl⟩⟩
variable {g:V2}
theorem rb {f:V2} (h:rk f g≠3):rk g f≠3:=λq=>by
 have c:=bq f g;have a:=bq g f;have b:=aQ f g;have:ay g f=ay f g:=by simp only[ay];grind
 omega
theorem RL {f s:V2} (h:rk f s=3) (i:f≠⟨0,0⟩) (hs:s≠⟨0,0⟩):Ev λn=>aV (ag n u) (ag n (ak u f)) (nr n u s):=by
 obtain⟨g,j⟩:=lp h i hs;have k:=cg i;have ex:s.x*ay f f=f.x*ay f s:=by simp only[aa,ay]at g|-;grind
 have l:s.y*ay f f=f.y*ay f s:=by simp only[aa,ay]at g|-;grind
 have o:=ct s.x k;have p:=ct s.y k;have x:=ct f.x j;have y:=ct f.y j;rw[ex]at o;rw[l]at p;refine(Ev.ge (s.x.natAbs+s.y.natAbs+1)).imp λn z=>?_;have m:∀a b:Int,(0<a->0<b)->(a<0->b<0)->a.natAbs<=n->(0<=a->a<=n*b\/a=0)/\(a<=0->n*b<=a\/a=0):=λa b r t A=>by refine⟨λq=>?_,λq=>?_⟩;by_cases c:a=0;exact .inr c;have:=XT (show 1<=b by have:=r (by omega);omega) (show 0<=(n:Int) by omega);rw[ZY]at this;left;omega;by_cases c:a=0;exact .inr c;have:=XT (show b<= -1 by have:=t (by omega);omega) (show 0<=(n:Int) by omega);rw[YH,ZY]at this;left;omega
 have B:=m s.x f.x (by omega) (by omega) (by omega);have C:=m s.y f.y (by omega) (by omega) (by omega);have w:ai (ag n u) (ag n (ak u f)) (nr n u s)=n*aa f s:=by simp only[ai,aa,af,ag,nr,ak];grind
 refine⟨by rw[w,g,Yh],?_,?_,?_,?_⟩;all_goals
  simp only[ag,nr,ak];rw[WC];omega
theorem yU (n:Int) (a:1<=n) (u w:V2):aV (ag n w) (ag n u) (nr n u (af w u)):=by
 have m:∀p q:Int,(n*p<=n*q+(p-q)\/n*q<=n*q+(p-q))/\(n*q+(p-q)<=n*p\/n*q+(p-q)<=n*q):=λp q=>by rcases YI p q with c|c;have:=XM (show 0<=n-1 by omega) (show 0<=q-p by omega);have e:(n-1)*(q-p)=n*q-n*p-(q-p):=(by grind);omega;have:=XM (show 0<=n-1 by omega) (show 0<=p-q by omega);have e:(n-1)*(p-q)=n*p-n*q-(p-q):=(by grind);omega
 refine⟨by simp only[ai,aa,af,ag,nr];grind,?_,?_,?_,?_⟩;exact(m w.x u.x).1;exact(m w.x u.x).2;exact(m w.y u.y).1;exact(m w.y u.y).2
variable {w:V2}
theorem rH {k:Int} (s:iU E) (r:nc E k) {f:V2} (l:Cn E u f g) (G:u≠w) (hw:W E w+k=1) (z:∀e∈E,∀n:Nat,1<=n->NM (ag n e.1) (ag n e.2) (ag n w) (nr n u (af w u))):mO f g (af w u):=by
 obtain⟨H,A,o,t⟩:=s.fZ l;have B:af w u≠⟨0,0⟩:=df G.symm;have h:∀{v:V2},af v u≠⟨0,0⟩->(∃e∈E,aV e.1 e.2 u/\(e.1=v\/e.2=v))->rk (af v u) (af w u)≠3:=by rintro v I ⟨e,a,b,c⟩ J;obtain⟨n,y,q⟩:=(RL (u:=u) J I B).ex 1;rw[cj]at q;refine(z e a n y).q_ ?_;have C:=iz (m:=n) (by omega) b;rcases c with c|c;rw[<-c]at q;exact au.1 (aV.trans (au.1 C) q);rw[<-c]at q;exact aV.trans C q
 have K:rk f (af w u)≠3:=by rcases l with⟨e,a,D,F,i,j,rfl,rfl⟩|⟨e,a,b,i,j,rfl,rfl⟩;exact h o ⟨e,a,by rw[<-i];exact cd _ _,.inr rfl⟩;exact h o ⟨e,a,b,.inr rfl⟩
 have M:rk g (af w u)≠3:=by rcases l with⟨e,a,D,F,i,j,rfl,rfl⟩|⟨e,a,b,i,j,rfl,rfl⟩;exact h t ⟨D,F,by rw[<-j];exact bE _ _,.inl rfl⟩;exact h t ⟨e,a,b,.inl rfl⟩
 refine Xz λy=>?_;have N:=sz o t B A K M y;obtain⟨n,O,q⟩:=(H.rev.inside r.rev (rb A) N).ex 1;have p:=ih (s.cV.sc n) (p:=ag n w) (q:=nr n u (af w u)) (λe a=>by obtain⟨x,P,rfl⟩:=aK.1 a;exact z x P n O);rw[kK (m:=n) (by omega)]at p;rw[eP,ja]at q;omega
variable {p y1 y2:V2}
theorem QF (a:¬aV w p y1) (h2:¬aV w p y2) (b:¬aV y1 y2 w) (c:¬aV y1 y2 p) (f:¬kN (y1,y2) (w,p)):NM y1 y2 w p:=⟨a,h2,b,c,λk=>f ⟨k.1,k.2⟩⟩
theorem AT (a:ai w p y1=0) (b:ai w p y2=0) (j:w≠p) (m:aV y1 y2 p) (hw:¬aV y1 y2 w):aV w p y1\/aV w p y2:=by
 have i:ai y1 y2 w=0:=by have o:(p.x-w.x)*ai y1 y2 w=0:=(by simp only[ai,aa,af]at a b|-;grind);have r:(p.y-w.y)*ai y1 y2 w=0:=(by simp only[ai,aa,af]at a b|-;grind);refine Xz λq=>j (V2.ext ?_ ?_);have:=(mz o).resolve_right q;omega;have:=(mz r).resolve_right q;omega
 obtain⟨_,u,x,y,z⟩:=m;have A:¬((y1.x<=w.x\/y2.x<=w.x)/\(w.x<=y1.x\/w.x<=y2.x)/\(y1.y<=w.y\/y2.y<=w.y)/\(w.y<=y1.y\/w.y<=y2.y)):=λk=>hw ⟨i,k⟩;by_cases c:w.x=p.x;have B:w.y≠p.y:=λk=>j (V2.ext c k);have C:y1.x=w.x:=(by have q:(p.y-w.y)*(y1.x-w.x)=0:=(by simp only[ai,aa,af]at a;rw[c]at a|-;grind);have:=(mz q).resolve_left (by omega);omega);have D:y2.x=w.x:=(by have q:(p.y-w.y)*(y2.x-w.x)=0:=(by simp only[ai,aa,af]at b;rw[c]at b|-;grind);have:=(mz q).resolve_left (by omega);omega);by_cases k:(w.y<=y1.y/\y1.y<=p.y)\/(p.y<=y1.y/\y1.y<=w.y);left;exact⟨a,by omega,by omega,by omega,by omega⟩;right;exact⟨b,by omega,by omega,by omega,by omega⟩
 ·
  have E:∀v:V2,ai w p v=0->(p.x-w.x)*(v.y-w.y)=(p.y-w.y)*(v.x-w.x):=λv h=>by simp only[ai,aa,af]at h;grind
  have l:∀v:V2,ai w p v=0->((w.x<=v.x/\v.x<=p.x)\/(p.x<=v.x/\v.x<=w.x))->aV w p v:=λv h k=>by rcases k with⟨f,g⟩|⟨f,g⟩;exact qz h (show w.x<p.x by omega) f g;exact au.1 (qz (by rw[aU,h];rfl) (show p.x<w.x by omega) f g)
  by_cases f:(w.x<=y1.x/\y1.x<=p.x)\/(p.x<=y1.x/\y1.x<=w.x);left;exact l y1 a f;by_cases g:(w.x<=y2.x/\y2.x<=p.x)\/(p.x<=y2.x/\y2.x<=w.x);right;exact l y2 b g;exfalso;refine hw ?_;by_cases t:y1.x<y2.x;exact qz i t;exact au.1 (qz (by rw[aU,i];rfl) (show y2.x<y1.x by omega))
theorem kH {a b:V2} (f:aV a b p) (h2:aV y1 y2 p) (o:p≠a) (u:p≠b) (h:p≠y1) (i:p≠y2):kN (y1,y2) (a,b)\/(ai a b y1=0/\ai a b y2=0):=by
 have r:∀{a b y1 y2:V2},aV a b p->aV y1 y2 p->p≠y1->p≠y2->(ai a b y1=0↔ai a b y2=0)/\(0<ai a b y1↔ai a b y2<0)/\(ai a b y1<0↔0<ai a b y2):=by
  intro a b y1 y2 f h2 h i;obtain⟨g,J,K,M,N⟩:=h2;have z:=f.1;have ex:(p.x-y1.x)*ai a b y2= -((y2.x-p.x)*ai a b y1):=(by simp only[ai,aa,af]at z g|-;grind);have O:(p.y-y1.y)*ai a b y2= -((y2.y-p.y)*ai a b y1):=(by simp only[ai,aa,af]at z g|-;grind);have P:=λq:p.x=y1.x=>g;by_cases c:p.x=y1.x
  ·have w:p.y≠y1.y:=λq=>h (V2.ext c q);have x:p.y≠y2.y:=λq=>by have j:(y2.x-y1.x)*(p.y-y1.y)=0:=(by simp only[ai,aa,af]at g;rw[c]at g;grind);have:=(mz j).resolve_right (by omega);exact i (V2.ext (by omega) q)
   rcases Yi w with d|d;have l:=ct (ai a b y2) (show 0<y1.y-p.y by omega);have m:=ct (ai a b y1) (show 0<p.y-y2.y by omega);have e:ai a b y2*(y1.y-p.y)= -(ai a b y1*(p.y-y2.y)):=(by grind);omega;have l:=ct (ai a b y2) (show 0<p.y-y1.y by omega);have m:=ct (ai a b y1) (show 0<y2.y-p.y by omega);have e:ai a b y2*(p.y-y1.y)= -(ai a b y1*(y2.y-p.y)):=(by grind);omega
  ·have x:p.x≠y2.x:=λq=>by have j:(y2.x-y1.x)*(p.y-y1.y)=(y2.y-y1.y)*(p.x-y1.x):=(by simp only[ai,aa,af]at g;grind);rw[q]at j;have y:(y2.x-y1.x)*(p.y-y2.y)=0:=(by grind);have:=(mz y).resolve_left (by omega);exact i (V2.ext q (by omega))
   rcases Yi c with d|d;have l:=ct (ai a b y2) (show 0<y1.x-p.x by omega);have m:=ct (ai a b y1) (show 0<p.x-y2.x by omega);have e:ai a b y2*(y1.x-p.x)= -(ai a b y1*(p.x-y2.x)):=(by grind);omega;have l:=ct (ai a b y2) (show 0<p.x-y1.x by omega);have m:=ct (ai a b y1) (show 0<y2.x-p.x by omega);have e:ai a b y2*(p.x-y1.x)= -(ai a b y1*(y2.x-p.x)):=(by grind);omega
 have A:=r f h2 h i;by_cases z:ai a b y1=0;exact .inr ⟨z,A.1.1 z⟩
 ·left;have B:=r h2 f o u;have Q:ai y1 y2 a≠0:=λk=>by have t:=B.1.1 k;have R:a≠b:=λe=>o (by rw[<-e]at f;obtain⟨_,C,D,E,F⟩:=f;exact V2.ext (by omega) (by omega));have G:y1≠y2:=λe=>h (by rw[<-e]at h2;obtain⟨_,C,D,E,F⟩:=h2;exact V2.ext (by omega) (by omega));have H:(y2.x-y1.x)*ai a b y1=0:=(by simp only[ai,aa,af]at k t|-;grind);have I:(y2.y-y1.y)*ai a b y1=0:=(by simp only[ai,aa,af]at k t|-;grind);have:=(mz H).resolve_right z;have:=(mz I).resolve_right z;exact G (V2.ext (by omega) (by omega))
  unfold kN;simp only;omega
variable {y:V2×V2} {a:V2}
theorem ej {b:V2} (h:kN y (a,b)):kN y (b,a):=by
 unfold kN at*;simp only at*;rw[aU a b y.1,aU a b y.2];omega
variable {w:V2}
theorem pz {b:V2} (hw:aV a b w) (h:kN y (w,b)):kN y (a,b):=by
 have c:=qU (a:=y.1) hw;have f:=qU (a:=y.2) hw;have m:=C2 (a:=y.1) (b:=y.2) hw;unfold kN at*;simp only at*;omega
variable {e1 e2:V2×V2}
theorem xv {m:Int} (a:0<m):kN (ag m e1.1,ag m e1.2) (ag m e2.1,ag m e2.2)↔kN e1 e2:=by
 unfold kN;simp only[bZ];have f:=λx=>ct x (XC a a);simp only[Yd _ (m*m)]at f;have b:=f (ai e2.1 e2.2 e1.1);have c:=f (ai e2.1 e2.2 e1.2);have g:=f (ai e1.1 e1.2 e2.1);have h:=f (ai e1.1 e1.2 e2.2);omega
theorem kt {b c:V2} (f:aV a b c) (h2:aV a c b):b=c:=by
 obtain⟨_,g,h,i,j⟩:=f;obtain⟨_,k,l,m,o⟩:=h2;exact V2.ext (by omega) (by omega)
variable {u:V2}
theorem PD {b v:V2} (a:aV w b u) (h2:aV w u v) (h:ay (af u w) (af b w)<=ay (af v w) (af b w)):v=u:=by
 obtain⟨_,f,g,i,j⟩:=a;obtain⟨_,k,l,m,o⟩:=h2;have e:(u.x-v.x)*(b.x-w.x)+(u.y-v.y)*(b.y-w.y)<=0:=by simp only[ay,af]at h;grind
 have p:0<=(u.x-v.x)*(b.x-w.x):=by rcases YI w.x b.x with c|c;exact XM (by omega) (by omega);exact X7 (by omega) (by omega)
 have q:0<=(u.y-v.y)*(b.y-w.y):=by rcases YI w.y b.y with c|c;exact XM (by omega) (by omega);exact X7 (by omega) (by omega)
 have r:=mz (show(u.x-v.x)*(b.x-w.x)=0 by omega);have t:=mz (show(u.y-v.y)*(b.y-w.y)=0 by omega);exact V2.ext (by omega) (by omega)
theorem min_mem {α:Type} (f:α->Int) (p:α->Prop):∀L:List α,(∃x∈L,p x)->∃x∈L,p x/\∀y∈L,p y->f x<=f y
 |[],h=>by simp at h
 |a::L,h=>by
  by_cases c:∃x∈L,p x
  ·obtain⟨x,j,i,l⟩:=min_mem f p L c;by_cases k:p a/\f a<=f x
   ·exact⟨a,by simp,k.1,λy b g=>by
     rcases XF.1 b with rfl|b;exact Yc _
     ·exact Int.le_trans k.2 (l y b g)⟩
   ·refine⟨x,by simp[j],i,λy b g=>?_⟩;rcases XF.1 b with rfl|b;exact Zx.1 λq=>k ⟨g,XO q⟩;exact l y b g
  ·obtain⟨x,j,i⟩:=h;have:x=a:=(by rcases XF.1 j with q|q;exact q;exact absurd ⟨x,q,i⟩ c);subst this;refine⟨x,by simp,i,λy b g=>?_⟩;rcases XF.1 b with rfl|b;exact Yc _;exact absurd ⟨y,b,g⟩ c
theorem OP {v:V2} (h:aV a a v):v=a:=by
 obtain⟨_,b,c,f,g⟩:=h;exact V2.ext (by omega) (by omega)
variable {E:Ed}
theorem walk {k:Int} (s:iU E) (r:nc E k) {b:V2} (hw:aV a b w) (a2:w≠a) (a3:w≠b) (off:∀e∈E,¬aV e.1 e.2 w) (R:W E w+k=1) (G:∀e∈E,¬kN e (a,b)):
  (W E b+k=1/\∀e∈E,¬aV e.1 e.2 b)\/∃u f g,(u=b\/∃e∈E,e.1=u)/\aV w b u/\u≠w/\Cn E u f g/\mO f g (af w u):=by
 have S:∀e∈E,∃H∈E,H.1=e.2:=s.qK;obtain⟨t,m⟩:∃t:V2->Prop,∀u,t u↔aV w b u/\((u=b/\∃e∈E,aV e.1 e.2 b)\/∃e∈E,e.1=u):=⟨_,λ_=>ZC⟩;by_cases B:∃u,t u
 ·right;obtain⟨u,_,C,a4⟩:=min_mem (λu=>ay (af u w) (af b w)) t (b::E.map (·.1)) (by
   obtain⟨u,C⟩:=B;refine⟨u,?_,C⟩;rcases((m u).1 C).2 with⟨q,_⟩|⟨e,h,q⟩;rw[q];simp
   ·exact XK _ (XQ.2 ⟨e,h,q⟩))
  obtain⟨o,I⟩:=(m u).1 C;have D:u≠w:=λq=>by rcases I with⟨j,_⟩|⟨e,h,j⟩;exact a3 (q.symm.trans j);exact off e h (by rw[<-q,<-j];exact cd _ _)
  obtain⟨f,g,T⟩:∃f g,Cn E u f g:=(by rcases I with⟨q,e,h,j⟩|⟨e,h,q⟩;exact I8 s ⟨e,h,by rw[q];exact j⟩;rw[<-q];exact s.kU h);refine⟨u,f,g,I.imp (λq=>q.1) id,o,D,T,rH s r T D R (λy x n b6=>?_)⟩;have i:0<(n:Int):=(by omega);have z:=yU n (by omega) u w;have U:∀v:V2,(∃e∈E,e.1=v)->¬aV (ag n w) (nr n u (af w u)) (ag n v):=(by intro v A V;have J:aV (ag n u) (ag n w) (ag n v):=aV.trans (au.1 z) (au.1 V);have l:aV u w v:=(gW i).1 J;have a5:aV b w v:=aV.trans (au.1 o) l;have a6:t v:=(m v).2 ⟨au.1 a5,.inr A⟩;have:=a4 v (by obtain⟨e,h,q⟩:=A;exact XK _ (XQ.2 ⟨e,h,q⟩)) a6;have q:=PD o (au.1 l) this;subst q;have:=kt V z;apply D;simp only[nr,ag,af,V2.mk.injEq]at this;exact V2.ext (by omega) (by omega));have K:=U y.1 ⟨y,x,rfl⟩;have M:=U y.2 (S y x);have N:¬aV (ag n y.1) (ag n y.2) (ag n w):=λq=>off y x ((gW i).1 q);have O:aV (ag n b) (ag n w) (nr n u (af w u)):=aV.trans (iz i (au.1 o)) (au.1 z);have F:aV (ag n a) (ag n b) (nr n u (af w u)):=aV.trans (iz i hw) (au.1 O);refine QF K M N (λq=>?_) (λq=>?_)
  ·have a7:nr n u (af w u)≠ag n y.1:=λe=>K (by rw[<-e];exact bE _ _);have a8:nr n u (af w u)≠ag n y.2:=λe=>M (by rw[<-e];exact bE _ _);have X:nr n u (af w u)≠ag n b:=λe=>by have J:aV (ag n w) (ag n u) (ag n b):=(by rw[<-e];exact z);have l:=kt (iz i o) J;rw[<-e]at l;apply D;simp only[nr,ag,af,V2.mk.injEq]at l;exact V2.ext (by omega) (by omega)
   have a9:nr n u (af w u)≠ag n a:=λe=>by rw[e]at O;have l:aV b w a:=(gW i).1 O;exact a2 (kt (au.1 hw) l).symm
   have b0:ag n w≠nr n u (af w u):=λe=>N (by rw[e];exact q);rcases kH F q a9 X a7 a8 with c|⟨P,Q⟩;exact G y x ((xv i (e2:=(a,b))).1 c)
   ·have Y:∀v:V2,ai (ag n a) (ag n b) v=0->ai (ag n w) (nr n u (af w u)) v=0:=λv A=>by
     have Z:=(iz i hw).1;have a0:=F.1;have b1:ag n a≠ag n b:=λe=>by rw[e]at F;exact X (OP F)
     have b2:((ag n b).x-(ag n a).x)*ai (ag n w) (nr n u (af w u)) v=0:=(by simp only[ai,aa,af]at A Z a0|-;grind);have b3:((ag n b).y-(ag n a).y)*ai (ag n w) (nr n u (af w u)) v=0:=(by simp only[ai,aa,af]at A Z a0|-;grind);refine Xz λk=>b1 (V2.ext ?_ ?_);have:=(mz b2).resolve_right k;omega;have:=(mz b3).resolve_right k;omega
    rcases AT (Y _ P) (Y _ Q) b0 q N with k|k;exact K k;exact M k
  ·have P:=pz (au.1 z) (ej q);have Q:=pz (iz i (au.1 o)) P;have b4:=pz (iz i hw) (ej Q);exact G y x ((xv i (e2:=(a,b))).1 b4)
 ·left;have a1:∀e∈E,¬aV e.1 e.2 b:=λe h q=>B ⟨b,(m b).2 ⟨bE _ _,.inl ⟨rfl,e,h,q⟩⟩⟩;refine⟨?_,a1⟩;rw[<-ih s.cV (p:=w) (q:=b) (λe h=>?_)];exact R;refine QF (λq=>B ⟨e.1,(m _).2 ⟨q,.inr ⟨e,h,rfl⟩⟩⟩) (λq=>?_) (off e h) (a1 e h) (λq=>G e h (pz hw q));obtain⟨H,b5,j⟩:=S e h;exact B ⟨e.2,(m _).2 ⟨q,.inr ⟨H,b5,j⟩⟩⟩
variable {p q:V2}
theorem q5 {b r:V2} (h:aV p q r):(0<ai a b p->0<ai a b q->0<ai a b r)/\(ai a b p<0->ai a b q<0->ai a b r<0):=by
 obtain⟨j,l⟩:=uN (a:=a) (b:=b) h.1;obtain⟨_,m,o,t,u⟩:=h;by_cases c:p.x=q.x;by_cases i:p.y=q.y;have e:r=p:=V2.ext (by omega) (by omega);subst e;exact⟨λk _=>k,λk _=>k⟩;rcases Yi i with d|d;have s:=ct (ai a b r) (show 0<q.y-p.y by omega);have f:=Eu (ai a b p) (show 0<=q.y-r.y by omega);have g:=Eu (ai a b q) (show 0<=r.y-p.y by omega);have e:ai a b r*(q.y-p.y)=ai a b p*(q.y-r.y)+ai a b q*(r.y-p.y):=(by grind);omega;have s:=ct (ai a b r) (show 0<p.y-q.y by omega);have f:=Eu (ai a b p) (show 0<=r.y-q.y by omega);have g:=Eu (ai a b q) (show 0<=p.y-r.y by omega);have e:ai a b r*(p.y-q.y)=ai a b p*(r.y-q.y)+ai a b q*(p.y-r.y):=(by grind);omega;rcases Yi c with d|d;have s:=ct (ai a b r) (show 0<q.x-p.x by omega);have f:=Eu (ai a b p) (show 0<=q.x-r.x by omega);have g:=Eu (ai a b q) (show 0<=r.x-p.x by omega);have e:ai a b r*(q.x-p.x)=ai a b p*(q.x-r.x)+ai a b q*(r.x-p.x):=(by grind);omega;have s:=ct (ai a b r) (show 0<p.x-q.x by omega);have f:=Eu (ai a b p) (show 0<=r.x-q.x by omega);have g:=Eu (ai a b q) (show 0<=p.x-r.x by omega);have e:ai a b r*(p.x-q.x)=ai a b p*(r.x-q.x)+ai a b q*(p.x-r.x):=(by grind);omega
theorem q3 {b:V2} (h:(0<ai a b p/\0<ai a b q)\/(ai a b p<0/\ai a b q<0)):NM a b p q:=by
 have c:ai a b a=0:=by simp only[ai,aa,af];grind
 have f:ai a b b=0:=by simp only[ai,aa,af];grind
 refine⟨λk=>?_,λk=>?_,λk=>?_,λk=>?_,λk=>?_⟩;have:=q5 (a:=a) (b:=b) k;omega;have:=q5 (a:=a) (b:=b) k;omega;have:=k.1;omega;have:=k.1;omega;omega
theorem xJ (h:aV a u w):rk (af a u) (af w u)=3:=by
 have z:aa (af a u) (af w u)=0:=by have:=h.1;simp only[ai,aa,af]at this|-;grind
 obtain⟨_,b,f,g,i⟩:=h;have j:0<=(a.x-u.x)*(w.x-u.x):=by rcases YI u.x a.x with c|c;exact XM (by omega) (by omega);exact X7 (by omega) (by omega)
 have k:0<=(a.y-u.y)*(w.y-u.y):=by rcases YI u.y a.y with c|c;exact XM (by omega) (by omega);exact X7 (by omega) (by omega)
 have c:=bq (af a u) (af w u);have:ay (af a u) (af w u)=(a.x-u.x)*(w.x-u.x)+(a.y-u.y)*(w.y-u.y):=rfl;omega
theorem GX {b:V2} (h:aV a b w) (k:aV w b u):aV a u w:=by
 have f:=h.1;have g:=k.1;obtain⟨_,l,m,o,p⟩:=h;obtain⟨_,r,t,x,y⟩:=k;refine⟨?_,by omega,by omega,by omega,by omega⟩;by_cases c:w=b;subst c;have:u=w:=V2.ext (by omega) (by omega);rw[this];simp only[ai,aa,af];grind;have i:(b.x-w.x)*ai a u w=0:=(by simp only[ai,aa,af]at f g|-;grind);have j:(b.y-w.y)*ai a u w=0:=(by simp only[ai,aa,af]at f g|-;grind);refine Xz λq=>c (V2.ext ?_ ?_);have:=(mz i).resolve_right q;omega;have:=(mz j).resolve_right q;omega
variable {e:V2×V2}
theorem xB (s:iU E) (g:e∈E) (hw:aV e.1 e.2 w) (j:w≠e.1) (h:aV w e.2 u):∃f,Cn E u f (af e.1 u):=by
 by_cases i:u=e.2;obtain⟨k,l,m⟩:=s.qK e g;exact⟨_,.inl ⟨k,l,e,g,m.trans i.symm,i.symm,rfl,rfl⟩⟩;refine⟨_,.inr ⟨e,g,aV.trans hw h,λq=>?_,i,rfl,rfl⟩⟩;rw[q]at h;exact j (kt (a:=e.2) (b:=e.1) (c:=w) (au.1 hw) (au.1 h)).symm
theorem sQ {s:V2} (h:s≠⟨0,0⟩):aa s (dy (dy (dy s)))<0:=by
 have e:aa s (dy (dy (dy s)))= -ay s s:=by simp only[aa,dy,ay];grind
 have:=cg h;omega
variable {z:V2}
section
variable {X Y:Ed} {k1 k2:Int}
theorem JM.swap (h:JM X k1 Y k2):JM Y k2 X k1:=by
 rcases h with⟨e1,g,e2,i,h⟩|h|h|⟨u,c,j,f,k,h,l,m,o⟩;exact .inl ⟨e2,i,e1,g,h.sym⟩;exact .inr (.inr (.inl h));exact .inr (.inl h);refine .inr (.inr (.inr ⟨u,f,k,c,j,h.symm,m,l,?_⟩));rcases o with q|q|q;left;have a:=bq c f;have b:=bq f c;have p:=aQ c f;have:ay f c=ay c f:=(by simp only[ay];grind);omega;exact .inr (.inr q);exact .inr (.inl q)
theorem Jr (b:iU X) (i:iU Y) (x:nc Y k2) (c:e1∈X) (hw:aV e1.1 e1.2 w) (j:w≠e1.1) (z:w≠e1.2) (off:∀y∈Y,¬aV y.1 y.2 w) (A:W Y w+k2=1):JM X k1 Y k2:=by
 by_cases k:∃y∈Y,kN e1 y;obtain⟨y,g,h⟩:=k;exact .inl ⟨e1,c,y,g,h⟩;rcases walk i x hw j z off A (λy g q=>k ⟨y,g,q.sym⟩)with⟨B,C⟩|⟨u,D,E,F,l,G,m,H⟩;obtain⟨e,f,a⟩:=b.qK e1 c;exact .inr (.inl ⟨e,f,by rw[a];exact C,by rw[a];exact B⟩);obtain⟨I,o⟩:=xB b c hw j l;obtain⟨P,p,J,M⟩:=b.fZ o;obtain⟨f,a,Q,R⟩:=i.fZ m;have r:af w u≠⟨0,0⟩:=df G.symm;obtain⟨K,_,N,O⟩:=((v7 (t:=dy (dy (dy (af w u)))) p J M r (xJ (GX hw l)) (sQ r)).and (vZ H a (dy (dy (dy (af w u)))))).ex 0;refine .inr (.inr (.inr ⟨u,I,_,D,E,?_,o,m,C5 p a N O⟩));rcases F with q|q;obtain⟨e,f,a⟩:=b.qK e1 c;exact .inl ⟨e,f,by rw[a,q]⟩;exact .inr q
theorem Dp (b:iU X) (c:iU Y) (f:e1∈X) (h2:e2∈Y) (o1:aV e1.1 e1.2 w) (o2:aV e2.1 e2.2 w) (l:w≠e1.1) (m:w≠e2.1) (o:w≠e1.2) (h:aV w e2.2 e1.2):JM X k1 Y k2:=by
 obtain⟨p,g⟩:=xB b f o1 l (bE _ _);obtain⟨q,i⟩:=xB c h2 o2 m h;obtain⟨D,j,r,u⟩:=b.fZ g;obtain⟨E,k,x,y⟩:=c.fZ i;have a:af w e1.2≠⟨0,0⟩:=df o;obtain⟨K,_,z,A⟩:=((v7 (t:=dy (dy (dy (af w e1.2)))) j r u a (xJ o1) (sQ a)).and (v7 (t:=dy (dy (dy (af w e1.2)))) k x y a (xJ (GX o2 h)) (sQ a))).ex 0;obtain⟨e,B,C⟩:=b.qK e1 f;exact .inr (.inr (.inr ⟨_,p,_,q,_,.inl ⟨e,B,C⟩,g,i,C5 j k z A⟩))
theorem JV (h:(aV e.1 e.2 w/\ai e.1 e.2 z≠0)\/NM e.1 e.2 z w) {n:Nat} (f:1<=n):NM (ag n e.1) (ag n e.2) (ag n z) (nr n w (af z w)):=by
 have a:0<(n:Int):=by omega
 have c:=yU n (by omega) w z;rcases h with⟨b,g⟩|h;refine q3 ?_;have e1:ai (ag n e.1) (ag n e.2) (nr n w (af z w))=n*ai e.1 e.2 z:=(by have:=b.1;rw[nu,this];have:aa (af e.2 e.1) (af z w)=ai e.1 e.2 z:=(by have:=b.1;simp only[ai,aa,af]at this|-;grind);rw[this];grind);have i:=bg (x:=ai e.1 e.2 z) (show 1<=(n:Int) by omega);have j:=bg (n:=(n:Int)*n) (x:=ai e.1 e.2 z) (XC a a);rw[e1,bZ];omega;exact(((rn a h).swap).sub (au.1 c)).swap
theorem AO {c1 c2:V2} (w:V2) (z:aa c1 c2=0) (d:0<ay c1 c2):aV w (ak w c2) (ak w c1)\/aV w (ak w c1) (ak w c2):=by
 have l:c1≠⟨0,0⟩:=λe=>by rw[e]at d;simp[ay]at d
 have ex:ay c1 c1*c2.x=ay c1 c2*c1.x:=by simp only[aa,ay]at z|-;grind
 have m:ay c1 c1*c2.y=ay c1 c2*c1.y:=by simp only[aa,ay]at z|-;grind
 have p:=cg l;have o:ai w (ak w c2) (ak w c1)=0:=by simp only[ai,aa,af,ak]at z|-;grind
 have r:ai w (ak w c1) (ak w c2)=0:=by simp only[ai,aa,af,ak]at z|-;grind
 have k:∀x y:Int,ay c1 c1*y=ay c1 c2*x->(0<=x->0<=y)/\(x<=0->y<=0)/\(ay c1 c1<=ay c1 c2->(0<=x->x<=y)/\(x<=0->y<=x))/\(ay c1 c2<=ay c1 c1->(0<=x->y<=x)/\(x<=0->x<=y)):=by intro x y h;have f:∀a b:Int,ay c1 c1*a<=ay c1 c1*b->a<=b:=λa b q=>YX q p;refine⟨λq=>?_,λq=>?_,λq=>⟨λg=>?_,λg=>?_⟩,λq=>⟨λg=>?_,λg=>?_⟩⟩;refine f _ _ ?_;rw[h,Yh];exact XM (XO d) q;refine f _ _ ?_;rw[h,Yh];exact XI (XO d) q;refine f _ _ ?_;rw[h];exact Yp q g;refine f _ _ ?_;rw[h];have:=Yp q (show 0<= -x by omega);rw[YH,YH]at this;omega;refine f _ _ ?_;rw[h];exact Yp q g;refine f _ _ ?_;rw[h];have:=Yp q (show 0<= -x by omega);rw[YH,YH]at this;omega
 have i:=k c1.x c2.x ex;have j:=k c1.y c2.y m;rcases YI (ay c1 c1) (ay c1 c2)with c|c;(have i:=i.2.2.1 c;have j:=j.2.2.1 c;left;refine⟨o,?_,?_,?_,?_⟩<;>simp only[ak]<;>omega)
 ·have t:=i.2.2.2 c;have u:=j.2.2.2 c;right;refine⟨r,?_,?_,?_,?_⟩<;>simp only[ak]<;>omega
theorem Ns (g:iU X) (h:iU Y) (H:nc X k1) (B:nc Y k2) (C:w≠z) (I:W X z+k1=1) (D:W Y z+k2=1)
  (J:∀e∈X,(aV e.1 e.2 w/\ai e.1 e.2 z≠0)\/NM e.1 e.2 z w) (E:∀e∈Y,(aV e.1 e.2 w/\ai e.1 e.2 z≠0)\/NM e.1 e.2 z w) (t:∀e∈X,w≠e.1/\w≠e.2) (K:∀e∈Y,w≠e.1/\w≠e.2)
  {e1:V2×V2} (a:e1∈X) (b:aV e1.1 e1.2 w):JM X k1 Y k2:=by
 by_cases u:∀y∈Y,¬aV y.1 y.2 w;refine Jr g h B a b (t e1 a).1 (t e1 a).2 u ?_;rw[<-ih h.cV (p:=z) (q:=w) (λe f=>(E e f).resolve_left (λq=>u e f q.1))];exact D
 ·obtain⟨e2,i,j⟩:∃e2∈Y,aV e2.1 e2.2 w:=Xz λq=>u λy M k=>q ⟨y,M,k⟩;obtain⟨l,m⟩:=t e1 a;obtain⟨o,r⟩:=K e2 i;rcases kH b j l m o r with c|⟨U,F⟩;exact .inl ⟨e1,a,e2,i,c.sym⟩;have N:=rH g H (.inr ⟨e1,a,b,l,m,rfl,rfl⟩) C I (λe f n x=>JV (J e f) x);have O:=rH h B (.inr ⟨e2,i,j,o,r,rfl,rfl⟩) C D (λe f n x=>JV (E e f) x);rw[q9 b l m]at N;rw[q9 j o r]at O;have G:af e1.2 w≠⟨0,0⟩:=df m.symm;have V:af e2.2 w≠⟨0,0⟩:=df r.symm;have A:aa (af e1.2 w) (af e2.2 w)=0:=(by have q:=b.1;have P:e1.1≠e1.2:=g.nz e1 a;have Q:(e1.2.x-e1.1.x)*aa (af e1.2 w) (af e2.2 w)=0:=(by simp only[ai,aa,af]at q F|-;grind);have R:(e1.2.y-e1.1.y)*aa (af e1.2 w) (af e2.2 w)=0:=(by simp only[ai,aa,af]at q F|-;grind);refine Xz λk=>P (V2.ext ?_ ?_);have:=(mz Q).resolve_right k;omega;have:=(mz R).resolve_right k;omega);have S:=di (af z w) A G;have T:0<ay (af e1.2 w) (af e2.2 w):=(by refine Xz λk=>?_;by_cases c:ay (af e1.2 w) (af e2.2 w)=0;have e:=ia (e:=af z w) A;rw[c,Yb]at e;have:=(mz e).resolve_left (by have:=cg G;omega);omega;have:=S.2 (by omega);omega);rcases AO w A T with c|c;rw[cj,cj]at c;exact Dp g h a i b j l o m c;rw[cj,cj]at c;exact(Dp h g i a j b o l r c).swap
theorem F9 (b6:iU X) (b7:iU Y) (b8:nc X k1) (b9:nc Y k2) (e8:k2=0) (h:Comm X k1 Y k2):JM X k1 Y k2:=by
 obtain⟨m,z,c0,c1,c2⟩:=h;obtain⟨M,i,c3,C,c4,c5⟩:∃(M:Int) (i:V2),0<M/\(∀e∈bD M (X++Y),e.1.y≠i.y/\e.2.y≠i.y/\¬aV e.1 e.2 i)/\W (bD M X) i+k1=1/\W (bD M Y) i+k2=1:=by refine xb (P:=λ_ _=>_) (bD m (X++Y)) z (λn i c6 C a0=>?_);refine⟨n*m,i,nH c6 c0,by rw[<-eO];exact C,?_,?_⟩;rw[<-eO,a0 _ (λe a=>by rw[ed];simp[a])];exact c1;rw[<-eO,a0 _ (λe a=>by rw[ed];simp[a])];exact c2
 obtain⟨D,w,r,K,⟨t,O,H⟩,c7⟩:=zk (E:=bD M (X++Y)) (F:=bD M Y) (λe a=>by rw[ed];simp[a]) C;have b:=nH r c3;have c8:∀{F:Ed} {e:V2×V2},e∈bD (D*M) F->∃x∈bD M F,e=(ag D x.1,ag D x.2):=λ{F e} a=>by rw[<-eO]at a;exact aK.1 a
 have a1:∀{F:Ed},(∀e∈F,e∈X++Y)->∀e∈bD (D*M) F,((aV e.1 e.2 w/\ai e.1 e.2 (ag D i)≠0)\/NM e.1 e.2 (ag D i) w)/\(w≠e.1/\w≠e.2):=λ{F} c9 e a=>by
  obtain⟨x,j,rfl⟩:=c8 a;have a2:x∈bD M (X++Y):=(by obtain⟨y,o,rfl⟩:=aK.1 j;exact aK.2 ⟨y,c9 y o,rfl⟩);obtain⟨a3,a4,Q⟩:=C x a2;have d0:(ag D x.1).y≠w.y:=λq=>by rw[K]at q;exact a3 (Y7 (by omega) q)
  have d1:(ag D x.2).y≠w.y:=λq=>by rw[K]at q;exact a4 (Y7 (by omega) q)
  refine⟨?_,λq=>d0 (by rw[q]),λq=>d1 (by rw[q])⟩;rcases c7 x a2 with q|q
  ·left;refine⟨q,λk=>Q ?_⟩;rw[bZ]at k;have k:=(mz k).resolve_left (by have:=XC r r;omega);obtain⟨_,_,_,e9,f0⟩:=q;have l:∀v:V2,((ag D v).y<=w.y↔v.y<=i.y)/\(w.y<=(ag D v).y↔i.y<=v.y):=λv=>by rw[K];exact⟨tT r,tT r⟩
   have f1:=l x.1;have f2:=l x.2;by_cases c:x.1.y<x.2.y;exact dj k c;exact au.1 (dj (by rw[aU,k];rfl) (show x.2.y<x.1.y by omega))
  ·exact .inr q
 have a5:=b6.sc b;have a6:=b7.sc b;have a7:=b8.sc b;have a8:=b9.sc b;have a9:W (bD (D*M) X) (ag D i)+k1=1:=by rw[<-eO,kK r];exact c4
 have b0:W (bD (D*M) Y) (ag D i)+k2=1:=by rw[<-eO,kK r];exact c5
 have I:=a1 (F:=X) (λe a=>by simp[a]);have J:=a1 (F:=Y) (λe a=>by simp[a]);have b1:w≠ag D i:=λq=>by obtain⟨a3,a4,Q⟩:=C t O;rw[q]at H;exact Q ((gW r).1 H)
 have d2:JM (bD (D*M) X) k1 (bD (D*M) Y) k2->JM X k1 Y k2:=by
  generalize D*M=N at*;rintro(⟨e1,G,e2,A,h⟩|⟨e,a,G,A⟩|⟨e,a,G,A⟩|⟨u,f3,f4,f5,f6,d3,d4,d5,R⟩);obtain⟨x,j,rfl⟩:=aK.1 G;obtain⟨y,o,rfl⟩:=aK.1 A;exact .inl ⟨x,j,y,o,(xv b).1 h⟩;obtain⟨x,j,rfl⟩:=aK.1 a;refine .inr (.inl ⟨x,j,λy o q=>G _ (aK.2 ⟨y,o,rfl⟩) (iz b q),?_⟩);rw[kK b]at A;exact A;obtain⟨x,j,rfl⟩:=aK.1 a;refine .inr (.inr (.inl ⟨x,j,λy o q=>G _ (aK.2 ⟨y,o,rfl⟩) (iz b q),?_⟩));rw[kK b]at A;exact A
  ·obtain⟨B,rfl,d6⟩:∃B,u=ag N B/\((∃e∈X,e.1=B)\/∃e∈Y,e.1=B):=(by rcases d3 with⟨e,a,q⟩|⟨e,a,q⟩;obtain⟨x,j,rfl⟩:=aK.1 a;exact⟨x.1,q.symm,.inl ⟨x,j,rfl⟩⟩;obtain⟨x,j,rfl⟩:=aK.1 a;exact⟨x.1,q.symm,.inr ⟨x,j,rfl⟩⟩);have b2:∀{E:Ed} {f g:V2},Cn (bD N E) (ag N B) f g->∃b3 b4,f=ag N b3/\g=ag N b4/\Cn E B b3 b4:=(by rintro E f g (⟨e,a,f7,d7,S,T,rfl,rfl⟩|⟨e,a,d8,S,T,rfl,rfl⟩);obtain⟨x,j,rfl⟩:=aK.1 a;obtain⟨y,o,rfl⟩:=aK.1 d7;exact⟨_,_,hQ _ _ _,hQ _ _ _,.inl ⟨x,j,y,o,gS b S,gS b T,rfl,rfl⟩⟩;obtain⟨x,j,rfl⟩:=aK.1 a;exact⟨_,_,hQ _ _ _,hQ _ _ _,.inr ⟨x,j,(gW b).1 d8,λq=>S (by rw[q]),λq=>T (by rw[q]),rfl,rfl⟩⟩);obtain⟨d9,e0,rfl,rfl,e3⟩:=b2 d4;obtain⟨e4,e5,rfl,rfl,e6⟩:=b2 d5;refine .inr (.inr (.inr ⟨B,d9,e0,e4,e5,d6,e3,e6,?_⟩));have U:∀p q:V2,(0<aa (ag N p) (ag N q)↔0<aa p q)/\(aa (ag N p) (ag N q)<0↔aa p q<0):=λp q=>by have e:aa (ag N p) (ag N q)=N*N*aa p q:=(by simp only[aa,ag];grind);have f:=ct (aa p q) (XC b b);rw[e,Yd];omega
   have e7:∀p q:V2,(ay (ag N p) (ag N q)<0↔ay p q<0):=λp q=>by have e:ay (ag N p) (ag N q)=N*N*ay p q:=(by simp only[ay,ag];grind);have f:=ct (ay p q) (XC b b);rw[e,Yd];omega
   have V:∀p q:V2,rk (ag N p) (ag N q)=rk p q:=λp q=>by unfold rk;simp only[(U p q).1,(U p q).2,e7 p q]
   have b5:∀p q d:V2,mO (ag N p) (ag N q) (ag N d)↔mO p q d:=λp q d=>by unfold mO;rw[V,V,(U d q).1]
   unfold lQ at R|-;rw[V,b5,b5]at R;exact R
 refine d2 ?_;rw[ed]at O;rcases XN.1 O with q|q;have Z:(ag D t.1,ag D t.2)∈bD (D*M) X:=(by rw[<-eO];exact aK.2 ⟨t,q,rfl⟩);exact Ns a5 a6 a7 a8 b1 a9 b0 (λe a=>(I e a).1) (λe a=>(J e a).1) (λe a=>(I e a).2) (λe a=>(J e a).2) Z H;have Z:(ag D t.1,ag D t.2)∈bD (D*M) Y:=(by rw[<-eO];exact aK.2 ⟨t,q,rfl⟩);exact(Ns a6 a5 a8 a7 b1 b0 a9 (λe a=>(J e a).1) (λe a=>(I e a).1) (λe a=>(J e a).2) (λe a=>(I e a).2) Z H).swap
theorem Ie (a:iU X) (b:iU Y) (c:nc X k1) (f:nc Y k2) (g:k2=0):Comm X k1 Y k2↔JM X k1 Y k2:=⟨F9 a b c f g,FT a b c f⟩
end
def AE (a b p q:V2):Prop:=∀(m:Int) (u:V2),0<m->aV (ag m a) (ag m b) u->aV (ag m p) (ag m q) u->(u=ag m a\/u=ag m b)/\(u=ag m p\/u=ag m q)
variable {a p q:V2}
theorem AE.sym {b:V2} (h:AE a b p q):AE p q a b:=λm u c f g=>(h m u c g f).symm
theorem AE.swap {b:V2} (h:AE a b p q):AE b a p q:=λm u c f g=>by
 have:=h m u c (au.1 f) g;exact⟨this.1.symm,this.2⟩
theorem kj {b:V2} (h:∀(m:Int) (u:V2),0<m->aV (ag m a) (ag m b) u->aV (ag m p) (ag m q) u->False):NM a b p q:=by
 have one:∀u,aV a b u->aV p q u->False:=λu c f=>h 1 u (by decide) (by rw[bt,bt];exact c) (by rw[bt,bt];exact f);refine⟨λk=>one a (cd _ _) k,λk=>one b (bE _ _) k,λk=>one p k (cd _ _),λk=>one q k (bE _ _),λk=>?_⟩;obtain⟨m,u,g,c,f⟩:=ti (e1:=(a,b)) (e2:=(p,q)) ⟨k.1,k.2⟩;exact h m u g c.1 f.1
def Vx (E:Ed) (v:V2):Prop:=∃e∈E,e.1=v
structure Dis (E D:Ed):Prop where
 oO:iU E
 wu:nc E 0
 vd:∀d∈D,Vx E d.1/\Vx E d.2/\d.1≠d.2
 ae:∀d∈D,∀e∈E,AE d.1 d.2 e.1 e.2
 dd:∀d∈D,∀d'∈D,d≠d'->AE d.1 d.2 d'.1 d'.2
 RX:∀d∈D,W (bD 2 E) (ak d.1 d.2)=1
structure pR (E D:Ed):Prop extends Dis E D where
 max:∀a b,Vx E a->Vx E b->a≠b->(∀e∈E,AE a b e.1 e.2)->(∀d∈D,AE a b d.1 d.2)->W (bD 2 E) (ak a b)=1->False
def oB (E D:Ed) (q x:V2):Prop:=(q,x)∈E++D\/(x,q)∈E++D
def uE (E D:Ed) (p q:V2):Prop:=(p,q)∈E\/(p,q)∈D\/(q,p)∈D
section
variable {E D:Ed}
theorem iU.head {E:Ed} (s:iU E) {e:V2×V2} (h:e∈E):Vx E e.2:=by
 obtain⟨a,b,c⟩:=s.qK e h;exact⟨a,b,c⟩
theorem Dis.ends (h:Dis E D) {f:V2×V2} (a:f∈E++D):Vx E f.1/\Vx E f.2/\f.1≠f.2:=by
 rcases XN.1 a with q|q;exact⟨⟨f,q,rfl⟩,h.oO.head q,h.oO.nz f q⟩;exact h.vd f q
theorem Dis.kU (h:Dis E D) {v:V2} (i:Vx E v) {f:V2×V2} (j:f∈E++D) (a:aV f.1 f.2 v):v=f.1\/v=f.2:=by
 obtain⟨e,b,rfl⟩:=i;rcases XN.1 j with q|q;obtain⟨k,o,l,_,m⟩:=h.oO.out e b;by_cases c:f=e;left;rw[c];by_cases g:f=k;right;rw[g,l];exact absurd a (m f q c g);have:=h.ae f q e b 1 e.1 (by decide) (by rw[bt,bt];exact a) (by rw[bt,bt];exact cd _ _);rw[bt,bt]at this;exact this.1
theorem pE {b:V2} (c:a≠b) (h:AE a b a b):False:=by
 have f:aV (ag 2 a) (ag 2 b) (ak a b):=by have:=(ml (x:=1) (y:=1) (by decide) (by decide) c (u:=ak a b) (by simp[ak]) (by simp[ak])).1;exact this
 have:=(h 2 _ (by decide) f f).1;have q:=ml (x:=1) (y:=1) (by decide) (by decide) c (u:=ak a b) (by simp[ak]) (by simp[ak]);rcases this with k|k;exact q.2.1 k;exact q.2.2 k
theorem Dis.side (h:Dis E D) {f a:V2×V2} (l:f∈E++D) (o:a∈E++D) (c:f≠a):AE f.1 f.2 a.1 a.2:=by
 rcases XN.1 l with q|q<;>rcases XN.1 o with b|b
 ·intro m u g i j;refine⟨?_,?_⟩;refine Xz λk=>h.oO.one f q a b c m u g i (λe=>k (.inl e)) (λe=>k (.inr e)) j;refine Xz λk=>h.oO.one a b f q (Zr c) m u g j (λe=>k (.inl e)) (λe=>k (.inr e)) i
 ·exact(h.ae a b f q).sym
 ·exact h.ae f q a b
 ·exact h.dd f q a b c
theorem uE.qR (h:uE E D p q):oB E D q p:=by
 rcases h with h|h|h;exact .inr (by simp[h]);exact .inr (by simp[h]);exact .inl (by simp[h])
theorem oB.ne (h:Dis E D) (k:oB E D p q):p≠q:=by
 rcases k with k|k;exact(h.ends k).2.2;exact(h.ends k).2.2.symm
theorem oB.vx (h:Dis E D) (k:oB E D p q):Vx E p/\Vx E q:=by
 rcases k with k|k;exact⟨(h.ends k).1,(h.ends k).2.1⟩;exact⟨(h.ends k).2.1,(h.ends k).1⟩
theorem oB.sym (k:oB E D p q):oB E D q p:=Or.symm k
theorem Dw (s:iU E) (C:∀e∈E,AE q p e.1 e.2) (D:p≠q):∀e∈bD 2 E,∀n:Nat,1<=n->NM (ag n e.1) (ag n e.2) (ag n (ak q p)) (nr n (ag 2 q) (af (ak q p) (ag 2 q))):=by
 intro e O n a9;obtain⟨x,P,rfl⟩:=aK.1 O;have F:0<(n:Int):=by omega
 refine kj (λm u f t r=>?_);simp only[gR]at t;have w:=yU n (by omega) (ag 2 q) (ak q p);have Q:0<m*(n*2):=XC f (by omega);have G:aV (ag (m*(n*2)) q) (ag (m*(n*2)) p) u:=by have R:aV (ag 2 q) (ag 2 p) (ak q p):=(ml (x:=1) (y:=1) (by decide) (by decide) D.symm (u:=ak q p) (by simp[ak]) (by simp[ak])).1;have S:aV (ag m (ag n (ag 2 q))) (ag m (ag n (ag 2 p))) (ag m (ag n (ak q p))):=iz f (iz F R);have T:=iz f w;have U:=aV.trans (au.1 T) (au.1 r);have H:=aV.trans (au.1 S) (au.1 U);simp only[gR]at H;exact au.1 H
 have V:af (ak q p) (ag 2 q)=af p q:=V2.ext (by simp only[af,ak,ag];omega) (by simp only[af,ak,ag];omega);rw[V]at r w;have X:=r;obtain⟨_,g,h,i,j⟩:=X;simp only[ag,ak,nr,af]at g h i j;have I:0<m*n:=XC f F;have A:∀a b:Int,m*(n*(a+b))=m*n*a+m*n*b/\m*(n*(2*a)+(b-a))=2*(m*n)*a+m*(b-a)/\m*(n*2)*a=2*(m*n)*a/\m*(n*2)*b=2*(m*n)*b:=λa b=>⟨by grind,by grind,by grind,by grind⟩;have l:=A q.x p.x;have o:=A q.y p.y;have J:=(C x P (m*(n*2)) u Q G t).1;have Y:∀a b:Int,a≠b->m*n*a+m*n*b≠2*(m*n)*a/\m*n*a+m*n*b≠2*(m*n)*b:=λa b K=>by
  have M:m*n*a+m*n*b-2*(m*n)*a=m*n*(b-a):=(by grind);have N:m*n*a+m*n*b-2*(m*n)*b=m*n*(a-b):=(by grind);have b0:m*n*(b-a)≠0:=λz=>by have:=(mz z).resolve_left (by omega);omega
  have b1:m*n*(a-b)≠0:=λz=>by have:=(mz z).resolve_left (by omega);omega
  omega
 have str:∀a b c:Int,a<b->(m*n*a+m*n*b<=c\/2*(m*n)*a+m*(b-a)<=c)/\(c<=m*n*a+m*n*b\/c<=2*(m*n)*a+m*(b-a))->2*(m*n)*a<c/\c<2*(m*n)*b:=λa b c K Z=>by have a0:=XC f (show 0<b-a by omega);have a1:=XC I (show 0<b-a by omega);have M:m*n*(b-a)=m*n*b-m*n*a:=(by grind);have a2:2*(m*n)*a=2*(m*n*a):=(by grind);have a3:2*(m*n)*b=2*(m*n*b):=(by grind);have N:m*(b-a)<=m*n*(b-a):=(by have:=Yp (show m<=m*n by have:=XT (show(1:Int)<=n by omega) (show 0<=m by omega);omega) (show 0<=b-a by omega);exact this);omega
 have B:∀a b c:Int,b<a->(m*n*a+m*n*b<=c\/2*(m*n)*a+m*(b-a)<=c)/\(c<=m*n*a+m*n*b\/c<=2*(m*n)*a+m*(b-a))->c<2*(m*n)*a/\2*(m*n)*b<c:=λa b c K Z=>by have a0:=XC f (show 0<a-b by omega);have a1:=XC I (show 0<a-b by omega);have M:m*n*(a-b)=m*n*a-m*n*b:=(by grind);have a2:2*(m*n)*a=2*(m*n*a):=(by grind);have a3:2*(m*n)*b=2*(m*n*b):=(by grind);have b2:m*(b-a)= -(m*(a-b)):=(by grind);have N:m*(a-b)<=m*n*(a-b):=(by have:=Yp (show m<=m*n by have:=XT (show(1:Int)<=n by omega) (show 0<=m by omega);omega) (show 0<=a-b by omega);exact this);omega
 simp only[ag,V2.eq_iff]at J;rw[l.1,l.2.1]at g h;rw[o.1,o.2.1]at i j;rw[l.2.2.1,l.2.2.2,o.2.2.1,o.2.2.2]at J;have a4:=λc=>str q.x p.x u.x c ⟨g,h⟩;have a5:=λc=>B q.x p.x u.x c ⟨g,h⟩;have a6:=λc=>str q.y p.y u.y c ⟨i,j⟩;have a7:=λc=>B q.y p.y u.y c ⟨i,j⟩;have a8:q.x≠p.x\/q.y≠p.y:=by refine Xz λk=>D (V2.ext (by omega) (by omega))
 clear str B Y A t r w G C g h i j l o;rcases a8 with c|c;rcases Yi c with c|c;have:=a4 c;omega;have:=a5 c;omega;rcases Yi c with c|c;have:=a6 c;omega;have:=a7 c;omega
end
variable {a:Int}
theorem Qv {b:Int} (g:0<a) (h:0<b) (f d:V2):rk (ag a f) (ag b d)=rk f d:=by
 have i:aa (ag a f) (ag b d)=a*b*aa f d:=by simp only[aa,ag];grind
 have j:ay (ag a f) (ag b d)=a*b*ay f d:=by simp only[ay,ag];grind
 have k:=ct (aa f d) (XC g h);have l:=ct (ay f d) (XC g h);rw[Yd]at k l;have c:=bq f d;have m:=bq (ag a f) (ag b d);rw[i,j]at m;omega
theorem RC {b c:Int} (h:0<a) (i:0<b) (j:0<c) (f g d:V2):mO (ag a f) (ag b g) (ag c d)↔mO f g d:=by
 have k:aa (ag c d) (ag b g)=c*b*aa d g:=by simp only[aa,ag];grind
 have l:=ct (aa d g) (XC j i);rw[Yd]at l;unfold mO;rw[Qv h j,Qv h i,k];omega
variable {p q:V2}
section
variable {E D:Ed}
theorem uE.ne (h:Dis E D) (a:uE E D p q):p≠q:=(oB.ne h a.qR).symm
theorem iU.two (s:iU E) (h:Vx E q):∃x y,(q,x)∈E/\(y,q)∈E/\Cn E q (af x q) (af y q)/\∀e∈E,aV e.1 e.2 q->e=(q,x)\/e=(y,q):=by
 obtain⟨e,a,rfl⟩:=h;obtain⟨b,f,c,_,j⟩:=s.out e a;refine⟨e.2,b.1,a,by rw[<-c];exact f,.inl ⟨e,a,b,f,rfl,c,rfl,rfl⟩,λx k l=>?_⟩;by_cases g:x=e;left;rw[g];by_cases i:x=b;right;rw[i,<-c];exact absurd l (j x k g i)
theorem Fv (h:Dis E D) {s:V2} (a:uE E D p q) (hs:0<aa (af q p) s) (f:∀y,oB E D q y->¬(0<=aa s (af y q)/\0<aa (af y q) (af p q))):Ev λn=>W (bD n E) (nr n q s)=1:=by
 have b:=a.ne h;obtain⟨x,y,r,u,M,N⟩:=h.oO.two (a.qR.vx h).1;obtain⟨O,c,g,A⟩:=h.oO.fZ M;have nx:oB E D q x:= .inl (by simp[r]);have P:oB E D q y:= .inr (by simp[u]);have i:aa (af p q) s<0:=by have:aa (af q p) s= -aa (af p q) s:=(by simp only[aa,af];grind);omega
 have Q:af p q≠⟨0,0⟩:=df b;have j:s≠⟨0,0⟩:=λe=>by rw[e]at i;simp[aa]at i
 have B:∀{v:V2},oB E D q v->af v q≠⟨0,0⟩->rk (af v q) s≠3:=λ{v} R C k=>by obtain⟨z,d⟩:=lp k C j;have a6:=((di (af p q) z C).1 d).1;have F:=aQ (af v q) s;have a7:=aQ (af p q) s;exact f v R ⟨by omega,by omega⟩
 have G:=B nx g;have S:=B P A;have T:mO (af x q) (af y q) s:=by
  refine Xz λH=>?_;by_cases l:(p,q)∈E;have I:p=y:=(by rcases N _ l (bE _ _)with k|k;exact absurd (X5 (·.1) k) b;exact X5 (·.1) k);have m:=sz g A j c G S H;have U:=bq (af y q) (af x q);have V:=bq (af y q) s;have X:=rb c;have F:=aQ (af y q) (af x q);rw[I]at i;have:=f x nx;rw[I]at this;rcases m with k|⟨Y,Z,a0⟩;omega;omega
  ·have a1:∀e∈E,AE q p e.1 e.2:=λe J=>by rcases a with k|k|k;exact absurd k l;exact(h.ae _ k e J).swap;exact h.ae _ k e J
   have a2:W (bD 2 E) (ak q p)+0=1:=(by rcases a with k|k|k;exact absurd k l;have:=h.RX _ k;rw[show ak q p=ak p q from V2.ext (by simp only[ak];omega) (by simp only[ak];omega),this];rfl;rw[h.RX _ k];rfl);have a3:Cn (bD 2 E) (ag 2 q) (ag 2 (af x q)) (ag 2 (af y q)):= .inl ⟨(ag 2 q,ag 2 x),aK.2 ⟨_,r,rfl⟩,(ag 2 y,ag 2 q),aK.2 ⟨_,u,rfl⟩,rfl,rfl,(hQ _ _ _).symm,(hQ _ _ _).symm⟩;have o:=rH (h.oO.sc (by decide)) (h.wu.sc (by decide)) a3 (w:=ak q p) (λe=>b (by simp only[ag,ak,V2.mk.injEq]at e;exact V2.ext (by omega) (by omega))) a2 (Dw h.oO a1 b);have a4:af (ak q p) (ag 2 q)=ag 1 (af p q):=(by rw[bt];exact V2.ext (by simp only[af,ak,ag];omega) (by simp only[af,ak,ag];omega));rw[a4,RC (by decide) (by decide) (by decide)]at o;obtain⟨_,_,K⟩:=Ax o c;have a5:¬mO (af x q) (af p q) s:=λk=>H (sy o k|>λt=>t);have V:=bq (af p q) s;have m:=sz g Q j K G (by omega) a5;have U:=bq (af p q) (af x q);have X:=rb K;have F:=aQ (af p q) (af x q);have:=f x nx;rcases m with k|⟨Y,Z,a0⟩;omega;omega
 exact(O.inside h.wu c T).imp λn k=>by omega
theorem Jc (h:Dis E D) {r:V2} (m:uE E D p q) (B:oB E D q r) (Y:0<aa (af r q) (af p q)) (C:∀y,oB E D q y->¬(0<aa (af r q) (af y q)/\0<aa (af y q) (af p q))):uE E D q r:=by
 rcases B with k|k;rcases XN.1 k with k|k;exact .inl k;exact .inr (.inl k);rcases XN.1 k with k|k
 ·exfalso;obtain⟨x,y,Z,a0,o,F⟩:=h.oO.two (m.qR.vx h).1;have G:=h.oO.nz _ k;have H:r=y:=(by rcases F _ k (bE _ _)with e|e;exact absurd (X5 (·.1) e) G;exact X5 (·.1) e);obtain⟨u,l,a1,j⟩:=h.oO.fZ o;rw[<-H]at o u l j;generalize I:af r q=g at*;have J:0<ay g g:=cg j;have one:∀v:V2,0<aa (af v q) (af p q)->¬0<aa g (af v q)->Ev λK=>aa (mix K g (dy g)) (af v q)<0:=λv i a2=>by
   by_cases z:aa g (af v q)=0
   ·refine .of λK=>?_;rw[ec,z,Yh,Zf];have a3:aa (dy g) (af v q)= -ay g (af v q):=(by simp only[aa,dy,ay];grind);have M:=di (af p q) z j;have:¬ay g (af v q)<0:=λk=>by have:=(M.2 k).1;omega
    have:ay g (af v q)≠0:=λk=>by have e:=ia (e:=af p q) z;rw[k,Yb]at e;have:=(mz e).resolve_left (by omega);omega
    omega
   ·refine(kG (aa (dy g) (af v q)) (show aa g (af v q)<0 by omega)).imp λK k=>?_;rw[ec];exact k
  have w:∀v:V2,oB E D q v->Ev λK=>0<aa (af v q) (af p q)->aa (mix K g (dy g)) (af v q)<0:=λv i=>by by_cases c:0<aa (af v q) (af p q);exact(one v c (λk=>C v i ⟨k,c⟩)).imp λK k _=>k;exact .of λK k=>absurd k c
  have N:Ev λK=>∀v,oB E D q v->0<aa (af v q) (af p q)->aa (mix K g (dy g)) (af v q)<0:=by
   have O:Ev λK=>∀f∈E++D,(f.1=q->0<aa (af f.2 q) (af p q)->aa (mix K g (dy g)) (af f.2 q)<0)/\(f.2=q->0<aa (af f.1 q) (af p q)->aa (mix K g (dy g)) (af f.1 q)<0):=
    Ev.all (E++D) (λf A=>by have P:Ev λK=>f.1=q->0<aa (af f.2 q) (af p q)->aa (mix K g (dy g)) (af f.2 q)<0:=(by by_cases c:f.1=q;exact(w f.2 (.inl (by rw[<-c];exact A))).imp λK k _=>k;exact .of λK k=>absurd k c);have Q:Ev λK=>f.2=q->0<aa (af f.1 q) (af p q)->aa (mix K g (dy g)) (af f.1 q)<0:=(by by_cases c:f.2=q;exact(w f.1 (.inr (by rw[<-c];exact A))).imp λK k _=>k;exact .of λK k=>absurd k c);exact P.and Q)
   refine O.imp λK k v i=>?_;rcases i with i|i;exact(k _ i).1 rfl;exact(k _ i).2 rfl
  have R:0<aa (af q p) g:=(by have:aa (af q p) g=aa g (af p q):=(by rw[<-I];simp only[aa,af];grind);omega);obtain⟨K,_,S,T,U⟩:=(N.and ((eo (aa (af q p) (dy g)) R).and (jj (t:=dy g) (rb l) j j (uU j) (by rw[pA];exact J)))).ex 0;have V:=Fv h m (s:=mix K g (dy g)) (by rw[eD];exact T) (λv i ⟨a,b⟩=>by have:=S v i b;omega);obtain⟨n,_,a4,X⟩:=(V.and (u.rev.inside h.wu.rev (rb l) U)).ex 1;rw[eP,ja]at X;omega
 ·exact .inr (.inr k)
theorem pR.clear (h:pR E D) {x:V2} (g:Vx E q) (i:Vx E x) (c:q≠x) (b:∀f∈E++D,AE q x f.1 f.2) (hw:Ev λn=>W (bD n E) (nr n q (af x q))=1):False:=by
 refine h.max q x g i c (λe a=>b e (by simp[a])) (λd j=>b d (by simp[j])) ?_;obtain⟨N,l⟩:=hw;have k:=l (2*(N+1)) (by omega);have m:=Dw h.oO (λe a=>b e (by simp[a])) c.symm;have p:=ih ((h.oO.cV.sc 2).sc ((N+1:Nat):Int)) (p:=ag ((N+1:Nat):Int) (ak q x)) (q:=nr ((N+1:Nat):Int) (ag 2 q) (af (ak q x) (ag 2 q))) (λe a=>by obtain⟨y,o,rfl⟩:=aK.1 a;exact m y o (N+1) (by omega));rw[kK (by omega),eO]at p;have r:nr ((N+1:Nat):Int) (ag 2 q) (af (ak q x) (ag 2 q))=nr ((2*(N+1):Nat):Int) q (af x q):=by refine V2.ext ?_ ?_;simp only[nr,ag,af,ak];rw[show((2*(N+1):Nat):Int)=2*((N+1:Nat):Int) by omega];grind;simp only[nr,ag,af,ak];rw[show((2*(N+1):Nat):Int)=2*((N+1:Nat):Int) by omega];grind
 rw[r,show((N+1:Nat):Int)*2=((2*(N+1):Nat):Int) by omega]at p;rw[p];exact k
theorem Dis.nQ (h:Dis E D) {f a:V2×V2} (g:f∈E++D) (i:a∈E++D):¬kN f a:=λc=>by
 by_cases e:f=a;subst e;have z:ai f.1 f.2 f.1=0:=(by simp only[ai,aa,af];grind);unfold kN at c;omega;obtain⟨m,u,j,b,l⟩:=ti c;have:=(h.side g i e m u j b.1 l.1).1;rcases this with k|k;exact b.2.1 k;exact b.2.2 k
theorem gw {a b r:V2} {k:Int} (h:aV p q r) (f:ai a b p<=k:=by omega) (h2:ai a b q<=k:=by omega):ai a b r<=k:=by
 obtain⟨i,j⟩:=uN (a:=a) (b:=b) h.1;obtain⟨_,u,w,A,B⟩:=h;have g:∀x y z:Int,(y-x)*ai a b r=(y-z)*ai a b p+(z-x)*ai a b q->((x<=z/\z<=y)\/(y<=z/\z<=x))->x≠y->ai a b r<=k:=by intro x y z e C l;rcases Yi l with c|c;have m:=XT f (show 0<=y-z by omega);have o:=XT h2 (show 0<=z-x by omega);refine YX (a:=y-x) ?_ (by omega);have:(y-x)*k=(y-z)*k+(z-x)*k:=(by grind);omega;have m:=XT f (show 0<=z-y by omega);have o:=XT h2 (show 0<=x-z by omega);refine YX (a:=x-y) ?_ (by omega);have D:(x-y)*k=(z-y)*k+(x-z)*k:=(by grind);have E:(x-y)*ai a b r=(z-y)*ai a b p+(x-z)*ai a b q:=(by grind);omega
 by_cases c:p.x=q.x;by_cases t:p.y=q.y;have e:r=p:=V2.ext (by omega) (by omega);rw[e];exact f;exact g p.y q.y r.y j (by omega) t;exact g p.x q.x r.x i (by omega) c
theorem OQ {a b c g v:V2} (f:ai c g v=0) (j:0<ai a b c) (h2:ai a b v=0) (q:ai a b g<0):aV c g v:=by
 have ex:(ai a b c-ai a b g)*(v.x-c.x)=ai a b c*(g.x-c.x):=by simp only[ai,aa,af]at f h2|-;grind
 have l:(ai a b c-ai a b g)*(v.y-c.y)=ai a b c*(g.y-c.y):=by simp only[ai,aa,af]at f h2|-;grind
 generalize ai a b c=s at*;generalize ai a b g=t at*;have k:∀x y z:Int,(s-t)*(z-x)=s*(y-x)->((x<=z/\z<=y)\/(y<=z/\z<=x)):=by intro x y z e;have m:(s-t)*(y-z)= -t*(y-x):=(by grind);rcases YI x y with c|c;left;have h:=XM (XO j) (show 0<=y-x by omega);have i:=XM (show 0<= -t by omega) (show 0<=y-x by omega);have o:0<=z-x:=(by refine YX (a:=s-t) ?_ (by omega);rw[e,Yh];exact h);have p:0<=y-z:=(by refine YX (a:=s-t) ?_ (by omega);rw[m,Yh];exact i);omega;right;have h:=XM (XO j) (show 0<=x-y by omega);have i:=XM (show 0<= -t by omega) (show 0<=x-y by omega);have o:0<=x-z:=(by refine YX (a:=s-t) ?_ (by omega);have:(s-t)*(x-z)=s*(x-y):=(by grind);rw[this,Yh];exact h);have p:0<=z-y:=(by refine YX (a:=s-t) ?_ (by omega);have:(s-t)*(z-y)= -t*(x-y):=(by grind);rw[this,Yh];exact i);omega
 have r:=k c.x g.x v.x ex;have u:=k c.y g.y v.y l;exact⟨f,by omega,by omega,by omega,by omega⟩
structure Kn (E D:Ed) (p q r:V2):Prop where
 tg:uE E D p q
 qR:oB E D q r
 left:0<ai p q r
 free:∀y,oB E D q y->¬(0<aa (af r q) (af y q)/\0<aa (af y q) (af p q))
theorem vJ (p q r:V2):aa (af r q) (af p q)=ai p q r:=by simp only[ai,aa,af];grind
theorem Qm (q r y:V2):aa (af r q) (af y q)=ai q r y:=rfl
theorem Kn.G7 (h:Dis E D) {r:V2} (K:Kn E D p q r) {I:Int} (Z:0<=I) (R:∀v,Vx E v->v≠q->0<=ai q r v->0<=ai r p v->0<=ai p q v->ai r p v<=I)
  {f:V2×V2} (a0:f∈E++D) {m:Int} (N:0<m) {c:V2} (j:aV (ag m f.1) (ag m f.2) c) (C:0<ai (ag m q) (ag m r) c) (J:0<ai (ag m p) (ag m q) c) (b5:m*m*I<ai (ag m r) (ag m p) c):False:=by
 have u:0<m*m:=XC N N;have b6:∀{x y:Int},m*m*x<m*m*y->x<y:=λ{x y} k=>ZZ k (XO u);have b7:0<=m*m*I:=XM (XO u) Z;have a1:∀{f1 g:V2},(f1,g)∈E++D\/(g,f1)∈E++D->aV (ag m f1) (ag m g) c->ai (ag m r) (ag m p) c<=ai (ag m r) (ag m p) (ag m g)->False:=by
  intro f1 g O j a2;have b8:Vx E g:=(by rcases O with k|k;exact(h.ends k).2.1;exact(h.ends k).1);have a3:∀{a b:V2},(a,b)∈E++D\/(b,a)∈E++D->¬kN (ag m a,ag m b) (c,ag m g):=by
   intro a b b9 k;have c0:=pz j k;have P:kN (a,b) (f1,g):=(xv N (e1:=(a,b)) (e2:=(f1,g))).1 c0;rcases b9 with x|x<;>rcases O with y|y
   ·exact h.nQ x y P
   ·exact h.nQ x y (ej P)
   ·exact h.nQ x y (ej P.sym).sym
   ·exact h.nQ x y (ej (ej P.sym).sym)
  have c1:(p,q)∈E++D\/(q,p)∈E++D:=Or.symm K.tg.qR;have c2:(q,r)∈E++D\/(r,q)∈E++D:=K.qR;by_cases S:g=q;subst S;have c3:0<ai g r f1:=(by refine Y3.1 λk=>?_;have:=gw (a:=ag m g) (b:=ag m r) (k:=0) j (by rw[bZ];exact XI (XO u) k) (by simp only[ai,aa,af];grind);omega);have c4:0<ai p g f1:=(by refine Y3.1 λk=>?_;have:=gw (a:=ag m p) (b:=ag m g) (k:=0) j (by rw[bZ];exact XI (XO u) k) (by simp only[ai,aa,af];grind);omega);exact K.free f1 (Or.symm O) ⟨by rw[Qm];exact c3,by rw[vJ];exact c4⟩
  ·have c5:I<ai r p g:=b6 (by rw[bZ]at a2;omega);have c6:ai q r g<0\/ai p q g<0:=(by refine Xz λk=>?_;have:=R g b8 S (by omega) (by omega) (by omega);omega);have T:0<ai (ag m p) (ag m q) (ag m r):=(by rw[bZ];exact XC u K.left);have a4:ai (ag m q) (ag m r) (ag m g)=m*m*ai q r g:=bZ _ _ _ _;have c7:ai (ag m r) (ag m p) (ag m g)=m*m*ai r p g:=bZ _ _ _ _;have a5:ai (ag m p) (ag m q) (ag m g)=m*m*ai p q g:=bZ _ _ _ _;have a6:=bg (n:=m*m) (x:=ai q r g) u;have a7:=bg (n:=m*m) (x:=ai p q g) u;rw[<-a4]at a6;rw[<-a5]at a7;have a8:ai (ag m p) (ag m q) (ag m r)*ai c (ag m g) (ag m p)=ai (ag m r) (ag m p) c*ai (ag m p) (ag m q) (ag m g)-ai (ag m r) (ag m p) (ag m g)*ai (ag m p) (ag m q) c:=(by simp only[ai,aa,af];grind);have a9:ai (ag m p) (ag m q) (ag m r)*ai c (ag m g) (ag m q)=ai (ag m p) (ag m q) c*ai (ag m q) (ag m r) (ag m g)-ai (ag m p) (ag m q) (ag m g)*ai (ag m q) (ag m r) c:=(by simp only[ai,aa,af];grind);have b0:ai (ag m p) (ag m q) (ag m r)*ai c (ag m g) (ag m r)=ai (ag m q) (ag m r) c*ai (ag m r) (ag m p) (ag m g)-ai (ag m r) (ag m p) c*ai (ag m q) (ag m r) (ag m g):=(by simp only[ai,aa,af];grind);have l:=a3 c1;have i:=a3 c2;unfold kN at l i;simp only at l i;have w:ai c (ag m g) (ag m q)=0->ai (ag m p) (ag m q) (ag m g)<0->False:=λz A=>by have c8:=OQ (a:=ag m p) (b:=ag m q) z J (by simp only[ai,aa,af];grind) A;have c9:aV (ag m g) (ag m f1) (ag m q):=au.1 (aV.trans j c8);have b1:aV g f1 q:=(gW N).1 c9;have d0:q=g\/q=f1:=(by rcases O with k|k;exact(h.kU (K.qR.vx h).1 k (au.1 b1)).symm;exact h.kU (K.qR.vx h).1 k b1);rcases d0 with e|e;exact S e.symm;subst e;have:=gw (a:=ag m p) (b:=ag m q) (k:=0) j (by simp only[ai,aa,af];grind);omega
   have U:0<ai (ag m r) (ag m p) c:=(by omega);have Bg:0<ai (ag m r) (ag m p) (ag m g):=(by omega);generalize ai (ag m p) (ag m q) (ag m r)=V at*;generalize ai (ag m r) (ag m p) c=d8 at*;generalize ai (ag m r) (ag m p) (ag m g)=d9 at*;generalize ai (ag m p) (ag m q) c=e0 at*;generalize ai (ag m p) (ag m q) (ag m g)=X at*;generalize ai (ag m q) (ag m r) c=e3 at*;generalize ai (ag m q) (ag m r) (ag m g)=Q at*;generalize ai c (ag m g) (ag m p)=b2 at*;generalize ai c (ag m g) (ag m q)=Y at*;generalize ai c (ag m g) (ag m r)=b3 at*;have o:=bg (n:=V) (x:=b2) T;have M:=bg (n:=V) (x:=Y) T;have t:=bg (n:=V) (x:=b3) T;rw[a8]at o;rw[a9]at M;rw[b0]at t;clear a8 a9 b0;have o:=o.2.1.1;have F:=M.1.1;have G:=M.2.1.1;have t:=t.1.1;have H:0<=X->Q<0:=(by clear l i w o M F G t R;omega);clear a6 a7 a4 c7 a5 c6 a2 b5 b7 Z c5 R M;by_cases A:X<0;have d1:=Ya U A;have d2:=XC Bg J;have e4:=X2 A C;have d3:b2<0:=o (by clear l i w F G t H;omega);rcases YF Y 0 with k|k|k;by_cases B:Q<0;have d4:=XC C Bg;have d5:=Ya U B;have d6:0<b3:=t (by clear l i w F G H o;omega);exact i ⟨.inr ⟨k,d6⟩,.inl ⟨C,B⟩⟩;have e5:=XM (XO J) (show 0<=Q from Zx.1 B);have:0<Y:=F (by clear l i w G H o t;omega);exact absurd this (Zx.2 (XO k));exact w k A;exact l ⟨.inr ⟨d3,k⟩,.inl ⟨J,A⟩⟩;have b4:0<=X:=Zx.1 A;have B:Q<0:=H b4;have d1:=Ya J B;have d2:=XM b4 (XO C);have d4:=XC C Bg;have d5:=Ya U B;exact i ⟨.inr ⟨G (by clear l i w F H o t;omega),t (by clear l i w F H o G;omega)⟩,.inl ⟨C,B⟩⟩
 by_cases d7:ai (ag m r) (ag m p) c<=ai (ag m r) (ag m p) (ag m f.2);exact a1 (f1:=f.1) (g:=f.2) (.inl a0) j d7;refine a1 (f1:=f.2) (g:=f.1) (.inr a0) (au.1 j) (Zx.1 λk=>?_);have:=gw (a:=ag m r) (b:=ag m p) (k:=ai (ag m r) (ag m p) c-1) j;omega
end
variable {p q:V2} {m:Int}
section
variable {E D:Ed}
theorem qj (a b c:V2):ai b c a=ai a b c:=by simp only[ai,aa,af];grind
theorem J6 (p q r:V2):ai r p q=ai p q r:=by simp only[ai,aa,af];grind
theorem Kn.fE (h:Dis E D) {r:V2} (K:Kn E D p q r) {s:V2} (b:0<aa (af r q) s) (h2:0<aa s (af p q)):Ev λn=>W (bD n E) (nr n q s)=1:=by
 refine Fv h K.tg ?_ (λy c ⟨f,a⟩=>K.free y c ⟨?_,a⟩);have:aa (af q p) s=aa s (af p q):=(by simp only[aa,af];grind);omega;have id:aa (af r q) (af y q)*aa s (af p q)=aa (af r q) s*aa (af y q) (af p q)+aa (af r q) (af p q)*aa s (af y q):=(by simp only[aa,af];grind);have g:=XC b a;have i:=XM (XO (show 0<aa (af r q) (af p q) by rw[vJ];exact K.left)) f;refine Y3.1 λk=>?_;have:=YD k (XO h2);omega
theorem ew {a b r:V2} (h:aV p q r) (j:r≠p):(0<=ai a b p->0<ai a b q->0<ai a b r)/\(ai a b q<ai a b p->r≠q->ai a b q<ai a b r):=by
 obtain⟨o,t⟩:=uN (a:=a) (b:=b) h.1;have i:=h.1;obtain⟨_,F,G,H,I⟩:=h;have m:∀x y z:Int,(y-x)*ai a b r=(y-z)*ai a b p+(z-x)*ai a b q->((x<=z/\z<=y)\/(y<=z/\z<=x))->x≠y->z≠x->(0<=ai a b p->0<ai a b q->0<ai a b r)/\(ai a b q<ai a b p->z≠y->ai a b q<ai a b r):=by intro x y z e J u K;rcases Yi u with c|c;refine⟨λf g=>?_,λf g=>?_⟩;have l:=XM (show 0<=y-z by omega) f;have w:=XC (show 0<z-x by omega) g;refine Y3.1 λk=>?_;have:=XI (show 0<=y-x by omega) k;omega;have l:=Yv f (show 0<y-z by omega);refine ZZ (a:=y-x) ?_ (by omega);have:(y-x)*ai a b q=(y-z)*ai a b q+(z-x)*ai a b q:=(by grind);omega;have M:(x-y)*ai a b r=(z-y)*ai a b p+(x-z)*ai a b q:=(by grind);refine⟨λf g=>?_,λf g=>?_⟩;have l:=XM (show 0<=z-y by omega) f;have w:=XC (show 0<x-z by omega) g;refine Y3.1 λk=>?_;have:=XI (show 0<=x-y by omega) k;omega;have l:=Yv f (show 0<z-y by omega);refine ZZ (a:=x-y) ?_ (by omega);have:(x-y)*ai a b q=(z-y)*ai a b q+(x-z)*ai a b q:=(by grind);omega
 have A:p≠q:=λe=>by subst e;exact j (V2.ext (by omega) (by omega))
 have B:p.x≠q.x->r.x≠p.x/\(r≠q->r.x≠q.x):=λc=>by refine⟨λk=>j (V2.ext k ?_),λC k=>C (V2.ext k ?_)⟩;have e:(q.x-p.x)*(r.y-p.y)=0:=(by simp only[ai,aa,af]at i;rw[k]at i;grind);have:=(mz e).resolve_left (by omega);omega;have e:(q.x-p.x)*(r.y-q.y)=0:=(by simp only[ai,aa,af]at i;rw[k]at i;grind);have:=(mz e).resolve_left (by omega);omega
 by_cases c:p.x=q.x;have D:p.y≠q.y:=λk=>A (V2.ext c k);have k:=m p.y q.y r.y t (by omega) D (λk=>j (V2.ext (by omega) k));exact⟨k.1,λf g=>k.2 f (λE=>g (V2.ext (by omega) E))⟩;have z:=B c;have k:=m p.x q.x r.x o (by omega) c z.1;exact⟨k.1,λf g=>k.2 f (z.2 g)⟩
theorem Dis.oE (h:Dis E D) {v:V2} (a:Vx E v) {f:V2×V2} (b:f∈E++D) (c:0<m) (g:aV (ag m f.1) (ag m f.2) (ag m v)):ag m v=ag m f.1\/ag m v=ag m f.2:=by
 rcases h.kU a b ((gW c).1 g)with k|k;left;rw[k];right;rw[k]
theorem dO (a b:V2):ai a b a=0:=by simp only[ai,aa,af];grind
theorem dX (a b:V2):ai a b b=0:=by simp only[ai,aa,af];grind
theorem Kn.empty (h:pR E D) {r:V2} (K:Kn E D p q r) {v:V2} (C:Vx E v) (a2:0<=ai q r v) (h2:0<=ai r p v) (a3:0<=ai p q v):v=p\/v=q\/v=r:=by
 have g:=h.toDis;refine Xz λa4=>?_;obtain⟨F,G⟩:∃F:V2->Prop,∀x,F x↔(0<=ai q r x/\0<=ai r p x/\0<=ai p q x)/\¬(x=p\/x=q\/x=r):=⟨_,λ_=>ZC⟩;obtain⟨a5,a6,rfl⟩:=C;obtain⟨e,a7,a8,a9⟩:=min_mem (λe:V2×V2=> -ai r p e.1) (λe=>F e.1) E ⟨a5,a6,(G _).2 ⟨⟨a2,h2,a3⟩,a4⟩⟩;obtain⟨⟨b0,i,b1⟩,H⟩:=(G _).1 a8;have o:Vx E e.1:=⟨e,a7,rfl⟩;generalize e.1=x at*;have b2:x≠p:=λk=>H (.inl k);have I:x≠q:=λk=>H (.inr (.inl k));have b3:x≠r:=λk=>H (.inr (.inr k));have T:=K.left;have c4:ai q r x+ai r p x+ai p q x=ai p q r:=by simp only[ai,aa,af];grind
 have O:∀{a b:V2},oB E D a b->aV a b x->x=a\/x=b:=λ{a b} b4 P=>by rcases b4 with k|k;exact g.kU o k P;exact(g.kU o k (au.1 P)).symm
 have Q:∀{a b c:V2},0<ai a b c->ai a b x=0->0<=ai b c x->0<=ai c a x->aV a b x:=λ{a b c} t z y A=>by
  have ex:ai a b c*(x.x-a.x)=ai c a x*(b.x-a.x):=(by simp only[ai,aa,af]at z|-;grind);have b5:ai a b c*(x.y-a.y)=ai c a x*(b.y-a.y):=(by simp only[ai,aa,af]at z|-;grind);have b6:ai a b c*(b.x-x.x)=ai b c x*(b.x-a.x):=(by simp only[ai,aa,af]at z|-;grind);have b7:ai a b c*(b.y-x.y)=ai b c x*(b.y-a.y):=(by simp only[ai,aa,af]at z|-;grind);have R:∀u w:Int,ai a b c*u=ai c a x*w->(0<=w->0<=u)/\(w<=0->u<=0):=λu w e=>by refine⟨λk=>?_,λk=>?_⟩;refine Zx.1 λq=>?_;have:=Ya t q;have:=XM A k;omega;refine Zx.1 λq=>?_;have:=XC t q;have:=XI A k;omega
  have S:∀u w:Int,ai a b c*u=ai b c x*w->(0<=w->0<=u)/\(w<=0->u<=0):=λu w e=>by refine⟨λk=>?_,λk=>?_⟩;refine Zx.1 λq=>?_;have:=Ya t q;have:=XM y k;omega;refine Zx.1 λq=>?_;have:=XC t q;have:=XI y k;omega
  have c5:=R _ _ ex;have c6:=R _ _ b5;have c7:=S _ _ b6;have c8:=S _ _ b7;exact⟨z,by omega,by omega,by omega,by omega⟩
 have U:0<ai p q x:=by refine Xz λk=>?_;rcases O K.tg.qR.sym (Q T (by omega) b0 i)with q|q;exact b2 q;exact I q
 have V:0<ai q r x:=by refine Xz λk=>?_;have b8:0<ai q r p:=(by rw[qj];exact T);rcases O K.qR (Q b8 (by omega) i b1)with q|q;exact I q;exact b3 q
 have C:∀v,Vx E v->v≠q->0<=ai q r v->0<=ai r p v->0<=ai p q v->ai r p v<=ai r p x:=λv ⟨f,j,X⟩ b9 y A c0=>by by_cases c:v=p\/v=r;rcases c with c|c;rw[c,dX];exact i;rw[c,dO];exact i;have:=a9 f j (by rw[X];exact(G v).2 ⟨⟨y,A,c0⟩,λk=>by rcases k with k|k|k;exact c (.inl k);exact b9 k;exact c (.inr k)⟩);rw[X]at this;omega
 refine h.clear (K.qR.vx g).1 o (Zr I) (λf j m c l J M=>?_) (K.fE g (s:=af x q) (by rw[Qm];exact V) (by rw[vJ];exact U));by_cases B:c=ag m q;subst B;exact⟨.inl rfl,g.oE (K.qR.vx g).1 j l M⟩;by_cases Y:c=ag m x;subst Y;exact⟨.inr rfl,g.oE o j l M⟩;exfalso;have N:=XC l l;have Z:=(bg (n:=m*m) (x:=ai q r x) N).1.2 V;have a0:=(bg (n:=m*m) (x:=ai p q x) N).1.2 U;have c9:=J6 p q r;have a1:=Yv (show ai r p x<ai r p q by omega) N;rw[<-bZ]at Z a0;rw[<-bZ,<-bZ]at a1;have c1:=(ew (a:=ag m q) (b:=ag m r) J B).1 (by rw[dO];exact Yc _) Z;have c2:=(ew (a:=ag m p) (b:=ag m q) J B).1 (by rw[dX];exact Yc _) a0;have c3:=(ew (a:=ag m r) (b:=ag m p) J B).2 a1 Y;exact K.G7 g i C j l M c1 c2 (by rw[<-bZ];exact c3)
theorem Kn.rm (h:pR E D) {r:V2} (K:Kn E D p q r) {f:V2×V2} (a:f∈E++D) (b:0<m) {c:V2} (g:aV (ag m f.1) (ag m f.2) c) (i:0<ai (ag m q) (ag m r) c) (h2:0<ai (ag m r) (ag m p) c) (j:0<ai (ag m p) (ag m q) c):False:=by
 refine K.G7 h.toDis (Yc 0) (λv k l o t u=>?_) a b g i j (by rw[Yh];exact h2);rcases K.empty h k o t u with e|e|e;rw[e,dX];exact Yc _;exact absurd e l;rw[e,dO];exact Yc _
theorem Kn.ne (h:Dis E D) {r:V2} (K:Kn E D p q r):p≠q/\q≠r/\r≠p:=by
 refine⟨K.tg.ne h,K.qR.ne h,λe=>?_⟩;have:=K.left;rw[e,dO]at this;omega
theorem Kn.Tl (h:pR E D) {r:V2} (K:Kn E D p q r):oB E D r p:=by
 have j:=h.toDis;obtain⟨f7,f8,Q⟩:=K.ne j;have a2:=(K.qR.vx j).2;have a3:=(K.tg.qR.vx j).2;have f9:=(K.qR.vx j).1;have T:=K.left;refine Xz λc9=>?_;have a4:∀f∈E++D,AE r p f.1 f.2:=by
  intro f l m c i G o;have z:=XC i i;by_cases A:c=ag m r;subst A;exact⟨.inl rfl,j.oE a2 l i o⟩;by_cases B:c=ag m p;subst B;exact⟨.inr rfl,j.oE a3 l i o⟩;exfalso;have C:ai (ag m r) (ag m p) c=0:=G.1;have d0:0<ai (ag m q) (ag m r) (ag m p):=(by rw[bZ,qj];exact XC z T);have d1:0<ai (ag m p) (ag m q) (ag m r):=(by rw[bZ];exact XC z T);have R:=(ew (a:=ag m q) (b:=ag m r) G A).1 (by rw[dX];exact Yc _) d0;have a5:=(ew (a:=ag m p) (b:=ag m q) (au.1 G) B).1 (by rw[dO];exact Yc _) d1;have b7:∀{g f1:V2},(f1,g)∈E++D\/(g,f1)∈E++D->aV (ag m f1) (ag m g) c->0<ai (ag m r) (ag m p) (ag m g)->False:=by
   intro g f1 d2 d3 H;obtain⟨n,g0,d4,d5⟩:=((eo (aa (af (ag m r) (ag m q)) (af (ag m g) c)) R).and (eo (aa (af (ag m q) (ag m p)) (af (ag m g) c)) a5)).ex 1;have O:0<(n:Int):=(by omega);have a6:=yU n (by omega) c (ag m g);have a7:aV (ag n (ag m f1)) (ag n (ag m g)) (nr n c (af (ag m g) c)):=(by have a:=iz O d3;exact aV.trans a (au.1 a6));simp only[gR]at a7;have t:∀a b:V2,ai (ag (n*m) a) (ag (n*m) b) (nr n c (af (ag m g) c))=n*(n*ai (ag m a) (ag m b) c+aa (af (ag m b) (ag m a)) (af (ag m g) c)):=λa b=>by rw[<-gR,<-gR,nu]
   have V:0<ai (ag (n*m) q) (ag (n*m) r) (nr n c (af (ag m g) c)):=(by rw[t];exact XC O d4);have b8:0<ai (ag (n*m) p) (ag (n*m) q) (nr n c (af (ag m g) c)):=(by rw[t];exact XC O d5);have X:0<ai (ag (n*m) r) (ag (n*m) p) (nr n c (af (ag m g) c)):=(by rw[t,C,Yh,Zf];have:aa (af (ag m p) (ag m r)) (af (ag m g) c)=ai (ag m r) (ag m p) (ag m g):=(by simp only[ai,aa,af]at C|-;grind);rw[this];exact XC O H);rcases d2 with k|k;exact K.rm h k (nH O i) a7 V X b8;exact K.rm h k (nH O i) (au.1 a7) V X b8
  have g1:¬0<ai (ag m r) (ag m p) (ag m f.1):=λk=>b7 (.inr l) (au.1 o) k;have g2:¬0<ai (ag m r) (ag m p) (ag m f.2):=λk=>b7 (.inl l) o k;have zz:ai (ag m r) (ag m p) (ag m f.1)=0/\ai (ag m r) (ag m p) (ag m f.2)=0:=by
   have s:=q5 (a:=ag m r) (b:=ag m p) o;have t:c≠ag m f.1:=λe=>by rcases K.empty h (j.ends l).1 (by have:=R;rw[e,bZ]at this;exact XO ((bg (n:=m*m) z).1.1 this)) (by rw[e,bZ]at C;exact ZR ((bg (n:=m*m) z).2.2.1 C).symm) (by have:=a5;rw[e,bZ]at this;exact XO ((bg (n:=m*m) z).1.1 this))with k|k|k;exact B (by rw[e,k]);rw[e,k,dO]at R;omega;exact A (by rw[e,k])
   have Y:c≠ag m f.2:=λe=>by rcases K.empty h (j.ends l).2.1 (by have:=R;rw[e,bZ]at this;exact XO ((bg (n:=m*m) z).1.1 this)) (by rw[e,bZ]at C;exact ZR ((bg (n:=m*m) z).2.2.1 C).symm) (by have:=a5;rw[e,bZ]at this;exact XO ((bg (n:=m*m) z).1.1 this))with k|k|k;exact B (by rw[e,k]);rw[e,k,dO]at R;omega;exact A (by rw[e,k])
   have d6:=(ew (a:=ag m r) (b:=ag m p) o t).2;have d7:=(ew (a:=ag m r) (b:=ag m p) (au.1 o) Y).2;have g3:ai (ag m r) (ag m p) (ag m f.1)=ai (ag m r) (ag m p) (ag m f.2):=by
    rcases YF (ai (ag m r) (ag m p) (ag m f.1)) (ai (ag m r) (ag m p) (ag m f.2))with k|k|k
    ·
     exfalso;have d8:=d7 k t;have g4:=gw (a:=ag m p) (b:=ag m r) (k:= -ai (ag m r) (ag m p) (ag m f.1)) o (by rw[aU];omega) (by rw[aU];omega);have S:=ew (a:=ag m p) (b:=ag m r) o t;rw[aU (ag m r) (ag m p) (ag m f.1),aU (ag m r) (ag m p) (ag m f.2),aU (ag m r) (ag m p) c]at S;have:=S.2 (by omega) Y;omega
    ·exact k
    ·exfalso;have d8:=d6 k Y;have S:=ew (a:=ag m p) (b:=ag m r) (au.1 o) Y;rw[aU (ag m r) (ag m p) (ag m f.1),aU (ag m r) (ag m p) (ag m f.2),aU (ag m r) (ag m p) c]at S;have:=S.2 (by omega) t;omega
   have w:=gw (a:=ag m r) (b:=ag m p) (k:=ai (ag m r) (ag m p) (ag m f.1)) o (Yc _);omega
  have b9:∀{v:V2},v=r\/v=p->aV f.1 f.2 v:=by
   intro v P;refine Xz λa8=>?_;have g5:aV (ag m v) c c:=bE _ _;have d9:ag m v≠c:=λe=>by rcases P with k|k<;>rw[k]at e;exact A e.symm;exact B e.symm
   have c0:∀g:V2,ai (ag m r) (ag m p) (ag m g)=0->ai (ag m v) c (ag m g)=0:=λg H=>by have a9:ag m r≠ag m p:=λe=>Q (gS i e);have V:((ag m p).x-(ag m r).x)*ai (ag m v) c (ag m g)=0:=(by rcases P with k|k<;>(rw[k];simp only[ai,aa,af]at H C|-;grind));have X:((ag m p).y-(ag m r).y)*ai (ag m v) c (ag m g)=0:=(by rcases P with k|k<;>(rw[k];simp only[ai,aa,af]at H C|-;grind));refine Xz λk=>a9 (V2.ext ?_ ?_);have:=(mz V).resolve_right k;omega;have:=(mz X).resolve_right k;omega
   have c1:∀g:V2,Vx E g->(g=f.1\/g=f.2)->aV (ag m v) c (ag m g)->ai (ag m r) (ag m p) (ag m g)=0->False:=by
    intro g e0 H F c2;have e1:aV (ag m r) (ag m p) (ag m g):=(by rcases P with k|k;rw[k]at F;exact au.1 (aV.trans (au.1 G) (au.1 F));rw[k]at F;exact aV.trans G (au.1 F));have b0:aV r p g:=(gW i).1 e1;have e2:0<=ai q r g:=(by refine Zx.1 λk=>?_;have c3:=qj p q r;have:=gw (a:=r) (b:=q) (k:=0) b0 (by rw[dO];exact Yc _) (by rw[aU];omega);rw[aU]at this;omega);have e3:0<=ai p q g:=(by refine Zx.1 λk=>?_;have:=gw (a:=q) (b:=p) (k:=0) b0 (by rw[aU];omega) (by rw[dX];exact Yc _);rw[aU]at this;omega);rcases K.empty h e0 e2 (by rw[b0.1];exact Yc _) e3 with k|k|k
    ·rcases P with I|I;rw[I,k]at F;exact B (kt F G)
     ·refine a8 ?_;rw[I,<-k];rcases H with e|e<;>rw[e]
      ·exact cd _ _
      ·exact bE _ _
    ·rw[k,bZ]at c2;rw[J6]at c2;have:=XC z T;omega
    ·rcases P with I|I
     ·refine a8 ?_;rw[I,<-k];rcases H with e|e<;>rw[e]
      ·exact cd _ _
      ·exact bE _ _
     ·rw[I,k]at F;exact A (kt F (au.1 G))
   rcases AT (c0 _ zz.1) (c0 _ zz.2) d9 o (λk=>a8 ((gW i).1 k))with k|k;exact c1 f.1 (j.ends l).1 (.inl rfl) k zz.1;exact c1 f.2 (j.ends l).2.1 (.inr rfl) k zz.2
  have e4:=j.kU a2 l (b9 (.inl rfl));have e5:=j.kU a3 l (b9 (.inr rfl));refine c9 ?_;rcases e4 with a|a<;>rcases e5 with b|b
  ·exact absurd (a.trans b.symm) Q
  ·left;rw[a,b];exact l
  ·right;rw[a,b];exact l
  ·exact absurd (a.trans b.symm) Q
 refine h.max r p a2 a3 Q (λe b1=>a4 e (by simp[b1])) (λd e6=>a4 d (by simp[e6])) ?_;have e7:0<aa (af r q) (ak (af r q) (af p q)):=by have:aa (af r q) (ak (af r q) (af p q))=ai p q r:=(by simp only[ai,aa,af,ak];grind);omega
 have e8:0<aa (ak (af r q) (af p q)) (af p q):=by have:aa (ak (af r q) (af p q)) (af p q)=ai p q r:=(by simp only[ai,aa,af,ak];grind);omega
 obtain⟨N,e9⟩:=K.fE j e7 e8;have k:=e9 (2*(N+1)) (by omega);have Z:0<((N+1:Nat):Int):=by omega
 have t:nr ((2*(N+1):Nat):Int) q (ak (af r q) (af p q))=nr ((N+1:Nat):Int) (ag 2 q) (af (ak r p) (ag 2 q)):=by refine V2.ext ?_ ?_;simp only[nr,ag,af,ak];rw[show((2*(N+1):Nat):Int)=2*((N+1:Nat):Int) by omega];grind;simp only[nr,ag,af,ak];rw[show((2*(N+1):Nat):Int)=2*((N+1:Nat):Int) by omega];grind
 have c4:=ih ((j.oO.cV.sc 2).sc ((N+1:Nat):Int)) (p:=ag ((N+1:Nat):Int) (ak r p)) (q:=nr ((N+1:Nat):Int) (ag 2 q) (af (ak r p) (ag 2 q))) (λe b1=>by
  obtain⟨y,f0,rfl⟩:=aK.1 b1;obtain⟨x,c5,rfl⟩:=aK.1 f0;refine kj (λm u i a0 c6=>?_);simp only[gR]at a0;have a6:=yU ((N+1:Nat):Int) (by omega) (ag 2 q) (ak r p);have b2:0<m*(((N+1:Nat):Int)*2):=XC i (by omega);have c7:=iz i a6;have U:aV (ag m (ag ((N+1:Nat):Int) (ak r p))) (ag m (ag ((N+1:Nat):Int) (ag 2 q))) u:=au.1 (aV.trans (au.1 c7) (au.1 c6));have b3:aV (ag 2 r) (ag 2 p) (ak r p)/\ak r p≠ag 2 r/\ak r p≠ag 2 p:=ml (x:=1) (y:=1) (by decide) (by decide) Q (u:=ak r p) (by simp[ak]) (by simp[ak]);obtain⟨M,J⟩:∃M:Int,M=m*(((N+1:Nat):Int)*2):=⟨_,rfl⟩;simp only[gR]at U;rw[<-J]at U;rw[<-J]at a0 b2;by_cases a1:u=ag (m*((N+1:Nat):Int)) (ak r p)
  ·
   have f2:aV (ag M r) (ag M p) u:=(by have:=iz (XC i Z) b3.1;rw[gR,gR,show m*((N+1:Nat):Int)*2=M by rw[J];grind]at this;rw[a1];exact this);rcases(a4 x (by simp[c5]) M u b2 f2 a0).1 with e|e;rw[a1,show M=m*((N+1:Nat):Int)*2 by rw[J];grind,<-gR]at e;rw[gR,<-gR (m*_) 2]at e;exact b3.2.1 (gS (XC i Z) e);rw[a1,show M=m*((N+1:Nat):Int)*2 by rw[J];grind,<-gR]at e;rw[gR,<-gR (m*_) 2]at e;exact b3.2.2 (gS (XC i Z) e)
  ·by_cases b4:u=ag M q
   ·
    have c8:aV (ag m (ag ((N+1:Nat):Int) (ak r p))) (ag m (nr ((N+1:Nat):Int) (ag 2 q) (af (ak r p) (ag 2 q)))) (ag M q):=(by rw[<-b4];exact c6);have c3:ag M q=ag m (ag ((N+1:Nat):Int) (ag 2 q)):=(by rw[gR,gR,J,Zc]);rw[c3]at c8;have:=(kt c8 c7);have:=gS i this;have a9:ak r p=ag 2 q:=(by simp only[nr,ag,af,V2.mk.injEq]at this;exact V2.ext (by simp only[ag];omega) (by simp only[ag];omega));have:ai p q r=0:=(by simp only[ak,ag,V2.mk.injEq]at a9;simp only[ai,aa,af];grind);omega
   ·have b5:0<M:=b2;have g6:ai (ag M r) (ag M p) (ag M q)=M*M*ai p q r:=(by rw[bZ,J6]);have b6:∀a b:V2,ai (ag M a) (ag M b) (ag (m*((N+1:Nat):Int)) (ak r p))*2=ai (ag M a) (ag M b) (ag M r)+ai (ag M a) (ag M b) (ag M p):=λa b=>by rw[show M=m*((N+1:Nat):Int)*2 by rw[J];grind];simp only[ai,aa,af,ag,ak];grind
    have f3:=b6 q r;have f4:=b6 r p;have f5:=b6 p q;have g7:=XC (XC b5 b5) T;rw[dX,show ai (ag M q) (ag M r) (ag M p)=M*M*ai p q r by rw[bZ,qj]]at f3;rw[dO,dX]at f4;rw[dO,bZ]at f5;have A:=(ew (a:=ag M q) (b:=ag M r) (au.1 U) b4).1 (by rw[dO];exact Yc _) (by omega);have f6:=(ew (a:=ag M p) (b:=ag M q) (au.1 U) b4).1 (by rw[dX];exact Yc _) (by omega);have B:=(ew (a:=ag M r) (b:=ag M p) U a1).1 (by omega) (by omega);exact K.rm h (f:=x) (by simp[c5]) b5 a0 A B f6)
 rw[kK Z,eO]at c4;rw[c4,<-t,show((N+1:Nat):Int)*2=((2*(N+1):Nat):Int) by omega];exact k
theorem Kn.next (h:pR E D) {r:V2} (K:Kn E D p q r):Kn E D q r p:=by
 have m:=h.toDis;have T:=K.left;refine⟨Jc m K.tg K.qR (by rw[vJ];exact T) K.free,K.Tl h,by rw[qj];exact T,λy o ⟨b,c⟩=>?_⟩;have t:aa (af r q) (af y r)=ai q r y:=by simp only[ai,aa,af];grind
 have f:aa (af p r) (af y r)=ai r p y:=rfl;have u:aa (af y r) (af q r)=ai q r y:=by simp only[ai,aa,af];grind
 rw[f]at b;rw[u]at c;obtain⟨n,x,k⟩:=(eo (aa (af q p) (af y r)) T).ex 1;have a:0<(n:Int):=by omega
 have g:=yU n (by omega) r y;have i:0<ai (ag n q) (ag n r) (nr n r (af y r)):=by rw[nu,dX,Yh,Zf,t];exact XC a c
 have j:0<ai (ag n r) (ag n p) (nr n r (af y r)):=by rw[nu,dO,Yh,Zf,f];exact XC a b
 have l:0<ai (ag n p) (ag n q) (nr n r (af y r)):=by rw[nu];exact XC a k
 rcases o with w|w;exact K.rm h w a (au.1 g) i j l;exact K.rm h w a g i j l
end
theorem Ui (u w c g:V2):aa u w*(aa c g+aa g u+aa u c)= -(aa u g*(aa u w-aa c w-aa u c))+aa u c*(aa u w-aa g w-aa u g):=by
 simp only[aa];grind
theorem Uh (u w c g:V2):aa u w*(aa c g+aa g w+aa w c)=aa g w*(aa u w-aa c w-aa u c)-aa c w*(aa u w-aa g w-aa u g):=by
 simp only[aa];grind
theorem SA (u w d c g:V2):aa u w*(-aa d c*(aa c g+aa g u+aa u c))= -(aa c g*aa u d*(aa u w-aa c w-aa u c))+aa u c*((aa d g-aa d c)*aa u w-aa c g*(aa d w-aa d u)):=by
 simp only[aa];grind
theorem Sz (u w d c g:V2):aa u w*(-aa d c*(aa c g+aa g w+aa w c))=aa c g*aa d w*(aa u w-aa c w-aa u c)-aa c w*((aa d g-aa d c)*aa u w-aa c g*(aa d w-aa d u)):=by
 simp only[aa];grind
theorem Uj (u w d c g:V2):aa d g*(aa u w-aa c w-aa u c)-aa d c*(aa u w-aa g w-aa u g)=(aa d g-aa d c)*aa u w-aa c g*(aa d w-aa d u):=by
 simp only[aa];grind
theorem E9 (Q a b c:V2):ai a b c=aa (af a Q) (af b Q)-aa (af c Q) (af b Q)-aa (af a Q) (af c Q):=by simp only[ai,aa,af];grind
theorem uZ (Q a b c:V2):ai a b c=aa (af a Q) (af b Q)+aa (af b Q) (af c Q)+aa (af c Q) (af a Q):=by simp only[ai,aa,af];grind
theorem GS (Q a b:V2):ai a b Q=aa (af a Q) (af b Q):=by simp only[ai,aa,af];grind
variable {Q c g u w:V2}
theorem Nr (a:0<ai u w Q) (h:0<aa (af c Q) (af w Q)) (h2:0<=aa (af u Q) (af c Q)) (i:0<aa (af u Q) (af g Q)) (j:0<=aa (af g Q) (af w Q)) (b:0<ai u w c) (f:ai u w g<0):ai c g u<0/\0<ai c g w:=by
 rw[GS]at a;rw[E9 Q]at b f;rw[uZ Q c g u,uZ Q c g w];have l:=Ui (af u Q) (af w Q) (af c Q) (af g Q);have m:=Uh (af u Q) (af w Q) (af c Q) (af g Q);have o:=XC i b;have p:=XI h2 (XO f);have q:=XM j (XO b);have r:=Ya h f;refine⟨?_,?_⟩;refine Y3.1 λk=>?_;have:=XM (XO a) k;omega;refine Y3.1 λk=>?_;have:=XI (XO a) k;omega
theorem Nq {d:V2} (b:0<ai u w Q) (j:0<aa (af c Q) (af w Q)) (h2:0<=aa (af u Q) (af c Q)) (a:0<ai u w c) (q:aa d (af c Q)<0) (l:0<aa d (af g Q)) (r:aa d (af u Q)<0) (m:0<aa d (af w Q))
  (h:0<aa (af c Q) (af g Q)) (o:(aa d (af g Q)-aa d (af c Q))*ai u w Q<=aa (af c Q) (af g Q)*(aa d (af w Q)-aa d (af u Q))):ai u w g<0/\ai c g u<0/\0<ai c g w:=by
 rw[GS]at b o;rw[E9 Q]at a;rw[E9 Q u w g,uZ Q c g u,uZ Q c g w];have t:=Uj (af u Q) (af w Q) d (af c Q) (af g Q);have x:=SA (af u Q) (af w Q) d (af c Q) (af g Q);have y:=Sz (af u Q) (af w Q) d (af c Q) (af g Q);have p:0<aa (af u Q) d:=by have:=aQ d (af u Q);omega
 have f:0< -aa d (af c Q):=by omega
 generalize z:(aa d (af g Q)-aa d (af c Q))*aa (af u Q) (af w Q)-aa (af c Q) (af g Q)*(aa d (af w Q)-aa d (af u Q))=Z at*;have i:Z<=0:=by omega
 generalize A:aa (af u Q) (af w Q)-aa (af c Q) (af w Q)-aa (af u Q) (af c Q)=B at*;generalize C:aa (af u Q) (af w Q)-aa (af g Q) (af w Q)-aa (af u Q) (af g Q)=D at*;have E:=XC l a;have F:=XC (XC h p) a;have G:=XI h2 i;have H:=XC (XC h m) a;have I:=XI (XO j) i;refine⟨?_,?_,?_⟩;refine Y3.1 λk=>?_;have:=XM (XO f) k;rw[ZF]at this;omega;refine Y3.1 λk=>?_;have:=XM (XO b) (XM (XO f) k);omega;refine Y3.1 λk=>?_;have:=XI (XO b) (XI (XO f) k);omega
variable {q x:V2}
theorem jz {a b p y:V2} (h:(ai x y a<=0/\ai x y b<=0/\0<ai x y p/\0<ai x y q)\/(0<ai x y a/\0<ai x y b/\ai x y p<=0/\ai x y q<=0)):NM a b p q:=by
 have l:∀{a b p q:V2},ai x y a<=0->ai x y b<=0->0<ai x y p->0<ai x y q->NM a b p q:=λ{a b p q} c f g i=>by refine kj (λm u o r t=>?_);have j:=XC o o;have w:=gw (a:=ag m x) (b:=ag m y) (k:=0) r (by rw[bZ];exact XI (XO j) c) (by rw[bZ];exact XI (XO j) f);have z:=(q5 (a:=ag m x) (b:=ag m y) t).1 (by rw[bZ];exact XC j g) (by rw[bZ];exact XC j i);omega
 rcases h with⟨c,f,g,i⟩|⟨c,f,g,i⟩;exact l c f g i;exact(l g i c f).sym
variable {α:Type}
theorem C4 {L:List α} {x d:α} (h:x∈L):∃i,i<L.length/\L.getD i d=x:=by
 obtain⟨i,a⟩:=ZT h;exact⟨i,(Ye.1 a).1,by rw[YA,a];rfl⟩
theorem Mz {L:List α} {d:α} {i:Nat} (h:i<L.length):L.getD i d∈L:=by
 rw[YA,XV h];exact YU h
theorem sT (N D:α->Int) (p:α->Prop) (f:∀x,p x->0<D x) (L:List α) (h:∃x∈L,p x):∃x∈L,p x/\∀y∈L,p y->N x*D y<=N y*D x:=by
 obtain⟨a,g,k⟩:=h;obtain⟨b,l,m⟩:=C4 (d:=a) g;obtain⟨i,o,q,r⟩:=rA (λi=>N (L.getD i a)) (λi=>D (L.getD i a)) (λi=>p (L.getD i a)) (λi h=>f _ h) L.length ⟨b,l,by show p (L.getD b a);rw[m];exact k⟩;refine⟨_,Mz o,q,λy t u=>?_⟩;obtain⟨j,w,c⟩:=C4 (d:=a) t;have:=r j w (by show p (L.getD j a);rw[c];exact u);simp only[c]at this;exact this
theorem uf {E:Ed} (c:mT E) {z:V2} (h:(∀e∈E,e.1.y<z.y)\/(∀e∈E,z.y<e.1.y)):W E z=0:=by
 have f:∀e∈E,∃x∈E,x.1=e.2:=λe a=>by have:e.2∈E.map (·.1):=c.symm.subset (XQ.2 ⟨e,a,rfl⟩);obtain⟨x,b,q⟩:=XQ.1 this;exact⟨x,b,q⟩
 rcases h with h|h;refine NG (λe a=>?_);obtain⟨x,b,q⟩:=f e a;have:=h e a;have:=h x b;rw[q]at this;omega;refine Um (λe a=>?_);obtain⟨x,b,q⟩:=f e a;have:=h e a;have:=h x b;rw[q]at this;omega
theorem LC {v:V2} (h:aV q x v) (f:v≠x):ay (af v q) (af v q)<ay (af x q) (af x q):=by
 have p:=h.1;obtain⟨_,r,t,u,w⟩:=h;have m:∀a b c:Int,((a<=c/\c<=b)\/(b<=c/\c<=a))->(c-a)*(c-a)<=(b-a)*(b-a)/\((c-a)*(c-a)=(b-a)*(b-a)->c=b):=by
  intro a b c g;rcases g with⟨i,j⟩|⟨i,j⟩;(have e:(b-a)*(b-a)-(c-a)*(c-a)=(b-c)*((b-a)+(c-a)):=(by grind);have:=XM (show 0<=b-c by omega) (show 0<=(b-a)+(c-a) by omega);refine⟨by omega,λk=>?_⟩;rcases mz (show(b-c)*((b-a)+(c-a))=0 by omega)with q|q<;>omega)
  ·have e:(b-a)*(b-a)-(c-a)*(c-a)=(c-b)*((a-b)+(a-c)):=(by grind);have:=XM (show 0<=c-b by omega) (show 0<=(a-b)+(a-c) by omega);refine⟨by omega,λk=>?_⟩;rcases mz (show(c-b)*((a-b)+(a-c))=0 by omega)with q|q<;>omega
 have l:=m q.x x.x v.x (by omega);have o:=m q.y x.y v.y (by omega);simp only[ay,af];refine Y3.1 λk=>f (V2.ext (l.2 (by omega)) (o.2 (by omega)))
end Sg
end Go.Vm
