import Derived.Test.YtobmlkopbmakcaaGreatMD
set_option linter.unusedVariables false
set_option linter.unusedSimpArgs false
set_option maxRecDepth 20000
namespace Go.Vm
open Go Go.RowKit Go.Proofs
namespace Sg
def aj (a b c:V2):Int:=aa (ag b a) (ag c a)
def aU (a b p:V2):Prop:=aj a b p=0/\(a.x<=p.x\/b.x<=p.x)/\(p.x<=a.x\/p.x<=b.x)/\(a.y<=p.y\/b.y<=p.y)/\(p.y<=a.y\/p.y<=b.y)
structure NM (a b p q:V2):Prop where
 a_:¬aU p q a
 b_:¬aU p q b
 p_:¬aU a b p
 q_:¬aU a b q
 cr:¬(((0<aj p q a/\aj p q b<0)\/(aj p q a<0/\0<aj p q b))/\((0<aj a b p/\aj a b q<0)\/(aj a b p<0/\0<aj a b q)))
theorem aV (a b c:V2):aj b a c= -aj a b c:=by
 simp only[aj,aa,ag];grind
variable {a p:V2}
theorem ax {b:V2}:aU b a p↔aU a b p:=by
 unfold aU;rw[aV];omega
variable {q:V2}
theorem NM.rev {b:V2} (h:NM a b p q):NM b a p q:=by
 refine⟨h.b_,h.a_,λk=>h.p_ (ax.1 k),λk=>h.q_ (ax.1 k),λk=>h.cr ?_⟩;rw[aV a b p,aV a b q]at k;omega
theorem NM.swap {b:V2} (h:NM a b p q):NM a b q p:=by
 refine⟨λk=>h.a_ (ax.1 k),λk=>h.b_ (ax.1 k),h.q_,h.p_,λk=>h.cr ?_⟩;rw[aV p q a,aV p q b]at k;omega
variable {y:Int}
theorem cx (x:Int) (h:0<y):(0<x->0<x*y)/\(x<0->x*y<0)/\(x=0->x*y=0):=by
 refine⟨λk=>XC k h,λk=>X3 k h,λk=>by rw[k,Yd]⟩
theorem Ej (x:Int) (h:0<=y):(0<x->0<y->0<x*y)/\(x<0->0<y->x*y<0)/\(x=0->x*y=0)/\(y=0->x*y=0):=by
 refine⟨λk h=>XC k h,λk h=>X3 k h,λk=>by rw[k,Yd],λk=>by rw[k,X8]⟩
variable {x:Int}
theorem wn (a:x<=0) (b:0<=y):x*y<=0:=YH a b
theorem sg (a:0<y):(x*y<0->x<0)/\(0<x*y->0<x):=by
 refine⟨λk=>Xz λq=>?_,λk=>Xz λq=>?_⟩;have:=XF (show 0<=x by omega) (XN a);omega;have:=wn (show x<=0 by omega) (XN a);omega
structure Q4 (al be ga de ya yb yp yq:Int):Prop where
 up:ya<=yb
 le:yp<=yq
 sum:al-be=de-ga
 P:be*(yp-ya)+al*(yb-yp)+ga*(yq-yp)=0
 Q:be*(yq-ya)+al*(yb-yq)+de*(yq-yp)=0
 A:al*(yb-ya)+de*(ya-yp)+ga*(yq-ya)=0
 B:be*(yb-ya)+de*(yb-yp)+ga*(yq-yb)=0
 Fa:¬(al=0/\yp<yq/\yp<=ya/\ya<=yq)
 Fb:¬(be=0/\yp<yq/\yp<=yb/\yb<=yq)
 Fp:¬(ga=0/\ya<yb/\ya<=yp/\yp<=yb)
 Fq:¬(de=0/\ya<yb/\ya<=yq/\yq<=yb)
 F2:¬(yp<yq/\ya=yq/\yb=yq/\de=0/\((al<0/\0<be)\/(be<0/\0<al)))
 F3:¬(yp=yq/\ya=yp/\ya<yb/\al=0/\((de<0/\0<ga)\/(ga<0/\0<de)))
 cr:¬(((0<al/\be<0)\/(al<0/\0<be))/\((0<ga/\de<0)\/(ga<0/\0<de)))
section
variable {al be ga de ya yb yp yq:Int}
theorem Q4.l1 (h:Q4 al be ga de ya yb yp yq) (m:ya<=yp) (h2:yp<yb) (o:yb<=yq):0<ga↔be<0:=by
 constructor<;>intro k<;>refine Xz (λp=>h.cr ?_)
 ·have a:0<be:=(by have:=h.Fb;omega);have g:=XF (XN a) (show 0<=yp-ya by omega);have i:=XC k (show 0<yq-yp by omega);have j:=XC a (show 0<yb-ya by omega);have l:=XF (XN k) (show 0<=yq-yb by omega);have b:=(sg (x:=al) (show 0<yb-yp by omega)).1 (by have:=h.P;omega);have c:=(sg (x:=de) (show 0<yb-yp by omega)).1 (by have:=h.B;omega);exact⟨.inr ⟨b,a⟩,.inl ⟨k,c⟩⟩
 ·have f:ga<0:=(by have:=h.Fp;omega);have g:=wn (XN k) (show 0<=yp-ya by omega);have i:=X3 f (show 0<yq-yp by omega);have j:=X3 k (show 0<yb-ya by omega);have l:=wn (XN f) (show 0<=yq-yb by omega);have b:=(sg (x:=al) (show 0<yb-yp by omega)).2 (by have:=h.P;omega);have c:=(sg (x:=de) (show 0<yb-yp by omega)).2 (by have:=h.B;omega);exact⟨.inl ⟨b,k⟩,.inr ⟨f,c⟩⟩
theorem Q4.l3 (h:Q4 al be ga de ya yb yp yq) (u:ya<=yp) (h2:yq<yb):0<ga↔0<de:=by
 have w:=h.le;have x:=h.sum;constructor<;>intro k<;>refine Xz (λy=>h.cr ?_)
 ·have f:de<0:=(by have:=h.Fq;omega);have a:0<be:=(by refine Xz (λa=>?_);have g:=wn (show be<=0 by omega) (show 0<=yq-ya by omega);have i:=X3 (show al<0 by omega) (show 0<yb-yq by omega);have j:=wn (XN f) (show 0<=yq-yp by omega);have:=h.Q;omega);have b:al<0:=(by refine Xz (λb=>h.F3 ?_);have l:=XF (XN a) (show 0<=yp-ya by omega);have m:=XF (show 0<=al by omega) (show 0<=yb-yp by omega);have o:=XF (XN k) (show 0<=yq-yp by omega);have p:=λq=>XC a (show 0<yp-ya from q);have r:=λq=>XC (show 0<al from q) (show 0<yb-yp by omega);have t:=λq=>XC k (show 0<yq-yp from q);have:=h.P;refine⟨by omega,by omega,by omega,by omega,.inl ⟨f,k⟩⟩);exact⟨.inr ⟨b,a⟩,.inl ⟨k,f⟩⟩
 ·have c:ga<0:=(by have:=h.Fp;omega);have a:be<0:=(by refine Xz (λa=>?_);have g:=XF (show 0<=be by omega) (show 0<=yq-ya by omega);have i:=XC (show 0<al by omega) (show 0<yb-yq by omega);have j:=XF (XN k) (show 0<=yq-yp by omega);have:=h.Q;omega);have b:0<al:=(by refine Xz (λb=>h.F3 ?_);have l:=wn (XN a) (show 0<=yp-ya by omega);have m:=wn (show al<=0 by omega) (show 0<=yb-yp by omega);have o:=wn (XN c) (show 0<=yq-yp by omega);have p:=λq=>X3 a (show 0<yp-ya from q);have r:=λq=>X3 (show al<0 from q) (show 0<yb-yp by omega);have t:=λq=>X3 c (show 0<yq-yp from q);have:=h.P;refine⟨by omega,by omega,by omega,by omega,.inr ⟨c,k⟩⟩);exact⟨.inl ⟨b,a⟩,.inr ⟨c,k⟩⟩
theorem Q4.l4 (h:Q4 al be ga de ya yb yp yq) (m:yp<ya) (h2:ya<=yq) (o:yq<yb):0<de↔al<0:=by
 constructor<;>intro k<;>refine Xz (λp=>h.cr ?_)
 ·have a:0<al:=(by have:=h.Fa;omega);have g:=XC a (show 0<yb-ya by omega);have i:=XC k (show 0<ya-yp by omega);have j:=XC a (show 0<yb-yq by omega);have l:=XC k (show 0<yq-yp by omega);have b:ga<0:=(by refine Xz (λq=>?_);have:=XF (show 0<=ga by omega) (show 0<=yq-ya by omega);have:=h.A;omega);have c:be<0:=(by refine Xz (λq=>?_);have:=XF (show 0<=be by omega) (show 0<=yq-ya by omega);have:=h.Q;omega);exact⟨.inl ⟨a,c⟩,.inr ⟨b,k⟩⟩
 ·have f:de<0:=(by have:=h.Fq;omega);have g:=X3 k (show 0<yb-ya by omega);have i:=X3 f (show 0<ya-yp by omega);have j:=X3 k (show 0<yb-yq by omega);have l:=X3 f (show 0<yq-yp by omega);have b:0<ga:=(by refine Xz (λq=>?_);have:=wn (show ga<=0 by omega) (show 0<=yq-ya by omega);have:=h.A;omega);have c:0<be:=(by refine Xz (λq=>?_);have:=wn (show be<=0 by omega) (show 0<=yq-ya by omega);have:=h.Q;omega);exact⟨.inr ⟨k,c⟩,.inl ⟨b,f⟩⟩
theorem Q4.l2 (h:Q4 al be ga de ya yb yp yq) (p:yp<ya) (h2:yb<=yq):al<0↔be<0:=by
 have r:=h.up;have t:=h.sum;constructor<;>intro k<;>refine Xz (λu=>h.cr ?_)
 ·have b:0<be:=(by have:=h.Fb;omega);have a:0<ga:=(by refine Xz (λq=>?_);have c:=wn (XN k) (show 0<=yb-ya by omega);have f:=X3 (show de<0 by omega) (show 0<ya-yp by omega);have g:=wn (show ga<=0 by omega) (show 0<=yq-ya by omega);have:=h.A;omega);have i:de<0:=(by refine Xz (λq=>h.F2 ?_);have c:=XF (XN b) (show 0<=yb-ya by omega);have f:=XF (show 0<=de by omega) (show 0<=yb-yp by omega);have g:=XF (XN a) (show 0<=yq-yb by omega);have l:=λq=>XC b (show 0<yb-ya from q);have m:=λq=>XC (show 0<de from q) (show 0<yb-yp by omega);have o:=λq=>XC a (show 0<yq-yb from q);have:=h.B;refine⟨by omega,by omega,by omega,by omega,.inl ⟨k,b⟩⟩);exact⟨.inr ⟨k,b⟩,.inl ⟨a,i⟩⟩
 ·have j:0<al:=(by have:=h.Fa;omega);have a:ga<0:=(by refine Xz (λq=>?_);have c:=XF (XN j) (show 0<=yb-ya by omega);have f:=XC (show 0<de by omega) (show 0<ya-yp by omega);have g:=XF (show 0<=ga by omega) (show 0<=yq-ya by omega);have:=h.A;omega);have i:0<de:=(by refine Xz (λq=>h.F2 ?_);have c:=wn (XN k) (show 0<=yb-ya by omega);have f:=wn (show de<=0 by omega) (show 0<=yb-yp by omega);have g:=wn (XN a) (show 0<=yq-yb by omega);have l:=λq=>X3 k (show 0<yb-ya from q);have m:=λq=>X3 (show de<0 from q) (show 0<yb-yp by omega);have o:=λq=>X3 a (show 0<yq-yb from q);have:=h.B;refine⟨by omega,by omega,by omega,by omega,.inr ⟨k,j⟩⟩);exact⟨.inl ⟨j,k⟩,.inr ⟨a,i⟩⟩
theorem Q4.step (h:Q4 al be ga de ya yb yp yq):
  xor (decide (ya<=yp/\yp<yb/\0<ga)) (decide (ya<=yq/\yq<yb/\0<de))=xor (decide (yp<ya/\ya<=yq/\al<0)) (decide (yp<yb/\yb<=yq/\be<0)):=by
 have p:=λa b c=>(h.l1 a b c).1;have q:=λa b=>(h.l2 a b).1;have r:=λa b=>(h.l3 a b).1;have t:=λa b c=>(h.l4 a b c).1;have u:=λa b c=>(h.l1 a b c).2;have w:=λa b=>(h.l2 a b).2;have x:=λa b=>(h.l3 a b).2;have y:=λa b c=>(h.l4 a b c).2;have z:=h.up;have C:=h.le;generalize f:decide (ya<=yp/\yp<yb/\0<ga)=g;generalize i:decide (ya<=yq/\yq<yb/\0<de)=j;generalize k:decide (yp<ya/\ya<=yq/\al<0)=l;generalize m:decide (yp<yb/\yb<=yq/\be<0)=o;clear h;cases g<;>cases j<;>cases l<;>cases o<;>simp only[X0,Zm]at f i k m<;>first|rfl|(exfalso;omega)
end
theorem dh {b:V2} (c:aj a b p=0) (h:a.y<b.y:=by omega) (h2:a.y<=p.y:=by omega) (f:p.y<=b.y:=by omega):aU a b p:=by
 refine⟨c,?_,?_,.inl h2,.inr f⟩;all_goals
  simp only[aj,aa,ag]at c;have g:(b.x-a.x)*(b.y-p.y)=(b.y-a.y)*(b.x-p.x):=(by grind);have i:=Ej (b.x-a.x) (show 0<=p.y-a.y by omega);have j:=cx (p.x-a.x) (show 0<b.y-a.y by omega);have k:=Ej (b.x-a.x) (show 0<=b.y-p.y by omega);have l:=cx (b.x-p.x) (show 0<b.y-a.y by omega);rw[X9 (b.y-a.y)]at c g;generalize (b.x-a.x)*(p.y-a.y)=m at*;generalize (p.x-a.x)*(b.y-a.y)=o at*;generalize (b.x-a.x)*(b.y-p.y)=q at*;generalize (b.x-p.x)*(b.y-a.y)=r at*;omega
theorem NM.q4 {b:V2} (h:NM a b p q) (o:a.y<=b.y) (r:p.y<=q.y):Q4 (aj p q a) (aj p q b) (aj a b p) (aj a b q) a.y b.y p.y q.y:=by
 refine⟨o,r,?_,?_,?_,?_,?_,λ⟨k,c,f,g⟩=>h.a_ (dh k c f g),λ⟨k,c,f,g⟩=>h.b_ (dh k c f g),λ⟨k,c,f,g⟩=>h.p_ (dh k c f g),λ⟨k,c,f,g⟩=>h.q_ (dh k c f g),λ⟨c,f,g,i,j⟩=>?_,λ⟨c,f,g,i,j⟩=>?_,h.cr⟩;simp only[aj,aa,ag];grind;simp only[aj,aa,ag];grind;simp only[aj,aa,ag];grind;simp only[aj,aa,ag];grind;simp only[aj,aa,ag];grind;(have l:aj p q a=(q.x-a.x)*(q.y-p.y):=(by simp only[aj,aa,ag];grind);have m:aj p q b=(q.x-b.x)*(q.y-p.y):=(by simp only[aj,aa,ag];grind);have t:=cx (q.x-a.x) (show 0<q.y-p.y by omega);have u:=cx (q.x-b.x) (show 0<q.y-p.y by omega);rw[l,m]at j;generalize (q.x-a.x)*(q.y-p.y)=w at*;generalize (q.x-b.x)*(q.y-p.y)=x at*;refine h.q_ ⟨i,?_,?_,?_,?_⟩<;>omega)
 ·have l:aj a b p=(a.x-p.x)*(b.y-a.y):=(by simp only[aj,aa,ag];grind);have m:aj a b q=(a.x-q.x)*(b.y-a.y):=(by simp only[aj,aa,ag];grind);have t:=cx (a.x-p.x) (show 0<b.y-a.y by omega);have u:=cx (a.x-q.x) (show 0<b.y-a.y by omega);rw[l,m]at j;generalize (a.x-p.x)*(b.y-a.y)=w at*;generalize (a.x-q.x)*(b.y-a.y)=x at*;refine h.a_ ⟨i,?_,?_,?_,?_⟩<;>omega
variable {s:cp} {p:V2}
theorem jD (hs:aB s=true):ka s p=true↔aU s.a s.b p:=by
 rw[ia hs,ie];exact⟨λ⟨x,y⟩=>⟨y,x⟩,λ⟨x,y⟩=>⟨y,x⟩⟩
theorem AR {a b:V2}:qo ⟨a,b⟩ (cm p)=true↔aU a b p:=by
 have c:kS ⟨a,b⟩ (cm p)=aj a b p:=by unfold kS aj;congr 1;simp only[fw,cm,ag];congr 1<;>omega
 unfold qo aU;rw[c];simp only[XJ,X0,Hi,Hs];simp only[fw,cm];omega
variable {e:cp}
theorem tg (a:aB e=true) (hs:aB s=true):eh e s=true↔((0<aj s.a s.b e.a/\aj s.a s.b e.b<0)\/(aj s.a s.b e.a<0/\0<aj s.a s.b e.b))/\((0<aj e.a e.b s.a/\aj e.a e.b s.b<0)\/(aj e.a e.b s.a<0/\0<aj e.a e.b s.b)):=by
 unfold eh;rw[gm a (du hs).1,gm a (du hs).2,gm hs (du a).1,gm hs (du a).2];simp only[XJ,X0,uU];show((aj e.a e.b s.a<0/\0<aj e.a e.b s.b)\/(0<aj e.a e.b s.a/\aj e.a e.b s.b<0))/\((aj s.a s.b e.a<0/\0<aj s.a s.b e.b)\/(0<aj s.a s.b e.a/\aj s.a s.b e.b<0))↔_;omega
theorem oS (a:aB e=true) (hs:aB s=true):aH e s=0↔NM e.a e.b s.a s.b:=by
 constructor;(intro h;have g:aH s e=0:=(by rw[yD];exact h);refine⟨λk=>og a hs (.inl rfl) ((jD hs).2 k) h,λk=>og a hs (.inr rfl) ((jD hs).2 k) h,λk=>og hs a (.inl rfl) ((jD a).2 k) g,λk=>og hs a (.inr rfl) ((jD a).2 k) g,λk=>?_⟩;have c:=(tg a hs).2 k;unfold aH at h;rw[XG (by rw[a,hs];simp),XL c]at h;split at h;cases h;(split at h<;>cases h))
 ·intro h;have j:aT e s=[]:=(by refine aah.2 (λp f=>?_);unfold aT at f;rw[(eF _).2,aaq]at f;obtain⟨i,b⟩:=f;rw[fI,XJ,jD a,jD hs]at b;simp only[eN,XD,YD,ZY]at i;rcases i with rfl|rfl|rfl|rfl;exact h.a_ b.2;exact h.b_ b.2;exact h.p_ b.1;exact h.q_ b.1);have c:¬eh e s=true:=λk=>h.cr ((tg a hs).1 k);unfold aH;rw[XG (by rw[a,hs];simp),j,XG (by simp),XG (by simp),XG c]
def Qh (a b p:V2):Prop:=(a.x<=p.x\/b.x<=p.x)/\(p.x<=a.x\/p.x<=b.x)/\(a.y<=p.y\/b.y<=p.y)/\(p.y<=a.y\/p.y<=b.y)
theorem Uv (a b p:V2):kS ⟨a,b⟩ (cm p)=aj a b p:=by
 unfold kS aj;congr 1;simp only[fw,cm,ag];congr 1<;>omega
theorem P2 (a b p:V2):gZ ⟨a,b⟩ (cm p)=decide ((a.y<=p.y/\p.y<b.y/\0<aj a b p)\/(b.y<=p.y/\p.y<a.y/\aj a b p<=0)):=by
 show((!(decide (0<=p.y-a.y*1)==decide (0<=p.y-b.y*1)))&&(decide (0<=p.y-a.y*1)==decide (0<kS ⟨a,b⟩ (cm p))))=_;rw[Uv];generalize c:decide (0<=p.y-a.y*1)=f;generalize g:decide (0<=p.y-b.y*1)=h;generalize i:decide (0<aj a b p)=j;generalize k:decide ((a.y<=p.y/\p.y<b.y/\0<aj a b p)\/(b.y<=p.y/\p.y<a.y/\aj a b p<=0))=l;cases f<;>cases h<;>cases j<;>cases l<;>simp only[X0,Zm]at c g i k<;>first|rfl|(exfalso;omega)
structure Iso (f:V2->V2) (m:Bool):Prop where
 cr:∀a b,aa (f a) (f b)=bif m then-aa a b else aa a b
 tr:∀a b c,aj (f a) (f b) (f c)=bif m then-aj a b c else aj a b c
 bx:∀a b p,Qh (f a) (f b) (f p)↔Qh a b p
 SJ:∀k v,In k v->In k (f v)
 par:∀(l:LV) p,0<l.length->(∀i,i<l.length->¬aU (gt l i) (bA l i) p)->fu l.length (λi=>gZ (bY (l.map f) i) (cm (f p)))=fu l.length (λi=>gZ (bY l i) (cm p))
variable {i:Nat}
theorem Ft (f:V2->V2) {l:LV} (hi:i<l.length):gt (l.map f) i=f (gt l i):=by simp[gt,List.getD,hi]
theorem Pn (f:V2->V2) {l:LV} (hi:i<l.length):bA (l.map f) i=f (bA l i):=by
 unfold bA;rw[Yy,Ft f (mLt)]
def fT (v:V2):V2:=⟨v.y,v.x⟩
structure Pre (l:LV):Prop where
 three:3<=l.length
 Dw:l.length<=40
 eX:fD l=true
 turns:∀i,i<l.length->aj (lV l i) (gt l i) (bA l i)≠0
 apart:∀i,i<l.length->∀k,k<l.length->i≠k->k≠(i+1)%l.length->i≠(k+1)%l.length->NM (gt l i) (bA l i) (gt l k) (bA l k)
theorem Om (a b c:V2):mW a b c=bN (aj a b c):=rfl
theorem bo.pre {l:LV} (h:bo l):Pre l:=⟨h.three,h.Dw,h.eX,λi hi k=>h.turns i hi (by rw[Om,k];rfl),λi hi k a b c f=>(oS (ef h.eX i) (ef h.eX k)).1 (h.apart i hi k a b c f)⟩
section
variable {l l':LV}
theorem vz {P:V2}:fX l (cm P)=false↔∀i,i<l.length->¬aU (gt l i) (bA l i) P:=by
 unfold fX;rw[aao,aF];refine aaM (λi=>aaM (λa=>?_));rw[Yx,<-Zh,bY,AR]
end
section
variable {f:V2->V2} {m:Bool} {l:LV}
end
def an (a b:V2):V2:=⟨a.x+b.x,a.y+b.y⟩
def uj (s t:Int):Int:=if s<=t then t-s else s-t
def tq (u v:V2):Int:=if 0<aa u v then uj (bN u.y) (bN v.y)else if aa u v<0 then-uj (bN u.y) (bN v.y)else 0
theorem NL (s t:Int):uj t s=uj s t:=by unfold uj;split<;>split<;>omega
theorem aO (u v:V2):aa v u= -aa u v:=by simp only[aa];grind
theorem Ad (u v:V2):tq v u= -tq u v:=by
 unfold tq;rw[aO u v,NL];generalize uj (bN u.y) (bN v.y)=z;repeat' split
 all_goals omega
theorem aW (x:Int):(0<x/\bN x=1)\/(x<0/\bN x= -1)\/(x=0/\bN x=0):=by
 unfold bN;repeat' split
 all_goals omega
variable {u:V2}
theorem uS {v:V2} (h:bN u.y=bN v.y:=by omega):tq u v=0:=by
 unfold tq uj;rw[h];repeat' split
 all_goals omega
theorem uR {v:V2} (h:aa u v=0):tq u v=0:=by
 unfold tq;rw[h];rfl
theorem Kg (a c:V2):tq a (an a c)+tq (an a c) c=tq a c:=by
 have b:aa a (an a c)=aa a c:=by simp only[aa,an];grind
 have f:aa (an a c) c=aa a c:=by simp only[aa,an];grind
 unfold tq;rw[b,f];simp only[an];have g:=aW a.y;have h:=aW c.y;have i:=aW (a.y+c.y);have:uj (bN a.y) (bN (a.y+c.y))+uj (bN (a.y+c.y)) (bN c.y)=uj (bN a.y) (bN c.y):=by
  unfold uj;repeat' split
  all_goals omega
 repeat' split
 all_goals omega
theorem Kh (u v:V2):tq ⟨-u.x,-u.y⟩ ⟨-v.x,-v.y⟩=tq u v:=by
 have a:aa ⟨-u.x,-u.y⟩ ⟨-v.x,-v.y⟩=aa u v:=by simp only[aa];grind
 unfold tq;rw[a];have b:=aW u.y;have c:=aW v.y;have f:=aW (-u.y);have g:=aW (-v.y);have:uj (bN (-u.y)) (bN (-v.y))=uj (bN u.y) (bN v.y):=by
  unfold uj;repeat' split
  all_goals omega
 simp only[this]
variable {m:Int}
theorem yQ (a:0<m) (x:Int):bN (m*x)=bN x:=by
 have f:=cx x a;rw[X9]at f;have b:=aW x;have c:=aW (m*x);omega
theorem vO {k:Int} (a:0<m) (b:0<k) (u v:V2):tq ⟨m*u.x,m*u.y⟩ ⟨k*v.x,k*v.y⟩=tq u v:=by
 have c:aa ⟨m*u.x,m*u.y⟩ ⟨k*v.x,k*v.y⟩=(m*k)*aa u v:=by simp only[aa];grind
 unfold tq;have f:=cx (aa u v) (XC a b);rw[X9]at f;rw[c];simp only[yQ a,yQ b];generalize m*k*aa u v=z at*;repeat' split
 all_goals omega
def cq (u v:V2):Int:=if u.y<=0/\0<v.y/\0<aa u v then 1 else if v.y<=0/\0<u.y/\aa u v<0 then-1 else 0
theorem dc (u v:V2):cq v u= -cq u v:=by
 unfold cq;rw[aO u v];repeat' split
 all_goals omega
def gq (d:V2):Int:=if 0<d.y then 1 else if d.y<0 then-1 else if 0<d.x then-2 else 0
abbrev zz:V2:=⟨0,0⟩
theorem Wd (a b p:V2):aU (ag a p) (ag b p) zz↔aU a b p:=by
 have e:aj (ag a p) (ag b p) zz=aj a b p:=by simp only[aj,aa,ag];grind
 unfold aU;rw[e];simp only[ag];omega
theorem UH (p q b:V2):aU (ag b p) (ag b q) zz↔aU p q b:=by
 have e:aj (ag b p) (ag b q) zz=aj p q b:=by simp only[aj,aa,ag];grind
 unfold aU;rw[e];simp only[ag];omega
theorem lM (u v:V2):aj u v zz=aa u v:=by simp only[aj,aa,ag];grind
theorem B3 {v:V2} (h:¬aU u v zz):tq u v=4*cq u v+gq u-gq v:=by
 have l:(0<u.y->v.y<0->aa u v≠0)/\(u.y<0->0<v.y->aa u v≠0):=by refine⟨λa f w=>h ?_,λa f w=>h ?_⟩;refine ax.1 (dh ?_ (show v.y<u.y by omega) (show v.y<=zz.y from XN f) (show zz.y<=u.y from XN a));rw[lM,aO,w];rfl;refine dh ?_ (show u.y<v.y by omega) (show u.y<=zz.y from XN a) (show zz.y<=v.y from XN f);rw[lM,w]
 have g:u.y=0->u.x≠0:=λa f=>h (by refine⟨?_,.inl (ZX f),.inl (ZX f.symm),.inl (ZX a),.inl (ZX a.symm)⟩;rw[lM];simp only[aa];rw[a,f];simp);have i:v.y=0->v.x≠0:=λa f=>h (by refine⟨?_,.inr (ZX f),.inr (ZX f.symm),.inr (ZX a),.inr (ZX a.symm)⟩;rw[lM];simp only[aa];rw[a,f];simp);have hw:u.y=0->v.y=0->(0<u.x↔0<v.x):=λa f=>by have j:=g a;have b:=i f;refine Xz λB=>h ⟨?_,?_,?_,.inl (ZX a),.inl (ZX a.symm)⟩;rw[lM];simp only[aa];rw[a,f];simp;simp only[zz];omega;simp only[zz];omega
 have k:u.y=0->aa u v=u.x*v.y:=λa=>by simp only[aa];rw[a];simp
 have m:v.y=0->aa u v= -(v.x*u.y):=λa=>by simp only[aa];rw[a];grind
 have A:=aW u.y;have x:=aW v.y;unfold tq cq gq uj;generalize aa u v=z at*;rcases A with⟨j,o⟩|⟨j,o⟩|⟨j,o⟩
 ·rcases x with⟨b,c⟩|⟨b,c⟩|⟨b,c⟩
  ·clear l g i hw k m;rw[o,c];repeat' split
   all_goals omega
  ·have:=l.1 j b;clear l g i hw k m;rw[o,c];repeat' split
   all_goals omega
  ·have r:=m b;have q:=i b;have p:=cx v.x j;clear l g i hw k m;generalize v.x*u.y=y at*;have t:(v.x<0/\0<z)\/(0<v.x/\z<0):=(by omega);clear r q p;rw[o,c];repeat' split
   all_goals omega
 ·rcases x with⟨b,c⟩|⟨b,c⟩|⟨b,c⟩
  ·have:=l.2 j b;clear l g i hw k m;rw[o,c];repeat' split
   all_goals omega
  ·clear l g i hw k m;rw[o,c];repeat' split
   all_goals omega
  ·have r:=m b;have q:=i b;have p:=cx v.x (show 0< -u.y by omega);rw[Yv]at p;clear l g i hw k m;generalize v.x*u.y=y at*;have t:(v.x<0/\z<0)\/(0<v.x/\0<z):=(by omega);clear r q p;rw[o,c];repeat' split
   all_goals omega
 ·rcases x with⟨b,c⟩|⟨b,c⟩|⟨b,c⟩
  ·have r:=k j;have q:=g j;have p:=cx u.x b;clear l g i hw k m;generalize u.x*v.y=y at*;have t:(u.x<0/\z<0)\/(0<u.x/\0<z):=(by omega);clear r q p;rw[o,c];repeat' split
   all_goals omega
  ·have r:=k j;have q:=g j;have p:=cx u.x (show 0< -v.y by omega);rw[Yv]at p;clear l g i hw k m;generalize u.x*v.y=y at*;have t:(u.x<0/\0<z)\/(0<u.x/\z<0):=(by omega);clear r q p;rw[o,c];repeat' split
   all_goals omega
  ·have r:z=0:=(by have:=k j;rw[b,X8]at this;exact this);have q:=g j;have p:=i b;have t:=hw j b;have C:(0<u.x/\0<v.x)\/(u.x<0/\v.x<0):=(by omega);clear l g i hw k m h q p t;rw[o,c];repeat' split
   all_goals omega
theorem Pz (p:Prop) [Decidable p]:(if p then(1:Int)else 0)=bif decide p then 1 else 0:=by
 by_cases h:p<;>simp[h]
def iC (f:V2->V2->Int) (a b p q:V2):Int:=f (ag a p) (ag b p)+f (ag b p) (ag b q)+f (ag b q) (ag a q)+f (ag a q) (ag a p)
variable {a p q:V2}
theorem q3 {b:V2} (h:NM a b p q):iC cq a b p q=0:=by
 have f:∀{a b p q:V2},NM a b p q->a.y<=b.y->p.y<=q.y->iC cq a b p q=0:=by
  intro a b p q h hu c;have Q:=h.q4 hu c;have j:aa (ag a p) (ag b p)=aj a b p:=(by simp only[aj,aa,ag];grind);have k:aa (ag b p) (ag b q)=aj p q b:=(by simp only[aj,aa,ag];grind);have l:aa (ag b q) (ag a q)= -aj a b q:=(by simp only[aj,aa,ag];grind);have m:aa (ag a q) (ag a p)= -aj p q a:=(by simp only[aj,aa,ag];grind);have o:cq (ag a p) (ag b p)=if a.y<=p.y/\p.y<b.y/\0<aj a b p then 1 else 0:=by
   unfold cq;rw[j];simp only[ag];repeat' split
   all_goals omega
  have r:cq (ag b p) (ag b q)= -(if p.y<b.y/\b.y<=q.y/\aj p q b<0 then 1 else 0):=by
   unfold cq;rw[k];simp only[ag];repeat' split
   all_goals omega
  have t:cq (ag b q) (ag a q)= -(if a.y<=q.y/\q.y<b.y/\0<aj a b q then 1 else 0):=by
   unfold cq;rw[l];simp only[ag];repeat' split
   all_goals omega
  have u:cq (ag a q) (ag a p)=if p.y<a.y/\a.y<=q.y/\aj p q a<0 then 1 else 0:=by
   unfold cq;rw[m];simp only[ag];repeat' split
   all_goals omega
  unfold iC;rw[o,r,t,u];have w:=Q.step;rw[Pz,Pz,Pz,Pz];have x:(decide (a.y<=p.y/\p.y<b.y/\0<aj a b p)&&decide (p.y<a.y/\a.y<=q.y/\aj p q a<0))=false:=(by rw[<-Bool.decide_and];exact XZ (λh=>by omega));have y:(decide (a.y<=q.y/\q.y<b.y/\0<aj a b q)&&decide (p.y<b.y/\b.y<=q.y/\aj p q b<0))=false:=(by rw[<-Bool.decide_and];exact XZ (λh=>by omega));revert w x y;generalize decide (a.y<=p.y/\p.y<b.y/\0<aj a b p)=z;generalize decide (a.y<=q.y/\q.y<b.y/\0<aj a b q)=A;generalize decide (p.y<a.y/\a.y<=q.y/\aj p q a<0)=B;generalize decide (p.y<b.y/\b.y<=q.y/\aj p q b<0)=C;cases z<;>cases A<;>cases B<;>cases C<;>decide
 have g:∀a b p q,iC cq b a p q= -iC cq a b p q:=λa b p q=>by unfold iC;rw[dc (ag a p) (ag b p),dc (ag a q) (ag a p),dc (ag b q) (ag a q),dc (ag b p) (ag b q)];omega
 have i:∀a b p q,iC cq a b q p= -iC cq a b p q:=λa b p q=>by unfold iC;rw[dc (ag a p) (ag b p),dc (ag a q) (ag a p),dc (ag b q) (ag a q),dc (ag b p) (ag b q)];omega
 rcases YK a.y b.y with hu|hu<;>rcases YK p.y q.y with c|c
 ·exact f h hu c
 ·have:=f h.swap hu c;rw[i]at this;omega
 ·have:=f h.rev hu c;rw[g]at this;omega
 ·have:=f h.rev.swap hu c;rw[g,i]at this;omega
theorem OQ {b:V2} (h:NM a b p q):iC tq a b p q=0:=by
 have k:=q3 h;unfold iC at*;rw[B3 (λk=>h.p_ ((Wd _ _ _).1 k)),B3 (λk=>h.b_ ((UH _ _ _).1 k)),B3 (λk=>h.q_ (ax.1 ((Wd _ _ _).1 k))),B3 (λk=>h.a_ (ax.1 ((UH _ _ _).1 k)))];omega
def dm (P:Int->V2) (p:V2) (s:Int):Nat->Int
 |0=>0
 |m+1=>dm P p s m+tq (ag (P (s+m)) p) (ag (P (s+m+1)) p)
theorem Cs (P:Int->V2) (p:V2) (s:Int) (a:Nat):∀b,dm P p s (a+b)=dm P p s a+dm P p (s+a) b
 |0=>by simp[dm]
 |b+1=>by rw[<-YE];simp only[dm];rw[Cs P p s a b,show s+((a+b:Nat):Int)=s+a+b by omega];omega
theorem lq {P:Int->V2} {p q:V2} {s:Int}:∀m:Nat,(∀j:Nat,j<m->NM (P (s+j)) (P (s+j+1)) p q)->
  dm P p s m+tq (ag (P (s+m)) p) (ag (P (s+m)) q)-tq (ag (P s) p) (ag (P s) q)=dm P q s m
 |0,_=>by simp[dm]
 |m+1,h=>by have a:=lq m (λj b=>h j (by omega));have k:=OQ (h m (by omega));simp only[dm];unfold iC at k;rw[Ad (ag (P (s+m)) q) (ag (P (s+m+1)) q),Ad (ag (P (s+m)) p) (ag (P (s+m)) q)]at k;rw[show s+((m+1:Nat):Int)=s+m+1 by omega];omega
theorem Ez (f:Nat->Int) (p:Nat->Prop):∀N:Nat,(∃i,i<N/\p i)->∃i,i<N/\p i/\∀j,j<N->p j->f i<=f j
 |0,⟨i,h,_⟩=>absurd h (XO _)
 |N+1,⟨i,o,b⟩=>by
  by_cases h:∃i,i<N/\p i;obtain⟨k,r,m,g⟩:=Ez f p N h;by_cases c:p N/\f N<f k;refine⟨N,by omega,c.1,λj l a=>?_⟩;by_cases e:j=N;subst e;exact Yf _;have:=g j (by omega) a;omega;refine⟨k,by omega,m,λj l a=>?_⟩;by_cases e:j=N;subst e;exact ZN.1 λq=>c ⟨a,q⟩;exact g j (by omega) a
  ·have e:i=N:=Xz λq=>h ⟨i,by omega,b⟩;subst e;exact⟨i,by omega,b,λj l a=>by
    by_cases e:j=i;subst e;exact Yf _
    ·exact absurd ⟨j,by omega,a⟩ h⟩
theorem NM.sym {a b p q:V2} (h:NM a b p q):NM p q a b:=⟨h.p_,h.q_,h.a_,h.b_,λk=>h.cr ⟨k.2,k.1⟩⟩
structure zT (n:Nat) (P:Int->V2):Prop where
 n3:3<=n
 iD:∀i:Int,P (i+n)=P i
 sd:∀i:Int,aj (P (i-1)) (P i) (P (i+1))≠0
 nm:∀i j:Int,i+2<=j->j+2<=i+n->NM (P i) (P (i+1)) (P j) (P (j+1))
theorem bK (a b:V2):aU a b a:=by
 refine⟨by simp only[aj,aa,ag];grind,?_,?_,?_,?_⟩<;>omega
section
variable {n:Nat} {P:Int->V2} (C:zT n P)
include C
theorem zT.next (i:Int):P i≠P (i+1):=λh=>C.sd i (by
 rw[<-h];simp only[aj,aa,ag];grind)
theorem zT.W0 {i j:Int} (c:i<j) (h2:j<i+n):P i≠P j:=by
 have f:=C.n3;by_cases a:j=i+1;subst a;exact C.next i;by_cases b:j+1=i+n;intro h;have:=C.next j;rw[b,C.iD]at this;exact this h.symm;intro h;have k:=(C.nm i j (by omega) (by omega)).a_;rw[<-h]at k;exact k (bK _ _)
def hE (P:Int->V2) (i:Int):Int:=tq (ag (P i) (P (i-1))) (ag (P (i+1)) (P i))
def iS (n:Nat) (P:Int->V2) (i:Int):Int:=dm P (P i) (i+1) (n-2)
omit C in
theorem jn (P:Int->V2) (p:V2) (s:Int) (m:Nat):dm P p s (m+1)=tq (ag (P s) p) (ag (P (s+1)) p)+dm P p (s+1) m:=by
 rw[Zu,Cs];simp[dm]
omit C in
theorem sub_neg (a b:V2):(⟨-(ag a b).x,-(ag a b).y⟩:V2)=ag b a:=by
 simp only[ag];exact V2.ext (by simp only;omega) (by simp only;omega)
omit C in
theorem Eu (a b c:V2):tq (ag b a) (ag c a)+tq (ag c a) (ag c b)=tq (ag b a) (ag c b):=by
 have:=Kg (ag b a) (ag c b);have e:an (ag b a) (ag c b)=ag c a:=by simp only[ag,an];exact V2.ext (by simp only;omega) (by simp only;omega)
 rwa [e]at this
omit C in
theorem Kd (a b c:V2):tq (ag a b) (ag a c)+tq (ag a c) (ag b c)=tq (ag b a) (ag c b):=by
 have:=Kg (ag a b) (ag b c);have e:an (ag a b) (ag b c)=ag a c:=by simp only[ag,an];exact V2.ext (by simp only;omega) (by simp only;omega)
 rw[e]at this;rw[this,<-sub_neg b a,<-sub_neg c b,Kh]
theorem zT.K3 (i:Int):iS n P i+hE P i=iS n P (i+1)+hE P (i+1):=by
 have g:=C.n3;obtain⟨m,rfl⟩:∃m,n=m+3:=⟨n-3,by omega⟩;have k:=lq (P:=P) (p:=P i) (q:=P (i+1)) (s:=i+2) m (λj h=>(C.nm i (i+2+j) (by omega) (by omega)).sym);have b:iS (m+3) P i=tq (ag (P (i+1)) (P i)) (ag (P (i+2)) (P i))+dm P (P i) (i+2) m:=by have:=jn P (P i) (i+1) m;rw[show i+1+1=i+2 by omega]at this;exact this
 have c:iS (m+3) P (i+1)=dm P (P (i+1)) (i+2) m+tq (ag (P (i-1)) (P (i+1))) (ag (P i) (P (i+1))):=by have a:i+2+m=i-1+((m+3:Nat):Int):=(by omega);have f:i+2+m+1=i+((m+3:Nat):Int):=(by omega);show dm P (P (i+1)) (i+1+1) (m+1)=_;rw[show i+1+1=i+2 by omega];simp only[dm];rw[f,a,C.iD,C.iD]
 have a:i+2+m=i-1+((m+3:Nat):Int):=by omega
 rw[a,C.iD]at k;have l:=Eu (P i) (P (i+1)) (P (i+2));have o:=Kd (P (i-1)) (P i) (P (i+1));unfold hE;rw[b,c,show i+1+1=i+2 by omega,show i+1-1=i by omega];omega
theorem zT.AG (i:Int):∀k:Nat,iS n P (i+k)+hE P (i+k)=iS n P i+hE P i
 |0=>by simp
 |k+1=>by have:=C.K3 (i+k);rw[show i+((k+1:Nat):Int)=i+k+1 by omega,<-this,zT.AG i k]
def gf (d:V2):Prop:=0<d.y\/(d.y=0/\0<d.x)
omit C in
theorem QM {u v:V2} (a:gf u) (b:gf v):tq u v=bN v.y-bN u.y:=by
 have f:u.y=0->aa u v=u.x*v.y:=λc=>by simp only[aa];rw[c];simp
 have g:v.y=0->aa u v= -(v.x*u.y):=λc=>by simp only[aa];rw[c];grind
 have j:=aW u.y;have l:=aW v.y;rcases a with a|⟨a,h⟩<;>rcases b with b|⟨b,i⟩
 ·rw[uS];omega
 ·have k:=g b;have:=XC i a;unfold tq uj;generalize aa u v=z at*;rw[iN,iP];split<;>omega
 ·have k:=f a;have:=XC h b;unfold tq uj;generalize aa u v=z at*;rw[iP];split<;>omega
 ·rw[uS];omega
omit C in
theorem K2 {p:V2} {s:Int}:∀m:Nat,(∀j:Nat,j<=m->gf (ag (P (s+j)) p))->dm P p s m=bN (ag (P (s+m)) p).y-bN (ag (P s) p).y
 |0,_=>by simp[dm]
 |m+1,h=>by have a:=h m (by omega);have b:=h (m+1) (by omega);simp only[dm];rw[show s+((m+1:Nat):Int)=s+m+1 by omega]at*;rw[K2 m (λj c=>h j (by omega)),QM a b];omega
theorem zT.low:∃s:Nat,s<n/\∀j:Int,0<j->j<n->gf (ag (P (s+j)) (P s)):=by
 have p:=C.n3;obtain⟨g,q,_,l⟩:=Ez (λi=>(P i).y) (λ_=>True) n ⟨0,by omega,trivial⟩;obtain⟨s,m,b,o⟩:=Ez (λi=>(P i).x) (λi=>(P i).y=(P g).y) n ⟨g,by omega,rfl⟩;refine⟨s,m,λj r t=>?_⟩;have key:∀k:Nat,k<n->P k≠P s->gf (ag (P k) (P s)):=λk f a=>by have u:=l k f trivial;unfold gf;simp only[ag];by_cases c:(P k).y=(P g).y;have w:=o k f c;have:(P k).x≠(P s).x:=λh=>a (V2.ext h (by rw[c,b]));right;exact⟨by rw[c,b];omega,by omega⟩;left;rw[b];omega
 have a:=C.W0 (i:=(s:Int)) (j:=s+j) (by omega) (by omega);by_cases c:(s:Int)+j<n;have:=key (s+j).toNat (by omega);rw[show((((s:Int)+j).toNat:Nat):Int)=s+j by omega]at this;exact this a.symm;have e:P (s+j)=P (s+j-n):=(by rw[<-C.iD (s+j-n)];congr 1;omega);rw[e]at a|-;have:=key (s+j-n).toNat (by omega);rw[show((((s:Int)+j-n).toNat:Nat):Int)=s+j-n by omega]at this;exact this a.symm
def mc (P:Int->V2) (s:Int):Nat->Int
 |0=>0
 |m+1=>mc P s m+hE P (s+m)
omit C in
theorem kX (P:Int->V2) (s:Int) (a:Nat):∀b,mc P s (a+b)=mc P s a+mc P (s+a) b
 |0=>by simp[mc]
 |b+1=>by rw[<-YE];simp only[mc];rw[kX P s a b,show s+((a+b:Nat):Int)=s+a+b by omega];omega
theorem zT.Cr {s:Int} (hs:∀j:Int,0<j->j<n->gf (ag (P (s+j)) (P s))):∀(d k:Nat),1<=k->k+d+1=n->
  dm P (P (s+k)) (s+k+1) d=mc P (s+k+1) d-(bN (ag (P (s+k+d)) (P s)).y-bN (ag (P (s+k)) (P s)).y)
 |0,k,_,_=>by simp[dm,mc]
 |d+1,k,i,l=>by have f:=zT.Cr hs d (k+1) (by omega) (by omega);have c:=lq (P:=P) (p:=P (s+k)) (q:=P (s+k+1)) (s:=s+k+2) d (λj m=>(C.nm (s+k) (s+k+2+j) (by omega) (by omega)).sym);rw[show s+k+2+d=s+n by omega,C.iD]at c;have a:=jn P (P (s+k)) (s+k+1) d;have g:mc P (s+k+1) (d+1)=hE P (s+k+1)+mc P (s+k+2) d:=(by rw[Zu,kX,show s+k+1+((1:Nat):Int)=s+k+2 by omega];simp[mc]);have o:=Eu (P (s+k)) (P (s+k+1)) (P (s+k+2));have r:hE P (s+k+1)=tq (ag (P (s+k+1)) (P (s+k))) (ag (P (s+k+2)) (P (s+k+1))):=(by unfold hE;rw[show s+k+1-1=s+k by omega,show s+k+1+1=s+k+2 by omega]);have t:tq (ag (P s) (P (s+k))) (ag (P s) (P (s+k+1)))=bN (ag (P (s+k+1)) (P s)).y-bN (ag (P (s+k)) (P s)).y:=(by rw[<-sub_neg (P (s+k)) (P s),<-sub_neg (P (s+k+1)) (P s),Kh];have h:=hs k (by omega) (by omega);have b:=hs (k+1) (by omega) (by omega);rw[show s+((k:Int)+1)=s+k+1 by omega]at b;exact QM h b);rw[show s+((k+1:Nat):Int)=s+k+1 by omega,show s+k+1+1=s+k+2 by omega,show s+k+1+(d:Int)=s+k+((d+1:Nat):Int) by omega]at f;rw[show s+k+1+1=s+k+2 by omega]at a;rw[a,g];omega
theorem zT.whole:∃K:Int,(K=2\/K= -2)/\(∀i:Nat,iS n P i+hE P i=K)/\mc P 0 n=2*K:=by
 have M:=C.n3;obtain⟨s,N,c⟩:=C.low;have r:=c 1 (by omega) (by omega);have o:=c (n-1) (by omega) (by omega);have k:P (s+((n:Int)-1))=P (s-1):=by rw[<-C.iD ((s:Int)-1)];congr 1;omega
 rw[k]at o;have t:iS n P s=bN (ag (P (s-1)) (P s)).y-bN (ag (P (s+1)) (P s)).y:=by
  unfold iS;rw[K2 (n-2) (λj O=>by
   have:=c (1+j) (by omega) (by omega)
   rwa [show(s:Int)+(1+j)=s+1+j by omega]at this)]
  rw[show(s:Int)+1+((n-2:Nat):Int)=s+((n:Int)-1) by omega,k]
 obtain⟨K,hK⟩:∃K,K=iS n P s+hE P s:=⟨_,rfl⟩;have p:∀i:Nat,iS n P i+hE P i=K:=λi=>by have a:=C.AG 0 s;have b:=C.AG 0 i;rw[Zk]at a b;omega
 have x:=C.Cr c (n-2) 1 (by omega) (by omega);have Q:hE P (s+1)+dm P (P (s+1)) (s+2) (n-2)=K:=by have:=p (s+1);rw[show((s+1:Nat):Int)=s+1 by omega]at this;unfold iS at this;rw[show(s:Int)+1+1=s+2 by omega]at this;omega
 have R:mc P s n=2*K:=by rw[show n=1+(1+(n-2)) by omega,kX,kX];simp only[mc];rw[show(s:Int)+((1:Nat):Int)+((1:Nat):Int)=s+2 by omega];rw[show(s:Int)+((1:Nat):Int)+1=s+2 by omega,show(s:Int)+((1:Nat):Int)+((n-2:Nat):Int)=s+((n:Int)-1) by omega,k,show(s:Int)+((1:Nat):Int)=s+1 by omega]at x;have y:(s:Int)+((0:Nat):Int)=s:=(by omega);have A:(s:Int)+((1:Nat):Int)+((0:Nat):Int)=s+1:=(by omega);rw[y,A];omega
 have S:mc P 0 n=mc P s n:=by
  have a:=kX P 0 s (n-s);have b:=kX P s (n-s) s;rw[show s+(n-s)=n by omega]at a;rw[show n-s+s=n by omega]at b;have e:∀m:Nat,mc P (s+((n-s:Nat):Int)) m=mc P 0 m:=λm=>by
   induction m with
   |zero=>rfl
   |succ m B=>simp only[mc];rw[B];have f:hE P ((s:Int)+((n-s:Nat):Int)+m)=hE P (0+m):=(by unfold hE;rw[show(s:Int)+((n-s:Nat):Int)+m=0+m+n by omega,show(0:Int)+m+n-1=0+m-1+n by omega,show(0:Int)+m+n+1=0+m+1+n by omega,C.iD,C.iD,C.iD]);rw[f]
  rw[e]at b;rw[Zk]at a;omega
 refine⟨K,?_,p,by omega⟩;have D:=C.sd s;have E:aa (ag (P (s+1)) (P s)) (ag (P (s-1)) (P s))≠0:=by have:aa (ag (P (s+1)) (P s)) (ag (P (s-1)) (P s))=aj (P (s-1)) (P s) (P (s+1)):=(by simp only[aj,aa,ag];grind);rw[this];exact D
 have F:hE P s=tq ⟨-(ag (P (s-1)) (P s)).x,-(ag (P (s-1)) (P s)).y⟩ (ag (P (s+1)) (P s)):=by unfold hE;rw[sub_neg]
 rw[hK,t,F];generalize ag (P (s-1)) (P s)=w at*;generalize ag (P (s+1)) (P s)=u at*;have G:aa ⟨-w.x,-w.y⟩ u=aa u w:=by simp only[aa];grind
 have q:u.y=0->aa u w=u.x*w.y:=λl=>by simp only[aa];rw[l];simp
 have H:w.y=0->aa u w= -(w.x*u.y):=λl=>by simp only[aa];rw[l];grind
 have T:=aW u.y;have U:=aW w.y;have V:=aW (-w.y);unfold tq uj;simp only[G];generalize aa u w=z at*;rcases r with g|⟨g,I⟩<;>rcases o with h|⟨h,J⟩
 ·repeat' split
  all_goals omega
 ·have:=H h;have:=XC J g;repeat' split
  all_goals omega
 ·have:=q g;have:=XC I h;repeat' split
  all_goals omega
 ·have:=q g;rw[h,X8]at this;exact absurd this E
end
theorem W5 (u v w:V2):aa u v*w.x=aa w v*u.x+aa u w*v.x/\aa u v*w.y=aa w v*u.y+aa u w*v.y:=by
 simp only[aa];constructor<;>grind
variable {a p:V2}
theorem qn {b:V2} (c:aj a b p=0) (h:a.x<b.x) (h2:a.x<=p.x:=by omega) (f:p.x<=b.x:=by omega):aU a b p:=by
 refine⟨c,.inl h2,.inr f,?_,?_⟩;all_goals
  simp only[aj,aa,ag]at c;have g:(b.y-a.y)*(b.x-p.x)=(b.x-a.x)*(b.y-p.y):=(by grind);have i:=Ej (b.y-a.y) (show 0<=p.x-a.x by omega);have j:=cx (p.y-a.y) (show 0<b.x-a.x by omega);have k:=Ej (b.y-a.y) (show 0<=b.x-p.x by omega);have l:=cx (b.y-p.y) (show 0<b.x-a.x by omega);rw[X9 (b.x-a.x)]at c g;generalize (b.y-a.y)*(p.x-a.x)=m at*;generalize (p.y-a.y)*(b.x-a.x)=o at*;generalize (b.y-a.y)*(b.x-p.x)=q at*;generalize (b.y-p.y)*(b.x-a.x)=r at*;omega
theorem mz {x y:Int} (h:x*y=0):x=0\/y=0:=YY.1 h
variable {A B:Int}
theorem G6 {g i:Int} (h:g*A+i*B=0) (j:(0<=g/\0<=i)\/(g<=0/\i<=0)) (k:(0<=A/\0<=B)\/(A<=0/\B<=0)):g*A=0/\i*B=0:=by
 rcases j with⟨a,b⟩|⟨a,b⟩<;>rcases k with⟨c,f⟩|⟨c,f⟩
 ·have:=XF a c;have:=XF b f;omega
 ·have:=XM a c;have:=XM b f;omega
 ·have:=YH a c;have:=YH b f;omega
 ·have:=X2 a c;have:=X2 b f;omega
variable {u:Int}
theorem gI {v:Int} (h:u*A=v*B) (hs:(0<u/\0<v)\/(u<0/\v<0):=by omega):(0<A->0<B)/\(A<0->B<0):=by
 have i:∀{u v:Int},u*A=v*B->0<u->0<v->(0<A->0<B)/\(A<0->B<0):=by
  intro u v h j l;have f:=cx A j;have g:=cx B l;rw[X9 u,X9 v]at h;generalize A*u=m at*;generalize B*v=o at*;constructor<;>intro k
  ·rcases YJ B 0 with c|c|c;have:=f.1 k;have:=g.2.1 c;omega;have:=f.1 k;have:=g.2.2 c;omega;exact c
  ·rcases YJ B 0 with c|c|c;exact c;have:=f.2.1 k;have:=g.2.2 c;omega;have:=f.2.1 k;have:=g.1 c;omega
 rcases hs with⟨a,b⟩|⟨a,b⟩;exact i h a b;refine i (u:= -u) (v:= -v) ?_ (by omega) (by omega);rw[Zc,Zc,h]
theorem UL {v w D:Int} (h:u*A=v*B+w*D) (hs:(0<u/\0<v/\0<=w)\/(u<0/\v<0/\w<=0):=by omega):(0<A->D<0->0<B)/\(A<0->0<D->B<0):=by
 have j:∀{u v w:Int},u*A=v*B+w*D->0<u->0<v->0<=w->(0<A->D<0->0<B)/\(A<0->0<D->B<0):=by
  intro u v w h m o hw;have f:=cx A m;have g:=cx B o;rw[X9 u,X9 v]at h;constructor<;>intro k l
  ·have e:=XM hw (XN l);have:=f.1 k;generalize A*u=p at*;generalize B*v=q at*;generalize w*D=r at*;rcases YJ B 0 with i|i|i;have:=g.2.1 i;omega;have:=g.2.2 i;omega;exact i
  ·have e:=XF hw (XN l);have:=f.2.1 k;generalize A*u=p at*;generalize B*v=q at*;generalize w*D=r at*;rcases YJ B 0 with i|i|i;exact i;have:=g.2.2 i;omega;have:=g.1 i;omega
 rcases hs with⟨a,b,c⟩|⟨a,b,c⟩;exact j h a b c;refine j (u:= -u) (v:= -v) (w:= -w) ?_ (by omega) (by omega) (by omega);rw[Zc,Zc,Zc,h];omega
variable {q:V2}
theorem CK {b r:V2} (i:aj p q r=0) (h2:aU a b r):
  r=a\/r=b\/(aj p q a=0/\aj p q b=0)\/(0<aj p q a/\aj p q b<0)\/(aj p q a<0/\0<aj p q b):=by
 obtain⟨j,w,x,y,z⟩:=h2;have ex:(b.x-r.x)*aj p q a+(r.x-a.x)*aj p q b=0:=by simp only[aj,aa,ag]at*;grind
 have l:(b.y-r.y)*aj p q a+(r.y-a.y)*aj p q b=0:=by simp only[aj,aa,ag]at*;grind
 clear j i;generalize aj p q a=A at*;generalize aj p q b=B at*;by_cases h:(0<=A/\0<=B)\/(A<=0/\B<=0);obtain⟨m,o⟩:=G6 ex (by omega) h;obtain⟨t,u⟩:=G6 l (by omega) h;by_cases f:A=0;by_cases g:B=0;exact .inr (.inr (.inl ⟨f,g⟩));left;rcases mz o with k|k;rcases mz u with c|c;exact V2.ext (by omega) (by omega);exact absurd c g;exact absurd k g;right;left;rcases mz m with k|k;rcases mz t with c|c;exact V2.ext (by omega) (by omega);exact absurd c f;exact absurd k f;right;right;right;omega
theorem bp (a b:V2):aU a b b:=ax.1 (bK b a)
theorem NM.Bn {b r:V2} (h:NM a b p q) (g:aU p q r):¬aU a b r:=by
 intro f;rcases CK g.1 f with e|e|F;rw[e]at g;exact h.a_ g;rw[e]at g;exact h.b_ g;rcases CK f.1 g with e|e|G;rw[e]at f;exact h.p_ f;rw[e]at f;exact h.q_ f;have H:aj p q a-aj p q b=aj a b q-aj a b p:=by simp only[aj,aa,ag];grind
 have cr:=h.cr;have z:aj p q a=0/\aj p q b=0/\aj a b p=0/\aj a b q=0:=by omega
 clear cr H F G;obtain⟨i,j,l,A⟩:=z;by_cases B:p.x=q.x
 ·by_cases C:p.y=q.y;have e:p=q:=V2.ext B C;subst e;obtain⟨_,P,Q,D,E⟩:=g;have:r=p:=V2.ext (by omega) (by omega);rw[this]at f;exact h.p_ f
  ·have key:∀{a b p q r:V2},NM a b p q->aU p q r->aU a b r->aj p q a=0->aj p q b=0->aj a b p=0->p.y<q.y->a.y<=b.y->False:=(by intro a b p q r h g f i j l m I;have o:=λx y=>h.a_ (dh i m x y);have t:=λx y=>h.b_ (dh j m x y);have u:=λw x y=>h.p_ (dh l w x y);obtain⟨_,_,_,D,E⟩:=g;obtain⟨_,_,_,J,K⟩:=f;have M:¬(p.y<=a.y/\a.y<=q.y):=λk=>o k.1 k.2;have N:¬(p.y<=b.y/\b.y<=q.y):=λk=>t k.1 k.2;have O:¬(a.y<b.y/\a.y<=p.y/\p.y<=b.y):=λk=>u k.1 k.2.1 k.2.2;clear o t u;omega);rcases Yh C with c|c<;>rcases YK a.y b.y with d|d
   ·exact key h g f i j l c d
   ·exact key h.rev g (ax.2 f) j i (by rw[aV,l];rfl) c d
   ·exact key h.swap (ax.2 g) f (by rw[aV,i];rfl) (by rw[aV,j];rfl) A c d
   ·exact key h.rev.swap (ax.2 g) (ax.2 f) (by rw[aV,j];rfl) (by rw[aV,i];rfl) (by rw[aV,A];rfl) c d
 ·have key:∀{a b p q r:V2},NM a b p q->aU p q r->aU a b r->aj p q a=0->aj p q b=0->aj a b p=0->p.x<q.x->a.x<=b.x->False:=(by intro a b p q r h g f i j l m I;have o:=λx y=>h.a_ (qn i m x y);have t:=λx y=>h.b_ (qn j m x y);have u:=λw x y=>h.p_ (qn l w x y);obtain⟨_,D,E,_,_⟩:=g;obtain⟨_,J,K,_,_⟩:=f;have M:¬(p.x<=a.x/\a.x<=q.x):=λk=>o k.1 k.2;have N:¬(p.x<=b.x/\b.x<=q.x):=λk=>t k.1 k.2;have O:¬(a.x<b.x/\a.x<=p.x/\p.x<=b.x):=λk=>u k.1 k.2.1 k.2.2;clear o t u;omega);rcases Yh B with c|c<;>rcases YK a.x b.x with d|d
  ·exact key h g f i j l c d
  ·exact key h.rev g (ax.2 f) j i (by rw[aV,l];rfl) c d
  ·exact key h.swap (ax.2 g) f (by rw[aV,i];rfl) (by rw[aV,j];rfl) A c d
  ·exact key h.rev.swap (ax.2 g) (ax.2 f) (by rw[aV,j];rfl) (by rw[aV,i];rfl) (by rw[aV,A];rfl) c d
theorem Gq {r:V2} (h:aj p q r=0):(q.x-p.x)*aj r q a=(q.x-r.x)*aj p q a/\(q.y-p.y)*aj r q a=(q.y-r.y)*aj p q a:=by
 simp only[aj,aa,ag]at*;constructor<;>grind
theorem uT {r b:V2} (h:aj p q r=0):(q.x-p.x)*aj a b r=(q.x-r.x)*aj a b p+(r.x-p.x)*aj a b q/\(q.y-p.y)*aj a b r=(q.y-r.y)*aj a b p+(r.y-p.y)*aj a b q:=by
 simp only[aj,aa,ag]at*;constructor<;>grind
theorem aU.trans {r:V2} (h:aU p q r) (k:aU r q a):aU p q a:=by
 obtain⟨f,i,j,l,m⟩:=h;obtain⟨g,o,t,u,w⟩:=k;refine⟨?_,by omega,by omega,by omega,by omega⟩;obtain⟨b,c⟩:=Gq (a:=a) f;rw[g,X8]at b c;rcases mz b.symm with c1|c1;rcases mz c.symm with c2|c2;have:a=q:=V2.ext (by omega) (by omega);rw[this];exact(bp p q).1;exact c2;exact c1
theorem qL {r:V2} (h:aU p q r):(0<aj r q a->0<aj p q a)/\(aj r q a<0->aj p q a<0):=by
 obtain⟨b,j,k,l,m⟩:=h;obtain⟨c,f⟩:=Gq (a:=a) b;by_cases g:q.x=r.x;by_cases i:q.y=r.y;have z:q=r:=V2.ext g i;have:aj r q a=0:=(by rw[z];simp only[aj,aa,ag];grind);omega;exact gI f;exact gI c
theorem CY {r b:V2} (h:aU p q r):(0<aj a b r->aj a b q<0->0<aj a b p)/\(aj a b r<0->0<aj a b q->aj a b p<0):=by
 obtain⟨c,k,l,m,o⟩:=h;obtain⟨f,g⟩:=uT (a:=a) (b:=b) c;by_cases i:q.x=r.x;by_cases j:q.y=r.y;have z:q=r:=V2.ext i j;subst z;omega;exact UL g;exact UL f
theorem NM.sub {b r:V2} (h:NM a b p q) (c:aU p q r):NM a b r q:=by
 refine⟨λk=>h.a_ (c.trans k),λk=>h.b_ (c.trans k),h.Bn c,h.q_,λ⟨j,l⟩=>h.cr ?_⟩;have f:=qL (a:=a) c;have g:=qL (a:=b) c;have i:=CY (a:=a) (b:=b) c;refine⟨?_,?_⟩;rcases j with⟨x,y⟩|⟨x,y⟩;exact .inl ⟨f.1 x,g.2 y⟩;exact .inr ⟨f.2 x,g.1 y⟩;rcases l with⟨x,y⟩|⟨x,y⟩;exact .inl ⟨i.1 x y,y⟩;exact .inr ⟨i.2 x y,y⟩
theorem I8 {b:V2} (g:aj a b q≠0) (f:aU b q p) (i:p≠b):NM a b p q:=by
 have sg:(0<aj a b q->0<aj a b p)/\(aj a b q<0->aj a b p<0):=by obtain⟨o,r,t,u,w⟩:=f;have j:(q.x-b.x)*aj a b p=(p.x-b.x)*aj a b q:=(by simp only[aj,aa,ag]at*;grind);have l:(q.y-b.y)*aj a b p=(p.y-b.y)*aj a b q:=(by simp only[aj,aa,ag]at*;grind);have m:p.x≠b.x\/p.y≠b.y:=Xz λh=>i (V2.ext (by omega) (by omega));rcases m with c|c;exact gI j.symm;exact gI l.symm
 refine⟨λk=>g ?_,λk=>i ?_,λk=>?_,λk=>g k.1,λ⟨_,k⟩=>by omega⟩;have:=(f.trans k).1;have e:aj a b q=aj b q a:=(by simp only[aj,aa,ag];grind);rw[e];exact this;obtain⟨_,x,y,z,A⟩:=f;obtain⟨_,B,C,D,E⟩:=k;exact V2.ext (by omega) (by omega);have:=k.1;omega
theorem yz {b c:V2} (f:aj a b c≠0) (h:aj a b q=0) (h2:aj b c q=0):q=b:=by
 have d:=W5 (ag b a) (ag c b) (ag q b);have i:aa (ag b a) (ag c b)=aj a b c:=by simp only[aj,aa,ag];grind
 have j:aa (ag q b) (ag c b)= -aj b c q:=by simp only[aj,aa,ag];grind
 have l:aa (ag b a) (ag q b)=aj a b q:=by simp only[aj,aa,ag];grind
 rw[i,j,l,h,h2]at d;simp only[ag,Int.neg_zero,Yd,aad]at d;rcases mz d.1 with k|k;exact absurd k f;rcases mz d.2 with g|g;exact absurd g f;exact V2.ext (by omega) (by omega)
theorem RC {b:V2} (h:aU a b p) (j:p≠b) (X:V2):tq (ag b p) X=tq (ag b a) X:=by
 obtain⟨l,u,w,x,y⟩:=h;have z:X=⟨1*X.x,1*X.y⟩:=V2.ext (by simp) (by simp);have g:∀m k:Int,0<m->0<k->m*(b.x-p.x)=k*(b.x-a.x)->m*(b.y-p.y)=k*(b.y-a.y)->tq (ag b p) X=tq (ag b a) X:=by intro m k o q r t;rw[<-vO o (show(0:Int)<1 by decide) (ag b p) X,<-vO q (show(0:Int)<1 by decide) (ag b a) X];simp only[ag];rw[r,t]
 simp only[aj,aa,ag]at l;by_cases f:b.x=p.x;have i:b.y≠p.y:=λi=>j (V2.ext f.symm i.symm);have ex:b.x=a.x:=(by have:(b.x-a.x)*(b.y-p.y)=0:=(by grind);rcases mz this with k|k<;>omega);rcases Yh i with c|c;exact g (a.y-b.y) (p.y-b.y) (by omega) (by omega) (by rw[f,<-ex,<-f];simp) (by grind);exact g (b.y-a.y) (b.y-p.y) (by omega) (by omega) (by rw[f,<-ex,<-f];simp) (by grind);rcases Yh f with c|c;exact g (a.x-b.x) (p.x-b.x) (by omega) (by omega) (by grind) (by grind);exact g (b.x-a.x) (b.x-p.x) (by omega) (by omega) (by grind) (by grind)
variable {s:Nat}
section
variable {n:Nat} {P:Int->V2} (C:zT n P)
include C
theorem zT.GU {K:Int} (hK:∀i:Nat,iS n P i+hE P i=K) {i:Nat} (a:aU (P i) (P (i+1)) p) (f:p≠P i) (h2:p≠P (i+1)):dm P p (i+1) (n-1)=K:=by
 have o:=C.n3;obtain⟨m,rfl⟩:∃m,n=m+3:=⟨n-3,by omega⟩;have g:(i:Int)+2+m=i-1+((m+3:Nat):Int):=by omega
 have h:(i:Int)+2+m+1=i+((m+3:Nat):Int):=by omega
 have k:=lq (P:=P) (p:=p) (q:=P (i+1)) (s:=i+2) (m+1) (λj t=>by
  by_cases c:j=m;subst c;rw[h,g,C.iD,C.iD];exact I8 (C.sd i) a f
  ·exact(C.nm i (i+2+j) (by omega) (by omega)).sym.sub a)
 rw[show(i:Int)+2+((m+1:Nat):Int)=i+((m+3:Nat):Int) by omega,C.iD]at k;have l:tq (ag (P i) p) (ag (P i) (P (i+1)))=0:=uR (by have:=a.1;simp only[aj,aa,ag]at*;grind);have b:=jn P p (i+1) (m+1);rw[show(i:Int)+1+1=i+2 by omega]at b;have u:=Eu p (P (i+1)) (P (i+2));have w:=RC a h2 (ag (P (i+2)) (P (i+1)));have r:=hK (i+1);unfold iS hE at r;rw[show((i+1:Nat):Int)=i+1 by omega,show(i:Int)+1+1=i+2 by omega,show(i:Int)+1-1=i by omega]at r;show dm P p (i+1) (m+1+1)=K;have x:dm P (P (i+1)) (i+2) (m+3-2)=dm P (P (i+1)) (i+2) (m+1):=rfl;rw[b];omega
theorem zT.CJ {i j:Int} (l:i<j) (h2:j<i+n) (b:aU (P i) (P (i+1)) q) (c:q≠P i) (f:q≠P (i+1)):¬aU (P j) (P (j+1)) q:=by
 intro a;by_cases g:j=i+1;subst g;have t:=C.sd (i+1);rw[show i+1-1=i by omega]at t;exact f (yz t b.1 a.1);by_cases h:j+1=i+n;have e:P (j+1)=P i:=(by rw[h,C.iD]);have k:P j=P (i-1):=(by rw[<-C.iD (i-1)];congr 1;omega);rw[e,k]at a;exact c (yz (C.sd i) a.1 b.1);exact(C.nm i j (by omega) (by omega)).Bn a b
omit C in
theorem I3 {f:Int->Int} {n:Nat} (k:∀i,f (i+n)=f i) (g:Int->Nat->Int) (c:∀s,g s 0=0) (hs:∀s m,g s (m+1)=g s m+f (s+m)) (l:s<=n):g s n=g 0 n:=by
 have j:∀(s:Int) (a b:Nat),g s (a+b)=g s a+g (s+a) b:=λs a b=>by
  induction b with
  |zero=>simp[c]
  |succ b h=>rw[<-YE,hs,hs,h,show s+((a+b:Nat):Int)=s+a+b by omega];omega
 have a:=j 0 s (n-s);have b:=j s (n-s) s;rw[show s+(n-s)=n by omega,Zk]at a;rw[show n-s+s=n by omega]at b;have e:∀m:Nat,g (s+((n-s:Nat):Int)) m=g 0 m:=λm=>by
  induction m with
  |zero=>rw[c,c]
  |succ m h=>rw[hs,hs,h,show(s:Int)+((n-s:Nat):Int)+m=0+m+n by omega,k]
 rw[e]at b;omega
theorem zT.sF (p:V2) (hs:s<=n):dm P p s n=dm P p 0 n:=by
 refine I3 (f:=λj=>tq (ag (P j) p) (ag (P (j+1)) p)) (λi=>?_) (λs m=>dm P p s m) (λs=>rfl) (λs m=>rfl) hs;show tq (ag (P (i+n)) p) (ag (P (i+n+1)) p)=tq (ag (P i) p) (ag (P (i+1)) p);rw[show i+n+1=i+1+n by omega,C.iD,C.iD]
end
def ah (m:Int) (v:V2):V2:=⟨m*v.x,m*v.y⟩
theorem hQ (m:Int) (a b:V2):ag (ah m a) (ah m b)=ah m (ag a b):=by
 simp only[ag,ah];exact V2.ext (by simp only;grind) (by simp only;grind)
theorem cc (m:Int) (a b c:V2):aj (ah m a) (ah m b) (ah m c)=m*m*aj a b c:=by
 simp only[aj,aa,ag,ah];grind
variable {m:Int}
theorem tU {x y:Int} (a:0<m):m*x<=m*y↔x<=y:=⟨λh=>YT h a,λh=>XH h (XN a)⟩
variable {a p:V2}
theorem gW (c:0<m) {b:V2}:aU (ah m a) (ah m b) (ah m p)↔aU a b p:=by
 unfold aU;rw[cc];simp only[ah,tU c];have f:=XC c c;constructor;rintro⟨h,k⟩;refine⟨?_,k⟩;rcases mz h with h|h;omega;exact h;rintro⟨h,k⟩;exact⟨by rw[h,X8],k⟩
theorem pS (c:0<m) {b q:V2} (h:NM a b p q):NM (ah m a) (ah m b) (ah m p) (ah m q):=by
 have g:=XC c c;have s:∀t:Int,(0<m*m*t↔0<t)/\(m*m*t<0↔t<0):=λt=>by have f:=cx t g;rw[X9]at f;omega
 refine⟨λk=>h.a_ ((gW c).1 k),λk=>h.b_ ((gW c).1 k),λk=>h.p_ ((gW c).1 k),λk=>h.q_ ((gW c).1 k),λk=>h.cr ?_⟩;simp only[cc,(s _).1,(s _).2]at k;exact k
theorem QN (a:0<m) (u v:V2):tq (ah m u) (ah m v)=tq u v:=vO a a u v
theorem ES {m:Int} (a:0<m) (P:Int->V2) (p:V2) (s:Int):∀k,dm (λi=>ah m (P i)) (ah m p) s k=dm P p s k
 |0=>rfl
 |k+1=>by simp only[dm];rw[ES a P p s k,hQ,hQ,QN a]
theorem rj (N D:Nat->Int) (p:Nat->Prop) (f:∀i,p i->0<D i):∀M:Nat,(∃i,i<M/\p i)->∃i,i<M/\p i/\∀j,j<M->p j->N i*D j<=N j*D i
 |0,⟨i,h,_⟩=>absurd h (XO _)
 |M+1,⟨i,w,g⟩=>by
  by_cases h:∃i,i<M/\p i;obtain⟨k,x,l,m⟩:=rj N D p f M h;by_cases c:p M/\N M*D k<N k*D M;refine⟨M,by omega,c.1,λj o b=>?_⟩;by_cases e:j=M;subst e;exact Yf _;have a:=m j (by omega) b;have r:=f k l;have t:=f j b;have u:=f M c.1;have y:=Yo (XN c.2) (XN t);have z:=Yo a (XN u);refine YT (a:=D k) ?_ r;have A:D k*(N M*D j)=N M*D k*D j:=(by grind);have B:N k*D M*D j=N k*D j*D M:=(by grind);have C:D k*(N j*D M)=N j*D k*D M:=(by grind);omega;refine⟨k,by omega,l,λj o b=>?_⟩;by_cases e:j=M;subst e;exact ZN.1 λq=>c ⟨b,q⟩;exact m j (by omega) b
  ·have e:i=M:=Xz λq=>h ⟨i,by omega,g⟩;subst e;exact⟨i,by omega,g,λj o b=>by
    by_cases e:j=i;subst e;exact Yf _
    ·exact absurd ⟨j,by omega,b⟩ h⟩
theorem CM {b:V2} {N:Int} (c:0<N) (q:a.y≠p.y) (r:b.y≠p.y) (i:¬aU a b p) (j:¬aU a b ⟨p.x+N,p.y⟩)
  (l:¬((a.y<p.y/\p.y<b.y/\0<aj a b p/\aj a b p<(b.y-a.y)*N)\/(b.y<p.y/\p.y<a.y/\aj a b p<0/\(b.y-a.y)*N<aj a b p))):NM a b p ⟨p.x+N,p.y⟩:=by
 have m:aj a b ⟨p.x+N,p.y⟩=aj a b p-(b.y-a.y)*N:=by simp only[aj,aa,ag];grind
 have f:∀v:V2,aj p ⟨p.x+N,p.y⟩ v=(v.y-p.y)*N:=λv=>by simp only[aj,aa,ag];grind
 refine⟨λk=>?_,λk=>?_,i,j,λ⟨o,k⟩=>l ?_⟩;obtain⟨_,_,_,g,h⟩:=k;simp only at g h;omega;obtain⟨_,_,_,g,h⟩:=k;simp only at g h;omega;rw[m]at k;rw[f,f]at o;have t:=cx (a.y-p.y) c;have u:=cx (b.y-p.y) c;have w:=cx (b.y-a.y) c;generalize (a.y-p.y)*N=x at*;generalize (b.y-p.y)*N=y at*;generalize (b.y-a.y)*N=z at*;clear m f i j l;omega
theorem H2 {u v:V2} (h:¬((u.y<0/\0<v.y/\0<aa u v)\/(v.y<0/\0<u.y/\aa u v<0))) (a:u.y≠0) (b:v.y≠0):cq u v=0:=by
 unfold cq;rw[iN,iN]
theorem iH (a b p:V2):aa (ag a p) (ag b p)=aj a b p:=by simp only[aj,aa,ag];grind
theorem Gl {b:V2} (h:¬aU a b p):tq (ag a p) (ag b p)=4*cq (ag a p) (ag b p)+gq (ag a p)-gq (ag b p):=B3 (λk=>h ((Wd _ _ _).1 k))
variable {K:Int}
section
variable {n:Nat} {P:Int->V2} (C:zT n P)
include C
theorem zT.scale (a:0<m):zT n (λi=>ah m (P i)):=by
 refine⟨C.n3,λi=>by simp only[C.iD],λi h=>C.sd i ?_,λi j b c=>pS a (C.nm i j b c)⟩;simp only[cc]at h;have f:=XC a a;rcases mz h with h|h;omega;exact h
omit C in
theorem Az (a:0<m) (hK:∀i:Nat,iS n P i+hE P i=K):∀i:Nat,iS n (λi=>ah m (P i)) i+hE (λi=>ah m (P i)) i=K:=λi=>by
 rw[<-hK i];unfold iS hE;rw[ES a];simp only[hQ,QN a]
def Tx (P:Int->V2) (p:V2) (i:Nat):Prop:=((P i).y<p.y/\p.y<(P (i+1)).y/\0<aj (P i) (P (i+1)) p)\/((P (i+1)).y<p.y/\p.y<(P i).y/\aj (P i) (P (i+1)) p<0)
def jd (x:Int):Int:=if 0<=x then x else-x
theorem zT.OZ (hK:∀i:Nat,iS n P i+hE P i=K) (E:∀i:Int,(P i).y≠p.y) (Y:∀i:Int,¬aU (P i) (P (i+1)) p):
  dm P p 0 n=0\/dm P p 0 n=K+2\/dm P p 0 n=K-2:=by
 have b7:=C.n3;by_cases F:∃i,i<n/\Tx P p i
 ·right;obtain⟨i,hi,G,Z⟩:=rj (λi=>jd (aj (P i) (P (i+1)) p)) (λi=>jd ((P (i+1)).y-(P i).y)) (Tx P p) (λi h=>by unfold Tx at h;unfold jd;split<;>omega) n F;obtain⟨D,H⟩:∃D,D=jd ((P (i+1)).y-(P i).y):=⟨_,rfl⟩;obtain⟨N,I⟩:∃N,N=jd (aj (P i) (P (i+1)) p):=⟨_,rfl⟩;have b:0<D:=(by rw[H];unfold Tx at G;unfold jd;split<;>omega);have a5:0<N:=(by rw[I];unfold Tx at G;unfold jd;split<;>omega);have S:=C.scale b;have a6:=Az (n:=n) (P:=P) b hK;obtain⟨q,o⟩:∃q:V2,q=⟨(ah D p).x+N,(ah D p).y⟩:=⟨_,rfl⟩;have J:∀j:Int,(ah D (P j)).y≠(ah D p).y:=λj e=>by simp only[ah]at e;exact E j (Y9 (by omega) e)
  have M:(P i).y<p.y/\p.y<(P (i+1)).y/\D=(P (i+1)).y-(P i).y/\N=aj (P i) (P (i+1)) p\/(P (i+1)).y<p.y/\p.y<(P i).y/\D=(P i).y-(P (i+1)).y/\N= -aj (P i) (P (i+1)) p:=(by rw[H,I];unfold Tx at G;unfold jd;split<;>split<;>omega);have a0:aj (ah D (P i)) (ah D (P (i+1))) q=D*D*aj (P i) (P (i+1)) p-D*((P (i+1)).y-(P i).y)*N:=(by rw[o];simp only[aj,aa,ag,ah];grind);have O:aj (ah D (P i)) (ah D (P (i+1))) q=0:=(by rw[a0];rcases M with⟨_,_,r,g⟩|⟨_,_,r,g⟩;rw[<-r,<-g];omega;rw[show(P (i+1)).y-(P i).y= -D by omega,show aj (P i) (P (i+1)) p= -N by omega];grind);have a1:aU (ah D (P i)) (ah D (P (i+1))) q:=by
   rcases M with⟨r,g,_,_⟩|⟨r,g,_,_⟩;(have a7:=Yw r b;have a8:=Yw g b;refine dh O ?_ ?_ ?_<;>simp only[o,ah]<;>omega)
   ·have a7:=Yw r b;have a8:=Yw g b;refine ax.1 (dh (by rw[aV,O];rfl) ?_ ?_ ?_)<;>simp only[o,ah]<;>omega
  have A:∀j:Int,q≠ah D (P j):=λj e=>J j (by rw[<-e,o]);have a9:=S.GU a6 a1 (A _) (A _);have k:=lq (P:=λi=>ah D (P i)) (p:=ah D p) (q:=q) (s:=i+1) (n-1) (λj b8=>by
   have a2:=S.CJ (i:=i) (j:=(i:Int)+1+j) (by omega) (by omega) a1 (A _) (A _);rw[o]at a2|-;refine CM a5 (J _) (J _) (λh=>Y _ ((gW b).1 h)) a2 ?_;obtain⟨a,b0,a3⟩:∃a:Nat,a<n/\P ((i:Int)+1+j)=P a/\P ((i:Int)+1+j+1)=P (a+1):=(by by_cases c:i+1+j<n;exact⟨i+1+j,c,by congr 1,by congr 1⟩;refine⟨i+1+j-n,by omega,?_,?_⟩;rw[<-C.iD ((i+1+j-n:Nat):Int)];congr 1;omega;rw[<-C.iD (((i+1+j-n:Nat):Int)+1)];congr 1;omega);have B:=Z a b0;rw[a3.1,a3.2,cc];have sg:∀t:Int,(0<D*D*t->0<t)/\(D*D*t<0->t<0):=λt=>by have f:=cx t (XC b b);rw[X9]at f;omega
   have lt:∀x y:Int,D*x<D*y->x<y:=λx y h=>Zs h (XN b);simp only[<-H,<-I]at B;rintro(⟨u,w,z,l⟩|⟨u,w,z,l⟩);have Q:=lt _ _ u;have R:=lt _ _ w;have T:=(sg _).1 z;have:=B (.inl ⟨Q,R,T⟩);unfold jd at this;rw[iP,iP]at this;simp only[ah]at l;have U:D*(D*aj (P a) (P (a+1)) p)<D*(((P (a+1)).y-(P a).y)*N):=(by rw[show D*(D*aj (P a) (P (a+1)) p)=D*D*aj (P a) (P (a+1)) p by grind,show D*(((P (a+1)).y-(P a).y)*N)=(D*(P (a+1)).y-D*(P a).y)*N by grind];exact l);have b1:=lt _ _ U;rw[X9 N,X9 _ D]at this;omega
   ·have Q:=lt _ _ u;have R:=lt _ _ w;have T:=(sg _).2 z;have:=B (.inr ⟨Q,R,T⟩);unfold jd at this;rw[iN,iN]at this;simp only[ah]at l;have U:D*(((P (a+1)).y-(P a).y)*N)<D*(D*aj (P a) (P (a+1)) p):=(by rw[show D*(D*aj (P a) (P (a+1)) p)=D*D*aj (P a) (P (a+1)) p by grind,show D*(((P (a+1)).y-(P a).y)*N)=(D*(P (a+1)).y-D*(P a).y)*N by grind];exact l);have b1:=lt _ _ U;have b2:N* -((P (a+1)).y-(P a).y)= -(((P (a+1)).y-(P a).y)*N):=(by grind);have b3: -aj (P a) (P (a+1)) p*D= -(D*aj (P a) (P (a+1)) p):=(by grind);rw[b2,b3]at this;omega)
  have a4:∀X:V2,tq (ag X (ah D p)) (ag X q)=0:=λX=>uS (by rw[o];rfl);rw[a4,a4,a9,ES b]at k;rw[<-C.sF p (ZQ hi),show n=n-1+1 by omega,jn];have g:tq (ag (P i) p) (ag (P (i+1)) p)=2\/tq (ag (P i) p) (ag (P (i+1)) p)= -2:=by
   have b9:=aW (ag (P i) p).y;have c0:=aW (ag (P (i+1)) p).y;unfold tq uj;rw[iH];simp only[ag]at*;clear Z F k a0 O;rcases M with⟨u,w,z,l⟩|⟨u,w,z,l⟩
   ·have V:0<aj (P i) (P (i+1)) p:=(by omega);simp only[XL V];repeat' split
    all_goals omega
   ·have V:aj (P i) (P (i+1)) p<0:=(by omega);have b4:¬0<aj (P i) (P (i+1)) p:=(by omega);simp only[XG b4,XL V];repeat' split
    all_goals omega
  omega
 ·left;have key:∀m:Nat,m<=n->dm P p 0 m=gq (ag (P 0) p)-gq (ag (P m) p):=λm=>by
   induction m with
   |zero=>intro _;simp[dm]
   |succ m b5=>intro B;have b6:cq (ag (P m) p) (ag (P (m+1)) p)=0:=(by have c1:=E m;have c2:=E (m+1);refine H2 (λh=>F ⟨m,by omega,?_⟩) (by simp only[ag];omega) (by simp only[ag];omega);rw[iH]at h;simp only[ag]at h;unfold Tx;omega);simp only[dm];rw[b5 (by omega),Zk,Gl (Y m),b6,show((m+1:Nat):Int)=m+1 by omega];omega
  have:=key n (XU _);have e:=C.iD 0;rw[Zk]at e;rw[e]at this;omega
theorem zT.off (a0:2<=m) (w:∀i:Int,(P (i+1)).x-(P i).x<m/\(P i).x-(P (i+1)).x<m) (hK:∀i:Nat,iS n P i+hE P i=K) (A:∀i:Int,¬aU (P i) (P (i+1)) p):
  dm P p 0 n=0\/dm P p 0 n=K+2\/dm P p 0 n=K-2:=by
 have uH:0<m:=by omega
 obtain⟨j,G⟩:∃j:V2,j=⟨m*p.x,m*p.y+1⟩:=⟨_,rfl⟩;have q:∀t:Int,(m*t<1↔t<1)/\(1<m*t↔0<t)/\m*t≠1:=λt=>by by_cases c:0<t;have:=XH (show 1<=t by omega) (show 0<=m by omega);rw[aaj]at this;omega;have:=XM (show 0<=m by omega) (show t<=0 by omega);omega
 have r:∀v:V2,(ag (ah m v) j).y=m*(ag v p).y-1:=λv=>by rw[G];simp only[ag,ah];grind
 have B:∀a b:V2,aa (ag (ah m a) j) (ag (ah m b) j)=m*(m*aj a b p+(b.x-a.x)):=λa b=>by rw[G];simp only[aj,aa,ag,ah];grind
 have D:∀{a b:V2},b.x-a.x<m->a.x-b.x<m->((ag a p).y<1/\0<(ag b p).y)\/((ag b p).y<1/\0<(ag a p).y)->¬aU a b p->(0<aa (ag (ah m a) j) (ag (ah m b) j)↔0<aj a b p)/\(aa (ag (ah m a) j) (ag (ah m b) j)<0↔aj a b p<0)/\aa (ag (ah m a) j) (ag (ah m b) j)≠0:=by
  intro a b a1 a2 x E;have O:aj a b p≠0:=λz=>by simp only[ag]at x;rcases x with x|x;exact E (dh z);exact E (ax.1 (dh (by rw[aV,z];rfl)))
  rw[B];have g:(0<aj a b p->m<=m*aj a b p)/\(aj a b p<0->m*aj a b p<= -m):=by
   refine⟨λh=>?_,λh=>?_⟩
   ·have:=XH (show 1<=aj a b p by omega) (show 0<=m by omega)
    rwa [aaj]at this
   ·have:=XH (show aj a b p<= -1 by omega) (show 0<=m by omega)
    rwa [Yv,aaj]at this
  have f:=cx (m*aj a b p+(b.x-a.x)) uH;rw[X9 m (m*aj a b p+(b.x-a.x))];generalize m*aj a b p=y at*;generalize (y+(b.x-a.x))*m=z at*;clear B r q x E;rcases YJ (aj a b p) 0 with h|h|h;have:=g.2 h;have:=f.2.1 (by omega);omega;exact absurd h O;have:=g.1 h;have:=f.1 (by omega);omega
 have F:∀i:Int,¬aU (ah m (P i)) (ah m (P (i+1))) j:=λi h=>by have Q:=(Wd _ _ _).2 h;obtain⟨H,a3,a4,I,J⟩:=Q;rw[lM]at H;rw[r,r]at I J;simp only[zz]at I J;have R:=q (ag (P i) p).y;have T:=q (ag (P (i+1)) p).y;exact(D (w i).1 (w i).2 (by omega) (A i)).2.2 H
 have M:∀i:Int,(ah m (P i)).y≠j.y:=λi h=>by have:=r (P i);simp only[ag]at this;have l:=q ((P i).y-p.y);omega
 have U:∀i:Int,cq (ag (ah m (P i)) j) (ag (ah m (P (i+1))) j)=cq (ag (P i) p) (ag (P (i+1)) p):=λi=>by
  have R:=q (ag (P i) p).y;have T:=q (ag (P (i+1)) p).y;have N:=D (w i).1 (w i).2;have o:=A i;unfold cq;rw[r,r,iH (P i)];generalize (ag (P i) p).y=u at*;generalize (ag (P (i+1)) p).y=v at*;generalize aa (ag (ah m (P i)) j) (ag (ah m (P (i+1))) j)=z at*;generalize aj (P i) (P (i+1)) p=t at*;generalize m*u=a5 at*;generalize m*v=a6 at*;clear w A D B r q F M;by_cases V:u<1/\0<v
  ·have s:=N (.inl V) o;repeat' split
   all_goals omega
  ·by_cases X:v<1/\0<u
   ·have s:=N (.inr X) o;repeat' split
    all_goals omega
   ·rw[iN,iN,iN,iN]
 have S:=C.scale uH;have Y:=Az (n:=n) (P:=P) uH hK;have a7:=S.OZ Y M F;have key:∀k:Nat,dm P p 0 k-dm (λi=>ah m (P i)) j 0 k=gq (ag (P 0) p)-gq (ag (P k) p)-(gq (ag (ah m (P 0)) j)-gq (ag (ah m (P k)) j)):=λk=>by
  induction k with
  |zero=>simp[dm]
  |succ k a8=>simp only[dm];rw[Zk,Gl (A k),Gl (F k),U k,show((k+1:Nat):Int)=k+1 by omega];omega
 have Z:=key n;have e:=C.iD 0;rw[Zk]at e;rw[e]at Z;omega
end
abbrev Ed:=List (V2×V2)
def W:Ed->V2->Int
 |[],_=>0
 |e::r,z=>cq (ag e.1 z) (ag e.2 z)+W r z
def eE (f:V2×V2->Int):Ed->Int
 |[]=>0
 |e::r=>f e+eE f r
theorem fY (E:Ed) (z:V2):W E z=eE (λe=>cq (ag e.1 z) (ag e.2 z)) E:=by
 induction E with
 |nil=>rfl
 |cons e r a=>simp only[W,eE];rw[a]
theorem Kt (f:V2×V2->Int) (E F:Ed):eE f (E++F)=eE f E+eE f F:=by
 induction E with
 |nil=>simp[eE]
 |cons e r a=>simp only[YM,eE];rw[a];omega
variable {E F:Ed}
theorem IA (f:V2×V2->Int) (h:E.Perm F):eE f E=eE f F:=by
 induction h with
 |nil=>rfl
 |cons x _ a=>simp only[eE];rw[a]
 |swap x y l=>simp only[eE];omega
 |trans _ _ b c=>exact b.trans c
theorem gA {f g:V2×V2->Int} (h:∀e∈E,f e=g e):eE f E=eE g E:=by
 induction E with
 |nil=>rfl
 |cons e r a=>simp only[eE];rw[h e (by simp),a (λx b=>h x (by simp[b]))]
theorem jk {f:V2×V2->Int} (h:∀e∈E,f e=0):eE f E=0:=by
 induction E with
 |nil=>rfl
 |cons e r a=>simp only[eE];rw[h e (by simp),a (λx b=>h x (by simp[b]))];rfl
theorem vV (f g:V2×V2->Int) (E:Ed):eE (λe=>f e+g e) E=eE f E+eE g E:=by
 induction E with
 |nil=>rfl
 |cons e r a=>simp only[eE];rw[a];omega
theorem vU (f:V2×V2->Int) (E:Ed):eE (λe=> -f e) E= -eE f E:=by
 induction E with
 |nil=>rfl
 |cons e r a=>simp only[eE];rw[a];omega
theorem kY (f:V2×V2->Int) (g:V2×V2->V2×V2) (E:Ed):eE f (E.map g)=eE (λe=>f (g e)) E:=by
 induction E with
 |nil=>rfl
 |cons e r a=>simp only[Yz,eE];rw[a]
theorem um (E F:Ed) (z:V2):W (E++F) z=W E z+W F z:=by rw[fY,fY,fY,Kt]
theorem jV (h:E.Perm F) (z:V2):W E z=W F z:=by rw[fY,fY,IA _ h]
def gT (E:Ed):Ed:=E.map λe=>(e.2,e.1)
theorem uk (E:Ed) (z:V2):W (gT E) z= -W E z:=by
 rw[fY,fY,<-vU,gT,kY];exact gA (λe _=>dc _ _)
def bw (m:Int) (E:Ed):Ed:=E.map λe=>(ah m e.1,ah m e.2)
variable {m:Int}
theorem Vb (a:0<m) (u v:V2):cq (ah m u) (ah m v)=cq u v:=by
 have b:aa (ah m u) (ah m v)=m*m*aa u v:=by simp only[aa,ah];grind
 have f:=cx (aa u v) (XC a a);rw[X9]at f;have c:=cx u.y a;have g:=cx v.y a;unfold cq;rw[b];simp only[ah];rw[X9]at c g;generalize m*m*aa u v=z at*;clear b;repeat' split
 all_goals omega
theorem kQ (a:0<m) (E:Ed) (z:V2):W (bw m E) (ah m z)=W E z:=by
 rw[fY,fY,bw,kY];exact gA (λe _=>by simp only[hQ];exact Vb a _ _)
theorem eu (m k:Int) (v:V2):ah m (ah k v)=ah (m*k) v:=by simp only[ah];exact V2.ext (by simp only;grind) (by simp only;grind)
theorem ek (m k:Int) (E:Ed):bw m (bw k E)=bw (m*k) E:=by
 unfold bw;rw[Yp];exact YS (λe _=>by simp only[Function.comp,eu])
theorem aZ (v:V2):ah 1 v=v:=V2.ext (by simp[ah]) (by simp[ah])
theorem oH (E:Ed):bw 1 E=E:=by
 have:(λe:V2×V2=>(ah 1 e.1,ah 1 e.2))=id:=by funext e;simp[aZ]
 unfold bw;rw[this,abO]
theorem fK (m:Int) (E F:Ed):bw m (E++F)=bw m E++bw m F:=YB
def mT (E:Ed):Prop:=(E.map (·.1)).Perm (E.map (·.2))
theorem mT.rev (h:mT E):mT (gT E):=by
 unfold mT gT;rw[Yp,Yp];exact h.symm
theorem mT.sc (h:mT E) (m:Int):mT (bw m E):=by
 have:=h.map (ah m);unfold mT bw;rw[Yp]at this|-;rw[Yp]at this|-;exact this
theorem mT.app (h:mT E) (k:mT F):mT (E++F):=by
 unfold mT;rw[YB,YB];exact h.append k
theorem mT.perm (h:mT E) (k:E.Perm F):mT F:=(k.map _).symm.trans (h.trans (k.map _))
def Af (h:V2->Int):LV->Int
 |[]=>0
 |v::r=>h v+Af h r
theorem Iz (h:V2->Int) {l a:LV} (p:l.Perm a):Af h l=Af h a:=by
 induction p with
 |nil=>rfl
 |cons x _ b=>simp only[Af];rw[b]
 |swap x y l=>simp only[Af];omega
 |trans _ _ c f=>exact c.trans f
theorem Ks (h:V2->Int) (E:Ed):eE (λe=>h e.1) E=Af h (E.map (·.1)):=by
 induction E with
 |nil=>rfl
 |cons e r a=>simp only[Yz,eE,Af];rw[a]
theorem Kr (h:V2->Int) (E:Ed):eE (λe=>h e.2) E=Af h (E.map (·.2)):=by
 induction E with
 |nil=>rfl
 |cons e r a=>simp only[Yz,eE,Af];rw[a]
theorem mT.tel (c:mT E) (h:V2->Int):eE (λe=>h e.2-h e.1) E=0:=by
 have a:eE (λe=>h e.2-h e.1) E=eE (λe=>h e.2) E-eE (λe=>h e.1) E:=by have:=vV (λe=>h e.2) (λe=> -h e.1) E;rw[vU (λe=>h e.1)]at this;rw[show(λe:V2×V2=>h e.2-h e.1)=(λe=>h e.2+ -h e.1) from by funext e;omega];omega
 rw[a,Ks,Kr,Iz h c];omega
def Qs (E:Ed) (p q:V2):Int:=eE (λe=>iC cq e.1 e.2 p q) E
theorem F6 (c:mT E) (p q:V2):W E p-W E q=Qs E p q:=by
 have h:=c.tel (λv=>cq (ag v p) (ag v q));have e:Qs E p q=eE (λe=>cq (ag e.1 p) (ag e.2 p)+(-cq (ag e.1 q) (ag e.2 q)+(cq (ag e.2 p) (ag e.2 q)-cq (ag e.1 p) (ag e.1 q)))) E:=
  gA (λe _=>by unfold iC;rw[dc (ag e.1 q) (ag e.2 q),dc (ag e.1 p) (ag e.1 q)];omega)
 rw[e,vV,vV,vU,h,fY,fY];omega
variable {q:V2}
theorem hA (c:mT E) {p:V2} (h:∀e∈E,NM e.1 e.2 p q):W E p=W E q:=by
 have:=F6 c p q;rw[Qs,jk (λe a=>q3 (h e a))]at this;omega
theorem wB {a b p:V2} (z:0<aj a b p) (h2:aj a b q<0) (E:aj p q a<0) (A:0<aj p q b):iC cq a b p q=1:=by
 have M:aj p q b*(p.y-a.y)+aj p q a*(b.y-p.y)+aj a b p*(q.y-p.y)=0:=by simp only[aj,aa,ag];grind
 have N:aj p q b*(q.y-a.y)+aj p q a*(b.y-q.y)+aj a b q*(q.y-p.y)=0:=by simp only[aj,aa,ag];grind
 have O:aj p q a*(b.y-a.y)+aj a b q*(a.y-p.y)+aj a b p*(q.y-a.y)=0:=by simp only[aj,aa,ag];grind
 have P:aj p q b*(b.y-a.y)+aj a b q*(b.y-p.y)+aj a b p*(q.y-b.y)=0:=by simp only[aj,aa,ag];grind
 have U:¬(a.y=p.y/\b.y=p.y/\q.y=p.y):=λ⟨Q,R,V⟩=>by have:aj a b p=0:=(by simp only[aj,aa,ag];rw[Q,R];simp);omega
 have F:aa (ag a p) (ag b p)=aj a b p:=by simp only[aj,aa,ag];grind
 have G:aa (ag b p) (ag b q)=aj p q b:=by simp only[aj,aa,ag];grind
 have H:aa (ag b q) (ag a q)= -aj a b q:=by simp only[aj,aa,ag];grind
 have I:aa (ag a q) (ag a p)= -aj p q a:=by simp only[aj,aa,ag];grind
 unfold iC cq;rw[F,G,H,I];simp only[ag];generalize aj p q a=l at*;generalize aj p q b=B at*;generalize aj a b p=J at*;generalize aj a b q=C at*;have m:a.y<=b.y->¬(p.y<a.y/\q.y<a.y):=λhu ⟨i,j⟩=>by have c:=XF (show 0<= -l by omega) (show 0<=b.y-a.y by omega);have g:=X3 h2 (show 0<a.y-p.y by omega);have f:=Yb z (show q.y-a.y<0 by omega);rw[Zc]at c;omega
 have o:a.y<=b.y->¬(b.y<p.y/\b.y<q.y):=λhu ⟨i,j⟩=>by have c:=XF (show 0<=B by omega) (show 0<=b.y-a.y by omega);have g:=Zr h2 (show b.y-p.y<0 by omega);have f:=XC z (show 0<q.y-b.y by omega);omega
 have r:b.y<=a.y->¬(p.y<b.y/\q.y<b.y):=λhu ⟨i,j⟩=>by have c:=XF (show 0<=B by omega) (show 0<=a.y-b.y by omega);have g:=X3 h2 (show 0<b.y-p.y by omega);have f:=Yb z (show q.y-b.y<0 by omega);rw[show a.y-b.y= -(b.y-a.y) by omega,Yv]at c;omega
 have t:b.y<=a.y->¬(a.y<p.y/\a.y<q.y):=λhu ⟨i,j⟩=>by have c:=XF (show 0<= -l by omega) (show 0<=a.y-b.y by omega);have g:=Zr h2 (show a.y-p.y<0 by omega);have f:=XC z (show 0<q.y-a.y by omega);rw[show a.y-b.y= -(b.y-a.y) by omega,Yv,Zc]at c;omega
 have u:p.y<=q.y->¬(b.y<=p.y/\a.y<=p.y/\(a.y<p.y\/b.y<p.y\/p.y<q.y)):=λhu ⟨i,j,S⟩=>by have c:=XF (show 0<=B by omega) (show 0<=p.y-a.y by omega);have g:=XF (show 0<= -l by omega) (show 0<=p.y-b.y by omega);have f:=XF (show 0<=J by omega) (show 0<=q.y-p.y by omega);have T:=λk=>XC A (show 0<p.y-a.y from k);have D:=λk=>XC (show 0< -l by omega) (show 0<p.y-b.y from k);have K:=λk=>XC z (show 0<q.y-p.y from k);rw[show p.y-b.y= -(b.y-p.y) by omega,aaB]at g D;omega
 have w:p.y<=q.y->¬(q.y<a.y/\q.y<b.y):=λhu ⟨i,j⟩=>by have c:=Yb A (show q.y-a.y<0 by omega);have g:=X3 E (show 0<b.y-q.y by omega);have f:=XF (show 0<= -C by omega) (show 0<=q.y-p.y by omega);rw[Zc]at f;omega
 have x:q.y<=p.y->¬(p.y<a.y/\p.y<b.y):=λhu ⟨i,j⟩=>by have c:=Yb A (show p.y-a.y<0 by omega);have g:=X3 E (show 0<b.y-p.y by omega);have f:=XF (show 0<=J by omega) (show 0<=p.y-q.y by omega);rw[show p.y-q.y= -(q.y-p.y) by omega,Yv]at f;omega
 have y:q.y<=p.y->¬(b.y<=q.y/\a.y<=q.y/\(a.y<q.y\/b.y<q.y\/q.y<p.y)):=λhu ⟨i,j,S⟩=>by have c:=XF (show 0<=B by omega) (show 0<=q.y-a.y by omega);have g:=XF (show 0<= -l by omega) (show 0<=q.y-b.y by omega);have f:=XF (show 0<= -C by omega) (show 0<=p.y-q.y by omega);have T:=λk=>XC A (show 0<q.y-a.y from k);have D:=λk=>XC (show 0< -l by omega) (show 0<q.y-b.y from k);have K:=λk=>XC (show 0< -C by omega) (show 0<p.y-q.y from k);rw[show q.y-b.y= -(b.y-q.y) by omega,aaB]at g D;rw[show p.y-q.y= -(q.y-p.y) by omega,aaB]at f K;omega
 clear M N O P F G H I;rcases YK a.y b.y with hu|hu<;>rcases YK p.y q.y with h|h
 ·have:=m hu;have:=o hu;have:=u h;have:=w h;clear m o r t u w x y;repeat' split
  all_goals omega
 ·have:=m hu;have:=o hu;have:=x h;have:=y h;clear m o r t u w x y;repeat' split
  all_goals omega
 ·have:=r hu;have:=t hu;have:=u h;have:=w h;clear m o r t u w x y;repeat' split
  all_goals omega
 ·have:=r hu;have:=t hu;have:=x h;have:=y h;clear m o r t u w x y;repeat' split
  all_goals omega
theorem I0 (a b p q:V2):iC cq b a p q= -iC cq a b p q:=by
 unfold iC;rw[dc (ag a p) (ag b p),dc (ag a q) (ag a p),dc (ag b q) (ag a q),dc (ag b p) (ag b q)];omega
theorem I1 (a b p q:V2):iC cq a b q p= -iC cq a b p q:=by
 unfold iC;rw[dc (ag a p) (ag b p),dc (ag a q) (ag a p),dc (ag b q) (ag a q),dc (ag b p) (ag b q)];omega
variable {z:V2}
theorem NO (h:∀e∈E,e.1.y<=z.y/\e.2.y<=z.y):W E z=0:=by
 rw[fY];refine jk (λe a=>?_);obtain⟨b,c⟩:=h e a;unfold cq;rw[XG (by simp only[ag];omega),XG (by simp only[ag];omega)]
theorem Vu (h:∀e∈E,z.y<e.1.y/\z.y<e.2.y):W E z=0:=by
 rw[fY];refine jk (λe a=>?_);obtain⟨b,c⟩:=h e a;unfold cq;rw[XG (by simp only[ag];omega),XG (by simp only[ag];omega)]
def Ev (p:Nat->Prop):Prop:=∃N,∀n,N<=n->p n
variable {p:Nat->Prop}
theorem Ev.and {q:Nat->Prop} (h:Ev p) (k:Ev q):Ev λn=>p n/\q n:=by
 obtain⟨N,h⟩:=h;obtain⟨M,k⟩:=k;exact⟨max N M,λn a=>⟨h n (by omega),k n (by omega)⟩⟩
theorem Ev.imp {q:Nat->Prop} (h:Ev p) (k:∀n,p n->q n):Ev q:=by
 obtain⟨N,h⟩:=h;exact⟨N,λn a=>k n (h n a)⟩
theorem Ev.of (h:∀n,p n):Ev p:=⟨0,λn _=>h n⟩
theorem Ev.ge (k:Nat):Ev λn=>k<=n:=⟨k,λ_ h=>h⟩
theorem Ev.ex (h:Ev p) (k:Nat):∃n,k<=n/\p n:=by
 obtain⟨N,h⟩:=h;exact⟨max N k,by omega,h _ (by omega)⟩
theorem Ev.all {α:Type} {p:α->Nat->Prop}:∀(l:List α),(∀x∈l,Ev (p x))->Ev λn=>∀x∈l,p x n
 |[],_=> .of λ_ _ h=>absurd h (by simp)
 |a::l,h=>((h a (by simp)).and (Ev.all l (λx b=>h x (by simp[b])))).imp λn ⟨c,f⟩ x b=>by rcases XD.1 b with rfl|b;exact c;exact f x b
theorem dK {t:Int} (c:Int) (h:0<t):Ev λn=>0<(n:Int)*t+c:=⟨c.natAbs+1,λn a=>by
 have:=XH (show 1<=t by omega) (show 0<=(n:Int) by omega);rw[aaj]at this;omega⟩
theorem jR {t:Int} (c:Int) (h:t<0):Ev λn=>(n:Int)*t+c<0:=(dK (-c) (show 0< -t by omega)).imp λn k=>by
 rw[Yv]at k;omega
variable {x y:Int}
theorem rG (c:Int) (h:x<y):Ev λn=>(n:Int)*x+c<n*y:=(jR c (show x-y<0 by omega)).imp λn k=>by
 rw[Zp]at k;omega
theorem ua (c:Int) (h:y<x):Ev λn=>(n:Int)*y<n*x+c:=(dK c (show 0<x-y by omega)).imp λn k=>by
 rw[Zp]at k;omega
theorem kL (t c:Int) (h:t≠0:=by omega):Ev λn=>(0<(n:Int)*t+c↔0<t)/\((n:Int)*t+c<0↔t<0):=by
 rcases Yh h with h|h;(exact(jR c h).imp λn k=>by omega)
 ·exact(dK c h).imp λn k=>by omega
def nr (n:Int) (u s:V2):V2:=⟨n*u.x+s.x,n*u.y+s.y⟩
def av (a b:V2):Int:=a.x*b.x+a.y*b.y
theorem O3 (n:Int) (u:V2):nr n u ⟨0,0⟩=ah n u:=V2.ext (by simp[nr,ah]) (by simp[nr,ah])
theorem pN (n:Int) (a b u s:V2):aj (ah n a) (ah n b) (nr n u s)=n*(n*aj a b u+aa (ag b a) s):=by
 simp only[aj,aa,ag,ah,nr];grind
theorem Gj (n:Int) (a u s s':V2):aj (nr n u s) (nr n u s') (ah n a)=n*aa (ag s' s) (ag a u)+aa s s':=by
 simp only[aj,aa,ag,ah,nr];grind
theorem bf {n x:Int} (h:1<=n:=by omega):(0<n*x↔0<x)/\(n*x<0↔x<0)/\(n*x=0↔x=0):=by
 have f:=cx x (show 0<n by omega);rw[X9 x n]at f;omega
variable {a u:V2}
theorem CP {b:V2} (s:V2) (h:¬aU a b u):Ev λn=>¬aU (ah n a) (ah n b) (nr n u s):=by
 by_cases t:aj a b u=0
 ·have p:(u.x<a.x/\u.x<b.x)\/(a.x<u.x/\b.x<u.x)\/(u.y<a.y/\u.y<b.y)\/(a.y<u.y/\b.y<u.y):=(by unfold aU at h;omega);rcases p with⟨c,f⟩|⟨c,f⟩|⟨c,f⟩|⟨c,f⟩;(exact((rG s.x c).and (rG s.x f)).imp λn ⟨g,i⟩ ⟨_,j,k,l,m⟩=>by simp only[ah,nr]at*;omega)
  ·exact((ua s.x c).and (ua s.x f)).imp λn ⟨g,i⟩ ⟨_,j,k,l,m⟩=>by simp only[ah,nr]at*;omega
  ·exact((rG s.y c).and (rG s.y f)).imp λn ⟨g,i⟩ ⟨_,j,k,l,m⟩=>by simp only[ah,nr]at*;omega
  ·exact((ua s.y c).and (ua s.y f)).imp λn ⟨g,i⟩ ⟨_,j,k,l,m⟩=>by simp only[ah,nr]at*;omega
 ·exact((kL _ (aa (ag b a) s) t).and (Ev.ge 1)).imp λn ⟨g,i⟩ ⟨o,_⟩=>by rw[pN]at o;have:=(bf (x:=(n:Int)*aj a b u+aa (ag b a) s) (show 1<=(n:Int) by omega)).2.2.1 o;omega
theorem LP (s s':V2) (h:a≠u):Ev λn=>¬aU (nr n u s) (nr n u s') (ah n a):=by
 have l:u.x<a.x\/a.x<u.x\/u.y<a.y\/a.y<u.y:=by refine Xz λk=>h (V2.ext (by omega) (by omega))
 rcases l with h1|h1|h1|h1;(exact((rG s.x h1).and (rG s'.x h1)).imp λn ⟨b,c⟩ ⟨_,f,g,i,j⟩=>by simp only[ah,nr]at*;omega)
 ·exact((ua s.x h1).and (ua s'.x h1)).imp λn ⟨b,c⟩ ⟨_,f,g,i,j⟩=>by simp only[ah,nr]at*;omega
 ·exact((rG s.y h1).and (rG s'.y h1)).imp λn ⟨b,c⟩ ⟨_,f,g,i,j⟩=>by simp only[ah,nr]at*;omega
 ·exact((ua s.y h1).and (ua s'.y h1)).imp λn ⟨b,c⟩ ⟨_,f,g,i,j⟩=>by simp only[ah,nr]at*;omega
theorem KS {b d:V2} (t:aj a b u=0) (h:¬aU a b u):(0<aa d (ag a u)->0<aa d (ag b u))/\(aa d (ag a u)<0->aa d (ag b u)<0)/\(aa d (ag a u)=0->aa d (ag b u)=0):=by
 have j:(u.x<a.x/\u.x<b.x)\/(a.x<u.x/\b.x<u.x)\/(u.y<a.y/\u.y<b.y)\/(a.y<u.y/\b.y<u.y):=by unfold aU at h;omega
 have o:(ag a u).x*(ag b u).y=(ag a u).y*(ag b u).x:=by simp only[aj,aa,ag]at t|-;grind
 have ex:(ag b u).x*aa d (ag a u)=(ag a u).x*aa d (ag b u):=by simp only[aa];grind
 have c:(ag b u).y*aa d (ag a u)=(ag a u).y*aa d (ag b u):=by simp only[aa];grind
 have f:∀A:Int,A=(ag a u).x\/A=(ag a u).y->A≠0->A*aa d (ag b u)=0->aa d (ag b u)=0:=λA _ l m=>(mz m).resolve_left l;simp only[ag]at j ex c f|-;rcases j with⟨g,i⟩|⟨g,i⟩|⟨g,i⟩|⟨g,i⟩;have:=gI ex (.inl ⟨by omega,by omega⟩);exact⟨this.1,this.2,λk=>f _ (.inl rfl) (by omega) (by rw[<-ex,k,X8])⟩;have:=gI ex (.inr ⟨by omega,by omega⟩);exact⟨this.1,this.2,λk=>f _ (.inl rfl) (by omega) (by rw[<-ex,k,X8])⟩;have:=gI c (.inl ⟨by omega,by omega⟩);exact⟨this.1,this.2,λk=>f _ (.inr rfl) (by omega) (by rw[<-c,k,X8])⟩;have:=gI c (.inr ⟨by omega,by omega⟩);exact⟨this.1,this.2,λk=>f _ (.inr rfl) (by omega) (by rw[<-c,k,X8])⟩
theorem Ui {b:V2} (s s':V2) (h:¬aU a b u):Ev λn=>NM (ah n a) (ah n b) (nr n u s) (nr n u s'):=by
 have j:a≠u:=λe=>h (by rw[e];exact bK _ _);have l:b≠u:=λe=>h (by rw[e];exact bp _ _);have m:Ev λn=>¬(((0<aj (nr n u s) (nr n u s') (ah n a)/\aj (nr n u s) (nr n u s') (ah n b)<0)\/(aj (nr n u s) (nr n u s') (ah n a)<0/\0<aj (nr n u s) (nr n u s') (ah n b)))/\
   ((0<aj (ah n a) (ah n b) (nr n u s)/\aj (ah n a) (ah n b) (nr n u s')<0)\/(aj (ah n a) (ah n b) (nr n u s)<0/\0<aj (ah n a) (ah n b) (nr n u s')))):=by
  by_cases t:aj a b u=0;have c:=KS (d:=ag s' s) t h;by_cases z:aa (ag s' s) (ag a u)=0;refine .of λn ⟨k,_⟩=>?_;rw[Gj,Gj,z,c.2.2 z]at k;omega;have o:aa (ag s' s) (ag b u)≠0:=(by rcases Yh z with q|q;have:=c.2.1 q;omega;have:=c.1 q;omega);refine((kL _ (aa s s') z).and (kL _ (aa s s') o)).imp λn ⟨f,g⟩ ⟨k,_⟩=>?_;rw[Gj,Gj]at k;omega;refine((kL _ (aa (ag b a) s) t).and ((kL _ (aa (ag b a) s') t).and (Ev.ge 1))).imp λn ⟨f,g,i⟩ ⟨_,k⟩=>?_;rw[pN,pN]at k;have w:=bf (x:=(n:Int)*aj a b u+aa (ag b a) s) (show 1<=(n:Int) by omega);have y:=bf (x:=(n:Int)*aj a b u+aa (ag b a) s') (show 1<=(n:Int) by omega);omega
 exact((LP s s' j).and ((LP s s' l).and ((CP s h).and ((CP s' h).and m)))).imp λn ⟨f,g,i,p,r⟩=>⟨f,g,i,p,r⟩
variable {E:Ed}
theorem Tu (c:mT E) (s:V2) (h:∀e∈E,¬aU e.1 e.2 u):Ev λn=>W (bw n E) (nr n u s)=W E u:=by
 refine((Ev.all E (λe a=>Ui ⟨0,0⟩ s (h e a))).and (Ev.ge 1)).imp λn ⟨k,f⟩=>?_;rw[<-kQ (m:=n) (by omega) E u,<-O3];refine(hA (c.sc n) (λe a=>?_)).symm;obtain⟨x,b,rfl⟩:=XS.1 a;exact k x b
theorem PN (a b z:V2):Ev λn=>cq (ag (ah (n*n) a) (nr (n*n) z ⟨n,1⟩)) (ag (ah (n*n) b) (nr (n*n) z ⟨n,1⟩))=cq (ag a z) (ag b z)/\
  (ah (n*n) a).y≠(nr (n*n) z ⟨n,1⟩).y/\(ah (n*n) b).y≠(nr (n*n) z ⟨n,1⟩).y/\¬aU (ah (n*n) a) (ah (n*n) b) (nr (n*n) z ⟨n,1⟩):=by
 have l:∀n:Int,aj (ah (n*n) a) (ah (n*n) b) (nr (n*n) z ⟨n,1⟩)=(n*n)*(n*(n*aj a b z-(b.y-a.y))+(b.x-a.x)):=λn=>by simp only[aj,aa,ag,ah,nr];grind
 have i:∀p q r:V2,aa (ag p r) (ag q r)=aj p q r:=λp q r=>by simp only[aj,aa,ag];grind
 have m:Ev λn=>(aj a b z≠0->(0<(n:Int)*(n*aj a b z-(b.y-a.y))+(b.x-a.x)↔0<aj a b z)/\((n:Int)*(n*aj a b z-(b.y-a.y))+(b.x-a.x)<0↔aj a b z<0))/\
   (aj a b z=0->(a.y<b.y->(n:Int)*(n*aj a b z-(b.y-a.y))+(b.x-a.x)<0)/\(b.y<a.y->0<(n:Int)*(n*aj a b z-(b.y-a.y))+(b.x-a.x))):=by
  rcases YJ (aj a b z) 0 with t|t|t;refine((jR (-(b.y-a.y)+((b.x-a.x).natAbs+1)) t).and (Ev.ge 1)).imp λn ⟨k,o⟩=>⟨λ_=>?_,λh=>by omega⟩;have:=XH (show(n:Int)*aj a b z-(b.y-a.y)<= -((b.x-a.x).natAbs+1) by omega) (show 0<=(n:Int) by omega);have C:=XH (show((b.x-a.x).natAbs+1:Int)>=1 by omega) (show 0<=(n:Int) by omega);have u:=Yo (show(1:Int)<=n by omega) (show(0:Int)<=(b.x-a.x).natAbs+1 by omega);rw[Yv]at this;omega;rw[t];by_cases D:a.y<b.y;refine(jR (b.x-a.x) (show-(b.y-a.y)<0 by omega)).imp λn k=>⟨λh=>absurd rfl h,λ_=>⟨λ_=>by rw[X8,abG];exact k,λh=>by omega⟩⟩;by_cases E:b.y<a.y;refine(dK (b.x-a.x) (show 0< -(b.y-a.y) by omega)).imp λn k=>⟨λh=>absurd rfl h,λ_=>⟨λh=>by omega,λ_=>by rw[X8,abG];exact k⟩⟩;exact .of λn=>⟨λh=>absurd rfl h,λ_=>⟨λh=>by omega,λh=>by omega⟩⟩;refine((dK (-(b.y-a.y)-((b.x-a.x).natAbs+1)) t).and (Ev.ge 1)).imp λn ⟨k,o⟩=>⟨λ_=>?_,λh=>by omega⟩;have:=XH (show((b.x-a.x).natAbs+1:Int)<=(n:Int)*aj a b z-(b.y-a.y) by omega) (show 0<=(n:Int) by omega);have u:=Yo (show(1:Int)<=n by omega) (show(0:Int)<=(b.x-a.x).natAbs+1 by omega);omega
 refine(m.and (Ev.ge 2)).imp λn ⟨⟨f,g⟩,o⟩=>?_;have F:2<=(n:Int)*n:=by have:=XH (show(1:Int)<=n by omega) (show(0:Int)<=n by omega);omega
 have j:∀v:V2,((ah (n*n) v).y-(nr (n*n) z ⟨n,1⟩).y<=0↔v.y<=z.y)/\(ah (n*n) v).y≠(nr (n*n) z ⟨n,1⟩).y:=λv=>by simp only[ah,nr];by_cases c:v.y<=z.y;have:=XH c (show 0<=(n:Int)*n by omega);omega;have:=XH (show z.y+1<=v.y by omega) (show 0<=(n:Int)*n by omega);rw[aaN,aaj]at this;omega
 have w:=j a;have y:=j b;have A:=bf (x:=(n:Int)*(n*aj a b z-(b.y-a.y))+(b.x-a.x)) (show 1<=(n:Int)*n by omega);rw[<-l]at A;refine⟨?_,w.2,y.2,λB=>?_⟩
 ·unfold cq;rw[i,i];simp only[ag]at*;generalize (n:Int)*(n*aj a b z-(b.y-a.y))+(b.x-a.x)=X at*;generalize aj (ah (n*n) a) (ah (n*n) b) (nr (n*n) z ⟨n,1⟩)=Y at*;clear l i m j;by_cases t:aj a b z=0
  ·have:=g t;clear f g;repeat' split
   all_goals omega
  ·have:=f t;clear f g;repeat' split
   all_goals omega
 ·obtain⟨G,_,_,H,I⟩:=B;generalize (n:Int)*(n*aj a b z-(b.y-a.y))+(b.x-a.x)=X at*;by_cases t:aj a b z=0;have:=g t;omega;have:=f t;omega
theorem gen (E:Ed) (z:V2):Ev λn=>W (bw (n*n) E) (nr (n*n) z ⟨n,1⟩)=W E z/\∀e∈bw (n*n) E,e.1.y≠(nr (n*n) z ⟨n,1⟩).y/\e.2.y≠(nr (n*n) z ⟨n,1⟩).y/\¬aU e.1 e.2 (nr (n*n) z ⟨n,1⟩):=by
 refine(Ev.all E (λe _=>PN e.1 e.2 z)).imp λn k=>⟨?_,λe a=>?_⟩;rw[fY,fY,bw,kY];exact gA (λe a=>(k e a).1);obtain⟨x,b,rfl⟩:=XS.1 a;exact(k x b).2
variable {s s':V2}
theorem Lj {f:V2} (b:0<aa s s') (h2:0<aa s f) (a:0<aa f s'):Ev λn=>iC cq (ah n u) (ah n (an u f)) (nr n u s) (nr n u s')= -1:=by
 have e:aa (ag s s') f=aa s f+aa f s':=by simp only[aa,ag];grind
 refine((dK (aa s' s) (show 0<aa (ag s s') f by omega)).and (Ev.ge 1)).imp λn ⟨k,c⟩=>?_;rw[I1,wB];have:aj (ah n u) (ah n (an u f)) (nr n u s')=n*aa f s':=(by simp only[aj,aa,ag,ah,nr,an];grind);rw[this];exact(bf (show 1<=(n:Int) by omega)).1.2 a;have:aj (ah n u) (ah n (an u f)) (nr n u s)=n* -aa s f:=(by simp only[aj,aa,ag,ah,nr,an];grind);rw[this];exact(bf (show 1<=(n:Int) by omega)).2.1.2 (by omega);have:aj (nr n u s') (nr n u s) (ah n u)= -aa s s':=(by simp only[aj,aa,ag,ah,nr];grind);rw[this];omega;have:aj (nr n u s') (nr n u s) (ah n (an u f))=n*aa (ag s s') f+aa s' s:=(by simp only[aj,aa,ag,ah,nr,an];grind);rw[this];exact k
theorem OO {f:V2} (o:0<aa s s') (h2:aa s f<0\/aa f s'<0):Ev λn=>NM (ah n u) (ah n (an u f)) (nr n u s) (nr n u s'):=by
 have p:∀n:Int,aj (ah n u) (ah n (an u f)) (nr n u s)=n* -aa s f:=λn=>by simp only[aj,aa,ag,ah,nr,an];grind
 have q:∀n:Int,aj (ah n u) (ah n (an u f)) (nr n u s')=n*aa f s':=λn=>by simp only[aj,aa,ag,ah,nr,an];grind
 have r:∀n:Int,aj (nr n u s) (nr n u s') (ah n u)=aa s s':=λn=>by simp only[aj,aa,ag,ah,nr];grind
 have t:∀n:Int,aj (nr n u s) (nr n u s') (ah n (an u f))=n*(-aa f s'-aa s f)+aa s s':=λn=>by simp only[aj,aa,ag,ah,nr,an];grind
 have w:∀{x y:V2},aa x f=0->(0<aa x y/\aa f y<0\/0<aa y x/\aa y f<0)->∀n:Int,1<=n->¬aU (ah n u) (ah n (an u f)) (nr n u x):=by
  intro x y a F n g ⟨_,A,B,C,D⟩;simp only[ah,nr,an]at A B C D;rw[aaN]at A B C D;have G:=bf (x:=f.x) g;have H:=bf (x:=f.y) g;have I:f.x*aa x y=x.x*aa f y:=(by simp only[aa]at a|-;grind);have J:f.y*aa x y=x.y*aa f y:=(by simp only[aa]at a|-;grind);have K:f.x*aa y x=x.x*aa y f:=(by simp only[aa]at a|-;grind);have M:f.y*aa y x=x.y*aa y f:=(by simp only[aa]at a|-;grind);have E:x.x=0->x.y=0->False:=λN O=>by have:aa x y=0/\aa y x=0:=(by simp only[aa];rw[N,O];simp);omega
  rcases F with⟨b,P⟩|⟨b,P⟩;have i:=cx f.x b;have j:=cx f.y b;have l:=cx x.x (show 0< -aa f y by omega);have m:=cx x.y (show 0< -aa f y by omega);rw[Yv]at l m;rw[I]at i;rw[J]at j;have:¬(x.x=0/\x.y=0):=λz=>E z.1 z.2;omega;have i:=cx f.x b;have j:=cx f.y b;have l:=cx x.x (show 0< -aa y f by omega);have m:=cx x.y (show 0< -aa y f by omega);rw[Yv]at l m;rw[K]at i;rw[M]at j;have:¬(x.x=0/\x.y=0):=λz=>E z.1 z.2;omega
 have Q:Ev λn=>((n:Int)*(-aa f s'-aa s f)+aa s s'≠0)/\((n:Int)*(-aa f s'-aa s f)+aa s s'<0-> -aa f s'-aa s f<0):=by by_cases z: -aa f s'-aa s f=0;refine .of λn=>?_;rw[z,X8];omega;(exact(kL _ (aa s s') z).imp λn k=>by omega)
 refine(Q.and (Ev.ge 1)).imp λn ⟨k,g⟩=>?_;have c:1<=(n:Int):=by omega
 have G:=bf (x:= -aa s f) c;have H:=bf (x:=aa f s') c;refine⟨λh=>?_,λh=>?_,λh=>?_,λh=>?_,λh=>?_⟩;have:=h.1;rw[r]at this;omega;have:=h.1;rw[t]at this;omega;have a:=h.1;rw[p]at a;have z:aa s f=0:=(by omega);exact w (x:=s) (y:=s') z (.inl ⟨o,by omega⟩) n c h;have a:=h.1;rw[q]at a;have z:aa s' f=0:=(by rw[aO];omega);exact w (x:=s') (y:=s) z (.inr ⟨o,by omega⟩) n c h;rw[p,q,r,t]at h;omega
def rk (f d:V2):Nat:=if 0<aa f d then 0 else if aa f d<0 then 2 else if av f d<0 then 1 else 3
def mP (f g d:V2):Prop:=rk f d<rk f g\/(rk f d=rk f g/\rk f d≠3/\0<aa d g)
theorem bl (f d:V2):(rk f d=0/\0<aa f d)\/(rk f d=2/\aa f d<0)\/(rk f d=1/\aa f d=0/\av f d<0)\/(rk f d=3/\aa f d=0/\0<=av f d):=by
 unfold rk;repeat' split
 all_goals omega
def N1 (E:Ed) (u f g:V2):Prop:=∃a:Ed,(∀(m:Int) (z:V2),0<m->W (bw m E) z=W (bw m ((an u g,u)::(u,an u f)::a)) z)/\mT ((an u g,u)::(u,an u f)::a)/\∀e∈a,¬aU e.1 e.2 u
def lX (E:Ed) (k:Int):Prop:=∀(m:Int) (z:V2),0<m->W (bw m E) z+k=0\/W (bw m E) z+k=1
variable {g:V2}
theorem N1.Vc {f:V2} (h:N1 E u f g) (x y:Int) (a:Ev λn=>iC cq (ah n u) (ah n (an u f)) (nr n u s) (nr n u s')=x) (j:Ev λn=>iC cq (ah n u) (ah n (an u g)) (nr n u s) (nr n u s')=y):
  Ev λn=>W (bw n E) (nr n u s)-W (bw n E) (nr n u s')=x-y:=by
 obtain⟨c,i,k,l⟩:=h;refine(a.and (j.and ((Ev.all c (λe b=>Ui s s' (l e b))).and (Ev.ge 1)))).imp λn ⟨m,o,p,q⟩=>?_;rw[i n _ (by omega),i n _ (by omega),F6 (k.sc n)];show Qs ((ah n (an u g),ah n u)::(ah n u,ah n (an u f))::bw n c) _ _=_;simp only[Qs,eE];rw[I0,m,o,jk (λe b=>?_)];omega;obtain⟨x,a,rfl⟩:=XS.1 b;exact q3 (p x a)
theorem CA {f:V2} (a:0<aa s s') (h2:aa s f<0\/aa f s'<0):Ev λn=>iC cq (ah n u) (ah n (an u f)) (nr n u s) (nr n u s')=0:=
 (OO a h2).imp λ_ k=>q3 k
theorem DB {t:Int} (c:Int) (h:t<0):∃K:Int,0<K/\K*t-c<0:=by
 obtain⟨n,a,b⟩:=(jR (-c) h).ex 1;exact⟨n,by omega,by omega⟩
theorem N1.inside {k:Int} {f:V2} (h:N1 E u f g) (B:lX E k) (T:rk f g≠3) (hs:mP f g s):Ev λn=>W (bw n E) (nr n u s)+k=1:=by
 have U:=bl f s;have b:=bl f g;have G:rk f g=1->aa f s≠0->(0<aa f s->aa g s<0)/\(aa f s<0->0<aa g s):=λl _=>by have H:aa f g=0:=(by omega);have i:av f g<0:=(by omega);have e:av f f*aa g s=av f g*aa f s:=(by simp only[aa,av]at H|-;grind);have o:0<av f f:=(by have:f.x≠0\/f.y≠0:=(by refine Xz λI=>?_;have:av f g=0:=(by simp only[av];rw[show f.x=0 by omega,show f.y=0 by omega];simp);omega);have C:0<=f.x*f.x:=(by rcases YK 0 f.x with q|q;exact XF q q;exact X2 q q);have D:0<=f.y*f.y:=(by rcases YK 0 f.y with q|q;exact XF q q;exact X2 q q);have V:f.x*f.x≠0\/f.y*f.y≠0:=this.imp (λq z=>q ((mz z).elim id id)) (λq z=>q ((mz z).elim id id));simp only[av];omega);have a:=cx (aa g s) o;have J:=cx (aa f s) (show 0< -av f g by omega);rw[X9]at a;rw[Yv,X9]at J;omega
 have X:aa s g= -aa g s:=aO g s;have fin:∀{s':V2},(Ev λn=>W (bw n E) (nr n u s)-W (bw n E) (nr n u s')=1)->Ev λn=>W (bw n E) (nr n u s)+k=1:=λ{s'} q=>(q.and (Ev.ge 1)).imp λn ⟨q,I⟩=>by have Y:=B n (nr n u s) (by omega);have Z:=B n (nr n u s') (by omega);omega
 by_cases c:0<aa f s
 ·obtain⟨K,hK,p⟩:∃K:Int,0<K/\(aa f g<0->K*aa f g-aa s g<0):=(by by_cases F:aa f g<0;obtain⟨K,l,m⟩:=DB (aa s g) F;exact⟨K,l,λ_=>m⟩;exact⟨1,by decide,λq=>absurd q F⟩);obtain⟨s0,r⟩:∃s0:V2,s0=⟨K*f.x-s.x,K*f.y-s.y⟩:=⟨_,rfl⟩;have t:aa s0 s=K*aa f s:=(by rw[r];simp only[aa];grind);have M:aa s0 f=aa f s:=(by rw[r];simp only[aa];grind);have w:aa s0 g=K*aa f g-aa s g:=(by rw[r];simp only[aa];grind);have j:0<aa s0 s:=(by rw[t];exact XC hK c);have x:=Lj (u:=u) j (show 0<aa s0 f by omega) c;have y:aa s0 g<0\/aa g s<0:=(by rcases b with b|b|b|b;rcases hs with hs|hs;omega;right;omega;left;rw[w];exact p b.2;right;exact(G b.1 (by omega)).1 c;omega);have:=h.Vc _ _ x (CA (u:=u) j y);exact fin (s':=s0) (this.imp λn q=>by omega)
 ·have y:rk f g=2/\aa f g<0/\aa g s<0:=(by rcases hs with hs|hs;have m:rk f g=2:=(by omega);have l:rk f s=1:=(by omega);have N:aa f s=0:=(by omega);have i:av f s<0:=(by omega);refine⟨m,by omega,?_⟩;have e:av f f*aa g s= -(av f s*aa f g):=(by simp only[aa,av]at N|-;grind);have o:0<=av f f:=(by have C:0<=f.x*f.x:=(by rcases YK 0 f.x with q|q;exact XF q q;exact X2 q q);have D:0<=f.y*f.y:=(by rcases YK 0 f.y with q|q;exact XF q q;exact X2 q q);simp only[av];omega);refine Y5.1 λq=>?_;have a0:=XF o q;have a1:=Zr i (show aa f g<0 by omega);omega;obtain⟨l,m,a2⟩:=hs;have:rk f g=2\/rk f g=1:=(by omega);rcases this with q|q;exact⟨q,by omega,by omega⟩;exfalso;have O:aa f s=0:=(by omega);have P:aa f g=0:=(by omega);have i:av f s<0:=(by omega);have Q:av f f*aa s g=0:=(by simp only[aa,av]at O P|-;grind);rcases mz Q with e|e;have C:0<=f.x*f.x:=(by rcases YK 0 f.x with q|q;exact XF q q;exact X2 q q);have D:0<=f.y*f.y:=(by rcases YK 0 f.y with q|q;exact XF q q;exact X2 q q);simp only[av]at e i;have R:=(mz (show f.x*f.x=0 by omega)).elim id id;have S:=(mz (show f.y*f.y=0 by omega)).elim id id;rw[R,S]at i;omega;omega);obtain⟨K,hK,p⟩:=DB (aa f s) y.2.1;obtain⟨a,A⟩:∃a:V2,a=⟨K*g.x-s.x,K*g.y-s.y⟩:=⟨_,rfl⟩;have t:aa s a=K*aa s g:=(by rw[A];simp only[aa];grind);have M:aa g a=aa s g:=(by rw[A];simp only[aa];grind);have w:aa f a=K*aa f g-aa f s:=(by rw[A];simp only[aa];grind);have j:0<aa s a:=(by rw[t];exact XC hK (by omega));have x:=Lj (u:=u) j (show 0<aa s g by omega) (show 0<aa g a by omega);have:=h.Vc _ _ (CA (u:=u) j (.inr (by rw[w];exact p))) x;exact fin (s':=a) (this.imp λn q=>by omega)
def sI (lo:Int) (k:Nat) (f:Int->Int):Int:=bz k λi=>f (lo+i)
theorem qV (lo:Int) (f:Int->Int):sI lo 0 f=0:=rfl
theorem fL (lo:Int) (k:Nat) (f:Int->Int):sI lo (k+1) f=sI lo k f+f (lo+k):=rfl
theorem sB (lo:Int) (a b:Nat) (f:Int->Int):sI lo (a+b) f=sI lo a f+sI (lo+a) b f:=by
 unfold sI;rw[gQ];congr 1;exact ck (λi _=>by congr 1;omega)
variable {lo:Int} {k:Nat} {g:Int->Int}
theorem dR {f:Int->Int} (h:∀x,lo<=x->x<lo+k->f x=g x):sI lo k f=sI lo k g:=ck (λi a=>h _ (by omega) (by omega))
theorem KT (lo:Int) (k:Nat) (c:Int) (f:Int->Int):sI lo k (λx=>f (c-x))=sI (c-lo-k+1) k f:=by
 unfold sI;rw[<-B6 (λi=>f (c-lo-k+1+i))];refine ck (λi a=>?_);show f (c-(lo+i))=f (c-lo-k+1+((k-1-i:Nat):Int));congr 1;omega
theorem gR (lo:Int) (k:Nat) (c:Int):sI lo k (λ_=>c)=c*k:=by
 induction k with
 |zero=>simp[qV]
 |succ k a=>rw[fL,a];grind
theorem EP (lo:Int) (k:Nat) (f:Int->Int):sI lo k (λx=> -f x)= -sI lo k f:=by
 induction k with
 |zero=>rfl
 |succ k a=>rw[fL,fL,a];omega
theorem EO (lo:Int) (k:Nat) (f g:Int->Int):sI lo k (λx=>f x+g x)=sI lo k f+sI lo k g:=by
 induction k with
 |zero=>rfl
 |succ k a=>rw[fL,fL,fL,a];omega
theorem KU (lo:Int) (k:Nat) (c:Int) (f:Int->Int):sI lo k (λx=>c*f x)=c*sI lo k f:=by
 induction k with
 |zero=>simp[qV]
 |succ k a=>rw[fL,fL,a,aaN]
theorem OH (lo a:Int) (k b:Nat) (f:Int->Int->Int):sI lo k (λx=>sI a b (λy=>f x y))=sI a b (λy=>sI lo k (λx=>f x y)):=by
 induction k with
 |zero=>simp only[qV];rw[gR];simp
 |succ k c=>rw[fL,c,<-EO];rfl
theorem GB (lo:Int) (k:Nat) (n:Nat) (f:Int->Nat->Int):sI lo k (λx=>bz n (f x))=bz n (λi=>sI lo k (λx=>f x i)):=by
 induction n with
 |zero=>simp only[bz];rw[gR];simp
 |succ n a=>simp only[bz];rw[EO,a]
theorem KV {f:Int->Int} (t:Int) (d:Nat) (j:lo<=t) (h2:t+d<=lo+k) (h:∀x,x<t\/t+d<=x->f x=0):sI lo k f=sI t d f:=by
 obtain⟨a,c⟩:∃a:Nat,lo+a=t:=⟨(t-lo).toNat,by omega⟩;obtain⟨b,i⟩:∃b:Nat,k=a+(d+b):=⟨k-a-d,by omega⟩;rw[i,sB,sB,c];have l:sI lo a f=0:=by rw[dR (g:=λ_=>0) (λx _ m=>h x (by omega)),gR];simp
 have o:sI (t+d) b f=0:=by rw[dR (g:=λ_=>0) (λx p _=>h x (by omega)),gR];simp
 omega
variable {M:Int}
theorem OG {L H S:Int} (o:(k:Int)=2*M+1) (c:∀x,x<L->g x=1) (f:∀x,H<x->g x= -1) (p: -M<=L) (h2:H<=M) (q:S-M<=L) (r:H<=S+M):
  sI (-M) k g-sI (S-M) k g=2*S:=by
 rcases YK 0 S with i|i
 ·obtain⟨s,rfl⟩:∃s:Nat,S=s:=⟨S.toNat,by omega⟩;have a:=sB (-M) s k g;have b:=sB (-M) k s g;rw[Zu,b]at a;have j:sI (-M) s g=s:=(by rw[dR (g:=λ_=>1) (λx _ h=>c x (by omega)),gR];omega);have l:sI (-M+k) s g= -s:=(by rw[dR (g:=λ_=> -1) (λx h _=>f x (by omega)),gR];omega);rw[show-M+(s:Int)=s-M by omega]at a;omega
 ·obtain⟨s,m⟩:∃s:Nat,S= -(s:Int):=⟨(-S).toNat,by omega⟩;subst m;have a:=sB (-(s:Int)-M) s k g;have b:=sB (-(s:Int)-M) k s g;rw[Zu,b]at a;have j:sI (-(s:Int)-M) s g=s:=(by rw[dR (g:=λ_=>1) (λx _ h=>c x (by omega)),gR];omega);have l:sI (-(s:Int)-M+k) s g= -s:=(by rw[dR (g:=λ_=> -1) (λx h _=>f x (by omega)),gR];omega);rw[show-(s:Int)-M+(s:Int)= -M by omega]at a;omega
variable {x:Int}
theorem OE (h:0<x):bN x=1:=by have:=aW x;omega
theorem KN (h:x<0):bN x= -1:=by have:=aW x;omega
variable {a:V2}
theorem Jm {b:V2} {y:Int} (i:(k:Int)=2*M+1) (z: -M<=a.x/\a.x<=M) (A: -M<=b.x/\b.x<=M) (B:a.y<=y) (h2:y<=b.y) (C:a.y<b.y):
  sI (-M) k (λx=>bN (aj a b ⟨x,y⟩))+sI (-M) k (λx=>bN (aj a b ⟨x,a.y+b.y-y⟩))=2*(a.x+b.x):=by
 have e:∀x,aj a b ⟨x,y⟩=(b.x-x)*(y-a.y)+(a.x-x)*(b.y-y):=λx=>by simp only[aj,aa,ag];grind
 have r:∀x,bN (aj a b ⟨x,a.y+b.y-y⟩)= -(λx=>bN (aj a b ⟨x,y⟩)) (a.x+b.x-x):=λx=>by have:aj a b ⟨x,a.y+b.y-y⟩= -aj a b ⟨a.x+b.x-x,y⟩:=(by simp only[aj,aa,ag];grind);rw[this,OD]
 have j:∀x,x<a.x->x<b.x->0<aj a b ⟨x,y⟩:=λx l m=>by rw[e];have o:=Ej (b.x-x) (show 0<=y-a.y by omega);have p:=Ej (a.x-x) (show 0<=b.y-y by omega);have f:=XF (show 0<=b.x-x by omega) (show 0<=y-a.y by omega);have h:=XF (show 0<=a.x-x by omega) (show 0<=b.y-y by omega);generalize (b.x-x)*(y-a.y)=q at*;generalize (a.x-x)*(b.y-y)=t at*;omega
 have u:∀x,a.x<x->b.x<x->aj a b ⟨x,y⟩<0:=λx l m=>by rw[e];have o:=Ej (b.x-x) (show 0<=y-a.y by omega);have p:=Ej (a.x-x) (show 0<=b.y-y by omega);have f:=XF (show 0<=x-b.x by omega) (show 0<=y-a.y by omega);have h:=XF (show 0<=x-a.x by omega) (show 0<=b.y-y by omega);rw[show(x-b.x)*(y-a.y)= -((b.x-x)*(y-a.y)) by grind]at f;rw[show(x-a.x)*(b.y-y)= -((a.x-x)*(b.y-y)) by grind]at h;generalize (b.x-x)*(y-a.y)=q at*;generalize (a.x-x)*(b.y-y)=t at*;omega
 have w:sI (-M) k (λx=>bN (aj a b ⟨x,a.y+b.y-y⟩))= -sI (a.x+b.x-M) k (λx=>bN (aj a b ⟨x,y⟩)):=by rw[dR (λx _ _=>r x),EP,KT (-M) k (a.x+b.x) (λx=>bN (aj a b ⟨x,y⟩)),show a.x+b.x- -M-k+1=a.x+b.x-M by omega]
 rw[w];have:=OG (g:=λx=>bN (aj a b ⟨x,y⟩)) (M:=M) (L:=if a.x<=b.x then a.x else b.x) (H:=if a.x<=b.x then b.x else a.x) (S:=a.x+b.x) (k:=k) i
  (λx c=>OE (j x (by split at c<;>omega) (by split at c<;>omega))) (λx c=>KN (u x (by split at c<;>omega) (by split at c<;>omega)))
  (by split<;>omega) (by split<;>omega) (by split<;>omega) (by split<;>omega)
 omega
def BT (a b:V2) (y:Int):Int:=uj (bN (a.y-y)) (bN (b.y-y))
theorem TU (a b p:V2):tq (ag a p) (ag b p)=BT a b p.y*bN (aj a b p):=by
 unfold tq;rw[iH];have s:=aW (aj a b p);show(if 0<aj a b p then BT a b p.y else if aj a b p<0 then-BT a b p.y else 0)=_;rcases s with⟨f,c⟩|⟨f,c⟩|⟨f,c⟩;rw[c,XL f];omega;rw[c,iN,XL f];omega;rw[c,iN,iN];omega
theorem J3 {a b:V2} (c:a.y<b.y):∀k:Nat,(k:Int)<b.y-a.y->sI a.y (k+1) (BT a b)=2*k+1
 |0,h=>by rw[fL,qV];unfold BT uj;have f:=aW (a.y-(a.y+((0:Nat):Int)));have g:=aW (b.y-(a.y+((0:Nat):Int)));split<;>omega
 |k+1,h=>by rw[fL,J3 c k (by omega)];unfold BT uj;have f:=aW (a.y-(a.y+((k+1:Nat):Int)));have g:=aW (b.y-(a.y+((k+1:Nat):Int)));split<;>omega
theorem HQ {b:V2} (m:(k:Int)=2*M+1) (o:In M a) (p:In M b) (f:a.y<b.y):
  sI (-M) k (λx=>sI (-M) k (λy=>tq (ag a ⟨x,y⟩) (ag b ⟨x,y⟩)))=2*((b.y-a.y)*(a.x+b.x)):=by
 obtain⟨q,r,H,I⟩:=o;obtain⟨t,u,J,K⟩:=p;rw[OH];have w:∀y,sI (-M) k (λx=>tq (ag a ⟨x,y⟩) (ag b ⟨x,y⟩))=BT a b y*sI (-M) k (λx=>bN (aj a b ⟨x,y⟩)):=λy=>by rw[<-KU];exact dR (λx _ _=>TU a b ⟨x,y⟩)
 rw[dR (λy _ _=>w y)];obtain⟨D,z⟩:∃D:Nat,(D:Int)=b.y-a.y:=⟨(b.y-a.y).toNat,by omega⟩;obtain⟨F,c⟩:∃F:Int->Int,F=λy=>BT a b y*sI (-M) k (λx=>bN (aj a b ⟨x,y⟩)):=⟨_,rfl⟩;have A:∀y,y<a.y\/a.y+((D+1:Nat):Int)<=y->F y=0:=λy h=>by rw[c];have:BT a b y=0:=(by unfold BT uj;have g:=aW (a.y-y);have i:=aW (b.y-y);split<;>omega);simp only[this,Yd]
 rw[<-c,KV a.y (D+1) (by omega) (by omega) A];have j:=KT a.y (D+1) (a.y+b.y) F;rw[show a.y+b.y-a.y-((D+1:Nat):Int)+1=a.y by omega]at j;have l:sI a.y (D+1) (λy=>F y+F (a.y+b.y-y))=2*(a.x+b.x)*sI a.y (D+1) (BT a b):=by rw[<-KU];refine dR (λy B N=>?_);have C:=Jm (y:=y) m ⟨q,r⟩ ⟨t,u⟩ B (by omega) f;have E:BT a b (a.y+b.y-y)=BT a b y:=(by unfold BT uj;have g:=aW (a.y-y);have i:=aW (b.y-y);have O:=aW (a.y-(a.y+b.y-y));have P:=aW (b.y-(a.y+b.y-y));split<;>split<;>omega);rw[c];simp only;rw[E,<-aaN,C,X9]
 rw[EO,j,fL a.y D (BT a b)]at l;have G:BT a b (a.y+D)=1:=by unfold BT uj;have g:=aW (a.y-(a.y+D));have i:=aW (b.y-(a.y+D));split<;>omega
 obtain⟨d,rfl⟩:∃d,D=d+1:=⟨D-1,by omega⟩;rw[J3 f d (by omega),G]at l;have Q:2*(a.x+b.x)*(2*(d:Int)+1+1)=2*(2*((b.y-a.y)*(a.x+b.x))):=by rw[<-z];rw[show((d+1:Nat):Int)=d+1 by omega];grind
 omega
theorem MX {b:V2} (c:(k:Int)=2*M+1) (f:In M a) (g:In M b):
  sI (-M) k (λx=>sI (-M) k (λy=>tq (ag a ⟨x,y⟩) (ag b ⟨x,y⟩)))=2*((b.y-a.y)*(a.x+b.x)):=by
 rcases YJ a.y b.y with h|h|h;exact HQ c f g h
 ·have e:sI (-M) k (λx=>sI (-M) k (λy=>tq (ag a ⟨x,y⟩) (ag b ⟨x,y⟩)))=sI (-M) k (λx=>sI (-M) k (λy=>0)):=
   dR (λx _ _=>dR (λy _ _=>uS (by simp only[ag];rw[h])))
  rw[e,h];simp[gR]
 ·have e:sI (-M) k (λx=>sI (-M) k (λy=>tq (ag a ⟨x,y⟩) (ag b ⟨x,y⟩)))=sI (-M) k (λx=> -sI (-M) k (λy=>tq (ag b ⟨x,y⟩) (ag a ⟨x,y⟩))):=
   dR (λx _ _=>by rw[<-EP];exact dR (λy _ _=>Ad _ _))
  rw[e,EP,HQ c g f h];grind
def Og (l:LV) (p:V2):Int:=bz l.length λi=>tq (ag (gt l i) p) (ag (bA l i) p)
theorem Of {l:LV} (c:(k:Int)=2*M+1) (a:0<l.length) (b:∀i,i<l.length->In M (gt l i)):
  sI (-M) k (λx=>sI (-M) k (λy=>Og l ⟨x,y⟩))=2*xO l:=by
 have f:sI (-M) k (λx=>sI (-M) k (λy=>Og l ⟨x,y⟩))=bz l.length (λi=>sI (-M) k (λx=>sI (-M) k (λy=>tq (ag (gt l i) ⟨x,y⟩) (ag (bA l i) ⟨x,y⟩)))):=by rw[<-GB];refine dR (λx _ _=>?_);exact GB (-M) k l.length (λy i=>tq (ag (gt l i) ⟨x,y⟩) (ag (bA l i) ⟨x,y⟩))
 have g:bz l.length (λi=>sI (-M) k (λx=>sI (-M) k (λy=>tq (ag (gt l i) ⟨x,y⟩) (ag (bA l i) ⟨x,y⟩))))=bz l.length (λi=>aa (gt l i) (bA l i)+aa (gt l i) (bA l i)+((λj=>2*((gt l j).x*(gt l j).y)) ((i+1)%l.length)-(λj=>2*((gt l j).x*(gt l j).y)) i)):=
  ck (λi h=>by have m:In M (bA l i):=b _ (ZC _ a);rw[MX c (b i h) m];simp only[aa,bA];grind)
 rw[f,g,vR,vR,Gn (λj=>2*((gt l j).x*(gt l j).y)) a];unfold xO;omega
def iT (l:LV) (i:Int):Nat:=(i%(l.length:Int)).toNat
theorem jM {l:LV} (h:3<=l.length) (i:Int):iT l i<l.length:=by
 have:=Int.emod_lt_of_pos i (show 0<(l.length:Int) by omega);have:=Int.emod_nonneg i (show(l.length:Int)≠0 by omega);unfold iT;omega
variable {i:Nat}
theorem Hv {l:LV} (h:i<l.length):iT l i=i:=by
 unfold iT;rw[Int.emod_eq_of_lt (by omega) (by omega)];omega
theorem mC {l:LV} (h:3<=l.length) (i:Int) (d:Nat):iT l (i+d)=(iT l i+d)%l.length:=by
 have b:=Int.emod_nonneg i (show(l.length:Int)≠0 by omega);unfold iT;rw[<-Int.emod_add_emod i (l.length:Int) (d:Int)];obtain⟨k,a⟩:∃k:Nat,i%(l.length:Int)=k:=⟨(i%(l.length:Int)).toNat,by omega⟩;rw[a];have:((k:Int)+d)%(l.length:Int)=(((k+d)%l.length:Nat):Int):=by rw[<-Int.natCast_add,<-Int.natCast_emod]
 rw[this,Yi,Yi]
theorem A9 {l:LV} (h:3<=l.length) {i j:Int} (b:i<j:=by omega) (h2:j<i+l.length:=by omega):iT l i≠iT l j:=by
 intro e;have a:j=i+((j-i).toNat:Nat):=by omega
 rw[a,mC h]at e;have f:=jM h i;by_cases c:iT l i+(j-i).toNat<l.length;rw[X5 c]at e;omega;rw[aal (by omega),mOf]at e;omega
def bq (l:LV) (i:Int):V2:=gt l (iT l i)
theorem jo {l:LV} (hi:i<l.length:=by omega):bq l i=gt l i:=by unfold bq;rw[Hv hi]
theorem gD {l:LV} (a:3<=l.length) (i:Int):bq l (i+1)=bA l (iT l i):=by
 unfold bq;have:=mC a i 1;rw[show i+((1:Nat):Int)=i+1 by omega]at this;rw[this];rfl
theorem oK {l:LV} (a:3<=l.length) (hi:i<l.length:=by omega):bq l (i+1)=bA l i:=by
 rw[gD a,Hv hi]
theorem EU {l:LV} (a:3<=l.length) (i:Int):bq l (i-1)=lV l (iT l i):=by
 have b:=mC a (i-1) 1;rw[show i-1+((1:Nat):Int)=i by omega]at b;have f:=jM a (i-1);unfold lV bq;rw[b];congr 1;by_cases c:iT l (i-1)+1<l.length;rw[X5 c,show iT l (i-1)+1+l.length-1=iT l (i-1)+l.length by omega,YI,X5 f];rw[show iT l (i-1)+1=l.length by omega,Zt,Ya,mOf];omega
theorem sr {l:LV} (b:bo l):zT l.length (bq l):=by
 have a:=b.three;have c:=b.pre;refine⟨a,λi=>?_,λi=>?_,λi j h k=>?_⟩;unfold bq;have:=mC a i l.length;rw[this,YI,X5 (jM a i)];rw[gD a,EU a];exact c.turns _ (jM a i);rw[gD a,gD a];have f:=mC a i 1;have g:=mC a j 1;rw[show i+((1:Nat):Int)=i+1 by omega]at f;rw[show j+((1:Nat):Int)=j+1 by omega]at g;refine c.apart _ (jM a i) _ (jM a j) (A9 a) ?_ ?_;rw[<-f];exact(A9 a).symm;rw[<-g];have:iT l i=iT l (i+l.length):=(by rw[mC a,YI,X5 (jM a i)]);rw[this];exact(A9 a).symm
theorem z6 {l:LV} (a:3<=l.length) (p:V2):Og l p=dm (bq l) p 0 l.length:=by
 have b:∀m,m<=l.length->dm (bq l) p 0 m=bz m (λi=>tq (ag (gt l i) p) (ag (bA l i) p)):=λm=>by
  induction m with
  |zero=>intro _;rfl
  |succ m c=>intro f;simp only[dm,bz];rw[c (by omega),Zk,jo,oK a]
 exact(b _ (XU _)).symm
theorem sub_self (p:V2):ag p p=⟨0,0⟩:=by simp only[ag];exact V2.ext (by simp only;omega) (by simp only;omega)
theorem TS (v:V2):tq ⟨0,0⟩ v=0:=uR (by simp[aa])
theorem TR (v:V2):tq v ⟨0,0⟩=0:=uR (by simp[aa])
theorem Ip {l:LV} (a:bo l) (hi:i<l.length):Og l (gt l i)=iS l.length (bq l) i:=by
 have b:=a.three;have C:=sr a;rw[z6 b,<-C.sF _ (ZQ hi)];have c:dm (bq l) (gt l i) i l.length=dm (bq l) (gt l i) i (l.length-2+1+1):=by congr 1;omega
 rw[c,jn];simp only[dm];rw[show(i:Int)+1+((l.length-2:Nat):Int)+1=i+l.length by omega,C.iD,jo hi,sub_self,TS,TR];unfold iS;rw[jo hi];omega
theorem Ki (u v:V2): -2<=tq u v/\tq u v<=2:=by
 have a:=aW u.y;have b:=aW v.y;unfold tq uj;repeat' split
 all_goals omega
theorem vT {f:Nat->Int} {i:Nat}:∀{n:Nat},i<n->(∀j,j<n->j≠i->f j=0)->bz n f=f i
 |0,h,_=>absurd h (XO _)
 |n+1,h,a=>by
  simp only[bz];by_cases c:i=n
  ·subst c;have:bz i f=0:=by
    rw[ck (g:=λ_=>0) (λj b=>a j (by omega) (by omega))];clear a h;induction i with
    |zero=>rfl
    |succ i l=>simp only[bz];omega
   omega
  ·rw[vT (n:=n) (by omega) (λj b k=>a j (by omega) k),a n (by omega) (λh=>c h.symm)];omega
theorem Kq {n:Nat} {f:Nat->Int} (h:∀j,j<n->f j=0):bz n f=0:=by
 induction n with
 |zero=>rfl
 |succ n a=>simp only[bz];rw[a (λj b=>h j (by omega)),h n (by omega)];rfl
theorem AO {f:Nat->Int} {g:Nat->Bool}:∀n,(∀i,i<n->(g i=true/\(f i=1\/f i= -1))\/(g i=false/\f i=0))->(fu n g=true↔bz n f%2=1)
 |0,_=>by simp[fu,bz]
 |n+1,h=>by have a:=AO n (λi c=>h i (by omega));have b:=h n (by omega);simp only[fu,bz];generalize fu n g=x at*;generalize bz n f=s at*;rcases b with⟨e,k⟩|⟨e,k⟩;rw[e];cases x;simp only[Y6,abK,aa7,Bool.not_false,true_iff]at a|-;omega;simp only[true_iff,aa7,Bool.not_true,Y6,abK]at a|-;omega;rw[e,k];cases x;simp only[Y6,abK,aaH]at a|-;omega;simp only[true_iff,aaH]at a|-;omega
variable {p:V2}
theorem Nd {a b:V2} (h:¬aU a b p):(gZ ⟨a,b⟩ (cm p)=true/\(cq (ag a p) (ag b p)=1\/cq (ag a p) (ag b p)= -1))\/(gZ ⟨a,b⟩ (cm p)=false/\cq (ag a p) (ag b p)=0):=by
 have g:b.y<=p.y->p.y<a.y->aj a b p≠0:=λi j z=>h (ax.1 (dh (by rw[aV,z];rfl) (by omega) i));rw[P2];unfold cq;rw[iH];simp only[ag];by_cases f:a.y<=p.y/\p.y<b.y/\0<aj a b p
 ·left;refine⟨X4 (.inl f),.inl ?_⟩;repeat' split
  all_goals omega
 ·by_cases c:b.y<=p.y/\p.y<a.y/\aj a b p<=0
  ·left;have:=g c.1 c.2.1;refine⟨X4 (.inr c),.inr ?_⟩;repeat' split
   all_goals omega
  ·right;refine⟨XZ (λk=>k.elim f c),?_⟩;repeat' split
   all_goals omega
theorem QF {l:LV} (a:0<l.length) (b:∀i,i<l.length->¬aU (gt l i) (bA l i) p):Og l p=4*bz l.length (λi=>cq (ag (gt l i) p) (ag (bA l i) p)):=by
 have e:Og l p=bz l.length (λi=>(4*cq (ag (gt l i) p) (ag (bA l i) p))+((λj=> -gq (ag (gt l j) p)) ((i+1)%l.length)-(λj=> -gq (ag (gt l j) p)) i)):=
  ck (λi c=>by rw[Gl (b i c)];simp only[bA];omega)
 rw[e,vR,Gn (λj=> -gq (ag (gt l j) p)) a];have m:∀n (f:Nat->Int),bz n (λi=>4*f i)=4*bz n f:=λn f=>by
  induction n with
  |zero=>rfl
  |succ n g=>simp only[bz];rw[g];omega
 rw[m];omega
def ym (x y:Int):Int:=if x=y then 1 else 0
theorem TO {l:LV} (q:bo l) {K:Int} (P:K=2\/K= -2) (hK:∀i:Nat,iS l.length (bq l) i+hE (bq l) i=K) (p:V2):
  (K=2->Og l p=4*ym (er l p) 2+2*ym (er l p) 1+bz l.length (λi=>if(gt l i).x=p.x then(if(gt l i).y=p.y then iS l.length (bq l) i-2 else 0)else 0))/\(K= -2->Og l p<=0):=by
 have x:=q.three;have C:=sr q;rw[yx q];by_cases y:∃i,i<l.length/\gt l i=p
 ·obtain⟨i,o,rfl⟩:=y;have hw:cA l (cm (gt l i))=1:=by
   unfold cA;have:fX l (cm (gt l i))=true:=by
    cases r:fX l (cm (gt l i))with
    |true=>rfl
    |false=>exact absurd (bK _ _) (vz.1 r i o)
   rw[this,XL rfl]
  rw[Ip q o,hw];have:=hK i;have b:=Ki (ag (bq l i) (bq l (i-1))) (ag (bq l (i+1)) (bq l i));unfold hE at this;rw[vT o (λj z F=>by
   by_cases c:(gt l j).x=(gt l i).x;rw[XL c,XG (λA=>F (HY q z o (V2.ext c A)))]
   ·rw[XG c]),XL rfl,XL rfl]
  refine⟨λ_=>?_,λ_=>by omega⟩;have t:ym 1 2=0:=rfl;have u:ym 1 1=1:=rfl;rw[t,u];omega
 have G:bz l.length (λi=>if(gt l i).x=p.x then(if(gt l i).y=p.y then iS l.length (bq l) i-2 else 0)else 0)=0:=Kq (λj z=>by
  by_cases c:(gt l j).x=p.x;rw[XL c,XG (λA=>y ⟨j,z,V2.ext c A⟩)]
  ·rw[XG c])
 rw[G];by_cases D:∃i,i<l.length/\aU (gt l i) (bA l i) p
 ·obtain⟨i,o,w⟩:=D;have hw:cA l (cm p)=1:=by
   unfold cA;have:fX l (cm p)=true:=by
    cases r:fX l (cm p)with
    |true=>rfl
    |false=>exact absurd w (vz.1 r i o)
   rw[this,XL rfl]
  have B:=w;rw[<-jo o,<-oK x o]at B;have H:p≠bq l i:=λh=>y ⟨i,o,by rw[h,jo o]⟩;have I:p≠bq l (i+1):=λh=>y ⟨(i+1)%l.length,mLt,by rw[h,oK x o];rfl⟩;have k:=C.GU hK B H I;have J:dm (bq l) p i l.length=dm (bq l) p i (l.length-1+1):=(by congr 1;omega);have M:tq (ag (bq l i) p) (ag (bq l (i+1)) p)=0:=uR (by rw[iH];exact B.1);rw[z6 x,<-C.sF p (ZQ o),J,jn,M,k,hw];have t:ym 1 2=0:=rfl;have u:ym 1 1=1:=rfl;rw[t,u];omega
 ·have w:∀i,i<l.length->¬aU (gt l i) (bA l i) p:=λi o h=>D ⟨i,o,h⟩;have N:fX l (cm p)=false:=vz.2 w;have O:=C.off (m:=5000) (by decide) (λi=>by
   have a:=cz q.eX (iT l i);have b:=cz q.eX (iT l (i+1));have:=a.x0;have:=a.x1;have:=b.x0;have:=b.x1;unfold bq;omega) hK (p:=p) (λi=>by
   have:=w _ (jM x i);rw[gD x];exact this)
  rw[<-z6 x]at O;have Q:=QF (by omega) w;have E:=AO (f:=λi=>cq (ag (gt l i) p) (ag (bA l i) p)) (g:=λi=>gZ (bY l i) (cm p)) l.length (λi o=>Nd (w i o));unfold cA;rw[N,XG (by simp),oR];generalize bz l.length (λi=>cq (ag (gt l i) p) (ag (bA l i) p))=s at*;cases r:fu l.length (λi=>gZ (bY l i) (cm p))with
  |true=>have:=E.1 r;rw[XL rfl];have t:ym 2 2=1:=rfl;have u:ym 2 1=0:=rfl;rw[t,u];omega
  |false=>
   have:¬s%2=1:=λh=>by rw[E.2 h]at r;cases r
   rw[XG (by simp)];have t:ym 0 2=0:=rfl;have u:ym 0 1=0:=rfl;rw[t,u];omega
theorem QU (lo:Int) (k:Nat) {f:Int->Int} (h:∀x,f x<=0):sI lo k f<=0:=by
 induction k with
 |zero=>simp[qV]
 |succ k a=>rw[fL];have:=h (lo+k);omega
instance:DecidableEq (V2×V2):=inferInstance
def bJ (l:LV):Ed:=(List.range l.length).map λi=>(gt l i,bA l i)
variable {e:V2×V2}
theorem bX {l:LV}:e∈bJ l↔∃i,i<l.length/\e=(gt l i,bA l i):=by
 unfold bJ;rw[XS];exact⟨λ⟨i,h,k⟩=>⟨i,X6.1 h,k.symm⟩,λ⟨i,h,k⟩=>⟨i,X6.2 h,k.symm⟩⟩
theorem Rm (l:LV) (z:V2):W (bJ l) z=bz l.length λi=>cq (ag (gt l i) z) (ag (bA l i) z):=by
 have a:∀(L:Nat) (f:Nat->V2×V2),W ((List.range L).map f) z=bz L λi=>cq (ag (f i).1 z) (ag (f i).2 z):=λL f=>by
  induction L with
  |zero=>rfl
  |succ L b=>rw[ZL,YB,um,b];simp only[Yz,abh,W,bz];omega
 exact a _ _
theorem S8 (m:Int) (l:LV):bJ (l.map (ah m))=bw m (bJ l):=by
 unfold bJ bw;rw[Yp,Yy];refine YS (λi a=>?_);have a:=X6.1 a;simp only[Function.comp];rw[Ft _ a,Pn _ a]
theorem Ct (m:Nat):((List.range (m+1)).map λi=>(i+1)%(m+1)).Perm (List.range (m+1)):=by
 have a:((List.range (m+1)).map λi=>(i+1)%(m+1))=(List.range m).map (·+1)++[0]:=by rw[ZL,YB];congr 1;refine YS (λi b=>?_);have:=X6.1 b;exact mOf;simp
 have c:List.range (m+1)=[0]++(List.range m).map (·+1):=by rw[ZS];rfl
 rw[a,c];exact abn
theorem rI (l:LV):mT (bJ l):=by
 unfold mT bJ;rw[Yp,Yp];cases h:l.length with
 |zero=>exact .nil
 |succ m=>have:=((Ct m).map (gt l)).symm;rw[Yp]at this;have e:(List.range (m+1)).map ((λx:V2×V2=>x.snd)∘λi=>(gt l i,bA l i))=(List.range (m+1)).map (gt l∘λi=>(i+1)%(m+1)):=YS (λi _=>by simp only[Function.comp,bA];rw[h]);rw[e];exact this
theorem Sc {l:LV} (a:bo l):∀i:Nat,iS l.length (bq l) i+hE (bq l) i=2:=by
 have C:=sr a;obtain⟨K,b,hK,hS⟩:=C.whole;rcases b with e|e;rw[e]at hK;exact hK;exfalso;have c:=Of (l:=l) (M:=2000) (k:=4001) (by decide) (by have:=a.three;omega) (λi _=>cz a.eX i);have:sI (-2000) 4001 (λx=>sI (-2000) 4001 (λy=>Og l ⟨x,y⟩))<=0:=QU _ _ (λx=>QU _ _ (λy=>(TO a (.inr e) hK ⟨x,y⟩).2 e));have:=a.Ql;omega
theorem K9 (m:Int) (l:LV) (h:3<=l.length) (i:Int):bq (l.map (ah m)) i=ah m (bq l i):=by
 unfold bq iT;rw[Yy];exact Ft _ (jM h i)
variable {m:Int}
theorem fB {l:LV} (c:bo l) (k:0<m) {z:V2} (w:∀e∈bw m (bJ l),¬aU e.1 e.2 z):(W (bw m (bJ l)) z=0\/W (bw m (bJ l)) z=1)/\cA (l.map (ah m)) (cm z)=2*W (bw m (bJ l)) z:=by
 have B:=c.three;have C:=(sr c).scale k;have K:=Az (n:=l.length) (P:=bq l) k (Sc c);rw[<-S8]at w|-;generalize x:l.map (ah m)=L at*;have y:L.length=l.length:=by rw[<-x,Yy]
 have q:(λi=>ah m (bq l i))=bq L:=by funext i;rw[<-x,K9 m l B]
 rw[q,<-y]at C;rw[q,<-y]at K;have o:∀i,i<L.length->¬aU (gt L i) (bA L i) z:=λi r=>w _ (bX.2 ⟨i,r,rfl⟩);have D:∀i:Int,¬aU (bq L i) (bq L (i+1)) z:=λi=>by rw[gD (by omega)];exact o _ (jM (by omega) i)
 have E:2<=m*5000:=by omega
 have F:=C.off E (λi=>by
  have A:∀j:Int,bq L j=ah m (bq l j):=λj=>by rw[<-q]
  rw[A,A];have a:=cz c.eX (iT l i);have b:=cz c.eX (iT l (i+1));have:=a.x0;have:=a.x1;have:=b.x0;have:=b.x1;simp only[ah];rw[<-Zp,<-Zp];unfold bq;exact⟨Yw (by omega) k,Yw (by omega) k⟩) K (p:=z) D
 rw[<-z6 (by omega),QF (by omega) o,<-Rm]at F;refine⟨by omega,?_⟩;have t:=AO (f:=λi=>cq (ag (gt L i) z) (ag (bA L i) z)) (g:=λi=>gZ (bY L i) (cm z)) L.length (λi r=>Nd (o i r));rw[<-Rm]at t;unfold cA;rw[vz.2 o,XG (by simp),oR];cases u:fu L.length (λi=>gZ (bY L i) (cm z))with
 |true=>have:=t.1 u;rw[XL rfl];omega
 |false=>
  have:¬W (bJ L) z%2=1:=λh=>by rw[t.2 h]at u;cases u
  rw[XG (by simp)];omega
theorem aK {E:Ed}:e∈bw m E↔∃x∈E,e=(ah m x.1,ah m x.2):=by
 unfold bw;rw[XS];exact⟨λ⟨x,h,k⟩=>⟨x,h,k.symm⟩,λ⟨x,h,k⟩=>⟨x,h,k.symm⟩⟩
theorem nB {l:LV} (b:bo l):lX (bJ l) 0:=by
 intro m z c;obtain⟨n,h,a,f⟩:=(gen (bw m (bJ l)) z).ex 1;have:=(fB b (m:=n*n*m) (by have:0<(n:Int)*n:=XC (by omega) (by omega);exact XC this c) (z:=nr (n*n) z ⟨n,1⟩) (λe g=>(f e (by rw[ek];exact g)).2.2)).1;rw[ek]at a;rw[<-a];omega
structure ix (E:Ed):Prop where
 cP:mT E
 nodup:E.Nodup
 nz:∀e∈E,e.1≠e.2
 one:∀e∈E,∀e'∈E,e≠e'->∀(m:Int) (u:V2),0<m->aU (ah m e.1) (ah m e.2) u->u≠ah m e.1->u≠ah m e.2->¬aU (ah m e'.1) (ah m e'.2) u
 out:∀e∈E,∃e'∈E,e'.2=e.1/\aj e'.1 e.1 e.2≠0/\∀Wn∈E,Wn≠e->Wn≠e'->¬aU Wn.1 Wn.2 e.1
 rn:∀e∈E,∃e'∈E,e'.1=e.2
theorem gC (a:0<m) {u v:V2} (h:ah m u=ah m v):u=v:=by
 simp only[ah,V2.mk.injEq]at h;exact V2.ext (Y9 (by omega) h.1) (Y9 (by omega) h.2)
theorem zu {l:LV} (b:3<=l.length) (h:e∈bJ l):∃i:Nat,i<l.length/\e=(bq l i,bq l (i+1)):=by
 obtain⟨i,a,rfl⟩:=bX.1 h;exact⟨i,a,by rw[jo a,oK b a]⟩
theorem Rp {l:LV} (a:3<=l.length) (i:Int):(bq l i,bq l (i+1))∈bJ l:=bX.2 ⟨iT l i,jM a i,by rw[gD a];rfl⟩
theorem HV {l:LV} (a:bo l) {i j:Nat} (hi:i<l.length) (b:j<l.length) (h:i≠j):∃k:Int,(i:Int)<k/\k<i+l.length/\bq l k=bq l j/\bq l (k+1)=bq l (j+1):=by
 have C:=sr a;by_cases c:i<j;exact⟨j,by omega,by omega,rfl,rfl⟩;refine⟨j+l.length,by omega,by omega,C.iD j,?_⟩;rw[show(j:Int)+l.length+1=(j+1:Int)+l.length by omega];exact C.iD (j+1)
theorem Cv {l:LV} (g:bo l):ix (bJ l):=by
 have c:=g.three;have C:=sr g;refine⟨rI l,?_,λe f=>?_,λe f S B D m u E h F G=>?_,λe f=>?_,λe f=>?_⟩;unfold bJ;have:(List.range l.length).Nodup:=aag;rw[List.Nodup,ZT];refine this.imp_of_mem (λ{a b} H I J e=>J ?_);exact HY g (X6.1 H) (X6.1 I) (XT (·.1) e);obtain⟨i,o,rfl⟩:=zu c f;exact C.next i;obtain⟨i,o,rfl⟩:=zu c f;obtain⟨j,w,rfl⟩:=zu c B;obtain⟨k,x,y,p,r⟩:=HV g o w (λe=>D (by rw[e]));have:=(C.scale E).CJ x y h F G;simp only[p,r]at this;exact this;obtain⟨i,o,rfl⟩:=zu c f;have z:bq l ((i:Int)-1+1)=bq l i:=(by congr 1;omega);refine⟨(bq l ((i:Int)-1),bq l ((i:Int)-1+1)),Rp c _,z,by show aj (bq l ((i:Int)-1)) (bq l i) (bq l (i+1))≠0;exact C.sd i,λT K M N=>?_⟩;obtain⟨j,w,rfl⟩:=zu c K;obtain⟨k,x,y,p,r⟩:=HV g o w (λe=>M (by rw[e]));show¬aU (bq l j) (bq l (j+1)) (bq l i);rw[<-p,<-r];by_cases A:k=i+l.length-1;exfalso;refine N ?_;have O:bq l ((i:Int)-1)=bq l j:=(by rw[<-p,A,<-C.iD ((i:Int)-1)];congr 1;omega);have P:bq l ((i:Int)-1+1)=bq l (j+1):=(by rw[<-r,A,<-C.iD ((i:Int)-1+1)];congr 1;omega);rw[O,P];by_cases Q:k=i+1;subst Q;by_cases U:l.length=3;intro h;have q:bq l ((i:Int)+1+1)=bq l ((i:Int)-1):=(by rw[<-C.iD ((i:Int)-1)];congr 1;omega);rw[q]at h;have t:=C.sd i;have:=h.1;refine t ?_;have R:=h.1;simp only[aj,aa,ag]at R|-;grind;have:=(C.nm ((i:Int)-1) (i+1) (by omega) (by omega)).b_;rw[z]at this;exact this;exact(C.nm i k (by omega) (by omega)).a_;obtain⟨i,o,rfl⟩:=zu c f;exact⟨_,Rp c (i+1),rfl⟩
variable {F:Ed} {z:V2}
theorem Qx (b:∀e∈F,e.1.y≠z.y/\e.2.y≠z.y) (c:W F z≠0):∃e∈F,(e.1.y<z.y/\z.y<e.2.y/\0<aj e.1 e.2 z)\/(e.2.y<z.y/\z.y<e.1.y/\aj e.1 e.2 z<0):=by
 refine Xz λf=>c ?_;rw[fY];refine jk (λe a=>?_);have g:=b e a;have i:¬((e.1.y<z.y/\z.y<e.2.y/\0<aj e.1 e.2 z)\/(e.2.y<z.y/\z.y<e.1.y/\aj e.1 e.2 z<0)):=λh=>f ⟨e,a,h⟩;refine H2 ?_ ?_ ?_;rw[iH];simp only[ag];omega;simp only[ag];omega;simp only[ag];omega
variable {E:Ed}
theorem zp (B:∀e∈F,e∈E) (C:∀e∈E,e.1.y≠z.y/\e.2.y≠z.y/\¬aU e.1 e.2 z) (a2:W F z≠0:=by omega):
  ∃(D:Int) (w:V2),0<D/\w.y=D*z.y/\(∃e∈E,aU (ah D e.1) (ah D e.2) w)/\∀e∈E,aU (ah D e.1) (ah D e.2) w\/NM (ah D e.1) (ah D e.2) (ah D z) w:=by
 obtain⟨a3,a4,a5⟩:=Qx (λe l=>⟨(C e (B e l)).1,(C e (B e l)).2.1⟩) a2;obtain⟨f,T⟩:=ZZ (B a3 a4);have a6:=(Ye.1 T).1;obtain⟨g,G⟩:∃g:Nat->V2×V2,∀i,g i=E.getD i (⟨0,0⟩,⟨0,0⟩):=⟨_,λ_=>rfl⟩;have a7:∀i,i<E.length->g i∈E:=λi m=>by rw[G,Yu,XY m];exact Zy m
 let p:Nat->Prop:=λi=>(((g i).1.y<z.y/\z.y<(g i).2.y/\0<aj (g i).1 (g i).2 z)\/((g i).2.y<z.y/\z.y<(g i).1.y/\aj (g i).1 (g i).2 z<0));obtain⟨k,a8,H,U⟩:=rj (λi=>jd (aj (g i).1 (g i).2 z)) (λi=>jd ((g i).2.y-(g i).1.y)) p (λi m=>by have m:(((g i).1.y<z.y/\z.y<(g i).2.y/\0<aj (g i).1 (g i).2 z)\/((g i).2.y<z.y/\z.y<(g i).1.y/\aj (g i).1 (g i).2 z<0)):=m;show 0<jd _;unfold jd;split<;>omega) E.length ⟨f,a6,by show(((g f).1.y<z.y/\z.y<(g f).2.y/\0<aj (g f).1 (g f).2 z)\/((g f).2.y<z.y/\z.y<(g f).1.y/\aj (g f).1 (g f).2 z<0));rw[G,Yu,T];exact a5⟩;replace H:(((g k).1.y<z.y/\z.y<(g k).2.y/\0<aj (g k).1 (g k).2 z)\/((g k).2.y<z.y/\z.y<(g k).1.y/\aj (g k).1 (g k).2 z<0)):=H;obtain⟨N,t⟩:∃N,N=jd (aj (g k).1 (g k).2 z):=⟨_,rfl⟩;obtain⟨D,u⟩:∃D,D=jd ((g k).2.y-(g k).1.y):=⟨_,rfl⟩;rw[<-t,<-u]at U;have c:0<D:=by rw[u];unfold jd;split<;>omega
 have a9:0<N:=by rw[t];unfold jd;split<;>omega
 refine⟨D,⟨(ah D z).x+N,(ah D z).y⟩,c,rfl,⟨g k,a7 k a8,?_⟩,λe l=>?_⟩
 ·have V:∀a b:V2,aj (ah D a) (ah D b) ⟨(ah D z).x+N,(ah D z).y⟩=D*(D*aj a b z-(b.y-a.y)*N):=λa b=>by simp only[aj,aa,ag,ah];grind
  rcases H with⟨I,J,b0⟩|⟨I,J,b0⟩;have X:D=(g k).2.y-(g k).1.y:=(by rw[u];unfold jd;rw[iP]);have Y:N=aj (g k).1 (g k).2 z:=(by rw[t];unfold jd;rw[iP]);have K:=Yw I c;have M:=Yw J c;have O:=Yw (show(g k).1.y<(g k).2.y by omega) c;refine dh ?_ O (XN K) (XN M);rw[V,<-X,<-Y];grind;have X:D=(g k).1.y-(g k).2.y:=(by rw[u];unfold jd;rw[iN];omega);have Y:N= -aj (g k).1 (g k).2 z:=(by rw[t];unfold jd;rw[iN]);have K:=Yw I c;have M:=Yw J c;have O:=Yw (show(g k).2.y<(g k).1.y by omega) c;refine ax.1 (dh ?_ O (XN K) (XN M));rw[aV,V,show aj (g k).1 (g k).2 z= -N by omega,show(g k).2.y-(g k).1.y= -D by omega];grind
 ·by_cases Z:aU (ah D e.1) (ah D e.2) ⟨(ah D z).x+N,(ah D z).y⟩;exact .inl Z
  ·right;obtain⟨b1,b2,b3⟩:=C e l;obtain⟨j,a0⟩:=ZZ l;have b4:=(Ye.1 a0).1;have P:g j=e:=(by rw[G,Yu,a0];rfl);have Q:=U j b4;rw[P]at Q;refine CM a9 (λq=>b1 (Y9 (show D≠0 by omega) q)) (λq=>b2 (Y9 (show D≠0 by omega) q)) (λq=>b3 ((gW c).1 q)) Z ?_;rw[cc];have A:∀x y:Int,(D*x<D*y↔x<y):=λx y=>⟨λh=>Zs h (by omega),λh=>Yw h c⟩;have b5:=cx (aj e.1 e.2 z) (XC c c);rw[X9]at b5;have b6:(D*e.2.y-D*e.1.y)*N=D*((e.2.y-e.1.y)*N):=(by grind);have a1:D*D*aj e.1 e.2 z=D*(D*aj e.1 e.2 z):=(by grind);simp only[ah];rw[b6];rintro(⟨o,r,b7,R⟩|⟨o,r,b7,R⟩);rw[A]at o r;rw[a1,A]at R;have S:0<aj e.1 e.2 z:=(by omega);have:=Q (show p j by show(((g j).1.y<z.y/\z.y<(g j).2.y/\0<aj (g j).1 (g j).2 z)\/((g j).2.y<z.y/\z.y<(g j).1.y/\aj (g j).1 (g j).2 z<0));rw[P];exact .inl ⟨o,r,S⟩);unfold jd at this;rw[iP,iP,X9 N,X9 (aj e.1 e.2 z)]at this;omega;rw[A]at o r;rw[a1,A]at R;have S:aj e.1 e.2 z<0:=(by omega);have:=Q (show p j by show(((g j).1.y<z.y/\z.y<(g j).2.y/\0<aj (g j).1 (g j).2 z)\/((g j).2.y<z.y/\z.y<(g j).1.y/\aj (g j).1 (g j).2 z<0));rw[P];exact .inr ⟨o,r,S⟩);unfold jd at this;rw[iN,iN,Yv,Zc,X9 N,X9 (aj e.1 e.2 z)]at this;omega
variable {m:Int}
theorem ny {n:Int} (h:0<m) (k:0<n):0<m*n:=XC h k
structure J0 (E:Ed):Prop where
 cP:mT E
 yg:lX E 0
 conn:∀f:V2->Int,(∀e∈E,f e.1=f e.2)->∀e∈E,∀e'∈E,f e.1=f e'.1
theorem J0.sc (h:J0 E) (b:0<m):J0 (bw m E):=by
 refine⟨h.cP.sc m,λn z c=>by rw[ek];exact h.yg _ z (ny c b),λf g e a l i=>?_⟩;obtain⟨x,j,rfl⟩:=aK.1 a;obtain⟨y,k,rfl⟩:=aK.1 i;exact h.conn (λv=>f (ah m v)) (λe a=>g _ (aK.2 ⟨e,a,rfl⟩)) x j y k
theorem AK (h:lX E 0) (z:V2):W E z=0\/W E z=1:=by
 have:=h 1 z (by decide);rw[oH]at this;omega
def rX (A B:Ed):Prop:=∀a∈A,∀b∈B,NM a.1 a.2 b.1 b.2
variable {A B:Ed}
theorem rX.sym (h:rX A B):rX B A:=λb c a f=>(h a f b c).sym
theorem rX.sc (h:rX A B) (c:0<m):rX (bw m A) (bw m B):=by
 intro a f b g;obtain⟨x,i,rfl⟩:=aK.1 f;obtain⟨y,j,rfl⟩:=aK.1 g;exact pS c (h x i y j)
theorem BK (c:mT A) {b:V2×V2} (h:∀a∈A,NM a.1 a.2 b.1 b.2) {w:V2} (hw:aU b.1 b.2 w):W A w=W A b.1/\W A w=W A b.2:=by
 refine⟨hA c (λa f=>?_),hA c (λa f=>(h a f).sub hw)⟩;exact(((h a f).swap).sub (ax.2 hw))
theorem Qv (c:mT A) (b:J0 B) (h:rX A B):∀e∈B,∀f∈B,W A e.1=W A f.1:=
 b.conn (W A) (λe g=>hA c (λa i=>h a i e g))
theorem HA (r:J0 A) (t:J0 B) (h:rX A B) (u:∀e∈A++B,e.1.y≠z.y/\e.2.y≠z.y/\¬aU e.1 e.2 z) (C:W B z≠0:=by omega):
  (∃b∈B,W A b.1=W A z)\/(∃a∈A,W B a.1=W B z):=by
 obtain⟨D,w,g,_,⟨e,i,j⟩,G⟩:=zp (E:=A++B) (F:=B) (λe i=>by simp[i]) u C;have k:∀{X Y:Ed},J0 X->rX X Y->(∀x∈X,x∈A++B)->e∈Y->W X e.1=W X z:=λ{X Y} l m H o=>by
  have I:∀x∈bw D X,NM x.1 x.2 (ah D z) w:=λx c=>by obtain⟨y,J,rfl⟩:=aK.1 c;exact(G y (H y J)).resolve_left (((m.sc g) _ c (ah D e.1,ah D e.2) (aK.2 ⟨e,o,rfl⟩)).Bn j)
  have p:=hA (l.cP.sc D) I;have q:=(BK (l.cP.sc D) (b:=(ah D e.1,ah D e.2)) (λx c=>(m.sc g) x c _ (aK.2 ⟨e,o,rfl⟩)) j).1;rw[kQ g]at p q;rw[<-q,<-p]
 rcases XP.1 i with f|f;exact .inr ⟨e,f,k t h.sym (λx c=>by simp[c]) f⟩;exact .inl ⟨e,f,k r h (λx c=>by simp[c]) f⟩
theorem xg {P:V2->Ed->Prop} (E:Ed) (z:V2) (h:∀(m:Int) (a:V2),0<m->(∀e∈bw m E,e.1.y≠a.y/\e.2.y≠a.y/\¬aU e.1 e.2 a)->(∀F:Ed,(∀e∈F,e∈E)->W (bw m F) a=W F z)->P z E):P z E:=by
 obtain⟨n,j,c,f⟩:=((Ev.all E (λe _=>PN e.1 e.2 z)).imp λn k=>(⟨λ(F:Ed) (g:∀e∈F,e∈E)=>by
   rw[fY,fY,bw,kY];exact gA (λe b=>(k e (g e b)).1),λe b=>by
   obtain⟨x,i,rfl⟩:=XS.1 b;exact(k x i).2⟩:(∀F:Ed,(∀e∈F,e∈E)->W (bw (n*n) F) (nr (n*n) z ⟨n,1⟩)=W F z)/\∀e∈bw (n*n) E,e.1.y≠(nr (n*n) z ⟨n,1⟩).y/\e.2.y≠(nr (n*n) z ⟨n,1⟩).y/\¬aU e.1 e.2 (nr (n*n) z ⟨n,1⟩))).ex 1
 exact h (n*n) _ (XC (by omega) (by omega)) f c
theorem max_mem {α:Type} (f:α->Int):∀L:List α,L≠[]->∃t∈L,∀a∈L,f a<=f t
 |[],h=>absurd rfl h
 |[x],_=>⟨x,by simp,λa b=>by simp at b;rw[b];exact Yf _⟩
 |x::y::r,_=>by
  obtain⟨t,i,g⟩:=max_mem f (y::r) (by simp);by_cases c:f t<=f x
  ·exact⟨x,by simp,λa b=>by
    rcases XD.1 b with rfl|b;exact Yf _
    ·exact Int.le_trans (g a b) c⟩
  ·exact⟨t,XK _ i,λa b=>by
    rcases XD.1 b with rfl|b;omega
    ·exact g a b⟩
theorem Ii (c:mT E) (h:W E z≠0):∃e∈E,z.y<e.1.y:=by
 refine Xz λf=>h (NO (λe a=>?_));have b:∀e∈E,e.1.y<=z.y:=λe a=>ZN.1 λq=>f ⟨e,a,q⟩;refine⟨b e a,?_⟩;have:e.2∈E.map (·.1):=c.symm.subset (XS.2 ⟨e,a,rfl⟩);obtain⟨x,g,q⟩:=XS.1 this;rw[<-q];exact b x g
theorem nested (g:J0 A) (i:J0 B) (h:rX A B) (o:∀b∈B,W A b.1=1) (z:V2) (E:W B z=1):W A z=1:=by
 refine xg (P:=λ_ _=>W A z=1) (A++B) z (λm F c p q=>?_);have r:=q A (λe j=>by simp[j]);have G:=q B (λe j=>by simp[j]);rw[fK]at p;rcases HA (g.sc c) (i.sc c) (h.sc c) p with⟨b,k,e⟩|⟨a,f,e⟩;obtain⟨y,u,rfl⟩:=aK.1 k;simp only[kQ c]at e;rw[<-r,<-e];exact o y u
 ·exfalso;obtain⟨x,l,rfl⟩:=aK.1 f;simp only[kQ c]at e;have w:∀a∈A,W B a.1=1:=λa f=>by rw[Qv i.cP g h.sym a f x l];omega
  obtain⟨t,C,D⟩:=max_mem (λa:V2×V2=>a.1.y) A (λe=>by rw[e]at l;cases l);obtain⟨b,k,H⟩:=Ii i.cP (z:=t.1) (by rw[w t C];decide);obtain⟨a,f,I⟩:=Ii g.cP (z:=b.1) (by rw[o b k];decide);have:=D a f;omega
theorem Qm (k:J0 A) (g:J0 B) (h:rX A B) (l:∀b∈B,W A b.1=0) (h2:∀a∈A,W B a.1=0) (z:V2) (u:W A z=1):W B z=0:=by
 refine xg (P:=λ_ _=>W B z=0) (A++B) z (λm w c i j=>?_);have C:=j A (λe f=>by simp[f]);have D:=j B (λe f=>by simp[f]);rw[fK]at i;refine Xz λo=>?_;have E:W B z=1:=(AK g.yg z).resolve_left o;rcases HA (k.sc c) (g.sc c) (h.sc c) i with⟨b,p,e⟩|⟨a,q,e⟩;obtain⟨y,r,rfl⟩:=aK.1 p;simp only[kQ c]at e;have:=l y r;omega;obtain⟨x,t,rfl⟩:=aK.1 q;simp only[kQ c]at e;have:=h2 x t;omega
theorem qY {l:LV} (c:bo l):J0 (bJ l):=by
 refine⟨rI l,nB c,λf g e h p k=>?_⟩;have b:∀i,i<l.length->f (gt l i)=f (gt l 0):=λi=>by
  induction i with
  |zero=>intro _;rfl
  |succ i m=>intro a;have:=g _ (bX.2 ⟨i,by omega,rfl⟩);simp only[bA,X5 a]at this;rw[<-this];exact m (by omega)
 obtain⟨i,a,rfl⟩:=bX.1 h;obtain⟨j,o,rfl⟩:=bX.1 k;rw[b i a,b j o]
def dN:List (LV)->Ed
 |[]=>[]
 |h::r=>gT (bJ h)++dN r
def gK (o:LV) (hs:List (LV)):Ed:=bJ o++dN hs
theorem ee {e:V2×V2}:∀{hs:List (LV)},e∈dN hs↔∃h∈hs,(e.2,e.1)∈bJ h
 |[]=>by simp[dN]
 |h::r=>by simp only[dN,XP,XD,exists_eq_or_imp,ee (hs:=r)];refine or_congr ?_ ZB;unfold gT;rw[XS];exact⟨λ⟨x,a,e⟩=>by rw[<-e];exact a,λa=>⟨_,a,rfl⟩⟩
structure cJ (o:LV) (hs:List (LV)):Prop where
 outer:bo o
 ring:∀h∈hs,bo h
 off:∀h∈hs,rX (bJ o) (bJ h)
 SJ:∀h∈hs,∀e∈bJ h,W (bJ o) e.1=1
 pair:hs.Pairwise λh k=>rX (bJ h) (bJ k)/\(∀e∈bJ k,W (bJ h) e.1=0)/\∀e∈bJ h,W (bJ k) e.1=0
theorem kj (m:Int) (E:Ed):bw m (gT E)=gT (bw m E):=by
 unfold bw gT;rw[Yp,Yp];rfl
theorem Jt {hs:List (LV)} (i:∀h∈hs,bo h) (l:hs.Pairwise λh k=>rX (bJ h) (bJ k)/\(∀e∈bJ k,W (bJ h) e.1=0)/\∀e∈bJ h,W (bJ k) e.1=0) (m:Int) (f:0<m) (z:V2):
  W (bw m (dN hs)) z=0\/(W (bw m (dN hs)) z= -1/\∃h∈hs,W (bw m (bJ h)) z=1):=by
 induction hs with
 |nil=>left;rfl
 |cons h r g=>
  have g:=g (λk c=>i k (by simp[c])) (Y2.1 l).2;have o:=(qY (i h (by simp))).sc f;simp only[dN];rw[fK,um,kj,uk];rcases AK o.yg z with e|e;rw[e];rcases g with q|⟨q,k,c,p⟩;left;omega;right;exact⟨by omega,k,by simp[c],p⟩
  ·right;refine⟨?_,h,by simp,e⟩;rcases g with q|⟨q,k,c,p⟩;omega
   ·exfalso;obtain⟨t,u,w⟩:=(Y2.1 l).1 k c;have x:=(qY (i k (by simp[c]))).sc f;have:=Qm o x (t.sc f) (λb A=>by
     obtain⟨y,j,rfl⟩:=aK.1 A;simp only[kQ f];exact u y j) (λa B=>by
     obtain⟨y,j,rfl⟩:=aK.1 B;simp only[kQ f];exact w y j) z e
    omega
theorem cJ.yg {o:LV} {hs:List (LV)} (h:cJ o hs):lX (gK o hs) 0:=by
 intro m z a;unfold gK;rw[fK,um];have f:=(qY h.outer).sc a;have l:=AK f.yg z;rcases Jt h.ring h.pair m a z with q|⟨q,k,c,g⟩;omega;have:=nested f ((qY (h.ring k c)).sc a) ((h.off k c).sc a) (λb i=>by obtain⟨y,j,rfl⟩:=aK.1 i;simp only[kQ a];exact h.SJ k c y j) z g;omega
theorem O9 {a b:V2} (h:NM a b a b):False:=h.a_ (bK a b)
theorem ix.app (c:ix E) (g:ix F) (h:rX E F):ix (E++F):=by
 refine⟨c.cP.app g.cP,?_,λe a=>?_,λe a b G B m u j k C D=>?_,λe a=>?_,λe a=>?_⟩;refine YW.2 ⟨c.nodup,g.nodup,λe a f H q=>?_⟩;subst q;exact O9 (h e a e H);rcases XP.1 a with q|q;exact c.nz e q;exact g.nz e q
 ·rcases XP.1 a with q|q<;>rcases XP.1 G with i|i
  ·exact c.one e q b i B m u j k C D
  ·exact(pS j (h e q b i)).sym.Bn k
  ·exact(pS j (h b i e q)).Bn k
  ·exact g.one e q b i B m u j k C D
 ·rcases XP.1 a with q|q;obtain⟨b,l,o,p,r⟩:=c.out e q;refine⟨b,by simp[l],o,p,λx t w A=>?_⟩;rcases XP.1 t with y|y;exact r x y w A;exact(h e q x y).a_;obtain⟨b,l,o,p,r⟩:=g.out e q;refine⟨b,by simp[l],o,p,λx t w A=>?_⟩;rcases XP.1 t with y|y;exact(h x y e q).p_;exact r x y w A
 ·rcases XP.1 a with q|q;obtain⟨x,y,z⟩:=c.rn e q;exact⟨x,by simp[y],z⟩;obtain⟨x,y,z⟩:=g.rn e q;exact⟨x,by simp[y],z⟩
variable {e:V2×V2}
theorem dT:e∈gT E↔(e.2,e.1)∈E:=by
 unfold gT;rw[XS];exact⟨λ⟨x,a,q⟩=>by rw[<-q];exact a,λa=>⟨_,a,rfl⟩⟩
theorem nK {x:V2×V2} (h:(e.2,e.1)=(x.2,x.1)):e=x:=by
 obtain⟨a,b⟩:=e;obtain⟨c,d⟩:=x;simp only[Zx]at h|-;exact⟨h.2,h.1⟩
theorem ix.rev (c:ix E):ix (gT E):=by
 refine⟨c.cP.rev,?_,λe h=>(c.nz _ (dT.1 h)).symm,λe h M j y m u z A B C k=>?_,λe h=>?_,λe h=>?_⟩;unfold gT;rw[List.Nodup,ZT];exact c.nodup.imp (λ{a b} D q=>D (nK (by simpa using q)));exact c.one _ (dT.1 h) _ (dT.1 j) (λq=>y (nK q)) m u z (ax.1 A) C B (ax.1 k)
 ·have j:=dT.1 h;obtain⟨f,o,i⟩:=c.rn _ j;obtain⟨g,p,r,l,t⟩:=c.out f o;simp only at i;have F:f≠(e.2,e.1):=λq=>by rw[q]at i;exact c.nz _ j i
  have w:(e.2,e.1)=g:=(by refine Xz λq=>?_;refine t _ j (λG=>F G.symm) q ?_;rw[i];exact bp _ _);refine⟨(f.2,f.1),dT.2 o,i,?_,λx H I J k=>?_⟩;rw[<-w]at l;simp only at l|-;rw[i]at l;intro q;refine l ?_;simp only[aj,aa,ag]at q|-;grind;have K:=dT.1 H;have:=t _ K (λq=>J (nK q)) (λq=>I (nK (by rw[q,<-w])));simp only[i]at this;exact this (ax.1 k)
 ·obtain⟨g,p,r,_⟩:=c.out _ (dT.1 h);exact⟨(g.2,g.1),dT.2 p,r⟩
theorem ix.nil:ix []:={cP:= .nil,nodup:=aaF,nz:=by simp,one:=by simp,out:=by simp,rn:=by simp}
theorem Js {hs:List (LV)} (f:∀h∈hs,bo h) (g:hs.Pairwise λh k=>rX (bJ h) (bJ k)/\(∀e∈bJ k,W (bJ h) e.1=0)/\∀e∈bJ h,W (bJ k) e.1=0):ix (dN hs):=by
 induction hs with
 |nil=>exact ix.nil
 |cons h r i=>refine(Cv (f h (by simp))).rev.app (i (λk c=>f k (by simp[c])) (Y2.1 g).2) (λa j b l=>?_);obtain⟨k,c,m⟩:=ee.1 l;exact((((Y2.1 g).1 k c).1 _ (dT.1 j) _ m).swap).rev
theorem cJ.qh {o:LV} {hs:List (LV)} (h:cJ o hs):ix (gK o hs):=by
 refine(Cv h.outer).app (Js h.ring h.pair) (λa c b f=>?_);obtain⟨k,g,i⟩:=ee.1 f;exact(h.off k g a c _ i).swap
def dw (v:V2):V2:=⟨-v.y,v.x⟩
def mix (K:Int) (d t:V2):V2:=⟨K*d.x+t.x,K*d.y+t.y⟩
theorem ew (K:Int) (f d t:V2):aa f (mix K d t)=K*aa f d+aa f t:=by simp only[aa,mix];grind
theorem dW (K:Int) (f d t:V2):aa (mix K d t) f=K*aa d f+aa t f:=by simp only[aa,mix];grind
theorem KC (x:Int):0<=x*x:=by rcases YK 0 x with q|q;exact XF q q;exact X2 q q
theorem bL {f:V2} (h:f≠⟨0,0⟩):0<av f f:=by
 have a:=KC f.x;have b:=KC f.y;have:f.x*f.x≠0\/f.y*f.y≠0:=by refine Xz λc=>h ?_;exact V2.ext ((mz (show f.x*f.x=0 by omega)).elim id id) ((mz (show f.y*f.y=0 by omega)).elim id id)
 simp only[av];omega
theorem pn (f:V2):aa f (dw f)=av f f:=by simp only[aa,dw,av];grind
theorem fO {f d e:V2} (h:aa f d=0):av f f*aa d e=av f d*aa f e:=by simp only[aa,av]at h|-;grind
theorem df {f d:V2} (e:V2) (b:aa f d=0) (c:f≠⟨0,0⟩):(0<av f d->(0<aa d e↔0<aa f e)/\(aa d e<0↔aa f e<0))/\(av f d<0->(0<aa d e↔aa f e<0)/\(aa d e<0↔0<aa f e)):=by
 have k:=fO (e:=e) b;have g:=cx (aa d e) (bL c);rw[X9,k]at g;refine⟨λh=>?_,λh=>?_⟩;have a:=cx (aa f e) h;rw[X9]at a;omega;have a:=cx (aa f e) (show 0< -av f d by omega);rw[Yv,X9]at a;omega
theorem gz (d:V2):aa ⟨0,0⟩ d=0:=by simp[aa]
theorem lj {f d:V2} (h:rk f d=3) (b:f≠⟨0,0⟩) (g:d≠⟨0,0⟩):aa f d=0/\0<av f d:=by
 have c:=bl f d;refine⟨by omega,?_⟩;have a:aa f d=0:=by omega
 refine Xz λk=>g ?_;have e:av f d=0:=by omega
 have p:=bL b;have i:av f f*d.x=0:=by simp only[aa,av]at a e|-;grind
 have j:av f f*d.y=0:=by simp only[aa,av]at a e|-;grind
 exact V2.ext ((mz i).resolve_left (by omega)) ((mz j).resolve_left (by omega))
variable {g:V2}
theorem Ay {f d:V2} (h:mP f g d) (i:rk f g≠3):f≠⟨0,0⟩/\d≠⟨0,0⟩/\rk f d≠3:=by
 have b:=bl f d;have j:=bl f g;have a:rk f d≠3:=by rcases h with h|h<;>omega
 refine⟨λe=>?_,λe=>?_,a⟩;rw[e]at b a;have:=gz d;have c:av ⟨0,0⟩ d=0:=(by simp[av]);omega;rw[e]at b a;have k:aa f ⟨0,0⟩=0:=(by simp[aa]);have c:av f ⟨0,0⟩=0:=(by simp[av]);omega
theorem gn {f d:V2}:mP f g d↔(0<aa f d/\(0<aa f g->0<aa d g))\/(aa f d=0/\av f d<0/\(aa f g<0\/(aa f g=0/\0<=av f g)\/(aa f g=0/\0<aa d g)))\/(aa f d<0/\((aa f g=0/\0<=av f g)\/(aa f g<0/\0<aa d g))):=by
 have c1:=bl f d;have c2:=bl f g;unfold mP;rcases c1 with c1|c1|c1|c1<;>rcases c2 with c2|c2|c2|c2<;>omega
theorem wb {f d:V2} (h:mP f g d) (k:rk f g≠3) (t:V2):Ev λK=>mP f g (mix K d t):=by
 obtain⟨l,_,_⟩:=Ay h k;have u:=bl f g;have o:¬(aa f g=0/\0<=av f g):=by omega
 rw[gn]at h;rcases h with⟨a,m⟩|⟨a,m,b⟩|⟨a,b⟩;by_cases c:0<aa f g;refine((dK (aa f t) a).and (dK (aa t g) (m c))).imp λK ⟨i,j⟩=>gn.2 (.inl ?_);rw[ew,dW];exact⟨i,λ_=>j⟩;refine(dK (aa f t) a).imp λK i=>gn.2 (.inl ?_);rw[ew];exact⟨i,λq=>absurd q c⟩
 ·have w:=(df g a l).2 m;have k:aa f g<0:=(by rcases b with q|q|q;exact q;exact absurd q o;omega);have p:0<aa d g:=(by omega);refine(dK (aa t g) p).imp λK j=>?_;rw[gn,ew,dW,a,X8,Zk];by_cases c:0<aa f t;exact .inl ⟨c,λq=>by omega⟩
  ·by_cases r:aa f t<0;exact .inr (.inr ⟨r,.inr ⟨k,j⟩⟩)
   ·refine .inr (.inl ⟨by omega,?_,.inl k⟩);have z:aa f (mix K d t)=0:=(by rw[ew,a];omega);have:=(df g z l);rw[dW]at this;have x:¬0<av f (mix K d t):=λq=>by have:=(this.1 q).1;omega
    have y:av f (mix K d t)≠0:=λq=>by have e:=fO (e:=g) z;rw[q,Yd,dW]at e;have:=(mz e).resolve_left (by have:=bL l;omega);omega
    omega
 ·have b:aa f g<0/\0<aa d g:=b.resolve_left o;refine((jR (aa f t) a).and (dK (aa t g) b.2)).imp λK ⟨i,j⟩=>gn.2 (.inr (.inr ?_));rw[ew,dW];exact⟨i,.inr ⟨b.1,j⟩⟩
theorem jm {f d t:V2} (p:rk f g≠3) (b:f≠⟨0,0⟩) (j:d≠⟨0,0⟩) (h:rk f d=3) (l:0<aa d t):Ev λK=>mP f g (mix K d t):=by
 obtain⟨a,i⟩:=lj h b j;have m:=((df t a b).1 i).1;have o:=(df g a b).1 i;have r:0<aa f t:=m.1 l;by_cases c:0<aa f g;refine(dK (aa t g) (o.1.2 c)).imp λK k=>gn.2 (.inl ?_);rw[ew,dW,a];exact⟨by omega,λ_=>k⟩;refine .of λK=>gn.2 (.inl ?_);rw[ew,a];exact⟨by omega,λq=>absurd q c⟩
theorem wc {f d t:V2} (w:rk f g≠3) (l:f≠⟨0,0⟩) (b:g≠⟨0,0⟩) (m:d≠⟨0,0⟩) (h:rk g d=3) (o:aa d t<0):Ev λK=>mP f g (mix K d t):=by
 obtain⟨c,i⟩:=lj h b m;have p:=((df t c b).1 i).2;have x:=(df f c b).1 i;have y:aa g t<0:=p.1 o;have z:=aO g t;have A:=aO d f;have B:=aO g f;have r:=aO g d;have a:=bl f g;have j:∀K:Int,aa (mix K d t) g=aa t g:=λK=>by rw[dW,r,c];simp
 rcases a with a|a|a|a;refine(dK (aa f t) (show 0<aa f d by omega)).imp λK k=>gn.2 (.inl ?_);rw[ew,j];exact⟨k,λ_=>by omega⟩;refine(jR (aa f t) (show aa f d<0 by omega)).imp λK k=>gn.2 (.inr (.inr ?_));rw[ew,j];exact⟨k,.inr ⟨a.2,by omega⟩⟩
 ·
  have C:=(df t a.2.1 l).2 a.2.2;refine .of λK=>gn.2 (.inl ?_);have u:aa f d=0:=(by omega);rw[ew,u];exact⟨by omega,λq=>by omega⟩
 ·omega
theorem KQ {f:V2} (b:rk f g≠3) (a:f≠⟨0,0⟩):∃s,mP f g s:=by
 have i:rk f f=3:=by have c:=bl f f;have j:aa f f=0:=(by simp only[aa];grind);have:=bL a;omega
 obtain⟨K,_,h⟩:=(jm (t:=dw f) b a a i (by rw[pn];exact bL a)).ex 0;exact⟨_,h⟩
theorem uW {f:V2} (a:f≠⟨0,0⟩):rk f f=3:=by
 have c:=bl f f;have b:aa f f=0:=by simp only[aa];grind
 have:=bL a;omega
def xV (f1 g1 f2 g2:V2):Prop:=rk f1 f2=3\/mP f1 g1 f2\/mP f2 g2 f1
variable {s:V2}
theorem sz {f d:V2} (h:mP f g s) (k:mP f s d):mP f g d:=by
 have A:=bl f s;have B:=bl f d;have C:=bl f g;have m:0<aa f d/\0<aa f s/\0<aa f g\/aa f d<0/\aa f s<0/\aa f g<0->0<aa d s->0<aa s g->0<aa d g:=by intro o j l;have id:aa f s*aa d g=aa f d*aa s g+aa f g*aa d s:=(by simp only[aa];grind);rcases o with⟨a,b,c⟩|⟨a,b,c⟩;have r:=XC a l;have t:=XC c j;exact(cx (aa d g) b|>λp=>by refine Y5.1 λq=>?_;have:=XM (XN b) q;omega);have r:=X3 a l;have t:=X3 c j;refine Y5.1 λq=>?_;have:=X2 (XN b) q;omega
 unfold mP at*;rcases h with h|⟨D,E,u⟩;rcases k with k|⟨w,_⟩;exact .inl (by omega);exact .inl (by omega)
 ·rcases k with k|⟨w,F,x⟩;exact .inl (by omega)
  ·refine .inr ⟨by omega,by omega,?_⟩;by_cases c:rk f s=1
   ·exfalso;have G:aa f s=0:=(by omega);have y:aa f d=0:=(by omega);have i:av f d<0:=(by omega);have z:f≠⟨0,0⟩:=λe=>by rw[e]at i;simp[av]at i
    have:=((df s y z).2 i).1;omega
   ·exact m (by omega) x u
variable {f1 f2:V2}
theorem Ci (a:f1≠⟨0,0⟩) (h2:f2≠⟨0,0⟩) (hs:s≠⟨0,0⟩) (k:rk f1 s≠3) (l:rk f2 s≠3):rk f1 f2=3\/mP f1 s f2\/mP f2 s f1:=by
 have m:=aO f1 f2;have c1:=bl f1 s;have c2:=bl f1 f2;have p:=bl f2 f1;have q:=bl f2 s;have r:av f2 f1=av f1 f2:=by simp only[av];grind
 have g:rk f1 f2=1->_:=λh=>(df s (show aa f1 f2=0 by omega) a).2 (by omega);have c:rk f1 s=1->_:=λh=>(df f2 (show aa f1 s=0 by omega) a).2 (by omega);have t:=aO s f2;have f:aa f2 s=0->0<aa f1 f2/\0<aa f1 s\/aa f1 f2<0/\aa f1 s<0->False:=λz u=>by have b:av f2 s<0:=(by omega);have:=(df f1 z h2).2 b;have w:=aO f1 s;omega
 unfold mP;rcases c2 with c2|c2|c2|c2;rcases c1 with c1|c1|c1|c1;by_cases z:0<aa f2 s;right;left;right;exact⟨by omega,by omega,z⟩;have:aa f2 s≠0:=λz=>f z (.inl ⟨c2.2,c1.2⟩);right;right;right;exact⟨by omega,by omega,c1.2⟩;right;left;left;omega;right;left;left;omega;omega;rcases c1 with c1|c1|c1|c1;right;right;by_cases z:0<aa f2 s;right;exact⟨by omega,by omega,c1.2⟩;left;omega;by_cases z:0<aa f2 s;right;left;right;exact⟨by omega,by omega,z⟩;have:aa f2 s≠0:=λz=>f z (.inr ⟨c2.2,c1.2⟩);right;right;left;omega;right;right;left;have:=c c1.1;omega;omega;have o:=g c2.1;rcases c1 with c1|c1|c1|c1;right;right;left;omega;right;left;left;omega;exfalso;have x:=c c1.1;have z:aa f2 s=0:=(by omega);have b:av f2 s<0:=(by omega);have id:av f1 f1*av f2 s=av f1 f2*av f1 s:=(by have i:aa f1 f2=0:=(by omega);have j:aa f1 s=0:=(by omega);simp only[aa,av]at i j|-;grind);have y:=Zr (show av f1 f2<0 by omega) (show av f1 s<0 by omega);have A:=Yb (bL a) b;omega;omega;left;exact c2.1
variable {g1 g2:V2}
theorem C3 (b:rk f1 g1≠3) (c:rk f2 g2≠3) (a:mP f1 g1 s) (h2:mP f2 g2 s):xV f1 g1 f2 g2:=by
 obtain⟨f,g,i⟩:=Ay a b;obtain⟨j,_,k⟩:=Ay h2 c;rcases Ci f j g i k with h|h|h;exact .inl h;exact .inr (.inl (sz a h));exact .inr (.inr (sz h2 h))
theorem L4 (g:rk f1 g1≠3) (i:rk f2 g2≠3) (f:f1≠⟨0,0⟩) (c:f2≠⟨0,0⟩) (h:xV f1 g1 f2 g2):∃s,mP f1 g1 s/\mP f2 g2 s:=by
 have j:0<aa f2 (dw f2):=by rw[pn];exact bL c
 have k:0<aa f1 (dw f1):=by rw[pn];exact bL f
 rcases h with h|h|h;obtain⟨K,_,a,b⟩:=((jm (t:=dw f2) g f c h j).and (jm (t:=dw f2) i c c (uW c) j)).ex 0;exact⟨_,a,b⟩;obtain⟨K,_,a,b⟩:=((wb h g (dw f2)).and (jm (t:=dw f2) i c c (uW c) j)).ex 0;exact⟨_,a,b⟩;obtain⟨K,_,a,b⟩:=((jm (t:=dw f1) g f f (uW f) k).and (wb h i (dw f1))).ex 0;exact⟨_,a,b⟩
theorem sA {f:V2} (i:f≠⟨0,0⟩) (l:g≠⟨0,0⟩) (hs:s≠⟨0,0⟩) (r:rk f g≠3) (t:rk f s≠3) (h2:rk g s≠3) (h:¬mP f g s):mP g f s:=by
 have m:rk s f≠3:=λq=>by have c:=bl f s;have u:=bl s f;have w:=aO f s;have:av s f=av f s:=(by simp only[av];grind);omega
 have o:rk g f≠3:=λq=>by have c:=bl f g;have u:=bl g f;have w:=aO f g;have:av g f=av f g:=(by simp only[av];grind);omega
 rcases Ci (f1:=g) (f2:=s) (s:=f) l hs i o m with q|q|q;exact absurd q h2;exact q;(exfalso;refine h ?_;have j:=aO f s;have k:=aO f g;have x:=aO s g;have p:av s f=av f s:=(by simp only[av];grind);have E:¬(aa f s=0/\0<=av f s):=(by have y:=bl f s;omega);have F:¬(aa f g=0/\0<=av f g):=(by have y:=bl f g;omega);have G:¬(aa f s=0/\av f s<0)\/((0<aa s g↔aa f g<0)/\(aa s g<0↔0<aa f g)):=(by by_cases z:aa f s=0/\av f s<0;exact .inr ((df g z.1 i).2 z.2);exact .inl z);have A:¬(aa s g=0/\av s g<0)\/(0<aa g f↔aa s f<0):=(by by_cases z:aa s g=0/\av s g<0;exact .inr ((df f z.1 hs).2 z.2).1;exact .inl z);rw[gn]at q|-;rw[p,j]at q;rw[j,k]at A;rw[k]at q;clear t h2 m o r h j k x p i l hs;generalize aa f s=B at*;generalize aa f g=C at*;generalize aa s g=D at*;generalize av f s=H at*;generalize av f g=I at*;generalize av s g=J at*;rcases YJ B 0 with a|a|a<;>rcases YJ C 0 with b|b|b<;>rcases YJ D 0 with c|c|c<;>omega)
def Cn (E:Ed) (u f g:V2):Prop:=(∃e∈E,∃a∈E,e.1=u/\a.2=u/\f=ag e.2 u/\g=ag a.1 u)\/(∃e∈E,aU e.1 e.2 u/\u≠e.1/\u≠e.2/\f=ag e.2 u/\g=ag e.1 u)
theorem cg (u v:V2):an u (ag v u)=v:=V2.ext (by simp only[an,ag];omega) (by simp only[an,ag];omega)
variable {u:V2}
theorem cC {v:V2} (h:v≠u):ag v u≠⟨0,0⟩:=λe=>h (by rw[<-cg u v,e];simp[an])
variable {a:V2}
theorem Nk {b z:V2} (h:a.y<=b.y):cq (ag a z) (ag b z)=if a.y<=z.y/\z.y<b.y/\0<aj a b z then 1 else 0:=by
 unfold cq;rw[iH];simp only[ag];repeat' split
 all_goals omega
theorem DJ {b:V2} (h:aU a b u) (z:V2):cq (ag a z) (ag b z)=cq (ag a z) (ag u z)+cq (ag u z) (ag b z):=by
 have m:∀{a b u:V2},aU a b u->a.y<=b.y->cq (ag a z) (ag b z)=cq (ag a z) (ag u z)+cq (ag u z) (ag b z):=by
  intro a b u h y;obtain⟨l,A,B,C,D⟩:=h;have o:(b.y-a.y)*aj a u z=(u.y-a.y)*aj a b z:=(by simp only[aj,aa,ag]at l|-;grind);have p:(b.y-a.y)*aj u b z=(b.y-u.y)*aj a b z:=(by simp only[aj,aa,ag]at l|-;grind);rw[Nk y,Nk (show a.y<=u.y by omega),Nk (show u.y<=b.y by omega)];by_cases c:a.y<b.y
  ·have i:=cx (aj a u z) (show 0<b.y-a.y by omega);have j:=cx (aj u b z) (show 0<b.y-a.y by omega);have f:=λk=>cx (aj a b z) (show 0<u.y-a.y from k);have g:=λk=>cx (aj a b z) (show 0<b.y-u.y from k);rw[X9]at i j;rw[o]at i;rw[p]at j;simp only[X9 (aj a b z)]at f g;generalize (u.y-a.y)*aj a b z=E at*;generalize (b.y-u.y)*aj a b z=F at*;generalize aj a b z=t at*;generalize aj a u z=q at*;generalize aj u b z=r at*;clear o p l A B;by_cases w:0<u.y-a.y<;>by_cases x:0<b.y-u.y
   ·have f:=f w;have g:=g x;have e1:0<q↔0<t:=(by omega);have e2:0<r↔0<t:=(by omega);clear i j f g;repeat' split
    all_goals omega
   ·have f:=f w;clear g;have e1:0<q↔0<t:=(by omega);clear i j f;repeat' split
    all_goals omega
   ·have g:=g x;clear f;have e2:0<r↔0<t:=(by omega);clear i j g;repeat' split
    all_goals omega
   ·omega
  ·rw[iN,iN,iN];rfl
 rcases YK a.y b.y with c|c;exact m h c;have:=m (ax.2 h) c;rw[dc (ag a z) (ag b z),dc (ag u z) (ag b z),dc (ag a z) (ag u z)]at this;omega
variable {E:Ed} {m:Int}
theorem ix.sc (h:ix E) (c:0<m):ix (bw m E):=by
 have r:∀{e x:V2×V2},(ah m e.1,ah m e.2)=(ah m x.1,ah m x.2)->e=x:=λ{e x} q=>by simp only[Zx]at q;exact aaz (gC c q.1) (gC c q.2)
 refine⟨h.cP.sc m,?_,λe f=>?_,λe f J w z n u A l o p=>?_,λe f=>?_,λe f=>?_⟩;unfold bw;rw[List.Nodup,ZT];exact h.nodup.imp (λ{a b} B q=>B (r q));obtain⟨x,g,rfl⟩:=aK.1 f;exact λq=>h.nz x g (gC c q);obtain⟨x,g,rfl⟩:=aK.1 f;obtain⟨y,i,rfl⟩:=aK.1 w;simp only[eu]at l o p|-;exact h.one x g y i (λq=>z (by rw[q])) _ u (ny A c) l o p;obtain⟨x,g,rfl⟩:=aK.1 f;obtain⟨y,i,j,C,D⟩:=h.out x g;refine⟨_,aK.2 ⟨y,i,rfl⟩,by simp only[j],λq=>C ?_,λK F G H=>?_⟩;rw[cc]at q;exact(mz q).resolve_left (by have:=XC c c;omega);obtain⟨t,I,rfl⟩:=aK.1 F;exact λk=>D t I (λq=>G (by rw[q])) (λq=>H (by rw[q])) ((gW c).1 k);obtain⟨x,g,rfl⟩:=aK.1 f;obtain⟨y,i,j⟩:=h.rn x g;exact⟨_,aK.2 ⟨y,i,rfl⟩,by simp only[j]⟩
variable {k:Int}
theorem lX.sc (h:lX E k) (a:0<m):lX (bw m E) k:=λn z b=>by
 rw[ek];exact h _ z (ny b a)
theorem lX.rev (h:lX E k):lX (gT E) (1-k):=λn z a=>by
 have:=h n z a;rw[kj,uk];omega
theorem xS (e:V2×V2) (E:Ed) (z:V2):W (e::E) z=cq (ag e.1 z) (ag e.2 z)+W E z:=rfl
theorem iB (c:0<m) {b:V2} (h:aU a b u):aU (ah m a) (ah m b) (ah m u):=(gW c).2 h
variable {g:V2}
theorem ix.gb (h:ix E) {f:V2} (D:Cn E u f g):N1 E u f g/\rk f g≠3/\f≠⟨0,0⟩/\g≠⟨0,0⟩:=by
 rcases D with⟨e,j,a,t,l,i,rfl,rfl⟩|⟨e,j,w,l,i,rfl,rfl⟩
 ·obtain⟨e1,J,K,F,y⟩:=h.out e j;have G:a=e1:=(by refine Xz λq=>?_;refine y a t (λk=>h.nz a t ?_) q ?_;rw[i,k,l];rw[l,<-i];exact bp _ _);subst G;subst l;have H:a≠e:=λk=>h.nz e j (by rw[<-k];rw[k]at i;rw[k];exact i.symm);obtain⟨b,p0⟩:∃b:Ed,b=(E.erase a).erase e:=⟨_,rfl⟩;have o:E.Perm (a::e::b):=(by rw[p0];exact(aat t).trans ((aat ((abo (Zf H)).2 j)).cons _));have A:a.1≠e.1:=λk=>h.nz a t (k.trans i.symm);refine⟨⟨b,λm z B=>?_,?_,λx p=>?_⟩,λk=>?_,cC (h.nz e j).symm,cC A⟩;rw[cg,cg];have:(a.1,e.1)=a:=(by rw[<-i]);rw[this];exact jV (o.map _) z;rw[cg,cg];have:(a.1,e.1)=a:=(by rw[<-i]);rw[this];exact h.cP.perm o;rw[p0]at p;have I:(E.erase a).Nodup:=h.nodup.erase _;have C:=(I.mem_erase_iff).1 p;have r:=(h.nodup.mem_erase_iff).1 C.2;exact y x r.2 C.1 r.1;obtain⟨z,_⟩:=lj k (cC (h.nz e j).symm) (cC A);refine F ?_;simp only[aj,aa,ag]at z|-;grind
 ·obtain⟨b,p0⟩:∃b:Ed,b=E.erase e:=⟨_,rfl⟩;have o:E.Perm (e::b):=(by rw[p0];exact aat j);refine⟨⟨b,λm z B=>?_,?_,λx p=>?_⟩,λk=>?_,cC (Zf i),cC (Zf l)⟩;rw[cg,cg];have e1:W (bw m E) z=W (bw m (e::b)) z:=jV (o.map _) z;rw[e1];show cq (ag (ah m e.1) z) (ag (ah m e.2) z)+W (bw m b) z=cq (ag (ah m e.1) z) (ag (ah m u) z)+(cq (ag (ah m u) z) (ag (ah m e.2) z)+W (bw m b) z);rw[DJ (iB B w) z];omega;rw[cg,cg];have:=h.cP.perm o;unfold mT at this|-;simp only[Yz]at this|-;exact(List.Perm.swap u e.1 _).trans (this.cons u)
  ·rw[p0]at p;have r:=(h.nodup.mem_erase_iff).1 p;have:=h.one e j x r.2 (Zf r.1) 1 u (by decide) (by rw[aZ,aZ];exact w) (by rw[aZ];exact l) (by rw[aZ];exact i)
   rwa [aZ,aZ]at this
  ·obtain⟨z,d⟩:=lj k (cC (Zf i)) (cC (Zf l));obtain⟨_,M,N,O,P⟩:=w;simp only[av,ag]at d;have Q:(e.2.x-u.x)*(e.1.x-u.x)<=0:=(by rcases YK u.x e.1.x with q|q;by_cases c:e.1.x=u.x;rw[c];simp;exact YH (by omega) (by omega);by_cases c:e.1.x=u.x;rw[c];simp;exact XM (by omega) (by omega));have R:(e.2.y-u.y)*(e.1.y-u.y)<=0:=(by rcases YK u.y e.1.y with q|q;by_cases c:e.1.y=u.y;rw[c];simp;exact YH (by omega) (by omega);by_cases c:e.1.y=u.y;rw[c];simp;exact XM (by omega) (by omega));omega
theorem N1.rev {f:V2} (h:N1 E u f g):N1 (gT E) u g f:=by
 obtain⟨a,b,c,i⟩:=h;have e:gT ((an u g,u)::(u,an u f)::a)=(u,an u g)::(an u f,u)::gT a:=rfl;have p:((u,an u g)::(an u f,u)::gT a).Perm ((an u f,u)::(u,an u g)::gT a):=List.Perm.swap _ _ _;refine⟨gT a,λm z j=>?_,?_,λx l k=>i _ (dT.1 l) (ax.1 k)⟩;rw[kj,uk,b m z j,<-uk,<-kj,e];exact jV (p.map _) z;have:=c.rev;rw[e]at this;exact this.perm p
def Comm (E1:Ed) (k1:Int) (E2:Ed) (k2:Int):Prop:=∃(m:Int) (z:V2),0<m/\W (bw m E1) z+k1=1/\W (bw m E2) z+k2=1
variable {E1 E2:Ed} {k1 k2:Int}
theorem Comm.swap (h:Comm E1 k1 E2 k2):Comm E2 k2 E1 k1:=by
 obtain⟨m,z,c,a,b⟩:=h;exact⟨m,z,c,b,a⟩
theorem Comm.Wt (c:0<m) (h:Comm (bw m E1) k1 (bw m E2) k2):Comm E1 k1 E2 k2:=by
 obtain⟨n,z,f,a,b⟩:=h;rw[ek]at a b;exact⟨_,z,ny f c,a,b⟩
variable {f2 g2 s:V2} {e1 e2:V2×V2}
section
variable {E1 E2:Ed} {k1 k2:Int}
theorem Bz {f1 c:V2} (c1:N1 E1 u f1 c) (c2:N1 E2 u f2 g2) (f:lX E1 k1) (g:lX E2 k2) (h:rk f1 c≠3) (i:rk f2 g2≠3) (j:mP f1 c s) (h2:mP f2 g2 s):Comm E1 k1 E2 k2:=by
 obtain⟨n,k,a,b⟩:=((c1.inside f h j).and (c2.inside g i h2)).ex 1;exact⟨n,_,by omega,a,b⟩
theorem Nl (c1:mT E1) (f:∀e∈E1,¬aU e.1 e.2 u) (hw:W E1 u+k1=1) (c2:N1 E2 u f2 g2) (g:lX E2 k2) (c:rk f2 g2≠3) (h:f2≠⟨0,0⟩):Comm E1 k1 E2 k2:=by
 obtain⟨s,i⟩:=KQ c h;obtain⟨n,j,a,b⟩:=((Tu c1 s f).and (c2.inside g c i)).ex 1;exact⟨n,_,by omega,by rw[a];exact hw,b⟩
def kU (e1 e2:V2×V2):Prop:=((0<aj e2.1 e2.2 e1.1/\aj e2.1 e2.2 e1.2<0)\/(aj e2.1 e2.2 e1.1<0/\0<aj e2.1 e2.2 e1.2))/\((0<aj e1.1 e1.2 e2.1/\aj e1.1 e1.2 e2.2<0)\/(aj e1.1 e1.2 e2.1<0/\0<aj e1.1 e1.2 e2.2))
theorem kU.sym (h:kU e1 e2):kU e2 e1:=⟨h.2,h.1⟩
theorem kI {b:V2} {x y:Int} (r:0<x) (t:0<y) (i:a≠b) (f:u.x=x*a.x+y*b.x) (h2:u.y=x*a.y+y*b.y):
  aU (ah (x+y) a) (ah (x+y) b) u/\u≠ah (x+y) a/\u≠ah (x+y) b:=by
 have m:∀p q:Int,((x+y)*p<=x*p+y*q\/(x+y)*q<=x*p+y*q)/\(x*p+y*q<=(x+y)*p\/x*p+y*q<=(x+y)*q):=λp q=>by rw[abx,abx];rcases YK p q with c|c;have l:=XH c (show 0<=y by omega);have o:=XH c (show 0<=x by omega);omega;have l:=XH c (show 0<=y by omega);have o:=XH c (show 0<=x by omega);omega
 have j:=m a.x b.x;have k:=m a.y b.y;refine⟨⟨?_,?_,?_,?_,?_⟩,λe=>i ?_,λe=>i ?_⟩;simp only[aj,aa,ag,ah];rw[f,h2];grind;simp only[ah];rw[f];exact j.1;simp only[ah];rw[f];exact j.2;simp only[ah];rw[h2];exact k.1;simp only[ah];rw[h2];exact k.2;rw[e]at f h2;simp only[ah]at f h2;have g:y*(b.x-a.x)=0:=(by grind);have h:y*(b.y-a.y)=0:=(by grind);have:=(mz g).resolve_left (by omega);have:=(mz h).resolve_left (by omega);exact V2.ext (by omega) (by omega);rw[e]at f h2;simp only[ah]at f h2;have g:x*(b.x-a.x)=0:=(by grind);have h:x*(b.y-a.y)=0:=(by grind);have:=(mz g).resolve_left (by omega);have:=(mz h).resolve_left (by omega);exact V2.ext (by omega) (by omega)
theorem pk (h:kU e1 e2):∃(m:Int) (u:V2),0<m/\(aU (ah m e1.1) (ah m e1.2) u/\u≠ah m e1.1/\u≠ah m e1.2)/\(aU (ah m e2.1) (ah m e2.2) u/\u≠ah m e2.1/\u≠ah m e2.2):=by
 obtain⟨a,b⟩:=e1;obtain⟨p,q⟩:=e2;unfold kU at h;simp only at h;have j:a≠b:=λe=>by rw[e]at h;omega
 have k:p≠q:=λe=>by rw[e]at h;omega
 have s:aj p q b-aj p q a=aj a b p-aj a b q:=by simp only[aj,aa,ag];grind
 have o:aj p q b*a.x-aj p q a*b.x=aj a b p*q.x-aj a b q*p.x:=by simp only[aj,aa,ag];grind
 have r:aj p q b*a.y-aj p q a*b.y=aj a b p*q.y-aj a b q*p.y:=by simp only[aj,aa,ag];grind
 rcases Int.lt_or_le 0 (aj p q b)with c|c;have f:0< -aj p q a:=(by omega);have g:0< -aj a b q:=(by omega);have i:0<aj a b p:=(by omega);refine⟨aj p q b+ -aj p q a,⟨aj p q b*a.x+ -aj p q a*b.x,aj p q b*a.y+ -aj p q a*b.y⟩,by omega,kI c f j rfl rfl,?_⟩;have:=kI (u:=⟨aj p q b*a.x+ -aj p q a*b.x,aj p q b*a.y+ -aj p q a*b.y⟩) g i k (by simp only;grind) (by simp only;grind);rw[show-aj a b q+aj a b p=aj p q b+ -aj p q a by omega]at this;exact this;have l:0< -aj p q b:=(by omega);have f:0<aj p q a:=(by omega);have g:0<aj a b q:=(by omega);have i:0< -aj a b p:=(by omega);refine⟨-aj p q b+aj p q a,⟨-aj p q b*a.x+aj p q a*b.x,-aj p q b*a.y+aj p q a*b.y⟩,by omega,kI l f j rfl rfl,?_⟩;have:=kI (u:=⟨-aj p q b*a.x+aj p q a*b.x,-aj p q b*a.y+aj p q a*b.y⟩) g i k (by simp only;grind) (by simp only;grind);rw[show aj a b q+ -aj a b p= -aj p q b+aj p q a by omega]at this;exact this
theorem qU {b:V2} (i:aU a b u) (j:u≠a) (h2:u≠b):mP (ag b u) (ag a u) s↔0<aa (ag b u) s:=by
 have z:aa (ag b u) (ag a u)=0:=by have:=i.1;simp only[aj,aa,ag]at this|-;grind
 have d:av (ag b u) (ag a u)<0:=by obtain⟨_,m,o,p,r⟩:=i;have t:u.x≠a.x\/u.y≠a.y:=(by refine Xz λq=>j (V2.ext (by omega) (by omega)));have w:u.x≠b.x\/u.y≠b.y:=(by refine Xz λq=>h2 (V2.ext (by omega) (by omega)));have x:=bL (cC (Zf j));have f2:=bL (cC (Zf h2));refine Xz λy=>?_;have A:(b.x-u.x)*(a.x-u.x)<=0:=(by rcases YK u.x a.x with q|q;by_cases c:a.x=u.x;rw[c];simp;exact YH (by omega) (by omega);by_cases c:a.x=u.x;rw[c];simp;exact XM (by omega) (by omega));have B:(b.y-u.y)*(a.y-u.y)<=0:=(by rcases YK u.y a.y with q|q;by_cases c:a.y=u.y;rw[c];simp;exact YH (by omega) (by omega);by_cases c:a.y=u.y;rw[c];simp;exact XM (by omega) (by omega));have k:av (ag b u) (ag a u)=0:=(by have:av (ag b u) (ag a u)=(b.x-u.x)*(a.x-u.x)+(b.y-u.y)*(a.y-u.y):=rfl;omega);have e1:av (ag b u) (ag b u)*av (ag a u) (ag a u)=0:=(by have:av (ag b u) (ag b u)*av (ag a u) (ag a u)=av (ag b u) (ag a u)*av (ag b u) (ag a u)+aa (ag b u) (ag a u)*aa (ag b u) (ag a u):=(by simp only[av,aa];grind);rw[this,k,z];rfl);rcases mz e1 with q|q<;>omega
 rw[gn];constructor;intro h;rcases h with h|⟨l,C,g⟩|⟨l,g⟩;exact h.1;exfalso;rcases g with g|g|g;omega;omega;have:=(df (f:=ag b u) (d:=ag a u) s z (cC (Zf h2))).2 d;have D:=aO s (ag a u);omega;omega;intro h;exact .inl ⟨h,λq=>by omega⟩
theorem JF (C:ix E1) (D:ix E2) (q:lX E1 k1) (r:lX E2 k2) (E:e1∈E1) (h2:e2∈E2) (h:kU e1 e2):Comm E1 k1 E2 k2:=by
 obtain⟨m,u,b,⟨j,w,k⟩,l,x,o⟩:=pk h;refine Comm.Wt b ?_;have g:=(C.sc b).gb (u:=u) (.inr ⟨_,aK.2 ⟨e1,E,rfl⟩,j,w,k,rfl,rfl⟩);have i:=(D.sc b).gb (u:=u) (.inr ⟨_,aK.2 ⟨e2,h2,rfl⟩,l,x,o,rfl,rfl⟩);simp only at g i;have F:aa (ag (ah m e1.2) u) (ag (ah m e2.2) u)≠0:=λz=>by have G:=j.1;have y:=l.1;have k1:ag (ah m e1.2) u≠⟨0,0⟩:=cC (Zf k);have k2:ag (ah m e2.2) u≠⟨0,0⟩:=cC (Zf o);have H:aa (ag (ah m e2.2) u) (ag (ah m e2.1) u)=0:=(by simp only[aj,aa,ag]at y|-;grind);have I:aa (ag (ah m e1.2) u) (ag (ah m e1.1) u)=0:=(by simp only[aj,aa,ag]at G|-;grind);have zz:aa (ag (ah m e2.2) u) (ag (ah m e1.2) u)=0:=(by rw[aO,z];rfl);have J:=fO (f:=ag (ah m e2.2) u) (d:=ag (ah m e1.2) u) (e:=ag (ah m e1.1) u) zz;rw[I,X8]at J;have t:aj (ah m e2.1) (ah m e2.2) (ah m e1.2)=0:=(by have p:=fO (f:=ag (ah m e2.2) u) (d:=ag (ah m e2.1) u) (e:=ag (ah m e1.2) u) H;rw[zz,X8]at p;have p:=(mz p).resolve_left (by have:=bL k2;omega);simp only[aj,aa,ag]at p zz y|-;grind);rw[cc]at t;have:=(mz t).resolve_left (by have:=XC b b;omega);unfold kU at h;omega
 have A:=λs=>(qU (s:=s) j w k).2;have B:=λs=>(qU (s:=s) l x o).2;generalize ag (ah m e1.2) u=a at*;generalize ag (ah m e2.2) u=f2 at*;rcases Yh F with c|c;refine Bz (s:=ag a f2) g.1 i.1 (q.sc b) (r.sc b) g.2.1 i.2.1 (A _ ?_) (B _ ?_);have:aa a (ag a f2)= -aa a f2:=(by simp only[aa,ag];grind);omega;have:aa f2 (ag a f2)= -aa a f2:=(by simp only[aa,ag];grind);omega;refine Bz (s:=ag f2 a) g.1 i.1 (q.sc b) (r.sc b) g.2.1 i.2.1 (A _ ?_) (B _ ?_);have:aa a (ag f2 a)=aa a f2:=(by simp only[aa,ag];grind);omega;have:aa f2 (ag f2 a)=aa a f2:=(by simp only[aa,ag];grind);omega
def J1 (E1:Ed) (k1:Int) (E2:Ed) (k2:Int):Prop:=
 (∃e1∈E1,∃e2∈E2,kU e1 e2)\/(∃e∈E1,(∀y∈E2,¬aU y.1 y.2 e.1)/\W E2 e.1+k2=1)\/(∃e∈E2,(∀x∈E1,¬aU x.1 x.2 e.1)/\W E1 e.1+k1=1)\/
 (∃u a b f2 g2,((∃e∈E1,e.1=u)\/(∃e∈E2,e.1=u))/\Cn E1 u a b/\Cn E2 u f2 g2/\xV a b f2 g2)
theorem ix.pz (s:ix E) {e:V2×V2} (h:e∈E):∃f g,Cn E e.1 f g:=by
 obtain⟨a,b,c,_⟩:=s.out e h;exact⟨_,_,.inl ⟨e,h,a,b,rfl,c,rfl,rfl⟩⟩
theorem FP (i:ix E1) (j:ix E2) (p:lX E1 k1) (q:lX E2 k2) (h:J1 E1 k1 E2 k2):Comm E1 k1 E2 k2:=by
 rcases h with⟨e1,k,e2,l,h⟩|⟨e,r,k,l⟩|⟨e,r,k,l⟩|⟨u,C,D,f2,g2,_,x,y,z⟩;exact JF i j p q k l h;obtain⟨f,g,t⟩:=i.pz r;obtain⟨m,c,o,_⟩:=i.gb t;exact(Nl j.cP k l m p c o).swap;obtain⟨f,g,t⟩:=j.pz r;obtain⟨m,c,o,_⟩:=j.gb t;exact Nl i.cP k l m q c o;obtain⟨A,w,B,_⟩:=i.gb x;obtain⟨m,c,o,_⟩:=j.gb y;obtain⟨s,a,b⟩:=L4 w c B o z;exact Bz A m p q w c a b
end
variable {E:Ed} {u:V2}
theorem y4 (s:ix E) (h:∃e∈E,aU e.1 e.2 u):∃f g,Cn E u f g:=by
 obtain⟨e,a,i⟩:=h;by_cases b:u=e.1;subst b;exact s.pz a;by_cases c:u=e.2;obtain⟨l,j,k⟩:=s.rn e a;rw[c,<-k];exact s.pz j;exact⟨_,_,.inr ⟨e,a,i,b,c,rfl,rfl⟩⟩
variable {g:V2}
theorem qX {f:V2} (h:rk f g≠3):rk g f≠3:=λq=>by
 have c:=bl f g;have a:=bl g f;have b:=aO f g;have:av g f=av f g:=by simp only[av];grind
 omega
theorem Sp {f s:V2} (h:rk f s=3) (i:f≠⟨0,0⟩) (hs:s≠⟨0,0⟩):Ev λn=>aU (ah n u) (ah n (an u f)) (nr n u s):=by
 obtain⟨g,j⟩:=lj h i hs;have k:=bL i;have ex:s.x*av f f=f.x*av f s:=by simp only[aa,av]at g|-;grind
 have l:s.y*av f f=f.y*av f s:=by simp only[aa,av]at g|-;grind
 have o:=cx s.x k;have p:=cx s.y k;have x:=cx f.x j;have y:=cx f.y j;rw[ex]at o;rw[l]at p;refine(Ev.ge (s.x.natAbs+s.y.natAbs+1)).imp λn z=>?_;have m:∀a b:Int,(0<a->0<b)->(a<0->b<0)->a.natAbs<=n->(0<=a->a<=n*b\/a=0)/\(a<=0->n*b<=a\/a=0):=λa b r t A=>by refine⟨λq=>?_,λq=>?_⟩;by_cases c:a=0;exact .inr c;have:=XH (show 1<=b by have:=r (by omega);omega) (show 0<=(n:Int) by omega);rw[aaj]at this;left;omega;by_cases c:a=0;exact .inr c;have:=XH (show b<= -1 by have:=t (by omega);omega) (show 0<=(n:Int) by omega);rw[Yv,aaj]at this;left;omega
 have B:=m s.x f.x (by omega) (by omega) (by omega);have C:=m s.y f.y (by omega) (by omega) (by omega);have w:aj (ah n u) (ah n (an u f)) (nr n u s)=n*aa f s:=by simp only[aj,aa,ag,ah,nr,an];grind
 refine⟨by rw[w,g,X8],?_,?_,?_,?_⟩;all_goals
  simp only[ah,nr,an];rw[aaN];omega
theorem y6 (n:Int) (a:1<=n) (u w:V2):aU (ah n w) (ah n u) (nr n u (ag w u)):=by
 have m:∀p q:Int,(n*p<=n*q+(p-q)\/n*q<=n*q+(p-q))/\(n*q+(p-q)<=n*p\/n*q+(p-q)<=n*q):=λp q=>by rcases YK p q with c|c;have:=XF (show 0<=n-1 by omega) (show 0<=q-p by omega);have e:(n-1)*(q-p)=n*q-n*p-(q-p):=(by grind);omega;have:=XF (show 0<=n-1 by omega) (show 0<=p-q by omega);have e:(n-1)*(p-q)=n*p-n*q-(p-q):=(by grind);omega
 refine⟨by simp only[aj,aa,ag,ah,nr];grind,?_,?_,?_,?_⟩;exact(m w.x u.x).1;exact(m w.x u.x).2;exact(m w.y u.y).1;exact(m w.y u.y).2
variable {w:V2}
theorem rD {k:Int} (s:ix E) (r:lX E k) {f:V2} (l:Cn E u f g) (G:u≠w) (hw:W E w+k=1) (z:∀e∈E,∀n:Nat,1<=n->NM (ah n e.1) (ah n e.2) (ah n w) (nr n u (ag w u))):mP f g (ag w u):=by
 obtain⟨H,A,o,t⟩:=s.gb l;have B:ag w u≠⟨0,0⟩:=cC G.symm;have h:∀{v:V2},ag v u≠⟨0,0⟩->(∃e∈E,aU e.1 e.2 u/\(e.1=v\/e.2=v))->rk (ag v u) (ag w u)≠3:=by rintro v I ⟨e,a,b,c⟩ J;obtain⟨n,y,q⟩:=(Sp (u:=u) J I B).ex 1;rw[cg]at q;refine(z e a n y).q_ ?_;have C:=iB (m:=n) (by omega) b;rcases c with c|c;rw[<-c]at q;exact ax.1 (aU.trans (ax.1 C) q);rw[<-c]at q;exact aU.trans C q
 have K:rk f (ag w u)≠3:=by rcases l with⟨e,a,D,F,i,j,rfl,rfl⟩|⟨e,a,b,i,j,rfl,rfl⟩;exact h o ⟨e,a,by rw[<-i];exact bK _ _,.inr rfl⟩;exact h o ⟨e,a,b,.inr rfl⟩
 have M:rk g (ag w u)≠3:=by rcases l with⟨e,a,D,F,i,j,rfl,rfl⟩|⟨e,a,b,i,j,rfl,rfl⟩;exact h t ⟨D,F,by rw[<-j];exact bp _ _,.inl rfl⟩;exact h t ⟨e,a,b,.inl rfl⟩
 refine Xz λy=>?_;have N:=sA o t B A K M y;obtain⟨n,O,q⟩:=(H.rev.inside r.rev (qX A) N).ex 1;have p:=hA (s.cP.sc n) (p:=ah n w) (q:=nr n u (ag w u)) (λe a=>by obtain⟨x,P,rfl⟩:=aK.1 a;exact z x P n O);rw[kQ (m:=n) (by omega)]at p;rw[kj,uk]at q;omega
variable {p y1 y2:V2}
theorem Q5 (a:¬aU w p y1) (h2:¬aU w p y2) (b:¬aU y1 y2 w) (c:¬aU y1 y2 p) (f:¬kU (y1,y2) (w,p)):NM y1 y2 w p:=⟨a,h2,b,c,λk=>f ⟨k.1,k.2⟩⟩
theorem AQ (a:aj w p y1=0) (b:aj w p y2=0) (j:w≠p) (m:aU y1 y2 p) (hw:¬aU y1 y2 w):aU w p y1\/aU w p y2:=by
 have i:aj y1 y2 w=0:=by have o:(p.x-w.x)*aj y1 y2 w=0:=(by simp only[aj,aa,ag]at a b|-;grind);have r:(p.y-w.y)*aj y1 y2 w=0:=(by simp only[aj,aa,ag]at a b|-;grind);refine Xz λq=>j (V2.ext ?_ ?_);have:=(mz o).resolve_right q;omega;have:=(mz r).resolve_right q;omega
 obtain⟨_,u,x,y,z⟩:=m;have A:¬((y1.x<=w.x\/y2.x<=w.x)/\(w.x<=y1.x\/w.x<=y2.x)/\(y1.y<=w.y\/y2.y<=w.y)/\(w.y<=y1.y\/w.y<=y2.y)):=λk=>hw ⟨i,k⟩;by_cases c:w.x=p.x;have B:w.y≠p.y:=λk=>j (V2.ext c k);have C:y1.x=w.x:=(by have q:(p.y-w.y)*(y1.x-w.x)=0:=(by simp only[aj,aa,ag]at a;rw[c]at a|-;grind);have:=(mz q).resolve_left (by omega);omega);have D:y2.x=w.x:=(by have q:(p.y-w.y)*(y2.x-w.x)=0:=(by simp only[aj,aa,ag]at b;rw[c]at b|-;grind);have:=(mz q).resolve_left (by omega);omega);by_cases k:(w.y<=y1.y/\y1.y<=p.y)\/(p.y<=y1.y/\y1.y<=w.y);left;exact⟨a,by omega,by omega,by omega,by omega⟩;right;exact⟨b,by omega,by omega,by omega,by omega⟩
 ·
  have E:∀v:V2,aj w p v=0->(p.x-w.x)*(v.y-w.y)=(p.y-w.y)*(v.x-w.x):=λv h=>by simp only[aj,aa,ag]at h;grind
  have l:∀v:V2,aj w p v=0->((w.x<=v.x/\v.x<=p.x)\/(p.x<=v.x/\v.x<=w.x))->aU w p v:=λv h k=>by rcases k with⟨f,g⟩|⟨f,g⟩;exact qn h (show w.x<p.x by omega) f g;exact ax.1 (qn (by rw[aV,h];rfl) (show p.x<w.x by omega) f g)
  by_cases f:(w.x<=y1.x/\y1.x<=p.x)\/(p.x<=y1.x/\y1.x<=w.x);left;exact l y1 a f;by_cases g:(w.x<=y2.x/\y2.x<=p.x)\/(p.x<=y2.x/\y2.x<=w.x);right;exact l y2 b g;exfalso;refine hw ?_;by_cases t:y1.x<y2.x;exact qn i t;exact ax.1 (qn (by rw[aV,i];rfl) (show y2.x<y1.x by omega))
theorem kN {a b:V2} (f:aU a b p) (h2:aU y1 y2 p) (o:p≠a) (u:p≠b) (h:p≠y1) (i:p≠y2):kU (y1,y2) (a,b)\/(aj a b y1=0/\aj a b y2=0):=by
 have r:∀{a b y1 y2:V2},aU a b p->aU y1 y2 p->p≠y1->p≠y2->(aj a b y1=0↔aj a b y2=0)/\(0<aj a b y1↔aj a b y2<0)/\(aj a b y1<0↔0<aj a b y2):=by
  intro a b y1 y2 f h2 h i;obtain⟨g,J,K,M,N⟩:=h2;have z:=f.1;have ex:(p.x-y1.x)*aj a b y2= -((y2.x-p.x)*aj a b y1):=(by simp only[aj,aa,ag]at z g|-;grind);have O:(p.y-y1.y)*aj a b y2= -((y2.y-p.y)*aj a b y1):=(by simp only[aj,aa,ag]at z g|-;grind);have P:=λq:p.x=y1.x=>g;by_cases c:p.x=y1.x
  ·have w:p.y≠y1.y:=λq=>h (V2.ext c q);have x:p.y≠y2.y:=λq=>by have j:(y2.x-y1.x)*(p.y-y1.y)=0:=(by simp only[aj,aa,ag]at g;rw[c]at g;grind);have:=(mz j).resolve_right (by omega);exact i (V2.ext (by omega) q)
   rcases Yh w with d|d;have l:=cx (aj a b y2) (show 0<y1.y-p.y by omega);have m:=cx (aj a b y1) (show 0<p.y-y2.y by omega);have e:aj a b y2*(y1.y-p.y)= -(aj a b y1*(p.y-y2.y)):=(by grind);omega;have l:=cx (aj a b y2) (show 0<p.y-y1.y by omega);have m:=cx (aj a b y1) (show 0<y2.y-p.y by omega);have e:aj a b y2*(p.y-y1.y)= -(aj a b y1*(y2.y-p.y)):=(by grind);omega
  ·have x:p.x≠y2.x:=λq=>by have j:(y2.x-y1.x)*(p.y-y1.y)=(y2.y-y1.y)*(p.x-y1.x):=(by simp only[aj,aa,ag]at g;grind);rw[q]at j;have y:(y2.x-y1.x)*(p.y-y2.y)=0:=(by grind);have:=(mz y).resolve_left (by omega);exact i (V2.ext q (by omega))
   rcases Yh c with d|d;have l:=cx (aj a b y2) (show 0<y1.x-p.x by omega);have m:=cx (aj a b y1) (show 0<p.x-y2.x by omega);have e:aj a b y2*(y1.x-p.x)= -(aj a b y1*(p.x-y2.x)):=(by grind);omega;have l:=cx (aj a b y2) (show 0<p.x-y1.x by omega);have m:=cx (aj a b y1) (show 0<y2.x-p.x by omega);have e:aj a b y2*(p.x-y1.x)= -(aj a b y1*(y2.x-p.x)):=(by grind);omega
 have A:=r f h2 h i;by_cases z:aj a b y1=0;exact .inr ⟨z,A.1.1 z⟩
 ·left;have B:=r h2 f o u;have Q:aj y1 y2 a≠0:=λk=>by have t:=B.1.1 k;have R:a≠b:=λe=>o (by rw[<-e]at f;obtain⟨_,C,D,E,F⟩:=f;exact V2.ext (by omega) (by omega));have G:y1≠y2:=λe=>h (by rw[<-e]at h2;obtain⟨_,C,D,E,F⟩:=h2;exact V2.ext (by omega) (by omega));have H:(y2.x-y1.x)*aj a b y1=0:=(by simp only[aj,aa,ag]at k t|-;grind);have I:(y2.y-y1.y)*aj a b y1=0:=(by simp only[aj,aa,ag]at k t|-;grind);have:=(mz H).resolve_right z;have:=(mz I).resolve_right z;exact G (V2.ext (by omega) (by omega))
  unfold kU;simp only;omega
variable {y:V2×V2} {a:V2}
theorem eQ {b:V2} (h:kU y (a,b)):kU y (b,a):=by
 unfold kU at*;simp only at*;rw[aV a b y.1,aV a b y.2];omega
variable {w:V2}
theorem pj {b:V2} (hw:aU a b w) (h:kU y (w,b)):kU y (a,b):=by
 have c:=qL (a:=y.1) hw;have f:=qL (a:=y.2) hw;have m:=CY (a:=y.1) (b:=y.2) hw;unfold kU at*;simp only at*;omega
variable {e1 e2:V2×V2}
theorem xw {m:Int} (a:0<m):kU (ah m e1.1,ah m e1.2) (ah m e2.1,ah m e2.2)↔kU e1 e2:=by
 unfold kU;simp only[cc];have f:=λx=>cx x (XC a a);simp only[X9 _ (m*m)]at f;have b:=f (aj e2.1 e2.2 e1.1);have c:=f (aj e2.1 e2.2 e1.2);have g:=f (aj e1.1 e1.2 e2.1);have h:=f (aj e1.1 e1.2 e2.2);omega
theorem kB {b c:V2} (f:aU a b c) (h2:aU a c b):b=c:=by
 obtain⟨_,g,h,i,j⟩:=f;obtain⟨_,k,l,m,o⟩:=h2;exact V2.ext (by omega) (by omega)
variable {u:V2}
theorem PV {b v:V2} (a:aU w b u) (h2:aU w u v) (h:av (ag u w) (ag b w)<=av (ag v w) (ag b w)):v=u:=by
 obtain⟨_,f,g,i,j⟩:=a;obtain⟨_,k,l,m,o⟩:=h2;have e:(u.x-v.x)*(b.x-w.x)+(u.y-v.y)*(b.y-w.y)<=0:=by simp only[av,ag]at h;grind
 have p:0<=(u.x-v.x)*(b.x-w.x):=by rcases YK w.x b.x with c|c;exact XF (by omega) (by omega);exact X2 (by omega) (by omega)
 have q:0<=(u.y-v.y)*(b.y-w.y):=by rcases YK w.y b.y with c|c;exact XF (by omega) (by omega);exact X2 (by omega) (by omega)
 have r:=mz (show(u.x-v.x)*(b.x-w.x)=0 by omega);have t:=mz (show(u.y-v.y)*(b.y-w.y)=0 by omega);exact V2.ext (by omega) (by omega)
theorem min_mem {α:Type} (f:α->Int) (p:α->Prop):∀L:List α,(∃x∈L,p x)->∃x∈L,p x/\∀y∈L,p y->f x<=f y
 |[],h=>by simp at h
 |a::L,h=>by
  by_cases c:∃x∈L,p x
  ·obtain⟨x,j,i,l⟩:=min_mem f p L c;by_cases k:p a/\f a<=f x
   ·exact⟨a,by simp,k.1,λy b g=>by
     rcases XD.1 b with rfl|b;exact Yf _
     ·exact Int.le_trans k.2 (l y b g)⟩
   ·refine⟨x,by simp[j],i,λy b g=>?_⟩;rcases XD.1 b with rfl|b;exact ZN.1 λq=>k ⟨g,XN q⟩;exact l y b g
  ·obtain⟨x,j,i⟩:=h;have:x=a:=(by rcases XD.1 j with q|q;exact q;exact absurd ⟨x,q,i⟩ c);subst this;refine⟨x,by simp,i,λy b g=>?_⟩;rcases XD.1 b with rfl|b;exact Yf _;exact absurd ⟨y,b,g⟩ c
theorem OW {v:V2} (h:aU a a v):v=a:=by
 obtain⟨_,b,c,f,g⟩:=h;exact V2.ext (by omega) (by omega)
variable {E:Ed}
theorem walk {k:Int} (s:ix E) (r:lX E k) {b:V2} (hw:aU a b w) (a2:w≠a) (a3:w≠b) (off:∀e∈E,¬aU e.1 e.2 w) (R:W E w+k=1) (G:∀e∈E,¬kU e (a,b)):
  (W E b+k=1/\∀e∈E,¬aU e.1 e.2 b)\/∃u f g,(u=b\/∃e∈E,e.1=u)/\aU w b u/\u≠w/\Cn E u f g/\mP f g (ag w u):=by
 have S:∀e∈E,∃H∈E,H.1=e.2:=s.rn;obtain⟨t,m⟩:∃t:V2->Prop,∀u,t u↔aU w b u/\((u=b/\∃e∈E,aU e.1 e.2 b)\/∃e∈E,e.1=u):=⟨_,λ_=>ZB⟩;by_cases B:∃u,t u
 ·right;obtain⟨u,_,C,a4⟩:=min_mem (λu=>av (ag u w) (ag b w)) t (b::E.map (·.1)) (by
   obtain⟨u,C⟩:=B;refine⟨u,?_,C⟩;rcases((m u).1 C).2 with⟨q,_⟩|⟨e,h,q⟩;rw[q];simp
   ·exact XK _ (XS.2 ⟨e,h,q⟩))
  obtain⟨o,I⟩:=(m u).1 C;have D:u≠w:=λq=>by rcases I with⟨j,_⟩|⟨e,h,j⟩;exact a3 (q.symm.trans j);exact off e h (by rw[<-q,<-j];exact bK _ _)
  obtain⟨f,g,T⟩:∃f g,Cn E u f g:=(by rcases I with⟨q,e,h,j⟩|⟨e,h,q⟩;exact y4 s ⟨e,h,by rw[q];exact j⟩;rw[<-q];exact s.pz h);refine⟨u,f,g,I.imp (λq=>q.1) id,o,D,T,rD s r T D R (λy x n b6=>?_)⟩;have i:0<(n:Int):=(by omega);have z:=y6 n (by omega) u w;have U:∀v:V2,(∃e∈E,e.1=v)->¬aU (ah n w) (nr n u (ag w u)) (ah n v):=(by intro v A V;have J:aU (ah n u) (ah n w) (ah n v):=aU.trans (ax.1 z) (ax.1 V);have l:aU u w v:=(gW i).1 J;have a5:aU b w v:=aU.trans (ax.1 o) l;have a6:t v:=(m v).2 ⟨ax.1 a5,.inr A⟩;have:=a4 v (by obtain⟨e,h,q⟩:=A;exact XK _ (XS.2 ⟨e,h,q⟩)) a6;have q:=PV o (ax.1 l) this;subst q;have:=kB V z;apply D;simp only[nr,ah,ag,V2.mk.injEq]at this;exact V2.ext (by omega) (by omega));have K:=U y.1 ⟨y,x,rfl⟩;have M:=U y.2 (S y x);have N:¬aU (ah n y.1) (ah n y.2) (ah n w):=λq=>off y x ((gW i).1 q);have O:aU (ah n b) (ah n w) (nr n u (ag w u)):=aU.trans (iB i (ax.1 o)) (ax.1 z);have F:aU (ah n a) (ah n b) (nr n u (ag w u)):=aU.trans (iB i hw) (ax.1 O);refine Q5 K M N (λq=>?_) (λq=>?_)
  ·have a7:nr n u (ag w u)≠ah n y.1:=λe=>K (by rw[<-e];exact bp _ _);have a8:nr n u (ag w u)≠ah n y.2:=λe=>M (by rw[<-e];exact bp _ _);have X:nr n u (ag w u)≠ah n b:=λe=>by have J:aU (ah n w) (ah n u) (ah n b):=(by rw[<-e];exact z);have l:=kB (iB i o) J;rw[<-e]at l;apply D;simp only[nr,ah,ag,V2.mk.injEq]at l;exact V2.ext (by omega) (by omega)
   have a9:nr n u (ag w u)≠ah n a:=λe=>by rw[e]at O;have l:aU b w a:=(gW i).1 O;exact a2 (kB (ax.1 hw) l).symm
   have b0:ah n w≠nr n u (ag w u):=λe=>N (by rw[e];exact q);rcases kN F q a9 X a7 a8 with c|⟨P,Q⟩;exact G y x ((xw i (e2:=(a,b))).1 c)
   ·have Y:∀v:V2,aj (ah n a) (ah n b) v=0->aj (ah n w) (nr n u (ag w u)) v=0:=λv A=>by
     have Z:=(iB i hw).1;have a0:=F.1;have b1:ah n a≠ah n b:=λe=>by rw[e]at F;exact X (OW F)
     have b2:((ah n b).x-(ah n a).x)*aj (ah n w) (nr n u (ag w u)) v=0:=(by simp only[aj,aa,ag]at A Z a0|-;grind);have b3:((ah n b).y-(ah n a).y)*aj (ah n w) (nr n u (ag w u)) v=0:=(by simp only[aj,aa,ag]at A Z a0|-;grind);refine Xz λk=>b1 (V2.ext ?_ ?_);have:=(mz b2).resolve_right k;omega;have:=(mz b3).resolve_right k;omega
    rcases AQ (Y _ P) (Y _ Q) b0 q N with k|k;exact K k;exact M k
  ·have P:=pj (ax.1 z) (eQ q);have Q:=pj (iB i (ax.1 o)) P;have b4:=pj (iB i hw) (eQ Q);exact G y x ((xw i (e2:=(a,b))).1 b4)
 ·left;have a1:∀e∈E,¬aU e.1 e.2 b:=λe h q=>B ⟨b,(m b).2 ⟨bp _ _,.inl ⟨rfl,e,h,q⟩⟩⟩;refine⟨?_,a1⟩;rw[<-hA s.cP (p:=w) (q:=b) (λe h=>?_)];exact R;refine Q5 (λq=>B ⟨e.1,(m _).2 ⟨q,.inr ⟨e,h,rfl⟩⟩⟩) (λq=>?_) (off e h) (a1 e h) (λq=>G e h (pj hw q));obtain⟨H,b5,j⟩:=S e h;exact B ⟨e.2,(m _).2 ⟨q,.inr ⟨H,b5,j⟩⟩⟩
variable {p q:V2}
theorem qR {b r:V2} (h:aU p q r):(0<aj a b p->0<aj a b q->0<aj a b r)/\(aj a b p<0->aj a b q<0->aj a b r<0):=by
 obtain⟨j,l⟩:=uT (a:=a) (b:=b) h.1;obtain⟨_,m,o,t,u⟩:=h;by_cases c:p.x=q.x;by_cases i:p.y=q.y;have e:r=p:=V2.ext (by omega) (by omega);subst e;exact⟨λk _=>k,λk _=>k⟩;rcases Yh i with d|d;have s:=cx (aj a b r) (show 0<q.y-p.y by omega);have f:=Ej (aj a b p) (show 0<=q.y-r.y by omega);have g:=Ej (aj a b q) (show 0<=r.y-p.y by omega);have e:aj a b r*(q.y-p.y)=aj a b p*(q.y-r.y)+aj a b q*(r.y-p.y):=(by grind);omega;have s:=cx (aj a b r) (show 0<p.y-q.y by omega);have f:=Ej (aj a b p) (show 0<=r.y-q.y by omega);have g:=Ej (aj a b q) (show 0<=p.y-r.y by omega);have e:aj a b r*(p.y-q.y)=aj a b p*(r.y-q.y)+aj a b q*(p.y-r.y):=(by grind);omega;rcases Yh c with d|d;have s:=cx (aj a b r) (show 0<q.x-p.x by omega);have f:=Ej (aj a b p) (show 0<=q.x-r.x by omega);have g:=Ej (aj a b q) (show 0<=r.x-p.x by omega);have e:aj a b r*(q.x-p.x)=aj a b p*(q.x-r.x)+aj a b q*(r.x-p.x):=(by grind);omega;have s:=cx (aj a b r) (show 0<p.x-q.x by omega);have f:=Ej (aj a b p) (show 0<=r.x-q.x by omega);have g:=Ej (aj a b q) (show 0<=p.x-r.x by omega);have e:aj a b r*(p.x-q.x)=aj a b p*(r.x-q.x)+aj a b q*(p.x-r.x):=(by grind);omega
theorem Gx {b:V2} (h:(0<aj a b p/\0<aj a b q)\/(aj a b p<0/\aj a b q<0)):NM a b p q:=by
 have c:aj a b a=0:=by simp only[aj,aa,ag];grind
 have f:aj a b b=0:=by simp only[aj,aa,ag];grind
 refine⟨λk=>?_,λk=>?_,λk=>?_,λk=>?_,λk=>?_⟩;have:=qR (a:=a) (b:=b) k;omega;have:=qR (a:=a) (b:=b) k;omega;have:=k.1;omega;have:=k.1;omega;omega
theorem xL (h:aU a u w):rk (ag a u) (ag w u)=3:=by
 have z:aa (ag a u) (ag w u)=0:=by have:=h.1;simp only[aj,aa,ag]at this|-;grind
 obtain⟨_,b,f,g,i⟩:=h;have j:0<=(a.x-u.x)*(w.x-u.x):=by rcases YK u.x a.x with c|c;exact XF (by omega) (by omega);exact X2 (by omega) (by omega)
 have k:0<=(a.y-u.y)*(w.y-u.y):=by rcases YK u.y a.y with c|c;exact XF (by omega) (by omega);exact X2 (by omega) (by omega)
 have c:=bl (ag a u) (ag w u);have:av (ag a u) (ag w u)=(a.x-u.x)*(w.x-u.x)+(a.y-u.y)*(w.y-u.y):=rfl;omega
theorem GQ {b:V2} (h:aU a b w) (k:aU w b u):aU a u w:=by
 have f:=h.1;have g:=k.1;obtain⟨_,l,m,o,p⟩:=h;obtain⟨_,r,t,x,y⟩:=k;refine⟨?_,by omega,by omega,by omega,by omega⟩;by_cases c:w=b;subst c;have:u=w:=V2.ext (by omega) (by omega);rw[this];simp only[aj,aa,ag];grind;have i:(b.x-w.x)*aj a u w=0:=(by simp only[aj,aa,ag]at f g|-;grind);have j:(b.y-w.y)*aj a u w=0:=(by simp only[aj,aa,ag]at f g|-;grind);refine Xz λq=>c (V2.ext ?_ ?_);have:=(mz i).resolve_right q;omega;have:=(mz j).resolve_right q;omega
variable {e:V2×V2}
theorem xA (s:ix E) (g:e∈E) (hw:aU e.1 e.2 w) (j:w≠e.1) (h:aU w e.2 u):∃f,Cn E u f (ag e.1 u):=by
 by_cases i:u=e.2;obtain⟨k,l,m⟩:=s.rn e g;exact⟨_,.inl ⟨k,l,e,g,m.trans i.symm,i.symm,rfl,rfl⟩⟩;refine⟨_,.inr ⟨e,g,aU.trans hw h,λq=>?_,i,rfl,rfl⟩⟩;rw[q]at h;exact j (kB (a:=e.2) (b:=e.1) (c:=w) (ax.1 hw) (ax.1 h)).symm
theorem sS {s:V2} (h:s≠⟨0,0⟩):aa s (dw (dw (dw s)))<0:=by
 have e:aa s (dw (dw (dw s)))= -av s s:=by simp only[aa,dw,av];grind
 have:=bL h;omega
variable {z:V2}
section
variable {X Y:Ed} {k1 k2:Int}
theorem J1.swap (h:J1 X k1 Y k2):J1 Y k2 X k1:=by
 rcases h with⟨e1,g,e2,i,h⟩|h|h|⟨u,c,j,f,k,h,l,m,o⟩;exact .inl ⟨e2,i,e1,g,h.sym⟩;exact .inr (.inr (.inl h));exact .inr (.inl h);refine .inr (.inr (.inr ⟨u,f,k,c,j,h.symm,m,l,?_⟩));rcases o with q|q|q;left;have a:=bl c f;have b:=bl f c;have p:=aO c f;have:av f c=av c f:=(by simp only[av];grind);omega;exact .inr (.inr q);exact .inr (.inl q)
theorem Jv (b:ix X) (i:ix Y) (x:lX Y k2) (c:e1∈X) (hw:aU e1.1 e1.2 w) (j:w≠e1.1) (z:w≠e1.2) (off:∀y∈Y,¬aU y.1 y.2 w) (A:W Y w+k2=1):J1 X k1 Y k2:=by
 by_cases k:∃y∈Y,kU e1 y;obtain⟨y,g,h⟩:=k;exact .inl ⟨e1,c,y,g,h⟩;rcases walk i x hw j z off A (λy g q=>k ⟨y,g,q.sym⟩)with⟨B,C⟩|⟨u,D,E,F,l,G,m,H⟩;obtain⟨e,f,a⟩:=b.rn e1 c;exact .inr (.inl ⟨e,f,by rw[a];exact C,by rw[a];exact B⟩);obtain⟨I,o⟩:=xA b c hw j l;obtain⟨P,p,J,M⟩:=b.gb o;obtain⟨f,a,Q,R⟩:=i.gb m;have r:ag w u≠⟨0,0⟩:=cC G.symm;obtain⟨K,_,N,O⟩:=((wc (t:=dw (dw (dw (ag w u)))) p J M r (xL (GQ hw l)) (sS r)).and (wb H a (dw (dw (dw (ag w u)))))).ex 0;refine .inr (.inr (.inr ⟨u,I,_,D,E,?_,o,m,C3 p a N O⟩));rcases F with q|q;obtain⟨e,f,a⟩:=b.rn e1 c;exact .inl ⟨e,f,by rw[a,q]⟩;exact .inr q
theorem Dm (b:ix X) (c:ix Y) (f:e1∈X) (h2:e2∈Y) (o1:aU e1.1 e1.2 w) (o2:aU e2.1 e2.2 w) (l:w≠e1.1) (m:w≠e2.1) (o:w≠e1.2) (h:aU w e2.2 e1.2):J1 X k1 Y k2:=by
 obtain⟨p,g⟩:=xA b f o1 l (bp _ _);obtain⟨q,i⟩:=xA c h2 o2 m h;obtain⟨D,j,r,u⟩:=b.gb g;obtain⟨E,k,x,y⟩:=c.gb i;have a:ag w e1.2≠⟨0,0⟩:=cC o;obtain⟨K,_,z,A⟩:=((wc (t:=dw (dw (dw (ag w e1.2)))) j r u a (xL o1) (sS a)).and (wc (t:=dw (dw (dw (ag w e1.2)))) k x y a (xL (GQ o2 h)) (sS a))).ex 0;obtain⟨e,B,C⟩:=b.rn e1 f;exact .inr (.inr (.inr ⟨_,p,_,q,_,.inl ⟨e,B,C⟩,g,i,C3 j k z A⟩))
theorem J7 (h:(aU e.1 e.2 w/\aj e.1 e.2 z≠0)\/NM e.1 e.2 z w) {n:Nat} (f:1<=n):NM (ah n e.1) (ah n e.2) (ah n z) (nr n w (ag z w)):=by
 have a:0<(n:Int):=by omega
 have c:=y6 n (by omega) w z;rcases h with⟨b,g⟩|h;refine Gx ?_;have e1:aj (ah n e.1) (ah n e.2) (nr n w (ag z w))=n*aj e.1 e.2 z:=(by have:=b.1;rw[pN,this];have:aa (ag e.2 e.1) (ag z w)=aj e.1 e.2 z:=(by have:=b.1;simp only[aj,aa,ag]at this|-;grind);rw[this];grind);have i:=bf (x:=aj e.1 e.2 z) (show 1<=(n:Int) by omega);have j:=bf (n:=(n:Int)*n) (x:=aj e.1 e.2 z) (XC a a);rw[e1,cc];omega;exact(((pS a h).swap).sub (ax.1 c)).swap
theorem AM {c1 c2:V2} (w:V2) (z:aa c1 c2=0) (d:0<av c1 c2):aU w (an w c2) (an w c1)\/aU w (an w c1) (an w c2):=by
 have l:c1≠⟨0,0⟩:=λe=>by rw[e]at d;simp[av]at d
 have ex:av c1 c1*c2.x=av c1 c2*c1.x:=by simp only[aa,av]at z|-;grind
 have m:av c1 c1*c2.y=av c1 c2*c1.y:=by simp only[aa,av]at z|-;grind
 have p:=bL l;have o:aj w (an w c2) (an w c1)=0:=by simp only[aj,aa,ag,an]at z|-;grind
 have r:aj w (an w c1) (an w c2)=0:=by simp only[aj,aa,ag,an]at z|-;grind
 have k:∀x y:Int,av c1 c1*y=av c1 c2*x->(0<=x->0<=y)/\(x<=0->y<=0)/\(av c1 c1<=av c1 c2->(0<=x->x<=y)/\(x<=0->y<=x))/\(av c1 c2<=av c1 c1->(0<=x->y<=x)/\(x<=0->x<=y)):=by intro x y h;have f:∀a b:Int,av c1 c1*a<=av c1 c1*b->a<=b:=λa b q=>YT q p;refine⟨λq=>?_,λq=>?_,λq=>⟨λg=>?_,λg=>?_⟩,λq=>⟨λg=>?_,λg=>?_⟩⟩;refine f _ _ ?_;rw[h,X8];exact XF (XN d) q;refine f _ _ ?_;rw[h,X8];exact XM (XN d) q;refine f _ _ ?_;rw[h];exact Yo q g;refine f _ _ ?_;rw[h];have:=Yo q (show 0<= -x by omega);rw[Yv,Yv]at this;omega;refine f _ _ ?_;rw[h];exact Yo q g;refine f _ _ ?_;rw[h];have:=Yo q (show 0<= -x by omega);rw[Yv,Yv]at this;omega
 have i:=k c1.x c2.x ex;have j:=k c1.y c2.y m;rcases YK (av c1 c1) (av c1 c2)with c|c;(have i:=i.2.2.1 c;have j:=j.2.2.1 c;left;refine⟨o,?_,?_,?_,?_⟩<;>simp only[an]<;>omega)
 ·have t:=i.2.2.2 c;have u:=j.2.2.2 c;right;refine⟨r,?_,?_,?_,?_⟩<;>simp only[an]<;>omega
theorem NB (g:ix X) (h:ix Y) (H:lX X k1) (B:lX Y k2) (C:w≠z) (I:W X z+k1=1) (D:W Y z+k2=1)
  (J:∀e∈X,(aU e.1 e.2 w/\aj e.1 e.2 z≠0)\/NM e.1 e.2 z w) (E:∀e∈Y,(aU e.1 e.2 w/\aj e.1 e.2 z≠0)\/NM e.1 e.2 z w) (t:∀e∈X,w≠e.1/\w≠e.2) (K:∀e∈Y,w≠e.1/\w≠e.2)
  {e1:V2×V2} (a:e1∈X) (b:aU e1.1 e1.2 w):J1 X k1 Y k2:=by
 by_cases u:∀y∈Y,¬aU y.1 y.2 w;refine Jv g h B a b (t e1 a).1 (t e1 a).2 u ?_;rw[<-hA h.cP (p:=z) (q:=w) (λe f=>(E e f).resolve_left (λq=>u e f q.1))];exact D
 ·obtain⟨e2,i,j⟩:∃e2∈Y,aU e2.1 e2.2 w:=Xz λq=>u λy M k=>q ⟨y,M,k⟩;obtain⟨l,m⟩:=t e1 a;obtain⟨o,r⟩:=K e2 i;rcases kN b j l m o r with c|⟨U,F⟩;exact .inl ⟨e1,a,e2,i,c.sym⟩;have N:=rD g H (.inr ⟨e1,a,b,l,m,rfl,rfl⟩) C I (λe f n x=>J7 (J e f) x);have O:=rD h B (.inr ⟨e2,i,j,o,r,rfl,rfl⟩) C D (λe f n x=>J7 (E e f) x);rw[qU b l m]at N;rw[qU j o r]at O;have G:ag e1.2 w≠⟨0,0⟩:=cC m.symm;have V:ag e2.2 w≠⟨0,0⟩:=cC r.symm;have A:aa (ag e1.2 w) (ag e2.2 w)=0:=(by have q:=b.1;have P:e1.1≠e1.2:=g.nz e1 a;have Q:(e1.2.x-e1.1.x)*aa (ag e1.2 w) (ag e2.2 w)=0:=(by simp only[aj,aa,ag]at q F|-;grind);have R:(e1.2.y-e1.1.y)*aa (ag e1.2 w) (ag e2.2 w)=0:=(by simp only[aj,aa,ag]at q F|-;grind);refine Xz λk=>P (V2.ext ?_ ?_);have:=(mz Q).resolve_right k;omega;have:=(mz R).resolve_right k;omega);have S:=df (ag z w) A G;have T:0<av (ag e1.2 w) (ag e2.2 w):=(by refine Xz λk=>?_;by_cases c:av (ag e1.2 w) (ag e2.2 w)=0;have e:=fO (e:=ag z w) A;rw[c,Yd]at e;have:=(mz e).resolve_left (by have:=bL G;omega);omega;have:=S.2 (by omega);omega);rcases AM w A T with c|c;rw[cg,cg]at c;exact Dm g h a i b j l o m c;rw[cg,cg]at c;exact(Dm h g i a j b o l r c).swap
theorem F0 (b6:ix X) (b7:ix Y) (b8:lX X k1) (b9:lX Y k2) (e8:k2=0) (h:Comm X k1 Y k2):J1 X k1 Y k2:=by
 obtain⟨m,z,c0,c1,c2⟩:=h;obtain⟨M,i,c3,C,c4,c5⟩:∃(M:Int) (i:V2),0<M/\(∀e∈bw M (X++Y),e.1.y≠i.y/\e.2.y≠i.y/\¬aU e.1 e.2 i)/\W (bw M X) i+k1=1/\W (bw M Y) i+k2=1:=by refine xg (P:=λ_ _=>_) (bw m (X++Y)) z (λn i c6 C a0=>?_);refine⟨n*m,i,ny c6 c0,by rw[<-ek];exact C,?_,?_⟩;rw[<-ek,a0 _ (λe a=>by rw[fK];simp[a])];exact c1;rw[<-ek,a0 _ (λe a=>by rw[fK];simp[a])];exact c2
 obtain⟨D,w,r,K,⟨t,O,H⟩,c7⟩:=zp (E:=bw M (X++Y)) (F:=bw M Y) (λe a=>by rw[fK];simp[a]) C;have b:=ny r c3;have c8:∀{F:Ed} {e:V2×V2},e∈bw (D*M) F->∃x∈bw M F,e=(ah D x.1,ah D x.2):=λ{F e} a=>by rw[<-ek]at a;exact aK.1 a
 have a1:∀{F:Ed},(∀e∈F,e∈X++Y)->∀e∈bw (D*M) F,((aU e.1 e.2 w/\aj e.1 e.2 (ah D i)≠0)\/NM e.1 e.2 (ah D i) w)/\(w≠e.1/\w≠e.2):=λ{F} c9 e a=>by
  obtain⟨x,j,rfl⟩:=c8 a;have a2:x∈bw M (X++Y):=(by obtain⟨y,o,rfl⟩:=aK.1 j;exact aK.2 ⟨y,c9 y o,rfl⟩);obtain⟨a3,a4,Q⟩:=C x a2;have d0:(ah D x.1).y≠w.y:=λq=>by rw[K]at q;exact a3 (Y9 (by omega) q)
  have d1:(ah D x.2).y≠w.y:=λq=>by rw[K]at q;exact a4 (Y9 (by omega) q)
  refine⟨?_,λq=>d0 (by rw[q]),λq=>d1 (by rw[q])⟩;rcases c7 x a2 with q|q
  ·left;refine⟨q,λk=>Q ?_⟩;rw[cc]at k;have k:=(mz k).resolve_left (by have:=XC r r;omega);obtain⟨_,_,_,e9,f0⟩:=q;have l:∀v:V2,((ah D v).y<=w.y↔v.y<=i.y)/\(w.y<=(ah D v).y↔i.y<=v.y):=λv=>by rw[K];exact⟨tU r,tU r⟩
   have f1:=l x.1;have f2:=l x.2;by_cases c:x.1.y<x.2.y;exact dh k c;exact ax.1 (dh (by rw[aV,k];rfl) (show x.2.y<x.1.y by omega))
  ·exact .inr q
 have a5:=b6.sc b;have a6:=b7.sc b;have a7:=b8.sc b;have a8:=b9.sc b;have a9:W (bw (D*M) X) (ah D i)+k1=1:=by rw[<-ek,kQ r];exact c4
 have b0:W (bw (D*M) Y) (ah D i)+k2=1:=by rw[<-ek,kQ r];exact c5
 have I:=a1 (F:=X) (λe a=>by simp[a]);have J:=a1 (F:=Y) (λe a=>by simp[a]);have b1:w≠ah D i:=λq=>by obtain⟨a3,a4,Q⟩:=C t O;rw[q]at H;exact Q ((gW r).1 H)
 have d2:J1 (bw (D*M) X) k1 (bw (D*M) Y) k2->J1 X k1 Y k2:=by
  generalize D*M=N at*;rintro(⟨e1,G,e2,A,h⟩|⟨e,a,G,A⟩|⟨e,a,G,A⟩|⟨u,f3,f4,f5,f6,d3,d4,d5,R⟩);obtain⟨x,j,rfl⟩:=aK.1 G;obtain⟨y,o,rfl⟩:=aK.1 A;exact .inl ⟨x,j,y,o,(xw b).1 h⟩;obtain⟨x,j,rfl⟩:=aK.1 a;refine .inr (.inl ⟨x,j,λy o q=>G _ (aK.2 ⟨y,o,rfl⟩) (iB b q),?_⟩);rw[kQ b]at A;exact A;obtain⟨x,j,rfl⟩:=aK.1 a;refine .inr (.inr (.inl ⟨x,j,λy o q=>G _ (aK.2 ⟨y,o,rfl⟩) (iB b q),?_⟩));rw[kQ b]at A;exact A
  ·obtain⟨B,rfl,d6⟩:∃B,u=ah N B/\((∃e∈X,e.1=B)\/∃e∈Y,e.1=B):=(by rcases d3 with⟨e,a,q⟩|⟨e,a,q⟩;obtain⟨x,j,rfl⟩:=aK.1 a;exact⟨x.1,q.symm,.inl ⟨x,j,rfl⟩⟩;obtain⟨x,j,rfl⟩:=aK.1 a;exact⟨x.1,q.symm,.inr ⟨x,j,rfl⟩⟩);have b2:∀{E:Ed} {f g:V2},Cn (bw N E) (ah N B) f g->∃b3 b4,f=ah N b3/\g=ah N b4/\Cn E B b3 b4:=(by rintro E f g (⟨e,a,f7,d7,S,T,rfl,rfl⟩|⟨e,a,d8,S,T,rfl,rfl⟩);obtain⟨x,j,rfl⟩:=aK.1 a;obtain⟨y,o,rfl⟩:=aK.1 d7;exact⟨_,_,hQ _ _ _,hQ _ _ _,.inl ⟨x,j,y,o,gC b S,gC b T,rfl,rfl⟩⟩;obtain⟨x,j,rfl⟩:=aK.1 a;exact⟨_,_,hQ _ _ _,hQ _ _ _,.inr ⟨x,j,(gW b).1 d8,λq=>S (by rw[q]),λq=>T (by rw[q]),rfl,rfl⟩⟩);obtain⟨d9,e0,rfl,rfl,e3⟩:=b2 d4;obtain⟨e4,e5,rfl,rfl,e6⟩:=b2 d5;refine .inr (.inr (.inr ⟨B,d9,e0,e4,e5,d6,e3,e6,?_⟩));have U:∀p q:V2,(0<aa (ah N p) (ah N q)↔0<aa p q)/\(aa (ah N p) (ah N q)<0↔aa p q<0):=λp q=>by have e:aa (ah N p) (ah N q)=N*N*aa p q:=(by simp only[aa,ah];grind);have f:=cx (aa p q) (XC b b);rw[e,X9];omega
   have e7:∀p q:V2,(av (ah N p) (ah N q)<0↔av p q<0):=λp q=>by have e:av (ah N p) (ah N q)=N*N*av p q:=(by simp only[av,ah];grind);have f:=cx (av p q) (XC b b);rw[e,X9];omega
   have V:∀p q:V2,rk (ah N p) (ah N q)=rk p q:=λp q=>by unfold rk;simp only[(U p q).1,(U p q).2,e7 p q]
   have b5:∀p q d:V2,mP (ah N p) (ah N q) (ah N d)↔mP p q d:=λp q d=>by unfold mP;rw[V,V,(U d q).1]
   unfold xV at R|-;rw[V,b5,b5]at R;exact R
 refine d2 ?_;rw[fK]at O;rcases XP.1 O with q|q;have Z:(ah D t.1,ah D t.2)∈bw (D*M) X:=(by rw[<-ek];exact aK.2 ⟨t,q,rfl⟩);exact NB a5 a6 a7 a8 b1 a9 b0 (λe a=>(I e a).1) (λe a=>(J e a).1) (λe a=>(I e a).2) (λe a=>(J e a).2) Z H;have Z:(ah D t.1,ah D t.2)∈bw (D*M) Y:=(by rw[<-ek];exact aK.2 ⟨t,q,rfl⟩);exact(NB a6 a5 a8 a7 b1 b0 a9 (λe a=>(J e a).1) (λe a=>(I e a).1) (λe a=>(J e a).2) (λe a=>(I e a).2) Z H).swap
theorem P8 (a:ix X) (b:ix Y) (c:lX X k1) (f:lX Y k2) (g:k2=0):Comm X k1 Y k2↔J1 X k1 Y k2:=⟨F0 a b c f g,FP a b c f⟩
end
def AE (a b p q:V2):Prop:=∀(m:Int) (u:V2),0<m->aU (ah m a) (ah m b) u->aU (ah m p) (ah m q) u->(u=ah m a\/u=ah m b)/\(u=ah m p\/u=ah m q)
variable {a p q:V2}
theorem AE.sym {b:V2} (h:AE a b p q):AE p q a b:=λm u c f g=>(h m u c g f).symm
theorem AE.swap {b:V2} (h:AE a b p q):AE b a p q:=λm u c f g=>by
 have:=h m u c (ax.1 f) g;exact⟨this.1.symm,this.2⟩
theorem ko {b:V2} (h:∀(m:Int) (u:V2),0<m->aU (ah m a) (ah m b) u->aU (ah m p) (ah m q) u->False):NM a b p q:=by
 have one:∀u,aU a b u->aU p q u->False:=λu c f=>h 1 u (by decide) (by rw[aZ,aZ];exact c) (by rw[aZ,aZ];exact f);refine⟨λk=>one a (bK _ _) k,λk=>one b (bp _ _) k,λk=>one p k (bK _ _),λk=>one q k (bp _ _),λk=>?_⟩;obtain⟨m,u,g,c,f⟩:=pk (e1:=(a,b)) (e2:=(p,q)) ⟨k.1,k.2⟩;exact h m u g c.1 f.1
def Vx (E:Ed) (v:V2):Prop:=∃e∈E,e.1=v
structure Dis (E D:Ed):Prop where
 qh:ix E
 yg:lX E 0
 vd:∀d∈D,Vx E d.1/\Vx E d.2/\d.1≠d.2
 ae:∀d∈D,∀e∈E,AE d.1 d.2 e.1 e.2
 dd:∀d∈D,∀d'∈D,d≠d'->AE d.1 d.2 d'.1 d'.2
 A0:∀d∈D,W (bw 2 E) (an d.1 d.2)=1
structure pJ (E D:Ed):Prop extends Dis E D where
 max:∀a b,Vx E a->Vx E b->a≠b->(∀e∈E,AE a b e.1 e.2)->(∀d∈D,AE a b d.1 d.2)->W (bw 2 E) (an a b)=1->False
def ow (E D:Ed) (q x:V2):Prop:=(q,x)∈E++D\/(x,q)∈E++D
def uP (E D:Ed) (p q:V2):Prop:=(p,q)∈E\/(p,q)∈D\/(q,p)∈D
section
variable {E D:Ed}
theorem ix.head {E:Ed} (s:ix E) {e:V2×V2} (h:e∈E):Vx E e.2:=by
 obtain⟨a,b,c⟩:=s.rn e h;exact⟨a,b,c⟩
theorem Dis.ends (h:Dis E D) {f:V2×V2} (a:f∈E++D):Vx E f.1/\Vx E f.2/\f.1≠f.2:=by
 rcases XP.1 a with q|q;exact⟨⟨f,q,rfl⟩,h.qh.head q,h.qh.nz f q⟩;exact h.vd f q
theorem Dis.pz (h:Dis E D) {v:V2} (i:Vx E v) {f:V2×V2} (j:f∈E++D) (a:aU f.1 f.2 v):v=f.1\/v=f.2:=by
 obtain⟨e,b,rfl⟩:=i;rcases XP.1 j with q|q;obtain⟨k,o,l,_,m⟩:=h.qh.out e b;by_cases c:f=e;left;rw[c];by_cases g:f=k;right;rw[g,l];exact absurd a (m f q c g);have:=h.ae f q e b 1 e.1 (by decide) (by rw[aZ,aZ];exact a) (by rw[aZ,aZ];exact bK _ _);rw[aZ,aZ]at this;exact this.1
theorem pt {b:V2} (c:a≠b) (h:AE a b a b):False:=by
 have f:aU (ah 2 a) (ah 2 b) (an a b):=by have:=(kI (x:=1) (y:=1) (by decide) (by decide) c (u:=an a b) (by simp[an]) (by simp[an])).1;exact this
 have:=(h 2 _ (by decide) f f).1;have q:=kI (x:=1) (y:=1) (by decide) (by decide) c (u:=an a b) (by simp[an]) (by simp[an]);rcases this with k|k;exact q.2.1 k;exact q.2.2 k
theorem Dis.side (h:Dis E D) {f a:V2×V2} (l:f∈E++D) (o:a∈E++D) (c:f≠a):AE f.1 f.2 a.1 a.2:=by
 rcases XP.1 l with q|q<;>rcases XP.1 o with b|b
 ·intro m u g i j;refine⟨?_,?_⟩;refine Xz λk=>h.qh.one f q a b c m u g i (λe=>k (.inl e)) (λe=>k (.inr e)) j;refine Xz λk=>h.qh.one a b f q (Zf c) m u g j (λe=>k (.inl e)) (λe=>k (.inr e)) i
 ·exact(h.ae a b f q).sym
 ·exact h.ae f q a b
 ·exact h.dd f q a b c
theorem uP.qH (h:uP E D p q):ow E D q p:=by
 rcases h with h|h|h;exact .inr (by simp[h]);exact .inr (by simp[h]);exact .inl (by simp[h])
theorem ow.ne (h:Dis E D) (k:ow E D p q):p≠q:=by
 rcases k with k|k;exact(h.ends k).2.2;exact(h.ends k).2.2.symm
theorem ow.vx (h:Dis E D) (k:ow E D p q):Vx E p/\Vx E q:=by
 rcases k with k|k;exact⟨(h.ends k).1,(h.ends k).2.1⟩;exact⟨(h.ends k).2.1,(h.ends k).1⟩
theorem ow.sym (k:ow E D p q):ow E D q p:=Or.symm k
theorem Dv (s:ix E) (C:∀e∈E,AE q p e.1 e.2) (D:p≠q):∀e∈bw 2 E,∀n:Nat,1<=n->NM (ah n e.1) (ah n e.2) (ah n (an q p)) (nr n (ah 2 q) (ag (an q p) (ah 2 q))):=by
 intro e O n a9;obtain⟨x,P,rfl⟩:=aK.1 O;have F:0<(n:Int):=by omega
 refine ko (λm u f t r=>?_);simp only[eu]at t;have w:=y6 n (by omega) (ah 2 q) (an q p);have Q:0<m*(n*2):=XC f (by omega);have G:aU (ah (m*(n*2)) q) (ah (m*(n*2)) p) u:=by have R:aU (ah 2 q) (ah 2 p) (an q p):=(kI (x:=1) (y:=1) (by decide) (by decide) D.symm (u:=an q p) (by simp[an]) (by simp[an])).1;have S:aU (ah m (ah n (ah 2 q))) (ah m (ah n (ah 2 p))) (ah m (ah n (an q p))):=iB f (iB F R);have T:=iB f w;have U:=aU.trans (ax.1 T) (ax.1 r);have H:=aU.trans (ax.1 S) (ax.1 U);simp only[eu]at H;exact ax.1 H
 have V:ag (an q p) (ah 2 q)=ag p q:=V2.ext (by simp only[ag,an,ah];omega) (by simp only[ag,an,ah];omega);rw[V]at r w;have X:=r;obtain⟨_,g,h,i,j⟩:=X;simp only[ah,an,nr,ag]at g h i j;have I:0<m*n:=XC f F;have A:∀a b:Int,m*(n*(a+b))=m*n*a+m*n*b/\m*(n*(2*a)+(b-a))=2*(m*n)*a+m*(b-a)/\m*(n*2)*a=2*(m*n)*a/\m*(n*2)*b=2*(m*n)*b:=λa b=>⟨by grind,by grind,by grind,by grind⟩;have l:=A q.x p.x;have o:=A q.y p.y;have J:=(C x P (m*(n*2)) u Q G t).1;have Y:∀a b:Int,a≠b->m*n*a+m*n*b≠2*(m*n)*a/\m*n*a+m*n*b≠2*(m*n)*b:=λa b K=>by
  have M:m*n*a+m*n*b-2*(m*n)*a=m*n*(b-a):=(by grind);have N:m*n*a+m*n*b-2*(m*n)*b=m*n*(a-b):=(by grind);have b0:m*n*(b-a)≠0:=λz=>by have:=(mz z).resolve_left (by omega);omega
  have b1:m*n*(a-b)≠0:=λz=>by have:=(mz z).resolve_left (by omega);omega
  omega
 have str:∀a b c:Int,a<b->(m*n*a+m*n*b<=c\/2*(m*n)*a+m*(b-a)<=c)/\(c<=m*n*a+m*n*b\/c<=2*(m*n)*a+m*(b-a))->2*(m*n)*a<c/\c<2*(m*n)*b:=λa b c K Z=>by have a0:=XC f (show 0<b-a by omega);have a1:=XC I (show 0<b-a by omega);have M:m*n*(b-a)=m*n*b-m*n*a:=(by grind);have a2:2*(m*n)*a=2*(m*n*a):=(by grind);have a3:2*(m*n)*b=2*(m*n*b):=(by grind);have N:m*(b-a)<=m*n*(b-a):=(by have:=Yo (show m<=m*n by have:=XH (show(1:Int)<=n by omega) (show 0<=m by omega);omega) (show 0<=b-a by omega);exact this);omega
 have B:∀a b c:Int,b<a->(m*n*a+m*n*b<=c\/2*(m*n)*a+m*(b-a)<=c)/\(c<=m*n*a+m*n*b\/c<=2*(m*n)*a+m*(b-a))->c<2*(m*n)*a/\2*(m*n)*b<c:=λa b c K Z=>by have a0:=XC f (show 0<a-b by omega);have a1:=XC I (show 0<a-b by omega);have M:m*n*(a-b)=m*n*a-m*n*b:=(by grind);have a2:2*(m*n)*a=2*(m*n*a):=(by grind);have a3:2*(m*n)*b=2*(m*n*b):=(by grind);have b2:m*(b-a)= -(m*(a-b)):=(by grind);have N:m*(a-b)<=m*n*(a-b):=(by have:=Yo (show m<=m*n by have:=XH (show(1:Int)<=n by omega) (show 0<=m by omega);omega) (show 0<=a-b by omega);exact this);omega
 simp only[ah,V2.eq_iff]at J;rw[l.1,l.2.1]at g h;rw[o.1,o.2.1]at i j;rw[l.2.2.1,l.2.2.2,o.2.2.1,o.2.2.2]at J;have a4:=λc=>str q.x p.x u.x c ⟨g,h⟩;have a5:=λc=>B q.x p.x u.x c ⟨g,h⟩;have a6:=λc=>str q.y p.y u.y c ⟨i,j⟩;have a7:=λc=>B q.y p.y u.y c ⟨i,j⟩;have a8:q.x≠p.x\/q.y≠p.y:=by refine Xz λk=>D (V2.ext (by omega) (by omega))
 clear str B Y A t r w G C g h i j l o;rcases a8 with c|c;rcases Yh c with c|c;have:=a4 c;omega;have:=a5 c;omega;rcases Yh c with c|c;have:=a6 c;omega;have:=a7 c;omega
end
variable {a:Int}
theorem QV {b:Int} (g:0<a) (h:0<b) (f d:V2):rk (ah a f) (ah b d)=rk f d:=by
 have i:aa (ah a f) (ah b d)=a*b*aa f d:=by simp only[aa,ah];grind
 have j:av (ah a f) (ah b d)=a*b*av f d:=by simp only[av,ah];grind
 have k:=cx (aa f d) (XC g h);have l:=cx (av f d) (XC g h);rw[X9]at k l;have c:=bl f d;have m:=bl (ah a f) (ah b d);rw[i,j]at m;omega
theorem R9 {b c:Int} (h:0<a) (i:0<b) (j:0<c) (f g d:V2):mP (ah a f) (ah b g) (ah c d)↔mP f g d:=by
 have k:aa (ah c d) (ah b g)=c*b*aa d g:=by simp only[aa,ah];grind
 have l:=cx (aa d g) (XC j i);rw[X9]at l;unfold mP;rw[QV h j,QV h i,k];omega
variable {p q:V2}
section
variable {E D:Ed}
theorem uP.ne (h:Dis E D) (a:uP E D p q):p≠q:=(ow.ne h a.qH).symm
theorem ix.two (s:ix E) (h:Vx E q):∃x y,(q,x)∈E/\(y,q)∈E/\Cn E q (ag x q) (ag y q)/\∀e∈E,aU e.1 e.2 q->e=(q,x)\/e=(y,q):=by
 obtain⟨e,a,rfl⟩:=h;obtain⟨b,f,c,_,j⟩:=s.out e a;refine⟨e.2,b.1,a,by rw[<-c];exact f,.inl ⟨e,a,b,f,rfl,c,rfl,rfl⟩,λx k l=>?_⟩;by_cases g:x=e;left;rw[g];by_cases i:x=b;right;rw[i,<-c];exact absurd l (j x k g i)
theorem Fi (h:Dis E D) {s:V2} (a:uP E D p q) (hs:0<aa (ag q p) s) (f:∀y,ow E D q y->¬(0<=aa s (ag y q)/\0<aa (ag y q) (ag p q))):Ev λn=>W (bw n E) (nr n q s)=1:=by
 have b:=a.ne h;obtain⟨x,y,r,u,M,N⟩:=h.qh.two (a.qH.vx h).1;obtain⟨O,c,g,A⟩:=h.qh.gb M;have nx:ow E D q x:= .inl (by simp[r]);have P:ow E D q y:= .inr (by simp[u]);have i:aa (ag p q) s<0:=by have:aa (ag q p) s= -aa (ag p q) s:=(by simp only[aa,ag];grind);omega
 have Q:ag p q≠⟨0,0⟩:=cC b;have j:s≠⟨0,0⟩:=λe=>by rw[e]at i;simp[aa]at i
 have B:∀{v:V2},ow E D q v->ag v q≠⟨0,0⟩->rk (ag v q) s≠3:=λ{v} R C k=>by obtain⟨z,d⟩:=lj k C j;have a6:=((df (ag p q) z C).1 d).1;have F:=aO (ag v q) s;have a7:=aO (ag p q) s;exact f v R ⟨by omega,by omega⟩
 have G:=B nx g;have S:=B P A;have T:mP (ag x q) (ag y q) s:=by
  refine Xz λH=>?_;by_cases l:(p,q)∈E;have I:p=y:=(by rcases N _ l (bp _ _)with k|k;exact absurd (XT (·.1) k) b;exact XT (·.1) k);have m:=sA g A j c G S H;have U:=bl (ag y q) (ag x q);have V:=bl (ag y q) s;have X:=qX c;have F:=aO (ag y q) (ag x q);rw[I]at i;have:=f x nx;rw[I]at this;rcases m with k|⟨Y,Z,a0⟩;omega;omega
  ·have a1:∀e∈E,AE q p e.1 e.2:=λe J=>by rcases a with k|k|k;exact absurd k l;exact(h.ae _ k e J).swap;exact h.ae _ k e J
   have a2:W (bw 2 E) (an q p)+0=1:=(by rcases a with k|k|k;exact absurd k l;have:=h.A0 _ k;rw[show an q p=an p q from V2.ext (by simp only[an];omega) (by simp only[an];omega),this];rfl;rw[h.A0 _ k];rfl);have a3:Cn (bw 2 E) (ah 2 q) (ah 2 (ag x q)) (ah 2 (ag y q)):= .inl ⟨(ah 2 q,ah 2 x),aK.2 ⟨_,r,rfl⟩,(ah 2 y,ah 2 q),aK.2 ⟨_,u,rfl⟩,rfl,rfl,(hQ _ _ _).symm,(hQ _ _ _).symm⟩;have o:=rD (h.qh.sc (by decide)) (h.yg.sc (by decide)) a3 (w:=an q p) (λe=>b (by simp only[ah,an,V2.mk.injEq]at e;exact V2.ext (by omega) (by omega))) a2 (Dv h.qh a1 b);have a4:ag (an q p) (ah 2 q)=ah 1 (ag p q):=(by rw[aZ];exact V2.ext (by simp only[ag,an,ah];omega) (by simp only[ag,an,ah];omega));rw[a4,R9 (by decide) (by decide) (by decide)]at o;obtain⟨_,_,K⟩:=Ay o c;have a5:¬mP (ag x q) (ag p q) s:=λk=>H (sz o k|>λt=>t);have V:=bl (ag p q) s;have m:=sA g Q j K G (by omega) a5;have U:=bl (ag p q) (ag x q);have X:=qX K;have F:=aO (ag p q) (ag x q);have:=f x nx;rcases m with k|⟨Y,Z,a0⟩;omega;omega
 exact(O.inside h.yg c T).imp λn k=>by omega
theorem I9 (h:Dis E D) {r:V2} (m:uP E D p q) (B:ow E D q r) (Y:0<aa (ag r q) (ag p q)) (C:∀y,ow E D q y->¬(0<aa (ag r q) (ag y q)/\0<aa (ag y q) (ag p q))):uP E D q r:=by
 rcases B with k|k;rcases XP.1 k with k|k;exact .inl k;exact .inr (.inl k);rcases XP.1 k with k|k
 ·exfalso;obtain⟨x,y,Z,a0,o,F⟩:=h.qh.two (m.qH.vx h).1;have G:=h.qh.nz _ k;have H:r=y:=(by rcases F _ k (bp _ _)with e|e;exact absurd (XT (·.1) e) G;exact XT (·.1) e);obtain⟨u,l,a1,j⟩:=h.qh.gb o;rw[<-H]at o u l j;generalize I:ag r q=g at*;have J:0<av g g:=bL j;have one:∀v:V2,0<aa (ag v q) (ag p q)->¬0<aa g (ag v q)->Ev λK=>aa (mix K g (dw g)) (ag v q)<0:=λv i a2=>by
   by_cases z:aa g (ag v q)=0
   ·refine .of λK=>?_;rw[dW,z,X8,Zk];have a3:aa (dw g) (ag v q)= -av g (ag v q):=(by simp only[aa,dw,av];grind);have M:=df (ag p q) z j;have:¬av g (ag v q)<0:=λk=>by have:=(M.2 k).1;omega
    have:av g (ag v q)≠0:=λk=>by have e:=fO (e:=ag p q) z;rw[k,Yd]at e;have:=(mz e).resolve_left (by omega);omega
    omega
   ·refine(jR (aa (dw g) (ag v q)) (show aa g (ag v q)<0 by omega)).imp λK k=>?_;rw[dW];exact k
  have w:∀v:V2,ow E D q v->Ev λK=>0<aa (ag v q) (ag p q)->aa (mix K g (dw g)) (ag v q)<0:=λv i=>by by_cases c:0<aa (ag v q) (ag p q);exact(one v c (λk=>C v i ⟨k,c⟩)).imp λK k _=>k;exact .of λK k=>absurd k c
  have N:Ev λK=>∀v,ow E D q v->0<aa (ag v q) (ag p q)->aa (mix K g (dw g)) (ag v q)<0:=by
   have O:Ev λK=>∀f∈E++D,(f.1=q->0<aa (ag f.2 q) (ag p q)->aa (mix K g (dw g)) (ag f.2 q)<0)/\(f.2=q->0<aa (ag f.1 q) (ag p q)->aa (mix K g (dw g)) (ag f.1 q)<0):=
    Ev.all (E++D) (λf A=>by have P:Ev λK=>f.1=q->0<aa (ag f.2 q) (ag p q)->aa (mix K g (dw g)) (ag f.2 q)<0:=(by by_cases c:f.1=q;exact(w f.2 (.inl (by rw[<-c];exact A))).imp λK k _=>k;exact .of λK k=>absurd k c);have Q:Ev λK=>f.2=q->0<aa (ag f.1 q) (ag p q)->aa (mix K g (dw g)) (ag f.1 q)<0:=(by by_cases c:f.2=q;exact(w f.1 (.inr (by rw[<-c];exact A))).imp λK k _=>k;exact .of λK k=>absurd k c);exact P.and Q)
   refine O.imp λK k v i=>?_;rcases i with i|i;exact(k _ i).1 rfl;exact(k _ i).2 rfl
  have R:0<aa (ag q p) g:=(by have:aa (ag q p) g=aa g (ag p q):=(by rw[<-I];simp only[aa,ag];grind);omega);obtain⟨K,_,S,T,U⟩:=(N.and ((dK (aa (ag q p) (dw g)) R).and (jm (t:=dw g) (qX l) j j (uW j) (by rw[pn];exact J)))).ex 0;have V:=Fi h m (s:=mix K g (dw g)) (by rw[ew];exact T) (λv i ⟨a,b⟩=>by have:=S v i b;omega);obtain⟨n,_,a4,X⟩:=(V.and (u.rev.inside h.yg.rev (qX l) U)).ex 1;rw[kj,uk]at X;omega
 ·exact .inr (.inr k)
theorem pJ.clear (h:pJ E D) {x:V2} (g:Vx E q) (i:Vx E x) (c:q≠x) (b:∀f∈E++D,AE q x f.1 f.2) (hw:Ev λn=>W (bw n E) (nr n q (ag x q))=1):False:=by
 refine h.max q x g i c (λe a=>b e (by simp[a])) (λd j=>b d (by simp[j])) ?_;obtain⟨N,l⟩:=hw;have k:=l (2*(N+1)) (by omega);have m:=Dv h.qh (λe a=>b e (by simp[a])) c.symm;have p:=hA ((h.qh.cP.sc 2).sc ((N+1:Nat):Int)) (p:=ah ((N+1:Nat):Int) (an q x)) (q:=nr ((N+1:Nat):Int) (ah 2 q) (ag (an q x) (ah 2 q))) (λe a=>by obtain⟨y,o,rfl⟩:=aK.1 a;exact m y o (N+1) (by omega));rw[kQ (by omega),ek]at p;have r:nr ((N+1:Nat):Int) (ah 2 q) (ag (an q x) (ah 2 q))=nr ((2*(N+1):Nat):Int) q (ag x q):=by refine V2.ext ?_ ?_;simp only[nr,ah,ag,an];rw[show((2*(N+1):Nat):Int)=2*((N+1:Nat):Int) by omega];grind;simp only[nr,ah,ag,an];rw[show((2*(N+1):Nat):Int)=2*((N+1:Nat):Int) by omega];grind
 rw[r,show((N+1:Nat):Int)*2=((2*(N+1):Nat):Int) by omega]at p;rw[p];exact k
theorem Dis.nL (h:Dis E D) {f a:V2×V2} (g:f∈E++D) (i:a∈E++D):¬kU f a:=λc=>by
 by_cases e:f=a;subst e;have z:aj f.1 f.2 f.1=0:=(by simp only[aj,aa,ag];grind);unfold kU at c;omega;obtain⟨m,u,j,b,l⟩:=pk c;have:=(h.side g i e m u j b.1 l.1).1;rcases this with k|k;exact b.2.1 k;exact b.2.2 k
theorem gu {a b r:V2} {k:Int} (h:aU p q r) (f:aj a b p<=k:=by omega) (h2:aj a b q<=k:=by omega):aj a b r<=k:=by
 obtain⟨i,j⟩:=uT (a:=a) (b:=b) h.1;obtain⟨_,u,w,A,B⟩:=h;have g:∀x y z:Int,(y-x)*aj a b r=(y-z)*aj a b p+(z-x)*aj a b q->((x<=z/\z<=y)\/(y<=z/\z<=x))->x≠y->aj a b r<=k:=by intro x y z e C l;rcases Yh l with c|c;have m:=XH f (show 0<=y-z by omega);have o:=XH h2 (show 0<=z-x by omega);refine YT (a:=y-x) ?_ (by omega);have:(y-x)*k=(y-z)*k+(z-x)*k:=(by grind);omega;have m:=XH f (show 0<=z-y by omega);have o:=XH h2 (show 0<=x-z by omega);refine YT (a:=x-y) ?_ (by omega);have D:(x-y)*k=(z-y)*k+(x-z)*k:=(by grind);have E:(x-y)*aj a b r=(z-y)*aj a b p+(x-z)*aj a b q:=(by grind);omega
 by_cases c:p.x=q.x;by_cases t:p.y=q.y;have e:r=p:=V2.ext (by omega) (by omega);rw[e];exact f;exact g p.y q.y r.y j (by omega) t;exact g p.x q.x r.x i (by omega) c
theorem OX {a b c g v:V2} (f:aj c g v=0) (j:0<aj a b c) (h2:aj a b v=0) (q:aj a b g<0):aU c g v:=by
 have ex:(aj a b c-aj a b g)*(v.x-c.x)=aj a b c*(g.x-c.x):=by simp only[aj,aa,ag]at f h2|-;grind
 have l:(aj a b c-aj a b g)*(v.y-c.y)=aj a b c*(g.y-c.y):=by simp only[aj,aa,ag]at f h2|-;grind
 generalize aj a b c=s at*;generalize aj a b g=t at*;have k:∀x y z:Int,(s-t)*(z-x)=s*(y-x)->((x<=z/\z<=y)\/(y<=z/\z<=x)):=by intro x y z e;have m:(s-t)*(y-z)= -t*(y-x):=(by grind);rcases YK x y with c|c;left;have h:=XF (XN j) (show 0<=y-x by omega);have i:=XF (show 0<= -t by omega) (show 0<=y-x by omega);have o:0<=z-x:=(by refine YT (a:=s-t) ?_ (by omega);rw[e,X8];exact h);have p:0<=y-z:=(by refine YT (a:=s-t) ?_ (by omega);rw[m,X8];exact i);omega;right;have h:=XF (XN j) (show 0<=x-y by omega);have i:=XF (show 0<= -t by omega) (show 0<=x-y by omega);have o:0<=x-z:=(by refine YT (a:=s-t) ?_ (by omega);have:(s-t)*(x-z)=s*(x-y):=(by grind);rw[this,X8];exact h);have p:0<=z-y:=(by refine YT (a:=s-t) ?_ (by omega);have:(s-t)*(z-y)= -t*(x-y):=(by grind);rw[this,X8];exact i);omega
 have r:=k c.x g.x v.x ex;have u:=k c.y g.y v.y l;exact⟨f,by omega,by omega,by omega,by omega⟩
structure Kn (E D:Ed) (p q r:V2):Prop where
 te:uP E D p q
 qH:ow E D q r
 left:0<aj p q r
 free:∀y,ow E D q y->¬(0<aa (ag r q) (ag y q)/\0<aa (ag y q) (ag p q))
theorem vN (p q r:V2):aa (ag r q) (ag p q)=aj p q r:=by simp only[aj,aa,ag];grind
theorem QL (q r y:V2):aa (ag r q) (ag y q)=aj q r y:=rfl
theorem Kn.G5 (h:Dis E D) {r:V2} (K:Kn E D p q r) {I:Int} (Z:0<=I) (R:∀v,Vx E v->v≠q->0<=aj q r v->0<=aj r p v->0<=aj p q v->aj r p v<=I)
  {f:V2×V2} (a0:f∈E++D) {m:Int} (N:0<m) {c:V2} (j:aU (ah m f.1) (ah m f.2) c) (C:0<aj (ah m q) (ah m r) c) (J:0<aj (ah m p) (ah m q) c) (b4:m*m*I<aj (ah m r) (ah m p) c):False:=by
 have u:0<m*m:=XC N N;have b5:∀{x y:Int},m*m*x<m*m*y->x<y:=λ{x y} k=>Zs k (XN u);have b6:0<=m*m*I:=XF (XN u) Z;have key:∀{f1 g:V2},(f1,g)∈E++D\/(g,f1)∈E++D->aU (ah m f1) (ah m g) c->aj (ah m r) (ah m p) c<=aj (ah m r) (ah m p) (ah m g)->False:=by
  intro f1 g O j a1;have b7:Vx E g:=(by rcases O with k|k;exact(h.ends k).2.1;exact(h.ends k).1);have a2:∀{a b:V2},(a,b)∈E++D\/(b,a)∈E++D->¬kU (ah m a,ah m b) (c,ah m g):=by
   intro a b b8 k;have b9:=pj j k;have P:kU (a,b) (f1,g):=(xw N (e1:=(a,b)) (e2:=(f1,g))).1 b9;rcases b8 with x|x<;>rcases O with y|y
   ·exact h.nL x y P
   ·exact h.nL x y (eQ P)
   ·exact h.nL x y (eQ P.sym).sym
   ·exact h.nL x y (eQ (eQ P.sym).sym)
  have c0:(p,q)∈E++D\/(q,p)∈E++D:=Or.symm K.te.qH;have c1:(q,r)∈E++D\/(r,q)∈E++D:=K.qH;by_cases S:g=q;subst S;have c2:0<aj g r f1:=(by refine Y5.1 λk=>?_;have:=gu (a:=ah m g) (b:=ah m r) (k:=0) j (by rw[cc];exact XM (XN u) k) (by simp only[aj,aa,ag];grind);omega);have c3:0<aj p g f1:=(by refine Y5.1 λk=>?_;have:=gu (a:=ah m p) (b:=ah m g) (k:=0) j (by rw[cc];exact XM (XN u) k) (by simp only[aj,aa,ag];grind);omega);exact K.free f1 (Or.symm O) ⟨by rw[QL];exact c2,by rw[vN];exact c3⟩
  ·have c4:I<aj r p g:=b5 (by rw[cc]at a1;omega);have c5:aj q r g<0\/aj p q g<0:=(by refine Xz λk=>?_;have:=R g b7 S (by omega) (by omega) (by omega);omega);have T:0<aj (ah m p) (ah m q) (ah m r):=(by rw[cc];exact XC u K.left);have a3:aj (ah m q) (ah m r) (ah m g)=m*m*aj q r g:=cc _ _ _ _;have c6:aj (ah m r) (ah m p) (ah m g)=m*m*aj r p g:=cc _ _ _ _;have a4:aj (ah m p) (ah m q) (ah m g)=m*m*aj p q g:=cc _ _ _ _;have a5:=bf (n:=m*m) (x:=aj q r g) u;have a6:=bf (n:=m*m) (x:=aj p q g) u;rw[<-a3]at a5;rw[<-a4]at a6;have a7:aj (ah m p) (ah m q) (ah m r)*aj c (ah m g) (ah m p)=aj (ah m r) (ah m p) c*aj (ah m p) (ah m q) (ah m g)-aj (ah m r) (ah m p) (ah m g)*aj (ah m p) (ah m q) c:=(by simp only[aj,aa,ag];grind);have a8:aj (ah m p) (ah m q) (ah m r)*aj c (ah m g) (ah m q)=aj (ah m p) (ah m q) c*aj (ah m q) (ah m r) (ah m g)-aj (ah m p) (ah m q) (ah m g)*aj (ah m q) (ah m r) c:=(by simp only[aj,aa,ag];grind);have a9:aj (ah m p) (ah m q) (ah m r)*aj c (ah m g) (ah m r)=aj (ah m q) (ah m r) c*aj (ah m r) (ah m p) (ah m g)-aj (ah m r) (ah m p) c*aj (ah m q) (ah m r) (ah m g):=(by simp only[aj,aa,ag];grind);have l:=a2 c0;have i:=a2 c1;unfold kU at l i;simp only at l i;have w:aj c (ah m g) (ah m q)=0->aj (ah m p) (ah m q) (ah m g)<0->False:=λz A=>by have c7:=OX (a:=ah m p) (b:=ah m q) z J (by simp only[aj,aa,ag];grind) A;have c8:aU (ah m g) (ah m f1) (ah m q):=ax.1 (aU.trans j c7);have b0:aU g f1 q:=(gW N).1 c8;have c9:q=g\/q=f1:=(by rcases O with k|k;exact(h.pz (K.qH.vx h).1 k (ax.1 b0)).symm;exact h.pz (K.qH.vx h).1 k b0);rcases c9 with e|e;exact S e.symm;subst e;have:=gu (a:=ah m p) (b:=ah m q) (k:=0) j (by simp only[aj,aa,ag];grind);omega
   have U:0<aj (ah m r) (ah m p) c:=(by omega);have Bg:0<aj (ah m r) (ah m p) (ah m g):=(by omega);generalize aj (ah m p) (ah m q) (ah m r)=V at*;generalize aj (ah m r) (ah m p) c=d7 at*;generalize aj (ah m r) (ah m p) (ah m g)=d8 at*;generalize aj (ah m p) (ah m q) c=d9 at*;generalize aj (ah m p) (ah m q) (ah m g)=X at*;generalize aj (ah m q) (ah m r) c=e0 at*;generalize aj (ah m q) (ah m r) (ah m g)=Q at*;generalize aj c (ah m g) (ah m p)=b1 at*;generalize aj c (ah m g) (ah m q)=Y at*;generalize aj c (ah m g) (ah m r)=b2 at*;have o:=bf (n:=V) (x:=b1) T;have M:=bf (n:=V) (x:=Y) T;have t:=bf (n:=V) (x:=b2) T;rw[a7]at o;rw[a8]at M;rw[a9]at t;clear a7 a8 a9;have o:=o.2.1.1;have F:=M.1.1;have G:=M.2.1.1;have t:=t.1.1;have H:0<=X->Q<0:=(by clear l i w o M F G t R;omega);clear a5 a6 a3 c6 a4 c5 a1 b4 b6 Z c4 R M;by_cases A:X<0;have d0:=Yb U A;have d1:=XC Bg J;have e3:=X3 A C;have d2:b1<0:=o (by clear l i w F G t H;omega);rcases YJ Y 0 with k|k|k;by_cases B:Q<0;have d3:=XC C Bg;have d4:=Yb U B;have d5:0<b2:=t (by clear l i w F G H o;omega);exact i ⟨.inr ⟨k,d5⟩,.inl ⟨C,B⟩⟩;have e4:=XF (XN J) (show 0<=Q from ZN.1 B);have:0<Y:=F (by clear l i w G H o t;omega);exact absurd this (ZN.2 (XN k));exact w k A;exact l ⟨.inr ⟨d2,k⟩,.inl ⟨J,A⟩⟩;have b3:0<=X:=ZN.1 A;have B:Q<0:=H b3;have d0:=Yb J B;have d1:=XF b3 (XN C);have d3:=XC C Bg;have d4:=Yb U B;exact i ⟨.inr ⟨G (by clear l i w F H o t;omega),t (by clear l i w F H o G;omega)⟩,.inl ⟨C,B⟩⟩
 by_cases d6:aj (ah m r) (ah m p) c<=aj (ah m r) (ah m p) (ah m f.2);exact key (f1:=f.1) (g:=f.2) (.inl a0) j d6;refine key (f1:=f.2) (g:=f.1) (.inr a0) (ax.1 j) (ZN.1 λk=>?_);have:=gu (a:=ah m r) (b:=ah m p) (k:=aj (ah m r) (ah m p) c-1) j;omega
end
end Sg
end Go.Vm
