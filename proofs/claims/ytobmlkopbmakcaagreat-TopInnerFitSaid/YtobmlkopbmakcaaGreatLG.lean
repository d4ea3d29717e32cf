import Derived.Test.YtobmlkopbmakcaaGreatLF
set_option linter.unusedVariables false
set_option linter.unusedSimpArgs false
set_option maxRecDepth 20000
namespace Go.Vm
open Go Go.RowKit Go.Proofs
namespace Sg
def ai (a b c:V2):Int:=aa (af b a) (af c a)
def aV (a b p:V2):Prop:=ai a b p=0/\(a.x<=p.x\/b.x<=p.x)/\(p.x<=a.x\/p.x<=b.x)/\(a.y<=p.y\/b.y<=p.y)/\(p.y<=a.y\/p.y<=b.y)
structure NM (a b p q:V2):Prop where
 a_:¬aV p q a
 b_:¬aV p q b
 p_:¬aV a b p
 q_:¬aV a b q
 cr:¬(((0<ai p q a/\ai p q b<0)\/(ai p q a<0/\0<ai p q b))/\((0<ai a b p/\ai a b q<0)\/(ai a b p<0/\0<ai a b q)))
theorem aU (a b c:V2):ai b a c= -ai a b c:=by
 simp only[ai,aa,af];grind
variable {a p:V2}
theorem au {b:V2}:aV b a p↔aV a b p:=by
 unfold aV;rw[aU];omega
variable {q:V2}
theorem NM.rev {b:V2} (h:NM a b p q):NM b a p q:=by
 refine⟨h.b_,h.a_,λk=>h.p_ (au.1 k),λk=>h.q_ (au.1 k),λk=>h.cr ?_⟩;rw[aU a b p,aU a b q]at k;omega
theorem NM.swap {b:V2} (h:NM a b p q):NM a b q p:=by
 refine⟨λk=>h.a_ (au.1 k),λk=>h.b_ (au.1 k),h.q_,h.p_,λk=>h.cr ?_⟩;rw[aU p q a,aU p q b]at k;omega
variable {y:Int}
theorem ct (x:Int) (h:0<y):(0<x->0<x*y)/\(x<0->x*y<0)/\(x=0->x*y=0):=by
 refine⟨λk=>XC k h,λk=>X2 k h,λk=>by rw[k,Yb]⟩
theorem Eu (x:Int) (h:0<=y):(0<x->0<y->0<x*y)/\(x<0->0<y->x*y<0)/\(x=0->x*y=0)/\(y=0->x*y=0):=by
 refine⟨λk h=>XC k h,λk h=>X2 k h,λk=>by rw[k,Yb],λk=>by rw[k,Yh]⟩
variable {x:Int}
theorem wn (a:x<=0) (b:0<=y):x*y<=0:=YD a b
theorem sg (a:0<y):(x*y<0->x<0)/\(0<x*y->0<x):=by
 refine⟨λk=>Xz λq=>?_,λk=>Xz λq=>?_⟩;have:=XM (show 0<=x by omega) (XO a);omega;have:=wn (show x<=0 by omega) (XO a);omega
structure Q4 (al be ga de ya yb yp yq:Int):Prop where
 up:ya<=yb
 le:yp<=yq
 sum:al-be=de-ga
 P:be*(yp-ya)+al*(yb-yp)+ga*(yq-yp)=0
 Q:be*(yq-ya)+al*(yb-yq)+de*(yq-yp)=0
 A:al*(yb-ya)+de*(ya-yp)+ga*(yq-ya)=0
 B:be*(yb-ya)+de*(yb-yp)+ga*(yq-yb)=0
 Fa:¬(al=0/\yp<yq/\yp<=ya/\ya<=yq)
 Fb:¬(be=0/\yp<yq/\yp<=yb/\yb<=yq)
 Fp:¬(ga=0/\ya<yb/\ya<=yp/\yp<=yb)
 Fq:¬(de=0/\ya<yb/\ya<=yq/\yq<=yb)
 F2:¬(yp<yq/\ya=yq/\yb=yq/\de=0/\((al<0/\0<be)\/(be<0/\0<al)))
 F3:¬(yp=yq/\ya=yp/\ya<yb/\al=0/\((de<0/\0<ga)\/(ga<0/\0<de)))
 cr:¬(((0<al/\be<0)\/(al<0/\0<be))/\((0<ga/\de<0)\/(ga<0/\0<de)))
section
variable {al be ga de ya yb yp yq:Int}
theorem Q4.l1 (h:Q4 al be ga de ya yb yp yq) (m:ya<=yp) (h2:yp<yb) (o:yb<=yq):0<ga↔be<0:=by
 constructor<;>intro k<;>refine Xz (λp=>h.cr ?_)
 ·have a:0<be:=(by have:=h.Fb;omega);have g:=XM (XO a) (show 0<=yp-ya by omega);have i:=XC k (show 0<yq-yp by omega);have j:=XC a (show 0<yb-ya by omega);have l:=XM (XO k) (show 0<=yq-yb by omega);have b:=(sg (x:=al) (show 0<yb-yp by omega)).1 (by have:=h.P;omega);have c:=(sg (x:=de) (show 0<yb-yp by omega)).1 (by have:=h.B;omega);exact⟨.inr ⟨b,a⟩,.inl ⟨k,c⟩⟩
 ·have f:ga<0:=(by have:=h.Fp;omega);have g:=wn (XO k) (show 0<=yp-ya by omega);have i:=X2 f (show 0<yq-yp by omega);have j:=X2 k (show 0<yb-ya by omega);have l:=wn (XO f) (show 0<=yq-yb by omega);have b:=(sg (x:=al) (show 0<yb-yp by omega)).2 (by have:=h.P;omega);have c:=(sg (x:=de) (show 0<yb-yp by omega)).2 (by have:=h.B;omega);exact⟨.inl ⟨b,k⟩,.inr ⟨f,c⟩⟩
theorem Q4.l3 (h:Q4 al be ga de ya yb yp yq) (u:ya<=yp) (h2:yq<yb):0<ga↔0<de:=by
 have w:=h.le;have x:=h.sum;constructor<;>intro k<;>refine Xz (λy=>h.cr ?_)
 ·have f:de<0:=(by have:=h.Fq;omega);have a:0<be:=(by refine Xz (λa=>?_);have g:=wn (show be<=0 by omega) (show 0<=yq-ya by omega);have i:=X2 (show al<0 by omega) (show 0<yb-yq by omega);have j:=wn (XO f) (show 0<=yq-yp by omega);have:=h.Q;omega);have b:al<0:=(by refine Xz (λb=>h.F3 ?_);have l:=XM (XO a) (show 0<=yp-ya by omega);have m:=XM (show 0<=al by omega) (show 0<=yb-yp by omega);have o:=XM (XO k) (show 0<=yq-yp by omega);have p:=λq=>XC a (show 0<yp-ya from q);have r:=λq=>XC (show 0<al from q) (show 0<yb-yp by omega);have t:=λq=>XC k (show 0<yq-yp from q);have:=h.P;refine⟨by omega,by omega,by omega,by omega,.inl ⟨f,k⟩⟩);exact⟨.inr ⟨b,a⟩,.inl ⟨k,f⟩⟩
 ·have c:ga<0:=(by have:=h.Fp;omega);have a:be<0:=(by refine Xz (λa=>?_);have g:=XM (show 0<=be by omega) (show 0<=yq-ya by omega);have i:=XC (show 0<al by omega) (show 0<yb-yq by omega);have j:=XM (XO k) (show 0<=yq-yp by omega);have:=h.Q;omega);have b:0<al:=(by refine Xz (λb=>h.F3 ?_);have l:=wn (XO a) (show 0<=yp-ya by omega);have m:=wn (show al<=0 by omega) (show 0<=yb-yp by omega);have o:=wn (XO c) (show 0<=yq-yp by omega);have p:=λq=>X2 a (show 0<yp-ya from q);have r:=λq=>X2 (show al<0 from q) (show 0<yb-yp by omega);have t:=λq=>X2 c (show 0<yq-yp from q);have:=h.P;refine⟨by omega,by omega,by omega,by omega,.inr ⟨c,k⟩⟩);exact⟨.inl ⟨b,a⟩,.inr ⟨c,k⟩⟩
theorem Q4.l4 (h:Q4 al be ga de ya yb yp yq) (m:yp<ya) (h2:ya<=yq) (o:yq<yb):0<de↔al<0:=by
 constructor<;>intro k<;>refine Xz (λp=>h.cr ?_)
 ·have a:0<al:=(by have:=h.Fa;omega);have g:=XC a (show 0<yb-ya by omega);have i:=XC k (show 0<ya-yp by omega);have j:=XC a (show 0<yb-yq by omega);have l:=XC k (show 0<yq-yp by omega);have b:ga<0:=(by refine Xz (λq=>?_);have:=XM (show 0<=ga by omega) (show 0<=yq-ya by omega);have:=h.A;omega);have c:be<0:=(by refine Xz (λq=>?_);have:=XM (show 0<=be by omega) (show 0<=yq-ya by omega);have:=h.Q;omega);exact⟨.inl ⟨a,c⟩,.inr ⟨b,k⟩⟩
 ·have f:de<0:=(by have:=h.Fq;omega);have g:=X2 k (show 0<yb-ya by omega);have i:=X2 f (show 0<ya-yp by omega);have j:=X2 k (show 0<yb-yq by omega);have l:=X2 f (show 0<yq-yp by omega);have b:0<ga:=(by refine Xz (λq=>?_);have:=wn (show ga<=0 by omega) (show 0<=yq-ya by omega);have:=h.A;omega);have c:0<be:=(by refine Xz (λq=>?_);have:=wn (show be<=0 by omega) (show 0<=yq-ya by omega);have:=h.Q;omega);exact⟨.inr ⟨k,c⟩,.inl ⟨b,f⟩⟩
theorem Q4.l2 (h:Q4 al be ga de ya yb yp yq) (p:yp<ya) (h2:yb<=yq):al<0↔be<0:=by
 have r:=h.up;have t:=h.sum;constructor<;>intro k<;>refine Xz (λu=>h.cr ?_)
 ·have b:0<be:=(by have:=h.Fb;omega);have a:0<ga:=(by refine Xz (λq=>?_);have c:=wn (XO k) (show 0<=yb-ya by omega);have f:=X2 (show de<0 by omega) (show 0<ya-yp by omega);have g:=wn (show ga<=0 by omega) (show 0<=yq-ya by omega);have:=h.A;omega);have i:de<0:=(by refine Xz (λq=>h.F2 ?_);have c:=XM (XO b) (show 0<=yb-ya by omega);have f:=XM (show 0<=de by omega) (show 0<=yb-yp by omega);have g:=XM (XO a) (show 0<=yq-yb by omega);have l:=λq=>XC b (show 0<yb-ya from q);have m:=λq=>XC (show 0<de from q) (show 0<yb-yp by omega);have o:=λq=>XC a (show 0<yq-yb from q);have:=h.B;refine⟨by omega,by omega,by omega,by omega,.inl ⟨k,b⟩⟩);exact⟨.inr ⟨k,b⟩,.inl ⟨a,i⟩⟩
 ·have j:0<al:=(by have:=h.Fa;omega);have a:ga<0:=(by refine Xz (λq=>?_);have c:=XM (XO j) (show 0<=yb-ya by omega);have f:=XC (show 0<de by omega) (show 0<ya-yp by omega);have g:=XM (show 0<=ga by omega) (show 0<=yq-ya by omega);have:=h.A;omega);have i:0<de:=(by refine Xz (λq=>h.F2 ?_);have c:=wn (XO k) (show 0<=yb-ya by omega);have f:=wn (show de<=0 by omega) (show 0<=yb-yp by omega);have g:=wn (XO a) (show 0<=yq-yb by omega);have l:=λq=>X2 k (show 0<yb-ya from q);have m:=λq=>X2 (show de<0 from q) (show 0<yb-yp by omega);have o:=λq=>X2 a (show 0<yq-yb from q);have:=h.B;refine⟨by omega,by omega,by omega,by omega,.inr ⟨k,j⟩⟩);exact⟨.inl ⟨j,k⟩,.inr ⟨a,i⟩⟩
theorem Q4.step (h:Q4 al be ga de ya yb yp yq):
  xor (decide (ya<=yp/\yp<yb/\0<ga)) (decide (ya<=yq/\yq<yb/\0<de))=xor (decide (yp<ya/\ya<=yq/\al<0)) (decide (yp<yb/\yb<=yq/\be<0)):=by
 have p:=λa b c=>(h.l1 a b c).1;have q:=λa b=>(h.l2 a b).1;have r:=λa b=>(h.l3 a b).1;have t:=λa b c=>(h.l4 a b c).1;have u:=λa b c=>(h.l1 a b c).2;have w:=λa b=>(h.l2 a b).2;have x:=λa b=>(h.l3 a b).2;have y:=λa b c=>(h.l4 a b c).2;have z:=h.up;have C:=h.le;generalize f:decide (ya<=yp/\yp<yb/\0<ga)=g;generalize i:decide (ya<=yq/\yq<yb/\0<de)=j;generalize k:decide (yp<ya/\ya<=yq/\al<0)=l;generalize m:decide (yp<yb/\yb<=yq/\be<0)=o;clear h;cases g<;>cases j<;>cases l<;>cases o<;>simp only[XU,Zu]at f i k m<;>first|rfl|(exfalso;omega)
end
theorem dj {b:V2} (c:ai a b p=0) (h:a.y<b.y:=by omega) (h2:a.y<=p.y:=by omega) (f:p.y<=b.y:=by omega):aV a b p:=by
 refine⟨c,?_,?_,.inl h2,.inr f⟩;all_goals
  simp only[ai,aa,af]at c;have g:(b.x-a.x)*(b.y-p.y)=(b.y-a.y)*(b.x-p.x):=(by grind);have i:=Eu (b.x-a.x) (show 0<=p.y-a.y by omega);have j:=ct (p.x-a.x) (show 0<b.y-a.y by omega);have k:=Eu (b.x-a.x) (show 0<=b.y-p.y by omega);have l:=ct (b.x-p.x) (show 0<b.y-a.y by omega);rw[Yd (b.y-a.y)]at c g;generalize (b.x-a.x)*(p.y-a.y)=m at*;generalize (p.x-a.x)*(b.y-a.y)=o at*;generalize (b.x-a.x)*(b.y-p.y)=q at*;generalize (b.x-p.x)*(b.y-a.y)=r at*;omega
theorem NM.q4 {b:V2} (h:NM a b p q) (o:a.y<=b.y) (r:p.y<=q.y):Q4 (ai p q a) (ai p q b) (ai a b p) (ai a b q) a.y b.y p.y q.y:=by
 refine⟨o,r,?_,?_,?_,?_,?_,λ⟨k,c,f,g⟩=>h.a_ (dj k c f g),λ⟨k,c,f,g⟩=>h.b_ (dj k c f g),λ⟨k,c,f,g⟩=>h.p_ (dj k c f g),λ⟨k,c,f,g⟩=>h.q_ (dj k c f g),λ⟨c,f,g,i,j⟩=>?_,λ⟨c,f,g,i,j⟩=>?_,h.cr⟩;simp only[ai,aa,af];grind;simp only[ai,aa,af];grind;simp only[ai,aa,af];grind;simp only[ai,aa,af];grind;simp only[ai,aa,af];grind;(have l:ai p q a=(q.x-a.x)*(q.y-p.y):=(by simp only[ai,aa,af];grind);have m:ai p q b=(q.x-b.x)*(q.y-p.y):=(by simp only[ai,aa,af];grind);have t:=ct (q.x-a.x) (show 0<q.y-p.y by omega);have u:=ct (q.x-b.x) (show 0<q.y-p.y by omega);rw[l,m]at j;generalize (q.x-a.x)*(q.y-p.y)=w at*;generalize (q.x-b.x)*(q.y-p.y)=x at*;refine h.q_ ⟨i,?_,?_,?_,?_⟩<;>omega)
 ·have l:ai a b p=(a.x-p.x)*(b.y-a.y):=(by simp only[ai,aa,af];grind);have m:ai a b q=(a.x-q.x)*(b.y-a.y):=(by simp only[ai,aa,af];grind);have t:=ct (a.x-p.x) (show 0<b.y-a.y by omega);have u:=ct (a.x-q.x) (show 0<b.y-a.y by omega);rw[l,m]at j;generalize (a.x-p.x)*(b.y-a.y)=w at*;generalize (a.x-q.x)*(b.y-a.y)=x at*;refine h.a_ ⟨i,?_,?_,?_,?_⟩<;>omega
variable {s:cc} {p:V2}
theorem jx (hs:az s=true):iY s p=true↔aV s.a s.b p:=by
 rw[gE hs,fO];exact⟨λ⟨x,y⟩=>⟨y,x⟩,λ⟨x,y⟩=>⟨y,x⟩⟩
theorem AU {a b:V2}:qA ⟨a,b⟩ (cb p)=true↔aV a b p:=by
 have c:kP ⟨a,b⟩ (cb p)=ai a b p:=by unfold kP ai;congr 1;simp only[fu,cb,af];congr 1<;>omega
 unfold qA aV;rw[c];simp only[XH,XU,Hp,Hz];simp only[fu,cb];omega
variable {e:cc}
theorem tj (a:az e=true) (hs:az s=true):dR e s=true↔((0<ai s.a s.b e.a/\ai s.a s.b e.b<0)\/(ai s.a s.b e.a<0/\0<ai s.a s.b e.b))/\((0<ai e.a e.b s.a/\ai e.a e.b s.b<0)\/(ai e.a e.b s.a<0/\0<ai e.a e.b s.b)):=by
 unfold dR;rw[dH a (cF hs).1,dH a (cF hs).2,dH hs (cF a).1,dH hs (cF a).2];simp only[XH,XU,uR];show((ai e.a e.b s.a<0/\0<ai e.a e.b s.b)\/(0<ai e.a e.b s.a/\ai e.a e.b s.b<0))/\((ai s.a s.b e.a<0/\0<ai s.a s.b e.b)\/(0<ai s.a s.b e.a/\ai s.a s.b e.b<0))↔_;omega
theorem pd (a:az e=true) (hs:az s=true):aI e s=0↔NM e.a e.b s.a s.b:=by
 constructor;(intro h;have g:aI s e=0:=(by rw[yB];exact h);refine⟨λk=>oq a hs (.inl rfl) ((jx hs).2 k) h,λk=>oq a hs (.inr rfl) ((jx hs).2 k) h,λk=>oq hs a (.inl rfl) ((jx a).2 k) g,λk=>oq hs a (.inr rfl) ((jx a).2 k) g,λk=>?_⟩;have c:=(tj a hs).2 k;unfold aI at h;rw[XD (by rw[a,hs];simp),XG c]at h;split at h;cases h;(split at h<;>cases h))
 ·intro h;have j:aN e s=[]:=(by refine Wp.2 (λp f=>?_);unfold aN at f;rw[(eN _).2,Wx]at f;obtain⟨i,b⟩:=f;rw[fK,XH,jx a,jx hs]at b;simp only[eV,XF,ZA,WZ]at i;rcases i with rfl|rfl|rfl|rfl;exact h.a_ b.2;exact h.b_ b.2;exact h.p_ b.1;exact h.q_ b.1);have c:¬dR e s=true:=λk=>h.cr ((tj a hs).1 k);unfold aI;rw[XD (by rw[a,hs];simp),j,XD (by simp),XD (by simp),XD c]
def P0 (a b p:V2):Prop:=(a.x<=p.x\/b.x<=p.x)/\(p.x<=a.x\/p.x<=b.x)/\(a.y<=p.y\/b.y<=p.y)/\(p.y<=a.y\/p.y<=b.y)
theorem Tu (a b p:V2):kP ⟨a,b⟩ (cb p)=ai a b p:=by
 unfold kP ai;congr 1;simp only[fu,cb,af];congr 1<;>omega
theorem PM (a b p:V2):gZ ⟨a,b⟩ (cb p)=decide ((a.y<=p.y/\p.y<b.y/\0<ai a b p)\/(b.y<=p.y/\p.y<a.y/\ai a b p<=0)):=by
 show((!(decide (0<=p.y-a.y*1)==decide (0<=p.y-b.y*1)))&&(decide (0<=p.y-a.y*1)==decide (0<kP ⟨a,b⟩ (cb p))))=_;rw[Tu];generalize c:decide (0<=p.y-a.y*1)=f;generalize g:decide (0<=p.y-b.y*1)=h;generalize i:decide (0<ai a b p)=j;generalize k:decide ((a.y<=p.y/\p.y<b.y/\0<ai a b p)\/(b.y<=p.y/\p.y<a.y/\ai a b p<=0))=l;cases f<;>cases h<;>cases j<;>cases l<;>simp only[XU,Zu]at c g i k<;>first|rfl|(exfalso;omega)
structure Iso (f:V2->V2) (m:Bool):Prop where
 cr:∀a b,aa (f a) (f b)=bif m then-aa a b else aa a b
 tr:∀a b c,ai (f a) (f b) (f c)=bif m then-ai a b c else ai a b c
 bx:∀a b p,P0 (f a) (f b) (f p)↔P0 a b p
 Pq:∀k v,In k v->In k (f v)
 par:∀(l:LV) p,0<l.length->(∀i,i<l.length->¬aV (gt l i) (bw l i) p)->fp l.length (λi=>gZ (bN (l.map f) i) (cb (f p)))=fp l.length (λi=>gZ (bN l i) (cb p))
variable {i:Nat}
theorem FA (f:V2->V2) {l:LV} (hi:i<l.length):gt (l.map f) i=f (gt l i):=by simp[gt,List.getD,hi]
theorem O9 (f:V2->V2) {l:LV} (hi:i<l.length):bw (l.map f) i=f (bw l i):=by
 unfold bw;rw[X9,FA f (mLt)]
def fT (v:V2):V2:=⟨v.y,v.x⟩
structure Pre (l:LV):Prop where
 three:3<=l.length
 xd:l.length<=40
 fE:dJ l=true
 turns:∀i,i<l.length->ai (iZ l i) (gt l i) (bw l i)≠0
 apart:∀i,i<l.length->∀k,k<l.length->i≠k->k≠(i+1)%l.length->i≠(k+1)%l.length->NM (gt l i) (bw l i) (gt l k) (bw l k)
theorem N7 (a b c:V2):iW a b c=bM (ai a b c):=rfl
theorem bk.pre {l:LV} (h:bk l):Pre l:=⟨h.three,h.xd,h.fE,λi a k=>h.turns i a (by rw[N7,k];rfl),λi a k b c f g=>(pd (cx h.fE i) (cx h.fE k)).1 (h.apart i a k b c f g)⟩
section
variable {l l':LV}
theorem vw {P:V2}:fW l (cb P)=false↔∀i,i<l.length->¬aV (gt l i) (bw l i) P:=by
 unfold fW;rw[Wv,aE];refine forall_congr' (λi=>forall_congr' (λa=>?_));rw[YK,<-Wr,bN,AU]
end
section
variable {f:V2->V2} {m:Bool} {l:LV}
theorem B7 {g h:Nat->Int}:∀n,(∀i,i<n->g i= -h i)->aT n g= -aT n h
 |0,_=>rfl
 |n+1,k=>by simp only[aT];rw[B7 n (λi a=>k i (by omega)),k n (by omega)];omega
end
def ak (a b:V2):V2:=⟨a.x+b.x,a.y+b.y⟩
def ue (s t:Int):Int:=if s<=t then t-s else s-t
def tq (u v:V2):Int:=if 0<aa u v then ue (bM u.y) (bM v.y)else if aa u v<0 then-ue (bM u.y) (bM v.y)else 0
theorem NC (s t:Int):ue t s=ue s t:=by unfold ue;split<;>split<;>omega
theorem aQ (u v:V2):aa v u= -aa u v:=by simp only[aa];grind
theorem z6 (u v:V2):tq v u= -tq u v:=by
 unfold tq;rw[aQ u v,NC];generalize ue (bM u.y) (bM v.y)=z;repeat' split
 all_goals omega
theorem aW (x:Int):(0<x/\bM x=1)\/(x<0/\bM x= -1)\/(x=0/\bM x=0):=by
 unfold bM;repeat' split
 all_goals omega
variable {u:V2}
theorem uK {v:V2} (h:bM u.y=bM v.y:=by omega):tq u v=0:=by
 unfold tq ue;rw[h];repeat' split
 all_goals omega
theorem uJ {v:V2} (h:aa u v=0):tq u v=0:=by
 unfold tq;rw[h];rfl
theorem J8 (a c:V2):tq a (ak a c)+tq (ak a c) c=tq a c:=by
 have b:aa a (ak a c)=aa a c:=by simp only[aa,ak];grind
 have f:aa (ak a c) c=aa a c:=by simp only[aa,ak];grind
 unfold tq;rw[b,f];simp only[ak];have g:=aW a.y;have h:=aW c.y;have i:=aW (a.y+c.y);have:ue (bM a.y) (bM (a.y+c.y))+ue (bM (a.y+c.y)) (bM c.y)=ue (bM a.y) (bM c.y):=by
  unfold ue;repeat' split
  all_goals omega
 repeat' split
 all_goals omega
theorem J9 (u v:V2):tq ⟨-u.x,-u.y⟩ ⟨-v.x,-v.y⟩=tq u v:=by
 have a:aa ⟨-u.x,-u.y⟩ ⟨-v.x,-v.y⟩=aa u v:=by simp only[aa];grind
 unfold tq;rw[a];have b:=aW u.y;have c:=aW v.y;have f:=aW (-u.y);have g:=aW (-v.y);have:ue (bM (-u.y)) (bM (-v.y))=ue (bM u.y) (bM v.y):=by
  unfold ue;repeat' split
  all_goals omega
 simp only[this]
variable {m:Int}
theorem yL (a:0<m) (x:Int):bM (m*x)=bM x:=by
 have f:=ct x a;rw[Yd]at f;have b:=aW x;have c:=aW (m*x);omega
theorem vK {k:Int} (a:0<m) (b:0<k) (u v:V2):tq ⟨m*u.x,m*u.y⟩ ⟨k*v.x,k*v.y⟩=tq u v:=by
 have c:aa ⟨m*u.x,m*u.y⟩ ⟨k*v.x,k*v.y⟩=(m*k)*aa u v:=by simp only[aa];grind
 unfold tq;have f:=ct (aa u v) (XC a b);rw[Yd]at f;rw[c];simp only[yL a,yL b];generalize m*k*aa u v=z at*;repeat' split
 all_goals omega
def cq (u v:V2):Int:=if u.y<=0/\0<v.y/\0<aa u v then 1 else if v.y<=0/\0<u.y/\aa u v<0 then-1 else 0
theorem dc (u v:V2):cq v u= -cq u v:=by
 unfold cq;rw[aQ u v];repeat' split
 all_goals omega
def gq (d:V2):Int:=if 0<d.y then 1 else if d.y<0 then-1 else if 0<d.x then-2 else 0
abbrev zz:V2:=⟨0,0⟩
theorem U1 (a b p:V2):aV (af a p) (af b p) zz↔aV a b p:=by
 have e:ai (af a p) (af b p) zz=ai a b p:=by simp only[ai,aa,af];grind
 unfold aV;rw[e];simp only[af];omega
theorem TC (p q b:V2):aV (af b p) (af b q) zz↔aV p q b:=by
 have e:ai (af b p) (af b q) zz=ai p q b:=by simp only[ai,aa,af];grind
 unfold aV;rw[e];simp only[af];omega
theorem lK (u v:V2):ai u v zz=aa u v:=by simp only[ai,aa,af];grind
theorem B2 {v:V2} (h:¬aV u v zz):tq u v=4*cq u v+gq u-gq v:=by
 have l:(0<u.y->v.y<0->aa u v≠0)/\(u.y<0->0<v.y->aa u v≠0):=by refine⟨λa f w=>h ?_,λa f w=>h ?_⟩;refine au.1 (dj ?_ (show v.y<u.y by omega) (show v.y<=zz.y from XO f) (show zz.y<=u.y from XO a));rw[lK,aQ,w];rfl;refine dj ?_ (show u.y<v.y by omega) (show u.y<=zz.y from XO a) (show zz.y<=v.y from XO f);rw[lK,w]
 have g:u.y=0->u.x≠0:=λa f=>h (by refine⟨?_,.inl (ZR f),.inl (ZR f.symm),.inl (ZR a),.inl (ZR a.symm)⟩;rw[lK];simp only[aa];rw[a,f];simp);have i:v.y=0->v.x≠0:=λa f=>h (by refine⟨?_,.inr (ZR f),.inr (ZR f.symm),.inr (ZR a),.inr (ZR a.symm)⟩;rw[lK];simp only[aa];rw[a,f];simp);have hw:u.y=0->v.y=0->(0<u.x↔0<v.x):=λa f=>by have j:=g a;have b:=i f;refine Xz λB=>h ⟨?_,?_,?_,.inl (ZR a),.inl (ZR a.symm)⟩;rw[lK];simp only[aa];rw[a,f];simp;simp only[zz];omega;simp only[zz];omega
 have k:u.y=0->aa u v=u.x*v.y:=λa=>by simp only[aa];rw[a];simp
 have m:v.y=0->aa u v= -(v.x*u.y):=λa=>by simp only[aa];rw[a];grind
 have A:=aW u.y;have x:=aW v.y;unfold tq cq gq ue;generalize aa u v=z at*;rcases A with⟨j,o⟩|⟨j,o⟩|⟨j,o⟩
 ·rcases x with⟨b,c⟩|⟨b,c⟩|⟨b,c⟩
  ·clear l g i hw k m;rw[o,c];repeat' split
   all_goals omega
  ·have:=l.1 j b;clear l g i hw k m;rw[o,c];repeat' split
   all_goals omega
  ·have r:=m b;have q:=i b;have p:=ct v.x j;clear l g i hw k m;generalize v.x*u.y=y at*;have t:(v.x<0/\0<z)\/(0<v.x/\z<0):=(by omega);clear r q p;rw[o,c];repeat' split
   all_goals omega
 ·rcases x with⟨b,c⟩|⟨b,c⟩|⟨b,c⟩
  ·have:=l.2 j b;clear l g i hw k m;rw[o,c];repeat' split
   all_goals omega
  ·clear l g i hw k m;rw[o,c];repeat' split
   all_goals omega
  ·have r:=m b;have q:=i b;have p:=ct v.x (show 0< -u.y by omega);rw[YH]at p;clear l g i hw k m;generalize v.x*u.y=y at*;have t:(v.x<0/\z<0)\/(0<v.x/\0<z):=(by omega);clear r q p;rw[o,c];repeat' split
   all_goals omega
 ·rcases x with⟨b,c⟩|⟨b,c⟩|⟨b,c⟩
  ·have r:=k j;have q:=g j;have p:=ct u.x b;clear l g i hw k m;generalize u.x*v.y=y at*;have t:(u.x<0/\z<0)\/(0<u.x/\0<z):=(by omega);clear r q p;rw[o,c];repeat' split
   all_goals omega
  ·have r:=k j;have q:=g j;have p:=ct u.x (show 0< -v.y by omega);rw[YH]at p;clear l g i hw k m;generalize u.x*v.y=y at*;have t:(u.x<0/\0<z)\/(0<u.x/\z<0):=(by omega);clear r q p;rw[o,c];repeat' split
   all_goals omega
  ·have r:z=0:=(by have:=k j;rw[b,Yh]at this;exact this);have q:=g j;have p:=i b;have t:=hw j b;have C:(0<u.x/\0<v.x)\/(u.x<0/\v.x<0):=(by omega);clear l g i hw k m h q p t;rw[o,c];repeat' split
   all_goals omega
theorem Pl (p:Prop) [Decidable p]:(if p then(1:Int)else 0)=bif decide p then 1 else 0:=by
 by_cases h:p<;>simp[h]
def iB (f:V2->V2->Int) (a b p q:V2):Int:=f (af a p) (af b p)+f (af b p) (af b q)+f (af b q) (af a q)+f (af a q) (af a p)
variable {a p q:V2}
theorem ri {b:V2} (h:NM a b p q):iB cq a b p q=0:=by
 have f:∀{a b p q:V2},NM a b p q->a.y<=b.y->p.y<=q.y->iB cq a b p q=0:=by
  intro a b p q h hu c;have Q:=h.q4 hu c;have j:aa (af a p) (af b p)=ai a b p:=(by simp only[ai,aa,af];grind);have k:aa (af b p) (af b q)=ai p q b:=(by simp only[ai,aa,af];grind);have l:aa (af b q) (af a q)= -ai a b q:=(by simp only[ai,aa,af];grind);have m:aa (af a q) (af a p)= -ai p q a:=(by simp only[ai,aa,af];grind);have o:cq (af a p) (af b p)=if a.y<=p.y/\p.y<b.y/\0<ai a b p then 1 else 0:=by
   unfold cq;rw[j];simp only[af];repeat' split
   all_goals omega
  have r:cq (af b p) (af b q)= -(if p.y<b.y/\b.y<=q.y/\ai p q b<0 then 1 else 0):=by
   unfold cq;rw[k];simp only[af];repeat' split
   all_goals omega
  have t:cq (af b q) (af a q)= -(if a.y<=q.y/\q.y<b.y/\0<ai a b q then 1 else 0):=by
   unfold cq;rw[l];simp only[af];repeat' split
   all_goals omega
  have u:cq (af a q) (af a p)=if p.y<a.y/\a.y<=q.y/\ai p q a<0 then 1 else 0:=by
   unfold cq;rw[m];simp only[af];repeat' split
   all_goals omega
  unfold iB;rw[o,r,t,u];have w:=Q.step;rw[Pl,Pl,Pl,Pl];have x:(decide (a.y<=p.y/\p.y<b.y/\0<ai a b p)&&decide (p.y<a.y/\a.y<=q.y/\ai p q a<0))=false:=(by rw[<-Bool.decide_and];exact X1 (λh=>by omega));have y:(decide (a.y<=q.y/\q.y<b.y/\0<ai a b q)&&decide (p.y<b.y/\b.y<=q.y/\ai p q b<0))=false:=(by rw[<-Bool.decide_and];exact X1 (λh=>by omega));revert w x y;generalize decide (a.y<=p.y/\p.y<b.y/\0<ai a b p)=z;generalize decide (a.y<=q.y/\q.y<b.y/\0<ai a b q)=A;generalize decide (p.y<a.y/\a.y<=q.y/\ai p q a<0)=B;generalize decide (p.y<b.y/\b.y<=q.y/\ai p q b<0)=C;cases z<;>cases A<;>cases B<;>cases C<;>decide
 have g:∀a b p q,iB cq b a p q= -iB cq a b p q:=λa b p q=>by unfold iB;rw[dc (af a p) (af b p),dc (af a q) (af a p),dc (af b q) (af a q),dc (af b p) (af b q)];omega
 have i:∀a b p q,iB cq a b q p= -iB cq a b p q:=λa b p q=>by unfold iB;rw[dc (af a p) (af b p),dc (af a q) (af a p),dc (af b q) (af a q),dc (af b p) (af b q)];omega
 rcases YI a.y b.y with hu|hu<;>rcases YI p.y q.y with c|c
 ·exact f h hu c
 ·have:=f h.swap hu c;rw[i]at this;omega
 ·have:=f h.rev hu c;rw[g]at this;omega
 ·have:=f h.rev.swap hu c;rw[g,i]at this;omega
theorem OK {b:V2} (h:NM a b p q):iB tq a b p q=0:=by
 have k:=ri h;unfold iB at*;rw[B2 (λk=>h.p_ ((U1 _ _ _).1 k)),B2 (λk=>h.b_ ((TC _ _ _).1 k)),B2 (λk=>h.q_ (au.1 ((U1 _ _ _).1 k))),B2 (λk=>h.a_ (au.1 ((TC _ _ _).1 k)))];omega
def dr (P:Int->V2) (p:V2) (s:Int):Nat->Int
 |0=>0
 |m+1=>dr P p s m+tq (af (P (s+m)) p) (af (P (s+m+1)) p)
theorem Cu (P:Int->V2) (p:V2) (s:Int) (a:Nat):∀b,dr P p s (a+b)=dr P p s a+dr P p (s+a) b
 |0=>by simp[dr]
 |b+1=>by rw[<-YQ];simp only[dr];rw[Cu P p s a b,show s+((a+b:Nat):Int)=s+a+b by omega];omega
theorem lu {P:Int->V2} {p q:V2} {s:Int}:∀m:Nat,(∀j:Nat,j<m->NM (P (s+j)) (P (s+j+1)) p q)->
  dr P p s m+tq (af (P (s+m)) p) (af (P (s+m)) q)-tq (af (P s) p) (af (P s) q)=dr P q s m
 |0,_=>by simp[dr]
 |m+1,h=>by have a:=lu m (λj b=>h j (by omega));have k:=OK (h m (by omega));simp only[dr];unfold iB at k;rw[z6 (af (P (s+m)) q) (af (P (s+m+1)) q),z6 (af (P (s+m)) p) (af (P (s+m)) q)]at k;rw[show s+((m+1:Nat):Int)=s+m+1 by omega];omega
theorem EL (f:Nat->Int) (p:Nat->Prop):∀N:Nat,(∃i,i<N/\p i)->∃i,i<N/\p i/\∀j,j<N->p j->f i<=f j
 |0,⟨i,h,_⟩=>absurd h (XL _)
 |N+1,⟨i,o,b⟩=>by
  by_cases h:∃i,i<N/\p i;obtain⟨k,r,m,g⟩:=EL f p N h;by_cases c:p N/\f N<f k;refine⟨N,by omega,c.1,λj l a=>?_⟩;by_cases e:j=N;subst e;exact Yc _;have:=g j (by omega) a;omega;refine⟨k,by omega,m,λj l a=>?_⟩;by_cases e:j=N;subst e;exact Zx.1 λq=>c ⟨a,q⟩;exact g j (by omega) a
  ·have e:i=N:=Xz λq=>h ⟨i,by omega,b⟩;subst e;exact⟨i,by omega,b,λj l a=>by
    by_cases e:j=i;subst e;exact Yc _
    ·exact absurd ⟨j,by omega,a⟩ h⟩
theorem NM.sym {a b p q:V2} (h:NM a b p q):NM p q a b:=⟨h.p_,h.q_,h.a_,h.b_,λk=>h.cr ⟨k.2,k.1⟩⟩
structure zP (n:Nat) (P:Int->V2):Prop where
 n3:3<=n
 hZ:∀i:Int,P (i+n)=P i
 pH:∀i:Int,ai (P (i-1)) (P i) (P (i+1))≠0
 nm:∀i j:Int,i+2<=j->j+2<=i+n->NM (P i) (P (i+1)) (P j) (P (j+1))
theorem cd (a b:V2):aV a b a:=by
 refine⟨by simp only[ai,aa,af];grind,?_,?_,?_,?_⟩<;>omega
section
variable {n:Nat} {P:Int->V2} (C:zP n P)
include C
theorem zP.next (i:Int):P i≠P (i+1):=λh=>C.pH i (by
 rw[<-h];simp only[ai,aa,af];grind)
theorem zP.VD {i j:Int} (c:i<j) (h2:j<i+n):P i≠P j:=by
 have f:=C.n3;by_cases a:j=i+1;subst a;exact C.next i;by_cases b:j+1=i+n;intro h;have:=C.next j;rw[b,C.hZ]at this;exact this h.symm;intro h;have k:=(C.nm i j (by omega) (by omega)).a_;rw[<-h]at k;exact k (cd _ _)
def hA (P:Int->V2) (i:Int):Int:=tq (af (P i) (P (i-1))) (af (P (i+1)) (P i))
def fX (n:Nat) (P:Int->V2) (i:Int):Int:=dr P (P i) (i+1) (n-2)
omit C in
theorem jk (P:Int->V2) (p:V2) (s:Int) (m:Nat):dr P p s (m+1)=tq (af (P s) p) (af (P (s+1)) p)+dr P p (s+1) m:=by
 rw[Zm,Cu];simp[dr]
omit C in
theorem sub_neg (a b:V2):(⟨-(af a b).x,-(af a b).y⟩:V2)=af b a:=by
 simp only[af];exact V2.ext (by simp only;omega) (by simp only;omega)
omit C in
theorem EG (a b c:V2):tq (af b a) (af c a)+tq (af c a) (af c b)=tq (af b a) (af c b):=by
 have:=J8 (af b a) (af c b);have e:ak (af b a) (af c b)=af c a:=by simp only[af,ak];exact V2.ext (by simp only;omega) (by simp only;omega)
 rwa [e]at this
omit C in
theorem J5 (a b c:V2):tq (af a b) (af a c)+tq (af a c) (af b c)=tq (af b a) (af c b):=by
 have:=J8 (af a b) (af b c);have e:ak (af a b) (af b c)=af a c:=by simp only[af,ak];exact V2.ext (by simp only;omega) (by simp only;omega)
 rw[e]at this;rw[this,<-sub_neg b a,<-sub_neg c b,J9]
theorem zP.KW (i:Int):fX n P i+hA P i=fX n P (i+1)+hA P (i+1):=by
 have g:=C.n3;obtain⟨m,rfl⟩:∃m,n=m+3:=⟨n-3,by omega⟩;have k:=lu (P:=P) (p:=P i) (q:=P (i+1)) (s:=i+2) m (λj h=>(C.nm i (i+2+j) (by omega) (by omega)).sym);have b:fX (m+3) P i=tq (af (P (i+1)) (P i)) (af (P (i+2)) (P i))+dr P (P i) (i+2) m:=by have:=jk P (P i) (i+1) m;rw[show i+1+1=i+2 by omega]at this;exact this
 have c:fX (m+3) P (i+1)=dr P (P (i+1)) (i+2) m+tq (af (P (i-1)) (P (i+1))) (af (P i) (P (i+1))):=by have a:i+2+m=i-1+((m+3:Nat):Int):=(by omega);have f:i+2+m+1=i+((m+3:Nat):Int):=(by omega);show dr P (P (i+1)) (i+1+1) (m+1)=_;rw[show i+1+1=i+2 by omega];simp only[dr];rw[f,a,C.hZ,C.hZ]
 have a:i+2+m=i-1+((m+3:Nat):Int):=by omega
 rw[a,C.hZ]at k;have l:=EG (P i) (P (i+1)) (P (i+2));have o:=J5 (P (i-1)) (P i) (P (i+1));unfold hA;rw[b,c,show i+1+1=i+2 by omega,show i+1-1=i by omega];omega
theorem zP.AH (i:Int):∀k:Nat,fX n P (i+k)+hA P (i+k)=fX n P i+hA P i
 |0=>by simp
 |k+1=>by have:=C.KW (i+k);rw[show i+((k+1:Nat):Int)=i+k+1 by omega,<-this,zP.AH i k]
def fa (d:V2):Prop:=0<d.y\/(d.y=0/\0<d.x)
omit C in
theorem Qn {u v:V2} (a:fa u) (b:fa v):tq u v=bM v.y-bM u.y:=by
 have f:u.y=0->aa u v=u.x*v.y:=λc=>by simp only[aa];rw[c];simp
 have g:v.y=0->aa u v= -(v.x*u.y):=λc=>by simp only[aa];rw[c];grind
 have j:=aW u.y;have l:=aW v.y;rcases a with a|⟨a,h⟩<;>rcases b with b|⟨b,i⟩
 ·rw[uK];omega
 ·have k:=g b;have:=XC i a;unfold tq ue;generalize aa u v=z at*;rw[iN,iP];split<;>omega
 ·have k:=f a;have:=XC h b;unfold tq ue;generalize aa u v=z at*;rw[iP];split<;>omega
 ·rw[uK];omega
omit C in
theorem KV {p:V2} {s:Int}:∀m:Nat,(∀j:Nat,j<=m->fa (af (P (s+j)) p))->dr P p s m=bM (af (P (s+m)) p).y-bM (af (P s) p).y
 |0,_=>by simp[dr]
 |m+1,h=>by have a:=h m (by omega);have b:=h (m+1) (by omega);simp only[dr];rw[show s+((m+1:Nat):Int)=s+m+1 by omega]at*;rw[KV m (λj c=>h j (by omega)),Qn a b];omega
theorem zP.low:∃s:Nat,s<n/\∀j:Int,0<j->j<n->fa (af (P (s+j)) (P s)):=by
 have q:=C.n3;obtain⟨g,r,_,m⟩:=EL (λi=>(P i).y) (λ_=>True) n ⟨0,by omega,trivial⟩;obtain⟨s,o,b,p⟩:=EL (λi=>(P i).x) (λi=>(P i).y=(P g).y) n ⟨g,by omega,rfl⟩;refine⟨s,o,λj t u=>?_⟩;have f:∀k:Nat,k<n->P k≠P s->fa (af (P k) (P s)):=λk l a=>by have w:=m k l trivial;unfold fa;simp only[af];by_cases c:(P k).y=(P g).y;have x:=p k l c;have:(P k).x≠(P s).x:=λh=>a (V2.ext h (by rw[c,b]));right;exact⟨by rw[c,b];omega,by omega⟩;left;rw[b];omega
 have a:=C.VD (i:=(s:Int)) (j:=s+j) (by omega) (by omega);by_cases c:(s:Int)+j<n;have:=f (s+j).toNat (by omega);rw[show((((s:Int)+j).toNat:Nat):Int)=s+j by omega]at this;exact this a.symm;have e:P (s+j)=P (s+j-n):=(by rw[<-C.hZ (s+j-n)];congr 1;omega);rw[e]at a|-;have:=f (s+j-n).toNat (by omega);rw[show((((s:Int)+j-n).toNat:Nat):Int)=s+j-n by omega]at this;exact this a.symm
def kz (P:Int->V2) (s:Int):Nat->Int
 |0=>0
 |m+1=>kz P s m+hA P (s+m)
omit C in
theorem lf (P:Int->V2) (s:Int) (a:Nat):∀b,kz P s (a+b)=kz P s a+kz P (s+a) b
 |0=>by simp[kz]
 |b+1=>by rw[<-YQ];simp only[kz];rw[lf P s a b,show s+((a+b:Nat):Int)=s+a+b by omega];omega
theorem zP.Ct {s:Int} (hs:∀j:Int,0<j->j<n->fa (af (P (s+j)) (P s))):∀(d k:Nat),1<=k->k+d+1=n->
  dr P (P (s+k)) (s+k+1) d=kz P (s+k+1) d-(bM (af (P (s+k+d)) (P s)).y-bM (af (P (s+k)) (P s)).y)
 |0,k,_,_=>by simp[dr,kz]
 |d+1,k,i,l=>by have f:=zP.Ct hs d (k+1) (by omega) (by omega);have c:=lu (P:=P) (p:=P (s+k)) (q:=P (s+k+1)) (s:=s+k+2) d (λj m=>(C.nm (s+k) (s+k+2+j) (by omega) (by omega)).sym);rw[show s+k+2+d=s+n by omega,C.hZ]at c;have a:=jk P (P (s+k)) (s+k+1) d;have g:kz P (s+k+1) (d+1)=hA P (s+k+1)+kz P (s+k+2) d:=(by rw[Zm,lf,show s+k+1+((1:Nat):Int)=s+k+2 by omega];simp[kz]);have o:=EG (P (s+k)) (P (s+k+1)) (P (s+k+2));have r:hA P (s+k+1)=tq (af (P (s+k+1)) (P (s+k))) (af (P (s+k+2)) (P (s+k+1))):=(by unfold hA;rw[show s+k+1-1=s+k by omega,show s+k+1+1=s+k+2 by omega]);have t:tq (af (P s) (P (s+k))) (af (P s) (P (s+k+1)))=bM (af (P (s+k+1)) (P s)).y-bM (af (P (s+k)) (P s)).y:=(by rw[<-sub_neg (P (s+k)) (P s),<-sub_neg (P (s+k+1)) (P s),J9];have h:=hs k (by omega) (by omega);have b:=hs (k+1) (by omega) (by omega);rw[show s+((k:Int)+1)=s+k+1 by omega]at b;exact Qn h b);rw[show s+((k+1:Nat):Int)=s+k+1 by omega,show s+k+1+1=s+k+2 by omega,show s+k+1+(d:Int)=s+k+((d+1:Nat):Int) by omega]at f;rw[show s+k+1+1=s+k+2 by omega]at a;rw[a,g];omega
theorem zP.whole:∃K:Int,(K=2\/K= -2)/\(∀i:Nat,fX n P i+hA P i=K)/\kz P 0 n=2*K:=by
 have N:=C.n3;obtain⟨s,O,c⟩:=C.low;have r:=c 1 (by omega) (by omega);have o:=c (n-1) (by omega) (by omega);have k:P (s+((n:Int)-1))=P (s-1):=by rw[<-C.hZ ((s:Int)-1)];congr 1;omega
 rw[k]at o;have t:fX n P s=bM (af (P (s-1)) (P s)).y-bM (af (P (s+1)) (P s)).y:=by
  unfold fX;rw[KV (n-2) (λj Q=>by
   have:=c (1+j) (by omega) (by omega)
   rwa [show(s:Int)+(1+j)=s+1+j by omega]at this)]
  rw[show(s:Int)+1+((n-2:Nat):Int)=s+((n:Int)-1) by omega,k]
 obtain⟨K,x⟩:∃K,K=fX n P s+hA P s:=⟨_,rfl⟩;have p:∀i:Nat,fX n P i+hA P i=K:=λi=>by have a:=C.AH 0 s;have b:=C.AH 0 i;rw[Zf]at a b;omega
 have y:=C.Ct c (n-2) 1 (by omega) (by omega);have R:hA P (s+1)+dr P (P (s+1)) (s+2) (n-2)=K:=by have:=p (s+1);rw[show((s+1:Nat):Int)=s+1 by omega]at this;unfold fX at this;rw[show(s:Int)+1+1=s+2 by omega]at this;omega
 have S:kz P s n=2*K:=by rw[show n=1+(1+(n-2)) by omega,lf,lf];simp only[kz];rw[show(s:Int)+((1:Nat):Int)+((1:Nat):Int)=s+2 by omega];rw[show(s:Int)+((1:Nat):Int)+1=s+2 by omega,show(s:Int)+((1:Nat):Int)+((n-2:Nat):Int)=s+((n:Int)-1) by omega,k,show(s:Int)+((1:Nat):Int)=s+1 by omega]at y;have A:(s:Int)+((0:Nat):Int)=s:=(by omega);have B:(s:Int)+((1:Nat):Int)+((0:Nat):Int)=s+1:=(by omega);rw[A,B];omega
 have T:kz P 0 n=kz P s n:=by
  have a:=lf P 0 s (n-s);have b:=lf P s (n-s) s;rw[show s+(n-s)=n by omega]at a;rw[show n-s+s=n by omega]at b;have e:∀m:Nat,kz P (s+((n-s:Nat):Int)) m=kz P 0 m:=λm=>by
   induction m with
   |zero=>rfl
   |succ m D=>simp only[kz];rw[D];have f:hA P ((s:Int)+((n-s:Nat):Int)+m)=hA P (0+m):=(by unfold hA;rw[show(s:Int)+((n-s:Nat):Int)+m=0+m+n by omega,show(0:Int)+m+n-1=0+m-1+n by omega,show(0:Int)+m+n+1=0+m+1+n by omega,C.hZ,C.hZ,C.hZ]);rw[f]
  rw[e]at b;rw[Zf]at a;omega
 refine⟨K,?_,p,by omega⟩;have E:=C.pH s;have F:aa (af (P (s+1)) (P s)) (af (P (s-1)) (P s))≠0:=by have:aa (af (P (s+1)) (P s)) (af (P (s-1)) (P s))=ai (P (s-1)) (P s) (P (s+1)):=(by simp only[ai,aa,af];grind);rw[this];exact E
 have G:hA P s=tq ⟨-(af (P (s-1)) (P s)).x,-(af (P (s-1)) (P s)).y⟩ (af (P (s+1)) (P s)):=by unfold hA;rw[sub_neg]
 rw[x,t,G];generalize af (P (s-1)) (P s)=w at*;generalize af (P (s+1)) (P s)=u at*;have H:aa ⟨-w.x,-w.y⟩ u=aa u w:=by simp only[aa];grind
 have q:u.y=0->aa u w=u.x*w.y:=λl=>by simp only[aa];rw[l];simp
 have I:w.y=0->aa u w= -(w.x*u.y):=λl=>by simp only[aa];rw[l];grind
 have U:=aW u.y;have V:=aW w.y;have X:=aW (-w.y);unfold tq ue;simp only[H];generalize aa u w=z at*;rcases r with g|⟨g,J⟩<;>rcases o with h|⟨h,M⟩
 ·repeat' split
  all_goals omega
 ·have:=I h;have:=XC M g;repeat' split
  all_goals omega
 ·have:=q g;have:=XC J h;repeat' split
  all_goals omega
 ·have:=q g;rw[h,Yh]at this;exact absurd this F
end
theorem VE (u v w:V2):aa u v*w.x=aa w v*u.x+aa u w*v.x/\aa u v*w.y=aa w v*u.y+aa u w*v.y:=by
 simp only[aa];constructor<;>grind
variable {a p:V2}
theorem qz {b:V2} (c:ai a b p=0) (h:a.x<b.x) (h2:a.x<=p.x:=by omega) (f:p.x<=b.x:=by omega):aV a b p:=by
 refine⟨c,.inl h2,.inr f,?_,?_⟩;all_goals
  simp only[ai,aa,af]at c;have g:(b.y-a.y)*(b.x-p.x)=(b.x-a.x)*(b.y-p.y):=(by grind);have i:=Eu (b.y-a.y) (show 0<=p.x-a.x by omega);have j:=ct (p.y-a.y) (show 0<b.x-a.x by omega);have k:=Eu (b.y-a.y) (show 0<=b.x-p.x by omega);have l:=ct (b.y-p.y) (show 0<b.x-a.x by omega);rw[Yd (b.x-a.x)]at c g;generalize (b.y-a.y)*(p.x-a.x)=m at*;generalize (p.y-a.y)*(b.x-a.x)=o at*;generalize (b.y-a.y)*(b.x-p.x)=q at*;generalize (b.y-p.y)*(b.x-a.x)=r at*;omega
theorem mz {x y:Int} (h:x*y=0):x=0\/y=0:=Zy.1 h
variable {A B:Int}
theorem G8 {g i:Int} (h:g*A+i*B=0) (j:(0<=g/\0<=i)\/(g<=0/\i<=0)) (k:(0<=A/\0<=B)\/(A<=0/\B<=0)):g*A=0/\i*B=0:=by
 rcases j with⟨a,b⟩|⟨a,b⟩<;>rcases k with⟨c,f⟩|⟨c,f⟩
 ·have:=XM a c;have:=XM b f;omega
 ·have:=XI a c;have:=XI b f;omega
 ·have:=YD a c;have:=YD b f;omega
 ·have:=X7 a c;have:=X7 b f;omega
variable {u:Int}
theorem gJ {v:Int} (h:u*A=v*B) (hs:(0<u/\0<v)\/(u<0/\v<0):=by omega):(0<A->0<B)/\(A<0->B<0):=by
 have i:∀{u v:Int},u*A=v*B->0<u->0<v->(0<A->0<B)/\(A<0->B<0):=by
  intro u v h j l;have f:=ct A j;have g:=ct B l;rw[Yd u,Yd v]at h;generalize A*u=m at*;generalize B*v=o at*;constructor<;>intro k
  ·rcases YF B 0 with c|c|c;have:=f.1 k;have:=g.2.1 c;omega;have:=f.1 k;have:=g.2.2 c;omega;exact c
  ·rcases YF B 0 with c|c|c;exact c;have:=f.2.1 k;have:=g.2.2 c;omega;have:=f.2.1 k;have:=g.1 c;omega
 rcases hs with⟨a,b⟩|⟨a,b⟩;exact i h a b;refine i (u:= -u) (v:= -v) ?_ (by omega) (by omega);rw[ZF,ZF,h]
theorem TI {v w D:Int} (h:u*A=v*B+w*D) (hs:(0<u/\0<v/\0<=w)\/(u<0/\v<0/\w<=0):=by omega):(0<A->D<0->0<B)/\(A<0->0<D->B<0):=by
 have j:∀{u v w:Int},u*A=v*B+w*D->0<u->0<v->0<=w->(0<A->D<0->0<B)/\(A<0->0<D->B<0):=by
  intro u v w h m o hw;have f:=ct A m;have g:=ct B o;rw[Yd u,Yd v]at h;constructor<;>intro k l
  ·have e:=XI hw (XO l);have:=f.1 k;generalize A*u=p at*;generalize B*v=q at*;generalize w*D=r at*;rcases YF B 0 with i|i|i;have:=g.2.1 i;omega;have:=g.2.2 i;omega;exact i
  ·have e:=XM hw (XO l);have:=f.2.1 k;generalize A*u=p at*;generalize B*v=q at*;generalize w*D=r at*;rcases YF B 0 with i|i|i;exact i;have:=g.2.2 i;omega;have:=g.1 i;omega
 rcases hs with⟨a,b,c⟩|⟨a,b,c⟩;exact j h a b c;refine j (u:= -u) (v:= -v) (w:= -w) ?_ (by omega) (by omega) (by omega);rw[ZF,ZF,ZF,h];omega
variable {q:V2}
theorem CL {b r:V2} (i:ai p q r=0) (h2:aV a b r):
  r=a\/r=b\/(ai p q a=0/\ai p q b=0)\/(0<ai p q a/\ai p q b<0)\/(ai p q a<0/\0<ai p q b):=by
 obtain⟨j,w,x,y,z⟩:=h2;have ex:(b.x-r.x)*ai p q a+(r.x-a.x)*ai p q b=0:=by simp only[ai,aa,af]at*;grind
 have l:(b.y-r.y)*ai p q a+(r.y-a.y)*ai p q b=0:=by simp only[ai,aa,af]at*;grind
 clear j i;generalize ai p q a=A at*;generalize ai p q b=B at*;by_cases h:(0<=A/\0<=B)\/(A<=0/\B<=0);obtain⟨m,o⟩:=G8 ex (by omega) h;obtain⟨t,u⟩:=G8 l (by omega) h;by_cases f:A=0;by_cases g:B=0;exact .inr (.inr (.inl ⟨f,g⟩));left;rcases mz o with k|k;rcases mz u with c|c;exact V2.ext (by omega) (by omega);exact absurd c g;exact absurd k g;right;left;rcases mz m with k|k;rcases mz t with c|c;exact V2.ext (by omega) (by omega);exact absurd c f;exact absurd k f;right;right;right;omega
theorem bE (a b:V2):aV a b b:=au.1 (cd b a)
theorem NM.DG {b r:V2} (h:NM a b p q) (g:aV p q r):¬aV a b r:=by
 intro f;rcases CL g.1 f with e|e|G;rw[e]at g;exact h.a_ g;rw[e]at g;exact h.b_ g;rcases CL f.1 g with e|e|H;rw[e]at f;exact h.p_ f;rw[e]at f;exact h.q_ f;have I:ai p q a-ai p q b=ai a b q-ai a b p:=by simp only[ai,aa,af];grind
 have cr:=h.cr;have z:ai p q a=0/\ai p q b=0/\ai a b p=0/\ai a b q=0:=by omega
 clear cr I G H;obtain⟨i,j,m,B⟩:=z;by_cases C:p.x=q.x
 ·by_cases D:p.y=q.y;have e:p=q:=V2.ext C D;subst e;obtain⟨_,Q,R,E,F⟩:=g;have:r=p:=V2.ext (by omega) (by omega);rw[this]at f;exact h.p_ f
  ·have l:∀{a b p q r:V2},NM a b p q->aV p q r->aV a b r->ai p q a=0->ai p q b=0->ai a b p=0->p.y<q.y->a.y<=b.y->False:=(by intro a b p q r h g f i j m o J;have t:=λx y=>h.a_ (dj i o x y);have u:=λx y=>h.b_ (dj j o x y);have A:=λw x y=>h.p_ (dj m w x y);obtain⟨_,_,_,E,F⟩:=g;obtain⟨_,_,_,K,M⟩:=f;have N:¬(p.y<=a.y/\a.y<=q.y):=λk=>t k.1 k.2;have O:¬(p.y<=b.y/\b.y<=q.y):=λk=>u k.1 k.2;have P:¬(a.y<b.y/\a.y<=p.y/\p.y<=b.y):=λk=>A k.1 k.2.1 k.2.2;clear t u A;omega);rcases Yi D with c|c<;>rcases YI a.y b.y with d|d
   ·exact l h g f i j m c d
   ·exact l h.rev g (au.2 f) j i (by rw[aU,m];rfl) c d
   ·exact l h.swap (au.2 g) f (by rw[aU,i];rfl) (by rw[aU,j];rfl) B c d
   ·exact l h.rev.swap (au.2 g) (au.2 f) (by rw[aU,j];rfl) (by rw[aU,i];rfl) (by rw[aU,B];rfl) c d
 ·have l:∀{a b p q r:V2},NM a b p q->aV p q r->aV a b r->ai p q a=0->ai p q b=0->ai a b p=0->p.x<q.x->a.x<=b.x->False:=(by intro a b p q r h g f i j m o J;have t:=λx y=>h.a_ (qz i o x y);have u:=λx y=>h.b_ (qz j o x y);have A:=λw x y=>h.p_ (qz m w x y);obtain⟨_,E,F,_,_⟩:=g;obtain⟨_,K,M,_,_⟩:=f;have N:¬(p.x<=a.x/\a.x<=q.x):=λk=>t k.1 k.2;have O:¬(p.x<=b.x/\b.x<=q.x):=λk=>u k.1 k.2;have P:¬(a.x<b.x/\a.x<=p.x/\p.x<=b.x):=λk=>A k.1 k.2.1 k.2.2;clear t u A;omega);rcases Yi C with c|c<;>rcases YI a.x b.x with d|d
  ·exact l h g f i j m c d
  ·exact l h.rev g (au.2 f) j i (by rw[aU,m];rfl) c d
  ·exact l h.swap (au.2 g) f (by rw[aU,i];rfl) (by rw[aU,j];rfl) B c d
  ·exact l h.rev.swap (au.2 g) (au.2 f) (by rw[aU,j];rfl) (by rw[aU,i];rfl) (by rw[aU,B];rfl) c d
theorem Gx {r:V2} (h:ai p q r=0):(q.x-p.x)*ai r q a=(q.x-r.x)*ai p q a/\(q.y-p.y)*ai r q a=(q.y-r.y)*ai p q a:=by
 simp only[ai,aa,af]at*;constructor<;>grind
theorem uN {r b:V2} (h:ai p q r=0):(q.x-p.x)*ai a b r=(q.x-r.x)*ai a b p+(r.x-p.x)*ai a b q/\(q.y-p.y)*ai a b r=(q.y-r.y)*ai a b p+(r.y-p.y)*ai a b q:=by
 simp only[ai,aa,af]at*;constructor<;>grind
theorem aV.trans {r:V2} (h:aV p q r) (k:aV r q a):aV p q a:=by
 obtain⟨f,i,j,l,m⟩:=h;obtain⟨g,o,t,u,w⟩:=k;refine⟨?_,by omega,by omega,by omega,by omega⟩;obtain⟨b,c⟩:=Gx (a:=a) f;rw[g,Yh]at b c;rcases mz b.symm with c1|c1;rcases mz c.symm with c2|c2;have:a=q:=V2.ext (by omega) (by omega);rw[this];exact(bE p q).1;exact c2;exact c1
theorem qU {r:V2} (h:aV p q r):(0<ai r q a->0<ai p q a)/\(ai r q a<0->ai p q a<0):=by
 obtain⟨b,j,k,l,m⟩:=h;obtain⟨c,f⟩:=Gx (a:=a) b;by_cases g:q.x=r.x;by_cases i:q.y=r.y;have z:q=r:=V2.ext g i;have:ai r q a=0:=(by rw[z];simp only[ai,aa,af];grind);omega;exact gJ f;exact gJ c
theorem C2 {r b:V2} (h:aV p q r):(0<ai a b r->ai a b q<0->0<ai a b p)/\(ai a b r<0->0<ai a b q->ai a b p<0):=by
 obtain⟨c,k,l,m,o⟩:=h;obtain⟨f,g⟩:=uN (a:=a) (b:=b) c;by_cases i:q.x=r.x;by_cases j:q.y=r.y;have z:q=r:=V2.ext i j;subst z;omega;exact TI g;exact TI f
theorem NM.sub {b r:V2} (h:NM a b p q) (c:aV p q r):NM a b r q:=by
 refine⟨λk=>h.a_ (c.trans k),λk=>h.b_ (c.trans k),h.DG c,h.q_,λ⟨j,l⟩=>h.cr ?_⟩;have f:=qU (a:=a) c;have g:=qU (a:=b) c;have i:=C2 (a:=a) (b:=b) c;refine⟨?_,?_⟩;rcases j with⟨x,y⟩|⟨x,y⟩;exact .inl ⟨f.1 x,g.2 y⟩;exact .inr ⟨f.2 x,g.1 y⟩;rcases l with⟨x,y⟩|⟨x,y⟩;exact .inl ⟨i.1 x y,y⟩;exact .inr ⟨i.2 x y,y⟩
theorem Ja {b:V2} (g:ai a b q≠0) (f:aV b q p) (i:p≠b):NM a b p q:=by
 have sg:(0<ai a b q->0<ai a b p)/\(ai a b q<0->ai a b p<0):=by obtain⟨o,r,t,u,w⟩:=f;have j:(q.x-b.x)*ai a b p=(p.x-b.x)*ai a b q:=(by simp only[ai,aa,af]at*;grind);have l:(q.y-b.y)*ai a b p=(p.y-b.y)*ai a b q:=(by simp only[ai,aa,af]at*;grind);have m:p.x≠b.x\/p.y≠b.y:=Xz λh=>i (V2.ext (by omega) (by omega));rcases m with c|c;exact gJ j.symm;exact gJ l.symm
 refine⟨λk=>g ?_,λk=>i ?_,λk=>?_,λk=>g k.1,λ⟨_,k⟩=>by omega⟩;have:=(f.trans k).1;have e:ai a b q=ai b q a:=(by simp only[ai,aa,af];grind);rw[e];exact this;obtain⟨_,x,y,z,A⟩:=f;obtain⟨_,B,C,D,E⟩:=k;exact V2.ext (by omega) (by omega);have:=k.1;omega
theorem yx {b c:V2} (f:ai a b c≠0) (h:ai a b q=0) (h2:ai b c q=0):q=b:=by
 have d:=VE (af b a) (af c b) (af q b);have i:aa (af b a) (af c b)=ai a b c:=by simp only[ai,aa,af];grind
 have j:aa (af q b) (af c b)= -ai b c q:=by simp only[ai,aa,af];grind
 have l:aa (af b a) (af q b)=ai a b q:=by simp only[ai,aa,af];grind
 rw[i,j,l,h,h2]at d;simp only[af,Int.neg_zero,Yb,WT]at d;rcases mz d.1 with k|k;exact absurd k f;rcases mz d.2 with g|g;exact absurd g f;exact V2.ext (by omega) (by omega)
theorem Q5 {b:V2} (h:aV a b p) (j:p≠b) (X:V2):tq (af b p) X=tq (af b a) X:=by
 obtain⟨l,u,w,x,y⟩:=h;have z:X=⟨1*X.x,1*X.y⟩:=V2.ext (by simp) (by simp);have g:∀m k:Int,0<m->0<k->m*(b.x-p.x)=k*(b.x-a.x)->m*(b.y-p.y)=k*(b.y-a.y)->tq (af b p) X=tq (af b a) X:=by intro m k o q r t;rw[<-vK o (show(0:Int)<1 by decide) (af b p) X,<-vK q (show(0:Int)<1 by decide) (af b a) X];simp only[af];rw[r,t]
 simp only[ai,aa,af]at l;by_cases f:b.x=p.x;have i:b.y≠p.y:=λi=>j (V2.ext f.symm i.symm);have ex:b.x=a.x:=(by have:(b.x-a.x)*(b.y-p.y)=0:=(by grind);rcases mz this with k|k<;>omega);rcases Yi i with c|c;exact g (a.y-b.y) (p.y-b.y) (by omega) (by omega) (by rw[f,<-ex,<-f];simp) (by grind);exact g (b.y-a.y) (b.y-p.y) (by omega) (by omega) (by rw[f,<-ex,<-f];simp) (by grind);rcases Yi f with c|c;exact g (a.x-b.x) (p.x-b.x) (by omega) (by omega) (by grind) (by grind);exact g (b.x-a.x) (b.x-p.x) (by omega) (by omega) (by grind) (by grind)
variable {s:Nat}
section
variable {n:Nat} {P:Int->V2} (C:zP n P)
include C
theorem zP.G1 {K:Int} (f:∀i:Nat,fX n P i+hA P i=K) {i:Nat} (a:aV (P i) (P (i+1)) p) (g:p≠P i) (h2:p≠P (i+1)):dr P p (i+1) (n-1)=K:=by
 have t:=C.n3;obtain⟨m,rfl⟩:∃m,n=m+3:=⟨n-3,by omega⟩;have h:(i:Int)+2+m=i-1+((m+3:Nat):Int):=by omega
 have o:(i:Int)+2+m+1=i+((m+3:Nat):Int):=by omega
 have k:=lu (P:=P) (p:=p) (q:=P (i+1)) (s:=i+2) (m+1) (λj u=>by
  by_cases c:j=m;subst c;rw[o,h,C.hZ,C.hZ];exact Ja (C.pH i) a g
  ·exact(C.nm i (i+2+j) (by omega) (by omega)).sym.sub a)
 rw[show(i:Int)+2+((m+1:Nat):Int)=i+((m+3:Nat):Int) by omega,C.hZ]at k;have l:tq (af (P i) p) (af (P i) (P (i+1)))=0:=uJ (by have:=a.1;simp only[ai,aa,af]at*;grind);have b:=jk P p (i+1) (m+1);rw[show(i:Int)+1+1=i+2 by omega]at b;have w:=EG p (P (i+1)) (P (i+2));have x:=Q5 a h2 (af (P (i+2)) (P (i+1)));have r:=f (i+1);unfold fX hA at r;rw[show((i+1:Nat):Int)=i+1 by omega,show(i:Int)+1+1=i+2 by omega,show(i:Int)+1-1=i by omega]at r;show dr P p (i+1) (m+1+1)=K;have y:dr P (P (i+1)) (i+2) (m+3-2)=dr P (P (i+1)) (i+2) (m+1):=rfl;rw[b];omega
theorem zP.CK {i j:Int} (l:i<j) (h2:j<i+n) (b:aV (P i) (P (i+1)) q) (c:q≠P i) (f:q≠P (i+1)):¬aV (P j) (P (j+1)) q:=by
 intro a;by_cases g:j=i+1;subst g;have t:=C.pH (i+1);rw[show i+1-1=i by omega]at t;exact f (yx t b.1 a.1);by_cases h:j+1=i+n;have e:P (j+1)=P i:=(by rw[h,C.hZ]);have k:P j=P (i-1):=(by rw[<-C.hZ (i-1)];congr 1;omega);rw[e,k]at a;exact c (yx (C.pH i) a.1 b.1);exact(C.nm i j (by omega) (by omega)).DG a b
omit C in
theorem I5 {f:Int->Int} {n:Nat} (k:∀i,f (i+n)=f i) (g:Int->Nat->Int) (c:∀s,g s 0=0) (hs:∀s m,g s (m+1)=g s m+f (s+m)) (l:s<=n):g s n=g 0 n:=by
 have j:∀(s:Int) (a b:Nat),g s (a+b)=g s a+g (s+a) b:=λs a b=>by
  induction b with
  |zero=>simp[c]
  |succ b h=>rw[<-YQ,hs,hs,h,show s+((a+b:Nat):Int)=s+a+b by omega];omega
 have a:=j 0 s (n-s);have b:=j s (n-s) s;rw[show s+(n-s)=n by omega,Zf]at a;rw[show n-s+s=n by omega]at b;have e:∀m:Nat,g (s+((n-s:Nat):Int)) m=g 0 m:=λm=>by
  induction m with
  |zero=>rw[c,c]
  |succ m h=>rw[hs,hs,h,show(s:Int)+((n-s:Nat):Int)+m=0+m+n by omega,k]
 rw[e]at b;omega
theorem zP.sF (p:V2) (hs:s<=n):dr P p s n=dr P p 0 n:=by
 refine I5 (f:=λj=>tq (af (P j) p) (af (P (j+1)) p)) (λi=>?_) (λs m=>dr P p s m) (λs=>rfl) (λs m=>rfl) hs;show tq (af (P (i+n)) p) (af (P (i+n+1)) p)=tq (af (P i) p) (af (P (i+1)) p);rw[show i+n+1=i+1+n by omega,C.hZ,C.hZ]
end
def ag (m:Int) (v:V2):V2:=⟨m*v.x,m*v.y⟩
theorem hQ (m:Int) (a b:V2):af (ag m a) (ag m b)=ag m (af a b):=by
 simp only[af,ag];exact V2.ext (by simp only;grind) (by simp only;grind)
theorem bZ (m:Int) (a b c:V2):ai (ag m a) (ag m b) (ag m c)=m*m*ai a b c:=by
 simp only[ai,aa,af,ag];grind
variable {m:Int}
theorem tT {x y:Int} (a:0<m):m*x<=m*y↔x<=y:=⟨λh=>YX h a,λh=>XT h (XO a)⟩
variable {a p:V2}
theorem gW (c:0<m) {b:V2}:aV (ag m a) (ag m b) (ag m p)↔aV a b p:=by
 unfold aV;rw[bZ];simp only[ag,tT c];have f:=XC c c;constructor;rintro⟨h,k⟩;refine⟨?_,k⟩;rcases mz h with h|h;omega;exact h;rintro⟨h,k⟩;exact⟨by rw[h,Yh],k⟩
theorem rn (c:0<m) {b q:V2} (h:NM a b p q):NM (ag m a) (ag m b) (ag m p) (ag m q):=by
 have g:=XC c c;have s:∀t:Int,(0<m*m*t↔0<t)/\(m*m*t<0↔t<0):=λt=>by have f:=ct t g;rw[Yd]at f;omega
 refine⟨λk=>h.a_ ((gW c).1 k),λk=>h.b_ ((gW c).1 k),λk=>h.p_ ((gW c).1 k),λk=>h.q_ ((gW c).1 k),λk=>h.cr ?_⟩;simp only[bZ,(s _).1,(s _).2]at k;exact k
theorem Qo (a:0<m) (u v:V2):tq (ag m u) (ag m v)=tq u v:=vK a a u v
theorem E6 {m:Int} (a:0<m) (P:Int->V2) (p:V2) (s:Int):∀k,dr (λi=>ag m (P i)) (ag m p) s k=dr P p s k
 |0=>rfl
 |k+1=>by simp only[dr];rw[E6 a P p s k,hQ,hQ,Qo a]
theorem rA (N D:Nat->Int) (p:Nat->Prop) (f:∀i,p i->0<D i):∀M:Nat,(∃i,i<M/\p i)->∃i,i<M/\p i/\∀j,j<M->p j->N i*D j<=N j*D i
 |0,⟨i,h,_⟩=>absurd h (XL _)
 |M+1,⟨i,w,g⟩=>by
  by_cases h:∃i,i<M/\p i;obtain⟨k,x,l,m⟩:=rA N D p f M h;by_cases c:p M/\N M*D k<N k*D M;refine⟨M,by omega,c.1,λj o b=>?_⟩;by_cases e:j=M;subst e;exact Yc _;have a:=m j (by omega) b;have r:=f k l;have t:=f j b;have u:=f M c.1;have y:=Yp (XO c.2) (XO t);have z:=Yp a (XO u);refine YX (a:=D k) ?_ r;have A:D k*(N M*D j)=N M*D k*D j:=(by grind);have B:N k*D M*D j=N k*D j*D M:=(by grind);have C:D k*(N j*D M)=N j*D k*D M:=(by grind);omega;refine⟨k,by omega,l,λj o b=>?_⟩;by_cases e:j=M;subst e;exact Zx.1 λq=>c ⟨b,q⟩;exact m j (by omega) b
  ·have e:i=M:=Xz λq=>h ⟨i,by omega,g⟩;subst e;exact⟨i,by omega,g,λj o b=>by
    by_cases e:j=i;subst e;exact Yc _
    ·exact absurd ⟨j,by omega,b⟩ h⟩
theorem CM {b:V2} {N:Int} (c:0<N) (q:a.y≠p.y) (r:b.y≠p.y) (i:¬aV a b p) (j:¬aV a b ⟨p.x+N,p.y⟩)
  (l:¬((a.y<p.y/\p.y<b.y/\0<ai a b p/\ai a b p<(b.y-a.y)*N)\/(b.y<p.y/\p.y<a.y/\ai a b p<0/\(b.y-a.y)*N<ai a b p))):NM a b p ⟨p.x+N,p.y⟩:=by
 have m:ai a b ⟨p.x+N,p.y⟩=ai a b p-(b.y-a.y)*N:=by simp only[ai,aa,af];grind
 have f:∀v:V2,ai p ⟨p.x+N,p.y⟩ v=(v.y-p.y)*N:=λv=>by simp only[ai,aa,af];grind
 refine⟨λk=>?_,λk=>?_,i,j,λ⟨o,k⟩=>l ?_⟩;obtain⟨_,_,_,g,h⟩:=k;simp only at g h;omega;obtain⟨_,_,_,g,h⟩:=k;simp only at g h;omega;rw[m]at k;rw[f,f]at o;have t:=ct (a.y-p.y) c;have u:=ct (b.y-p.y) c;have w:=ct (b.y-a.y) c;generalize (a.y-p.y)*N=x at*;generalize (b.y-p.y)*N=y at*;generalize (b.y-a.y)*N=z at*;clear m f i j l;omega
theorem H9 {u v:V2} (h:¬((u.y<0/\0<v.y/\0<aa u v)\/(v.y<0/\0<u.y/\aa u v<0))) (a:u.y≠0) (b:v.y≠0):cq u v=0:=by
 unfold cq;rw[iN,iN]
theorem iG (a b p:V2):aa (af a p) (af b p)=ai a b p:=by simp only[ai,aa,af];grind
theorem Gv {b:V2} (h:¬aV a b p):tq (af a p) (af b p)=4*cq (af a p) (af b p)+gq (af a p)-gq (af b p):=B2 (λk=>h ((U1 _ _ _).1 k))
variable {K:Int}
section
variable {n:Nat} {P:Int->V2} (C:zP n P)
include C
theorem zP.scale (a:0<m):zP n (λi=>ag m (P i)):=by
 refine⟨C.n3,λi=>by simp only[C.hZ],λi h=>C.pH i ?_,λi j b c=>rn a (C.nm i j b c)⟩;simp only[bZ]at h;have f:=XC a a;rcases mz h with h|h;omega;exact h
omit C in
theorem Ay (a:0<m) (b:∀i:Nat,fX n P i+hA P i=K):∀i:Nat,fX n (λi=>ag m (P i)) i+hA (λi=>ag m (P i)) i=K:=λi=>by
 rw[<-b i];unfold fX hA;rw[E6 a];simp only[hQ,Qo a]
def SG (P:Int->V2) (p:V2) (i:Nat):Prop:=((P i).y<p.y/\p.y<(P (i+1)).y/\0<ai (P i) (P (i+1)) p)\/((P (i+1)).y<p.y/\p.y<(P i).y/\ai (P i) (P (i+1)) p<0)
def jc (x:Int):Int:=if 0<=x then x else-x
theorem zP.OS (a6:∀i:Nat,fX n P i+hA P i=K) (F:∀i:Int,(P i).y≠p.y) (Z:∀i:Int,¬aV (P i) (P (i+1)) p):
  dr P p 0 n=0\/dr P p 0 n=K+2\/dr P p 0 n=K-2:=by
 have c1:=C.n3;by_cases G:∃i,i<n/\SG P p i
 ·right;obtain⟨i,a7,H,a0⟩:=rA (λi=>jc (ai (P i) (P (i+1)) p)) (λi=>jc ((P (i+1)).y-(P i).y)) (SG P p) (λi h=>by unfold SG at h;unfold jc;split<;>omega) n G;obtain⟨D,I⟩:∃D,D=jc ((P (i+1)).y-(P i).y):=⟨_,rfl⟩;obtain⟨N,J⟩:∃N,N=jc (ai (P i) (P (i+1)) p):=⟨_,rfl⟩;have b:0<D:=(by rw[I];unfold SG at H;unfold jc;split<;>omega);have a8:0<N:=(by rw[J];unfold SG at H;unfold jc;split<;>omega);have S:=C.scale b;have a9:=Ay (n:=n) (P:=P) b a6;obtain⟨q,o⟩:∃q:V2,q=⟨(ag D p).x+N,(ag D p).y⟩:=⟨_,rfl⟩;have M:∀j:Int,(ag D (P j)).y≠(ag D p).y:=λj e=>by simp only[ag]at e;exact F j (Y7 (by omega) e)
  have O:(P i).y<p.y/\p.y<(P (i+1)).y/\D=(P (i+1)).y-(P i).y/\N=ai (P i) (P (i+1)) p\/(P (i+1)).y<p.y/\p.y<(P i).y/\D=(P i).y-(P (i+1)).y/\N= -ai (P i) (P (i+1)) p:=(by rw[I,J];unfold SG at H;unfold jc;split<;>split<;>omega);have a1:ai (ag D (P i)) (ag D (P (i+1))) q=D*D*ai (P i) (P (i+1)) p-D*((P (i+1)).y-(P i).y)*N:=(by rw[o];simp only[ai,aa,af,ag];grind);have Q:ai (ag D (P i)) (ag D (P (i+1))) q=0:=(by rw[a1];rcases O with⟨_,_,r,g⟩|⟨_,_,r,g⟩;rw[<-r,<-g];omega;rw[show(P (i+1)).y-(P i).y= -D by omega,show ai (P i) (P (i+1)) p= -N by omega];grind);have a2:aV (ag D (P i)) (ag D (P (i+1))) q:=by
   rcases O with⟨r,g,_,_⟩|⟨r,g,_,_⟩;(have b0:=Yv r b;have b1:=Yv g b;refine dj Q ?_ ?_ ?_<;>simp only[o,ag]<;>omega)
   ·have b0:=Yv r b;have b1:=Yv g b;refine au.1 (dj (by rw[aU,Q];rfl) ?_ ?_ ?_)<;>simp only[o,ag]<;>omega
  have B:∀j:Int,q≠ag D (P j):=λj e=>M j (by rw[<-e,o]);have b2:=S.G1 a9 a2 (B _) (B _);have k:=lu (P:=λi=>ag D (P i)) (p:=ag D p) (q:=q) (s:=i+1) (n-1) (λj c2=>by
   have a3:=S.CK (i:=i) (j:=(i:Int)+1+j) (by omega) (by omega) a2 (B _) (B _);rw[o]at a3|-;refine CM a8 (M _) (M _) (λh=>Z _ ((gW b).1 h)) a3 ?_;obtain⟨a,b3,a4⟩:∃a:Nat,a<n/\P ((i:Int)+1+j)=P a/\P ((i:Int)+1+j+1)=P (a+1):=(by by_cases c:i+1+j<n;exact⟨i+1+j,c,by congr 1,by congr 1⟩;refine⟨i+1+j-n,by omega,?_,?_⟩;rw[<-C.hZ ((i+1+j-n:Nat):Int)];congr 1;omega;rw[<-C.hZ (((i+1+j-n:Nat):Int)+1)];congr 1;omega);have E:=a0 a b3;rw[a4.1,a4.2,bZ];have sg:∀t:Int,(0<D*D*t->0<t)/\(D*D*t<0->t<0):=λt=>by have f:=ct t (XC b b);rw[Yd]at f;omega
   have u:∀x y:Int,D*x<D*y->x<y:=λx y h=>ZZ h (XO b);simp only[<-I,<-J]at E;rintro(⟨w,z,A,l⟩|⟨w,z,A,l⟩);have R:=u _ _ w;have T:=u _ _ z;have U:=(sg _).1 A;have:=E (.inl ⟨R,T,U⟩);unfold jc at this;rw[iP,iP]at this;simp only[ag]at l;have V:D*(D*ai (P a) (P (a+1)) p)<D*(((P (a+1)).y-(P a).y)*N):=(by rw[show D*(D*ai (P a) (P (a+1)) p)=D*D*ai (P a) (P (a+1)) p by grind,show D*(((P (a+1)).y-(P a).y)*N)=(D*(P (a+1)).y-D*(P a).y)*N by grind];exact l);have b4:=u _ _ V;rw[Yd N,Yd _ D]at this;omega
   ·have R:=u _ _ w;have T:=u _ _ z;have U:=(sg _).2 A;have:=E (.inr ⟨R,T,U⟩);unfold jc at this;rw[iN,iN]at this;simp only[ag]at l;have V:D*(((P (a+1)).y-(P a).y)*N)<D*(D*ai (P a) (P (a+1)) p):=(by rw[show D*(D*ai (P a) (P (a+1)) p)=D*D*ai (P a) (P (a+1)) p by grind,show D*(((P (a+1)).y-(P a).y)*N)=(D*(P (a+1)).y-D*(P a).y)*N by grind];exact l);have b4:=u _ _ V;have b5:N* -((P (a+1)).y-(P a).y)= -(((P (a+1)).y-(P a).y)*N):=(by grind);have b6: -ai (P a) (P (a+1)) p*D= -(D*ai (P a) (P (a+1)) p):=(by grind);rw[b5,b6]at this;omega)
  have a5:∀X:V2,tq (af X (ag D p)) (af X q)=0:=λX=>uK (by rw[o];rfl);rw[a5,a5,b2,E6 b]at k;rw[<-C.sF p (ZN a7),show n=n-1+1 by omega,jk];have g:tq (af (P i) p) (af (P (i+1)) p)=2\/tq (af (P i) p) (af (P (i+1)) p)= -2:=by
   have c3:=aW (af (P i) p).y;have c4:=aW (af (P (i+1)) p).y;unfold tq ue;rw[iG];simp only[af]at*;clear a0 G k a1 Q;rcases O with⟨w,z,A,l⟩|⟨w,z,A,l⟩
   ·have Y:0<ai (P i) (P (i+1)) p:=(by omega);simp only[XG Y];repeat' split
    all_goals omega
   ·have Y:ai (P i) (P (i+1)) p<0:=(by omega);have b7:¬0<ai (P i) (P (i+1)) p:=(by omega);simp only[XD b7,XG Y];repeat' split
    all_goals omega
  omega
 ·left;have b8:∀m:Nat,m<=n->dr P p 0 m=gq (af (P 0) p)-gq (af (P m) p):=λm=>by
   induction m with
   |zero=>intro _;simp[dr]
   |succ m b9=>intro E;have c0:cq (af (P m) p) (af (P (m+1)) p)=0:=(by have c5:=F m;have c6:=F (m+1);refine H9 (λh=>G ⟨m,by omega,?_⟩) (by simp only[af];omega) (by simp only[af];omega);rw[iG]at h;simp only[af]at h;unfold SG;omega);simp only[dr];rw[b9 (by omega),Zf,Gv (Z m),c0,show((m+1:Nat):Int)=m+1 by omega];omega
  have:=b8 n (XP _);have e:=C.hZ 0;rw[Zf]at e;rw[e]at this;omega
theorem zP.off (a3:2<=m) (w:∀i:Int,(P (i+1)).x-(P i).x<m/\(P i).x-(P (i+1)).x<m) (Q:∀i:Nat,fX n P i+hA P i=K) (A:∀i:Int,¬aV (P i) (P (i+1)) p):
  dr P p 0 n=0\/dr P p 0 n=K+2\/dr P p 0 n=K-2:=by
 have B:0<m:=by omega
 obtain⟨j,H⟩:∃j:V2,j=⟨m*p.x,m*p.y+1⟩:=⟨_,rfl⟩;have q:∀t:Int,(m*t<1↔t<1)/\(1<m*t↔0<t)/\m*t≠1:=λt=>by by_cases c:0<t;have:=XT (show 1<=t by omega) (show 0<=m by omega);rw[ZY]at this;omega;have:=XI (show 0<=m by omega) (show t<=0 by omega);omega
 have r:∀v:V2,(af (ag m v) j).y=m*(af v p).y-1:=λv=>by rw[H];simp only[af,ag];grind
 have D:∀a b:V2,aa (af (ag m a) j) (af (ag m b) j)=m*(m*ai a b p+(b.x-a.x)):=λa b=>by rw[H];simp only[ai,aa,af,ag];grind
 have E:∀{a b:V2},b.x-a.x<m->a.x-b.x<m->((af a p).y<1/\0<(af b p).y)\/((af b p).y<1/\0<(af a p).y)->¬aV a b p->(0<aa (af (ag m a) j) (af (ag m b) j)↔0<ai a b p)/\(aa (af (ag m a) j) (af (ag m b) j)<0↔ai a b p<0)/\aa (af (ag m a) j) (af (ag m b) j)≠0:=by
  intro a b a4 a5 x F;have R:ai a b p≠0:=λz=>by simp only[af]at x;rcases x with x|x;exact F (dj z);exact F (au.1 (dj (by rw[aU,z];rfl)))
  rw[D];have g:(0<ai a b p->m<=m*ai a b p)/\(ai a b p<0->m*ai a b p<= -m):=by
   refine⟨λh=>?_,λh=>?_⟩
   ·have:=XT (show 1<=ai a b p by omega) (show 0<=m by omega)
    rwa [ZY]at this
   ·have:=XT (show ai a b p<= -1 by omega) (show 0<=m by omega)
    rwa [YH,ZY]at this
  have f:=ct (m*ai a b p+(b.x-a.x)) B;rw[Yd m (m*ai a b p+(b.x-a.x))];generalize m*ai a b p=y at*;generalize (y+(b.x-a.x))*m=z at*;clear D r q x F;rcases YF (ai a b p) 0 with h|h|h;have:=g.2 h;have:=f.2.1 (by omega);omega;exact absurd h R;have:=g.1 h;have:=f.1 (by omega);omega
 have G:∀i:Int,¬aV (ag m (P i)) (ag m (P (i+1))) j:=λi h=>by have T:=(U1 _ _ _).2 h;obtain⟨I,a6,a7,J,M⟩:=T;rw[lK]at I;rw[r,r]at J M;simp only[zz]at J M;have U:=q (af (P i) p).y;have V:=q (af (P (i+1)) p).y;exact(E (w i).1 (w i).2 (by omega) (A i)).2.2 I
 have N:∀i:Int,(ag m (P i)).y≠j.y:=λi h=>by have:=r (P i);simp only[af]at this;have l:=q ((P i).y-p.y);omega
 have X:∀i:Int,cq (af (ag m (P i)) j) (af (ag m (P (i+1))) j)=cq (af (P i) p) (af (P (i+1)) p):=λi=>by
  have U:=q (af (P i) p).y;have V:=q (af (P (i+1)) p).y;have O:=E (w i).1 (w i).2;have o:=A i;unfold cq;rw[r,r,iG (P i)];generalize (af (P i) p).y=u at*;generalize (af (P (i+1)) p).y=v at*;generalize aa (af (ag m (P i)) j) (af (ag m (P (i+1))) j)=z at*;generalize ai (P i) (P (i+1)) p=t at*;generalize m*u=a8 at*;generalize m*v=a9 at*;clear w A E D r q G N;by_cases Y:u<1/\0<v
  ·have s:=O (.inl Y) o;repeat' split
   all_goals omega
  ·by_cases Z:v<1/\0<u
   ·have s:=O (.inr Z) o;repeat' split
    all_goals omega
   ·rw[iN,iN,iN,iN]
 have S:=C.scale B;have a0:=Ay (n:=n) (P:=P) B Q;have b0:=S.OS a0 N G;have a1:∀k:Nat,dr P p 0 k-dr (λi=>ag m (P i)) j 0 k=gq (af (P 0) p)-gq (af (P k) p)-(gq (af (ag m (P 0)) j)-gq (af (ag m (P k)) j)):=λk=>by
  induction k with
  |zero=>simp[dr]
  |succ k b1=>simp only[dr];rw[Zf,Gv (A k),Gv (G k),X k,show((k+1:Nat):Int)=k+1 by omega];omega
 have a2:=a1 n;have e:=C.hZ 0;rw[Zf]at e;rw[e]at a2;omega
end
abbrev Ed:=List (V2×V2)
def W:Ed->V2->Int
 |[],_=>0
 |e::r,z=>cq (af e.1 z) (af e.2 z)+W r z
def eM (f:V2×V2->Int):Ed->Int
 |[]=>0
 |e::r=>f e+eM f r
theorem gN (E:Ed) (z:V2):W E z=eM (λe=>cq (af e.1 z) (af e.2 z)) E:=by
 induction E with
 |nil=>rfl
 |cons e r a=>simp only[W,eM];rw[a]
theorem Kp (f:V2×V2->Int) (E F:Ed):eM f (E++F)=eM f E+eM f F:=by
 induction E with
 |nil=>simp[eM]
 |cons e r a=>simp only[YG,eM];rw[a];omega
variable {E F:Ed}
theorem IE (f:V2×V2->Int) (h:E.Perm F):eM f E=eM f F:=by
 induction h with
 |nil=>rfl
 |cons x _ a=>simp only[eM];rw[a]
 |swap x y l=>simp only[eM];omega
 |trans _ _ b c=>exact b.trans c
theorem hP {f g:V2×V2->Int} (h:∀e∈E,f e=g e):eM f E=eM g E:=by
 induction E with
 |nil=>rfl
 |cons e r a=>simp only[eM];rw[h e (by simp),a (λx b=>h x (by simp[b]))]
theorem ji {f:V2×V2->Int} (h:∀e∈E,f e=0):eM f E=0:=by
 induction E with
 |nil=>rfl
 |cons e r a=>simp only[eM];rw[h e (by simp),a (λx b=>h x (by simp[b]))];rfl
theorem vS (f g:V2×V2->Int) (E:Ed):eM (λe=>f e+g e) E=eM f E+eM g E:=by
 induction E with
 |nil=>rfl
 |cons e r a=>simp only[eM];rw[a];omega
theorem vR (f:V2×V2->Int) (E:Ed):eM (λe=> -f e) E= -eM f E:=by
 induction E with
 |nil=>rfl
 |cons e r a=>simp only[eM];rw[a];omega
theorem nw (f:V2×V2->Int) (g:V2×V2->V2×V2) (E:Ed):eM f (E.map g)=eM (λe=>f (g e)) E:=by
 induction E with
 |nil=>rfl
 |cons e r a=>simp only[Yg,eM];rw[a]
theorem lO (E F:Ed) (z:V2):W (E++F) z=W E z+W F z:=by rw[gN,gN,gN,Kp]
theorem jT (h:E.Perm F) (z:V2):W E z=W F z:=by rw[gN,gN,IE _ h]
def dx (E:Ed):Ed:=E.map λe=>(e.2,e.1)
theorem ja (E:Ed) (z:V2):W (dx E) z= -W E z:=by
 rw[gN,gN,<-vR,dx,nw];exact hP (λe _=>dc _ _)
def bD (m:Int) (E:Ed):Ed:=E.map λe=>(ag m e.1,ag m e.2)
variable {m:Int}
theorem T6 (a:0<m) (u v:V2):cq (ag m u) (ag m v)=cq u v:=by
 have b:aa (ag m u) (ag m v)=m*m*aa u v:=by simp only[aa,ag];grind
 have f:=ct (aa u v) (XC a a);rw[Yd]at f;have c:=ct u.y a;have g:=ct v.y a;unfold cq;rw[b];simp only[ag];rw[Yd]at c g;generalize m*m*aa u v=z at*;clear b;repeat' split
 all_goals omega
theorem kK (a:0<m) (E:Ed) (z:V2):W (bD m E) (ag m z)=W E z:=by
 rw[gN,gN,bD,nw];exact hP (λe _=>by simp only[hQ];exact T6 a _ _)
theorem gR (m k:Int) (v:V2):ag m (ag k v)=ag (m*k) v:=by simp only[ag];exact V2.ext (by simp only;grind) (by simp only;grind)
theorem eO (m k:Int) (E:Ed):bD m (bD k E)=bD (m*k) E:=by
 unfold bD;rw[Yq];exact Yx (λe _=>by simp only[Function.comp,gR])
theorem bt (v:V2):ag 1 v=v:=V2.ext (by simp[ag]) (by simp[ag])
theorem gT (E:Ed):bD 1 E=E:=by
 have:(λe:V2×V2=>(ag 1 e.1,ag 1 e.2))=id:=by funext e;simp[bt]
 unfold bD;rw[this,aas]
theorem ed (m:Int) (E F:Ed):bD m (E++F)=bD m E++bD m F:=Ys
def mT (E:Ed):Prop:=(E.map (·.1)).Perm (E.map (·.2))
theorem mT.rev (h:mT E):mT (dx E):=by
 unfold mT dx;rw[Yq,Yq];exact h.symm
theorem mT.sc (h:mT E) (m:Int):mT (bD m E):=by
 have:=h.map (ag m);unfold mT bD;rw[Yq]at this|-;rw[Yq]at this|-;exact this
theorem mT.app (h:mT E) (k:mT F):mT (E++F):=by
 unfold mT;rw[Ys,Ys];exact h.append k
theorem mT.perm (h:mT E) (k:E.Perm F):mT F:=(k.map _).symm.trans (h.trans (k.map _))
def Ac (h:V2->Int):LV->Int
 |[]=>0
 |v::r=>h v+Ac h r
theorem IC (h:V2->Int) {l a:LV} (p:l.Perm a):Ac h l=Ac h a:=by
 induction p with
 |nil=>rfl
 |cons x _ b=>simp only[Ac];rw[b]
 |swap x y l=>simp only[Ac];omega
 |trans _ _ c f=>exact c.trans f
theorem Ko (h:V2->Int) (E:Ed):eM (λe=>h e.1) E=Ac h (E.map (·.1)):=by
 induction E with
 |nil=>rfl
 |cons e r a=>simp only[Yg,eM,Ac];rw[a]
theorem Km (h:V2->Int) (E:Ed):eM (λe=>h e.2) E=Ac h (E.map (·.2)):=by
 induction E with
 |nil=>rfl
 |cons e r a=>simp only[Yg,eM,Ac];rw[a]
theorem mT.tel (c:mT E) (h:V2->Int):eM (λe=>h e.2-h e.1) E=0:=by
 have a:eM (λe=>h e.2-h e.1) E=eM (λe=>h e.2) E-eM (λe=>h e.1) E:=by have:=vS (λe=>h e.2) (λe=> -h e.1) E;rw[vR (λe=>h e.1)]at this;rw[show(λe:V2×V2=>h e.2-h e.1)=(λe=>h e.2+ -h e.1) from by funext e;omega];omega
 rw[a,Ko,Km,IC h c];omega
def Qs (E:Ed) (p q:V2):Int:=eM (λe=>iB cq e.1 e.2 p q) E
theorem Gd (c:mT E) (p q:V2):W E p-W E q=Qs E p q:=by
 have h:=c.tel (λv=>cq (af v p) (af v q));have e:Qs E p q=eM (λe=>cq (af e.1 p) (af e.2 p)+(-cq (af e.1 q) (af e.2 q)+(cq (af e.2 p) (af e.2 q)-cq (af e.1 p) (af e.1 q)))) E:=
  hP (λe _=>by unfold iB;rw[dc (af e.1 q) (af e.2 q),dc (af e.1 p) (af e.1 q)];omega)
 rw[e,vS,vS,vR,h,gN,gN];omega
variable {q:V2}
theorem ih (c:mT E) {p:V2} (h:∀e∈E,NM e.1 e.2 p q):W E p=W E q:=by
 have:=Gd c p q;rw[Qs,ji (λe a=>ri (h e a))]at this;omega
theorem wy {a b p:V2} (z:0<ai a b p) (h2:ai a b q<0) (E:ai p q a<0) (A:0<ai p q b):iB cq a b p q=1:=by
 have M:ai p q b*(p.y-a.y)+ai p q a*(b.y-p.y)+ai a b p*(q.y-p.y)=0:=by simp only[ai,aa,af];grind
 have N:ai p q b*(q.y-a.y)+ai p q a*(b.y-q.y)+ai a b q*(q.y-p.y)=0:=by simp only[ai,aa,af];grind
 have O:ai p q a*(b.y-a.y)+ai a b q*(a.y-p.y)+ai a b p*(q.y-a.y)=0:=by simp only[ai,aa,af];grind
 have P:ai p q b*(b.y-a.y)+ai a b q*(b.y-p.y)+ai a b p*(q.y-b.y)=0:=by simp only[ai,aa,af];grind
 have U:¬(a.y=p.y/\b.y=p.y/\q.y=p.y):=λ⟨Q,R,V⟩=>by have:ai a b p=0:=(by simp only[ai,aa,af];rw[Q,R];simp);omega
 have F:aa (af a p) (af b p)=ai a b p:=by simp only[ai,aa,af];grind
 have G:aa (af b p) (af b q)=ai p q b:=by simp only[ai,aa,af];grind
 have H:aa (af b q) (af a q)= -ai a b q:=by simp only[ai,aa,af];grind
 have I:aa (af a q) (af a p)= -ai p q a:=by simp only[ai,aa,af];grind
 unfold iB cq;rw[F,G,H,I];simp only[af];generalize ai p q a=l at*;generalize ai p q b=B at*;generalize ai a b p=J at*;generalize ai a b q=C at*;have m:a.y<=b.y->¬(p.y<a.y/\q.y<a.y):=λhu ⟨i,j⟩=>by have c:=XM (show 0<= -l by omega) (show 0<=b.y-a.y by omega);have g:=X2 h2 (show 0<a.y-p.y by omega);have f:=Ya z (show q.y-a.y<0 by omega);rw[ZF]at c;omega
 have o:a.y<=b.y->¬(b.y<p.y/\b.y<q.y):=λhu ⟨i,j⟩=>by have c:=XM (show 0<=B by omega) (show 0<=b.y-a.y by omega);have g:=Zl h2 (show b.y-p.y<0 by omega);have f:=XC z (show 0<q.y-b.y by omega);omega
 have r:b.y<=a.y->¬(p.y<b.y/\q.y<b.y):=λhu ⟨i,j⟩=>by have c:=XM (show 0<=B by omega) (show 0<=a.y-b.y by omega);have g:=X2 h2 (show 0<b.y-p.y by omega);have f:=Ya z (show q.y-b.y<0 by omega);rw[show a.y-b.y= -(b.y-a.y) by omega,YH]at c;omega
 have t:b.y<=a.y->¬(a.y<p.y/\a.y<q.y):=λhu ⟨i,j⟩=>by have c:=XM (show 0<= -l by omega) (show 0<=a.y-b.y by omega);have g:=Zl h2 (show a.y-p.y<0 by omega);have f:=XC z (show 0<q.y-a.y by omega);rw[show a.y-b.y= -(b.y-a.y) by omega,YH,ZF]at c;omega
 have u:p.y<=q.y->¬(b.y<=p.y/\a.y<=p.y/\(a.y<p.y\/b.y<p.y\/p.y<q.y)):=λhu ⟨i,j,S⟩=>by have c:=XM (show 0<=B by omega) (show 0<=p.y-a.y by omega);have g:=XM (show 0<= -l by omega) (show 0<=p.y-b.y by omega);have f:=XM (show 0<=J by omega) (show 0<=q.y-p.y by omega);have T:=λk=>XC A (show 0<p.y-a.y from k);have D:=λk=>XC (show 0< -l by omega) (show 0<p.y-b.y from k);have K:=λk=>XC z (show 0<q.y-p.y from k);rw[show p.y-b.y= -(b.y-p.y) by omega,WJ]at g D;omega
 have w:p.y<=q.y->¬(q.y<a.y/\q.y<b.y):=λhu ⟨i,j⟩=>by have c:=Ya A (show q.y-a.y<0 by omega);have g:=X2 E (show 0<b.y-q.y by omega);have f:=XM (show 0<= -C by omega) (show 0<=q.y-p.y by omega);rw[ZF]at f;omega
 have x:q.y<=p.y->¬(p.y<a.y/\p.y<b.y):=λhu ⟨i,j⟩=>by have c:=Ya A (show p.y-a.y<0 by omega);have g:=X2 E (show 0<b.y-p.y by omega);have f:=XM (show 0<=J by omega) (show 0<=p.y-q.y by omega);rw[show p.y-q.y= -(q.y-p.y) by omega,YH]at f;omega
 have y:q.y<=p.y->¬(b.y<=q.y/\a.y<=q.y/\(a.y<q.y\/b.y<q.y\/q.y<p.y)):=λhu ⟨i,j,S⟩=>by have c:=XM (show 0<=B by omega) (show 0<=q.y-a.y by omega);have g:=XM (show 0<= -l by omega) (show 0<=q.y-b.y by omega);have f:=XM (show 0<= -C by omega) (show 0<=p.y-q.y by omega);have T:=λk=>XC A (show 0<q.y-a.y from k);have D:=λk=>XC (show 0< -l by omega) (show 0<q.y-b.y from k);have K:=λk=>XC (show 0< -C by omega) (show 0<p.y-q.y from k);rw[show q.y-b.y= -(b.y-q.y) by omega,WJ]at g D;rw[show p.y-q.y= -(q.y-p.y) by omega,WJ]at f K;omega
 clear M N O P F G H I;rcases YI a.y b.y with hu|hu<;>rcases YI p.y q.y with h|h
 ·have:=m hu;have:=o hu;have:=u h;have:=w h;clear m o r t u w x y;repeat' split
  all_goals omega
 ·have:=m hu;have:=o hu;have:=x h;have:=y h;clear m o r t u w x y;repeat' split
  all_goals omega
 ·have:=r hu;have:=t hu;have:=u h;have:=w h;clear m o r t u w x y;repeat' split
  all_goals omega
 ·have:=r hu;have:=t hu;have:=x h;have:=y h;clear m o r t u w x y;repeat' split
  all_goals omega
theorem I2 (a b p q:V2):iB cq b a p q= -iB cq a b p q:=by
 unfold iB;rw[dc (af a p) (af b p),dc (af a q) (af a p),dc (af b q) (af a q),dc (af b p) (af b q)];omega
theorem I3 (a b p q:V2):iB cq a b q p= -iB cq a b p q:=by
 unfold iB;rw[dc (af a p) (af b p),dc (af a q) (af a p),dc (af b q) (af a q),dc (af b p) (af b q)];omega
variable {z:V2}
theorem NG (h:∀e∈E,e.1.y<=z.y/\e.2.y<=z.y):W E z=0:=by
 rw[gN];refine ji (λe a=>?_);obtain⟨b,c⟩:=h e a;unfold cq;rw[XD (by simp only[af];omega),XD (by simp only[af];omega)]
theorem Um (h:∀e∈E,z.y<e.1.y/\z.y<e.2.y):W E z=0:=by
 rw[gN];refine ji (λe a=>?_);obtain⟨b,c⟩:=h e a;unfold cq;rw[XD (by simp only[af];omega),XD (by simp only[af];omega)]
def Ev (p:Nat->Prop):Prop:=∃N,∀n,N<=n->p n
variable {p:Nat->Prop}
theorem Ev.and {q:Nat->Prop} (h:Ev p) (k:Ev q):Ev λn=>p n/\q n:=by
 obtain⟨N,h⟩:=h;obtain⟨M,k⟩:=k;exact⟨max N M,λn a=>⟨h n (by omega),k n (by omega)⟩⟩
theorem Ev.imp {q:Nat->Prop} (h:Ev p) (k:∀n,p n->q n):Ev q:=by
 obtain⟨N,h⟩:=h;exact⟨N,λn a=>k n (h n a)⟩
theorem Ev.of (h:∀n,p n):Ev p:=⟨0,λn _=>h n⟩
theorem Ev.ge (k:Nat):Ev λn=>k<=n:=⟨k,λ_ h=>h⟩
theorem Ev.ex (h:Ev p) (k:Nat):∃n,k<=n/\p n:=by
 obtain⟨N,h⟩:=h;exact⟨max N k,by omega,h _ (by omega)⟩
theorem Ev.all {α:Type} {p:α->Nat->Prop}:∀(l:List α),(∀x∈l,Ev (p x))->Ev λn=>∀x∈l,p x n
 |[],_=> .of λ_ _ h=>absurd h (by simp)
 |a::l,h=>((h a (by simp)).and (Ev.all l (λx b=>h x (by simp[b])))).imp λn ⟨c,f⟩ x b=>by rcases XF.1 b with rfl|b;exact c;exact f x b
theorem eo {t:Int} (c:Int) (h:0<t):Ev λn=>0<(n:Int)*t+c:=⟨c.natAbs+1,λn a=>by
 have:=XT (show 1<=t by omega) (show 0<=(n:Int) by omega);rw[ZY]at this;omega⟩
theorem kG {t:Int} (c:Int) (h:t<0):Ev λn=>(n:Int)*t+c<0:=(eo (-c) (show 0< -t by omega)).imp λn k=>by
 rw[YH]at k;omega
variable {x y:Int}
theorem qb (c:Int) (h:x<y):Ev λn=>(n:Int)*x+c<n*y:=(kG c (show x-y<0 by omega)).imp λn k=>by
 rw[ZL]at k;omega
theorem qc (c:Int) (h:y<x):Ev λn=>(n:Int)*y<n*x+c:=(eo c (show 0<x-y by omega)).imp λn k=>by
 rw[ZL]at k;omega
theorem kF (t c:Int) (h:t≠0:=by omega):Ev λn=>(0<(n:Int)*t+c↔0<t)/\((n:Int)*t+c<0↔t<0):=by
 rcases Yi h with h|h;(exact(kG c h).imp λn k=>by omega)
 ·exact(eo c h).imp λn k=>by omega
def nr (n:Int) (u s:V2):V2:=⟨n*u.x+s.x,n*u.y+s.y⟩
def ay (a b:V2):Int:=a.x*b.x+a.y*b.y
theorem OV (n:Int) (u:V2):nr n u ⟨0,0⟩=ag n u:=V2.ext (by simp[nr,ag]) (by simp[nr,ag])
theorem nu (n:Int) (a b u s:V2):ai (ag n a) (ag n b) (nr n u s)=n*(n*ai a b u+aa (af b a) s):=by
 simp only[ai,aa,af,ag,nr];grind
theorem Gt (n:Int) (a u s s':V2):ai (nr n u s) (nr n u s') (ag n a)=n*aa (af s' s) (af a u)+aa s s':=by
 simp only[ai,aa,af,ag,nr];grind
theorem bg {n x:Int} (h:1<=n:=by omega):(0<n*x↔0<x)/\(n*x<0↔x<0)/\(n*x=0↔x=0):=by
 have f:=ct x (show 0<n by omega);rw[Yd x n]at f;omega
variable {a u:V2}
theorem CQ {b:V2} (s:V2) (h:¬aV a b u):Ev λn=>¬aV (ag n a) (ag n b) (nr n u s):=by
 by_cases t:ai a b u=0
 ·have p:(u.x<a.x/\u.x<b.x)\/(a.x<u.x/\b.x<u.x)\/(u.y<a.y/\u.y<b.y)\/(a.y<u.y/\b.y<u.y):=(by unfold aV at h;omega);rcases p with⟨c,f⟩|⟨c,f⟩|⟨c,f⟩|⟨c,f⟩;(exact((qb s.x c).and (qb s.x f)).imp λn ⟨g,i⟩ ⟨_,j,k,l,m⟩=>by simp only[ag,nr]at*;omega)
  ·exact((qc s.x c).and (qc s.x f)).imp λn ⟨g,i⟩ ⟨_,j,k,l,m⟩=>by simp only[ag,nr]at*;omega
  ·exact((qb s.y c).and (qb s.y f)).imp λn ⟨g,i⟩ ⟨_,j,k,l,m⟩=>by simp only[ag,nr]at*;omega
  ·exact((qc s.y c).and (qc s.y f)).imp λn ⟨g,i⟩ ⟨_,j,k,l,m⟩=>by simp only[ag,nr]at*;omega
 ·exact((kF _ (aa (af b a) s) t).and (Ev.ge 1)).imp λn ⟨g,i⟩ ⟨o,_⟩=>by rw[nu]at o;have:=(bg (x:=(n:Int)*ai a b u+aa (af b a) s) (show 1<=(n:Int) by omega)).2.2.1 o;omega
theorem LD (s s':V2) (h:a≠u):Ev λn=>¬aV (nr n u s) (nr n u s') (ag n a):=by
 have l:u.x<a.x\/a.x<u.x\/u.y<a.y\/a.y<u.y:=by refine Xz λk=>h (V2.ext (by omega) (by omega))
 rcases l with h1|h1|h1|h1;(exact((qb s.x h1).and (qb s'.x h1)).imp λn ⟨b,c⟩ ⟨_,f,g,i,j⟩=>by simp only[ag,nr]at*;omega)
 ·exact((qc s.x h1).and (qc s'.x h1)).imp λn ⟨b,c⟩ ⟨_,f,g,i,j⟩=>by simp only[ag,nr]at*;omega
 ·exact((qb s.y h1).and (qb s'.y h1)).imp λn ⟨b,c⟩ ⟨_,f,g,i,j⟩=>by simp only[ag,nr]at*;omega
 ·exact((qc s.y h1).and (qc s'.y h1)).imp λn ⟨b,c⟩ ⟨_,f,g,i,j⟩=>by simp only[ag,nr]at*;omega
theorem KN {b d:V2} (t:ai a b u=0) (h:¬aV a b u):(0<aa d (af a u)->0<aa d (af b u))/\(aa d (af a u)<0->aa d (af b u)<0)/\(aa d (af a u)=0->aa d (af b u)=0):=by
 have j:(u.x<a.x/\u.x<b.x)\/(a.x<u.x/\b.x<u.x)\/(u.y<a.y/\u.y<b.y)\/(a.y<u.y/\b.y<u.y):=by unfold aV at h;omega
 have o:(af a u).x*(af b u).y=(af a u).y*(af b u).x:=by simp only[ai,aa,af]at t|-;grind
 have ex:(af b u).x*aa d (af a u)=(af a u).x*aa d (af b u):=by simp only[aa];grind
 have c:(af b u).y*aa d (af a u)=(af a u).y*aa d (af b u):=by simp only[aa];grind
 have f:∀A:Int,A=(af a u).x\/A=(af a u).y->A≠0->A*aa d (af b u)=0->aa d (af b u)=0:=λA _ l m=>(mz m).resolve_left l;simp only[af]at j ex c f|-;rcases j with⟨g,i⟩|⟨g,i⟩|⟨g,i⟩|⟨g,i⟩;have:=gJ ex (.inl ⟨by omega,by omega⟩);exact⟨this.1,this.2,λk=>f _ (.inl rfl) (by omega) (by rw[<-ex,k,Yh])⟩;have:=gJ ex (.inr ⟨by omega,by omega⟩);exact⟨this.1,this.2,λk=>f _ (.inl rfl) (by omega) (by rw[<-ex,k,Yh])⟩;have:=gJ c (.inl ⟨by omega,by omega⟩);exact⟨this.1,this.2,λk=>f _ (.inr rfl) (by omega) (by rw[<-c,k,Yh])⟩;have:=gJ c (.inr ⟨by omega,by omega⟩);exact⟨this.1,this.2,λk=>f _ (.inr rfl) (by omega) (by rw[<-c,k,Yh])⟩
theorem Tk {b:V2} (s s':V2) (h:¬aV a b u):Ev λn=>NM (ag n a) (ag n b) (nr n u s) (nr n u s'):=by
 have j:a≠u:=λe=>h (by rw[e];exact cd _ _);have l:b≠u:=λe=>h (by rw[e];exact bE _ _);have m:Ev λn=>¬(((0<ai (nr n u s) (nr n u s') (ag n a)/\ai (nr n u s) (nr n u s') (ag n b)<0)\/(ai (nr n u s) (nr n u s') (ag n a)<0/\0<ai (nr n u s) (nr n u s') (ag n b)))/\
   ((0<ai (ag n a) (ag n b) (nr n u s)/\ai (ag n a) (ag n b) (nr n u s')<0)\/(ai (ag n a) (ag n b) (nr n u s)<0/\0<ai (ag n a) (ag n b) (nr n u s')))):=by
  by_cases t:ai a b u=0;have c:=KN (d:=af s' s) t h;by_cases z:aa (af s' s) (af a u)=0;refine .of λn ⟨k,_⟩=>?_;rw[Gt,Gt,z,c.2.2 z]at k;omega;have o:aa (af s' s) (af b u)≠0:=(by rcases Yi z with q|q;have:=c.2.1 q;omega;have:=c.1 q;omega);refine((kF _ (aa s s') z).and (kF _ (aa s s') o)).imp λn ⟨f,g⟩ ⟨k,_⟩=>?_;rw[Gt,Gt]at k;omega;refine((kF _ (aa (af b a) s) t).and ((kF _ (aa (af b a) s') t).and (Ev.ge 1))).imp λn ⟨f,g,i⟩ ⟨_,k⟩=>?_;rw[nu,nu]at k;have w:=bg (x:=(n:Int)*ai a b u+aa (af b a) s) (show 1<=(n:Int) by omega);have y:=bg (x:=(n:Int)*ai a b u+aa (af b a) s') (show 1<=(n:Int) by omega);omega
 exact((LD s s' j).and ((LD s s' l).and ((CQ s h).and ((CQ s' h).and m)))).imp λn ⟨f,g,i,p,r⟩=>⟨f,g,i,p,r⟩
variable {E:Ed}
theorem SC (c:mT E) (s:V2) (h:∀e∈E,¬aV e.1 e.2 u):Ev λn=>W (bD n E) (nr n u s)=W E u:=by
 refine((Ev.all E (λe a=>Tk ⟨0,0⟩ s (h e a))).and (Ev.ge 1)).imp λn ⟨k,f⟩=>?_;rw[<-kK (m:=n) (by omega) E u,<-OV];refine(ih (c.sc n) (λe a=>?_)).symm;obtain⟨x,b,rfl⟩:=XQ.1 a;exact k x b
theorem R5 (a b z:V2):Ev λn=>cq (af (ag (n*n) a) (nr (n*n) z ⟨n,1⟩)) (af (ag (n*n) b) (nr (n*n) z ⟨n,1⟩))=cq (af a z) (af b z)/\
  (ag (n*n) a).y≠(nr (n*n) z ⟨n,1⟩).y/\(ag (n*n) b).y≠(nr (n*n) z ⟨n,1⟩).y/\¬aV (ag (n*n) a) (ag (n*n) b) (nr (n*n) z ⟨n,1⟩):=by
 have l:∀n:Int,ai (ag (n*n) a) (ag (n*n) b) (nr (n*n) z ⟨n,1⟩)=(n*n)*(n*(n*ai a b z-(b.y-a.y))+(b.x-a.x)):=λn=>by simp only[ai,aa,af,ag,nr];grind
 have i:∀p q r:V2,aa (af p r) (af q r)=ai p q r:=λp q r=>by simp only[ai,aa,af];grind
 have m:Ev λn=>(ai a b z≠0->(0<(n:Int)*(n*ai a b z-(b.y-a.y))+(b.x-a.x)↔0<ai a b z)/\((n:Int)*(n*ai a b z-(b.y-a.y))+(b.x-a.x)<0↔ai a b z<0))/\
   (ai a b z=0->(a.y<b.y->(n:Int)*(n*ai a b z-(b.y-a.y))+(b.x-a.x)<0)/\(b.y<a.y->0<(n:Int)*(n*ai a b z-(b.y-a.y))+(b.x-a.x))):=by
  rcases YF (ai a b z) 0 with t|t|t;refine((kG (-(b.y-a.y)+((b.x-a.x).natAbs+1)) t).and (Ev.ge 1)).imp λn ⟨k,o⟩=>⟨λ_=>?_,λh=>by omega⟩;have:=XT (show(n:Int)*ai a b z-(b.y-a.y)<= -((b.x-a.x).natAbs+1) by omega) (show 0<=(n:Int) by omega);have C:=XT (show((b.x-a.x).natAbs+1:Int)>=1 by omega) (show 0<=(n:Int) by omega);have u:=Yp (show(1:Int)<=n by omega) (show(0:Int)<=(b.x-a.x).natAbs+1 by omega);rw[YH]at this;omega;rw[t];by_cases D:a.y<b.y;refine(kG (b.x-a.x) (show-(b.y-a.y)<0 by omega)).imp λn k=>⟨λh=>absurd rfl h,λ_=>⟨λ_=>by rw[Yh,aal];exact k,λh=>by omega⟩⟩;by_cases E:b.y<a.y;refine(eo (b.x-a.x) (show 0< -(b.y-a.y) by omega)).imp λn k=>⟨λh=>absurd rfl h,λ_=>⟨λh=>by omega,λ_=>by rw[Yh,aal];exact k⟩⟩;exact .of λn=>⟨λh=>absurd rfl h,λ_=>⟨λh=>by omega,λh=>by omega⟩⟩;refine((eo (-(b.y-a.y)-((b.x-a.x).natAbs+1)) t).and (Ev.ge 1)).imp λn ⟨k,o⟩=>⟨λ_=>?_,λh=>by omega⟩;have:=XT (show((b.x-a.x).natAbs+1:Int)<=(n:Int)*ai a b z-(b.y-a.y) by omega) (show 0<=(n:Int) by omega);have u:=Yp (show(1:Int)<=n by omega) (show(0:Int)<=(b.x-a.x).natAbs+1 by omega);omega
 refine(m.and (Ev.ge 2)).imp λn ⟨⟨f,g⟩,o⟩=>?_;have F:2<=(n:Int)*n:=by have:=XT (show(1:Int)<=n by omega) (show(0:Int)<=n by omega);omega
 have j:∀v:V2,((ag (n*n) v).y-(nr (n*n) z ⟨n,1⟩).y<=0↔v.y<=z.y)/\(ag (n*n) v).y≠(nr (n*n) z ⟨n,1⟩).y:=λv=>by simp only[ag,nr];by_cases c:v.y<=z.y;have:=XT c (show 0<=(n:Int)*n by omega);omega;have:=XT (show z.y+1<=v.y by omega) (show 0<=(n:Int)*n by omega);rw[WC,ZY]at this;omega
 have w:=j a;have y:=j b;have A:=bg (x:=(n:Int)*(n*ai a b z-(b.y-a.y))+(b.x-a.x)) (show 1<=(n:Int)*n by omega);rw[<-l]at A;refine⟨?_,w.2,y.2,λB=>?_⟩
 ·unfold cq;rw[i,i];simp only[af]at*;generalize (n:Int)*(n*ai a b z-(b.y-a.y))+(b.x-a.x)=X at*;generalize ai (ag (n*n) a) (ag (n*n) b) (nr (n*n) z ⟨n,1⟩)=Y at*;clear l i m j;by_cases t:ai a b z=0
  ·have:=g t;clear f g;repeat' split
   all_goals omega
  ·have:=f t;clear f g;repeat' split
   all_goals omega
 ·obtain⟨G,_,_,H,I⟩:=B;generalize (n:Int)*(n*ai a b z-(b.y-a.y))+(b.x-a.x)=X at*;by_cases t:ai a b z=0;have:=g t;omega;have:=f t;omega
theorem gen (E:Ed) (z:V2):Ev λn=>W (bD (n*n) E) (nr (n*n) z ⟨n,1⟩)=W E z/\∀e∈bD (n*n) E,e.1.y≠(nr (n*n) z ⟨n,1⟩).y/\e.2.y≠(nr (n*n) z ⟨n,1⟩).y/\¬aV e.1 e.2 (nr (n*n) z ⟨n,1⟩):=by
 refine(Ev.all E (λe _=>R5 e.1 e.2 z)).imp λn k=>⟨?_,λe a=>?_⟩;rw[gN,gN,bD,nw];exact hP (λe a=>(k e a).1);obtain⟨x,b,rfl⟩:=XQ.1 a;exact(k x b).2
variable {s s':V2}
theorem Lf {f:V2} (b:0<aa s s') (h2:0<aa s f) (a:0<aa f s'):Ev λn=>iB cq (ag n u) (ag n (ak u f)) (nr n u s) (nr n u s')= -1:=by
 have e:aa (af s s') f=aa s f+aa f s':=by simp only[aa,af];grind
 refine((eo (aa s' s) (show 0<aa (af s s') f by omega)).and (Ev.ge 1)).imp λn ⟨k,c⟩=>?_;rw[I3,wy];have:ai (ag n u) (ag n (ak u f)) (nr n u s')=n*aa f s':=(by simp only[ai,aa,af,ag,nr,ak];grind);rw[this];exact(bg (show 1<=(n:Int) by omega)).1.2 a;have:ai (ag n u) (ag n (ak u f)) (nr n u s)=n* -aa s f:=(by simp only[ai,aa,af,ag,nr,ak];grind);rw[this];exact(bg (show 1<=(n:Int) by omega)).2.1.2 (by omega);have:ai (nr n u s') (nr n u s) (ag n u)= -aa s s':=(by simp only[ai,aa,af,ag,nr];grind);rw[this];omega;have:ai (nr n u s') (nr n u s) (ag n (ak u f))=n*aa (af s s') f+aa s' s:=(by simp only[ai,aa,af,ag,nr,ak];grind);rw[this];exact k
theorem OI {f:V2} (o:0<aa s s') (h2:aa s f<0\/aa f s'<0):Ev λn=>NM (ag n u) (ag n (ak u f)) (nr n u s) (nr n u s'):=by
 have p:∀n:Int,ai (ag n u) (ag n (ak u f)) (nr n u s)=n* -aa s f:=λn=>by simp only[ai,aa,af,ag,nr,ak];grind
 have q:∀n:Int,ai (ag n u) (ag n (ak u f)) (nr n u s')=n*aa f s':=λn=>by simp only[ai,aa,af,ag,nr,ak];grind
 have r:∀n:Int,ai (nr n u s) (nr n u s') (ag n u)=aa s s':=λn=>by simp only[ai,aa,af,ag,nr];grind
 have t:∀n:Int,ai (nr n u s) (nr n u s') (ag n (ak u f))=n*(-aa f s'-aa s f)+aa s s':=λn=>by simp only[ai,aa,af,ag,nr,ak];grind
 have w:∀{x y:V2},aa x f=0->(0<aa x y/\aa f y<0\/0<aa y x/\aa y f<0)->∀n:Int,1<=n->¬aV (ag n u) (ag n (ak u f)) (nr n u x):=by
  intro x y a F n g ⟨_,A,B,C,D⟩;simp only[ag,nr,ak]at A B C D;rw[WC]at A B C D;have G:=bg (x:=f.x) g;have H:=bg (x:=f.y) g;have I:f.x*aa x y=x.x*aa f y:=(by simp only[aa]at a|-;grind);have J:f.y*aa x y=x.y*aa f y:=(by simp only[aa]at a|-;grind);have K:f.x*aa y x=x.x*aa y f:=(by simp only[aa]at a|-;grind);have M:f.y*aa y x=x.y*aa y f:=(by simp only[aa]at a|-;grind);have E:x.x=0->x.y=0->False:=λN O=>by have:aa x y=0/\aa y x=0:=(by simp only[aa];rw[N,O];simp);omega
  rcases F with⟨b,P⟩|⟨b,P⟩;have i:=ct f.x b;have j:=ct f.y b;have l:=ct x.x (show 0< -aa f y by omega);have m:=ct x.y (show 0< -aa f y by omega);rw[YH]at l m;rw[I]at i;rw[J]at j;have:¬(x.x=0/\x.y=0):=λz=>E z.1 z.2;omega;have i:=ct f.x b;have j:=ct f.y b;have l:=ct x.x (show 0< -aa y f by omega);have m:=ct x.y (show 0< -aa y f by omega);rw[YH]at l m;rw[K]at i;rw[M]at j;have:¬(x.x=0/\x.y=0):=λz=>E z.1 z.2;omega
 have Q:Ev λn=>((n:Int)*(-aa f s'-aa s f)+aa s s'≠0)/\((n:Int)*(-aa f s'-aa s f)+aa s s'<0-> -aa f s'-aa s f<0):=by by_cases z: -aa f s'-aa s f=0;refine .of λn=>?_;rw[z,Yh];omega;(exact(kF _ (aa s s') z).imp λn k=>by omega)
 refine(Q.and (Ev.ge 1)).imp λn ⟨k,g⟩=>?_;have c:1<=(n:Int):=by omega
 have G:=bg (x:= -aa s f) c;have H:=bg (x:=aa f s') c;refine⟨λh=>?_,λh=>?_,λh=>?_,λh=>?_,λh=>?_⟩;have:=h.1;rw[r]at this;omega;have:=h.1;rw[t]at this;omega;have a:=h.1;rw[p]at a;have z:aa s f=0:=(by omega);exact w (x:=s) (y:=s') z (.inl ⟨o,by omega⟩) n c h;have a:=h.1;rw[q]at a;have z:aa s' f=0:=(by rw[aQ];omega);exact w (x:=s') (y:=s) z (.inr ⟨o,by omega⟩) n c h;rw[p,q,r,t]at h;omega
def rk (f d:V2):Nat:=if 0<aa f d then 0 else if aa f d<0 then 2 else if ay f d<0 then 1 else 3
def mO (f g d:V2):Prop:=rk f d<rk f g\/(rk f d=rk f g/\rk f d≠3/\0<aa d g)
theorem bq (f d:V2):(rk f d=0/\0<aa f d)\/(rk f d=2/\aa f d<0)\/(rk f d=1/\aa f d=0/\ay f d<0)\/(rk f d=3/\aa f d=0/\0<=ay f d):=by
 unfold rk;repeat' split
 all_goals omega
def NP (E:Ed) (u f g:V2):Prop:=∃a:Ed,(∀(m:Int) (z:V2),0<m->W (bD m E) z=W (bD m ((ak u g,u)::(u,ak u f)::a)) z)/\mT ((ak u g,u)::(u,ak u f)::a)/\∀e∈a,¬aV e.1 e.2 u
def nc (E:Ed) (k:Int):Prop:=∀(m:Int) (z:V2),0<m->W (bD m E) z+k=0\/W (bD m E) z+k=1
variable {g:V2}
theorem NP.T7 {f:V2} (h:NP E u f g) (x y:Int) (a:Ev λn=>iB cq (ag n u) (ag n (ak u f)) (nr n u s) (nr n u s')=x) (j:Ev λn=>iB cq (ag n u) (ag n (ak u g)) (nr n u s) (nr n u s')=y):
  Ev λn=>W (bD n E) (nr n u s)-W (bD n E) (nr n u s')=x-y:=by
 obtain⟨c,i,k,l⟩:=h;refine(a.and (j.and ((Ev.all c (λe b=>Tk s s' (l e b))).and (Ev.ge 1)))).imp λn ⟨m,o,p,q⟩=>?_;rw[i n _ (by omega),i n _ (by omega),Gd (k.sc n)];show Qs ((ag n (ak u g),ag n u)::(ag n u,ag n (ak u f))::bD n c) _ _=_;simp only[Qs,eM];rw[I2,m,o,ji (λe b=>?_)];omega;obtain⟨x,a,rfl⟩:=XQ.1 b;exact ri (p x a)
theorem CE {f:V2} (a:0<aa s s') (h2:aa s f<0\/aa f s'<0):Ev λn=>iB cq (ag n u) (ag n (ak u f)) (nr n u s) (nr n u s')=0:=
 (OI a h2).imp λ_ k=>ri k
theorem DB {t:Int} (c:Int) (h:t<0):∃K:Int,0<K/\K*t-c<0:=by
 obtain⟨n,a,b⟩:=(kG (-c) h).ex 1;exact⟨n,by omega,by omega⟩
theorem NP.inside {k:Int} {f:V2} (h:NP E u f g) (C:nc E k) (V:rk f g≠3) (hs:mO f g s):Ev λn=>W (bD n E) (nr n u s)+k=1:=by
 have X:=bq f s;have b:=bq f g;have I:rk f g=1->aa f s≠0->(0<aa f s->aa g s<0)/\(aa f s<0->0<aa g s):=λl _=>by have J:aa f g=0:=(by omega);have i:ay f g<0:=(by omega);have e:ay f f*aa g s=ay f g*aa f s:=(by simp only[aa,ay]at J|-;grind);have o:0<ay f f:=(by have:f.x≠0\/f.y≠0:=(by refine Xz λM=>?_;have:ay f g=0:=(by simp only[ay];rw[show f.x=0 by omega,show f.y=0 by omega];simp);omega);have D:0<=f.x*f.x:=(by rcases YI 0 f.x with q|q;exact XM q q;exact X7 q q);have F:0<=f.y*f.y:=(by rcases YI 0 f.y with q|q;exact XM q q;exact X7 q q);have Y:f.x*f.x≠0\/f.y*f.y≠0:=this.imp (λq z=>q ((mz z).elim id id)) (λq z=>q ((mz z).elim id id));simp only[ay];omega);have a:=ct (aa g s) o;have N:=ct (aa f s) (show 0< -ay f g by omega);rw[Yd]at a;rw[YH,Yd]at N;omega
 have Z:aa s g= -aa g s:=aQ g s;have G:∀{s':V2},(Ev λn=>W (bD n E) (nr n u s)-W (bD n E) (nr n u s')=1)->Ev λn=>W (bD n E) (nr n u s)+k=1:=λ{s'} q=>(q.and (Ev.ge 1)).imp λn ⟨q,M⟩=>by have a0:=C n (nr n u s) (by omega);have a1:=C n (nr n u s') (by omega);omega
 by_cases c:0<aa f s
 ·obtain⟨K,p,r⟩:∃K:Int,0<K/\(aa f g<0->K*aa f g-aa s g<0):=(by by_cases H:aa f g<0;obtain⟨K,l,m⟩:=DB (aa s g) H;exact⟨K,l,λ_=>m⟩;exact⟨1,by decide,λq=>absurd q H⟩);obtain⟨s0,t⟩:∃s0:V2,s0=⟨K*f.x-s.x,K*f.y-s.y⟩:=⟨_,rfl⟩;have w:aa s0 s=K*aa f s:=(by rw[t];simp only[aa];grind);have O:aa s0 f=aa f s:=(by rw[t];simp only[aa];grind);have x:aa s0 g=K*aa f g-aa s g:=(by rw[t];simp only[aa];grind);have j:0<aa s0 s:=(by rw[w];exact XC p c);have y:=Lf (u:=u) j (show 0<aa s0 f by omega) c;have A:aa s0 g<0\/aa g s<0:=(by rcases b with b|b|b|b;rcases hs with hs|hs;omega;right;omega;left;rw[x];exact r b.2;right;exact(I b.1 (by omega)).1 c;omega);have:=h.T7 _ _ y (CE (u:=u) j A);exact G (s':=s0) (this.imp λn q=>by omega)
 ·have A:rk f g=2/\aa f g<0/\aa g s<0:=(by rcases hs with hs|hs;have m:rk f g=2:=(by omega);have l:rk f s=1:=(by omega);have P:aa f s=0:=(by omega);have i:ay f s<0:=(by omega);refine⟨m,by omega,?_⟩;have e:ay f f*aa g s= -(ay f s*aa f g):=(by simp only[aa,ay]at P|-;grind);have o:0<=ay f f:=(by have D:0<=f.x*f.x:=(by rcases YI 0 f.x with q|q;exact XM q q;exact X7 q q);have F:0<=f.y*f.y:=(by rcases YI 0 f.y with q|q;exact XM q q;exact X7 q q);simp only[ay];omega);refine Y3.1 λq=>?_;have a2:=XM o q;have a3:=Zl i (show aa f g<0 by omega);omega;obtain⟨l,m,a4⟩:=hs;have:rk f g=2\/rk f g=1:=(by omega);rcases this with q|q;exact⟨q,by omega,by omega⟩;exfalso;have Q:aa f s=0:=(by omega);have R:aa f g=0:=(by omega);have i:ay f s<0:=(by omega);have S:ay f f*aa s g=0:=(by simp only[aa,ay]at Q R|-;grind);rcases mz S with e|e;have D:0<=f.x*f.x:=(by rcases YI 0 f.x with q|q;exact XM q q;exact X7 q q);have F:0<=f.y*f.y:=(by rcases YI 0 f.y with q|q;exact XM q q;exact X7 q q);simp only[ay]at e i;have T:=(mz (show f.x*f.x=0 by omega)).elim id id;have U:=(mz (show f.y*f.y=0 by omega)).elim id id;rw[T,U]at i;omega;omega);obtain⟨K,p,r⟩:=DB (aa f s) A.2.1;obtain⟨a,B⟩:∃a:V2,a=⟨K*g.x-s.x,K*g.y-s.y⟩:=⟨_,rfl⟩;have w:aa s a=K*aa s g:=(by rw[B];simp only[aa];grind);have O:aa g a=aa s g:=(by rw[B];simp only[aa];grind);have x:aa f a=K*aa f g-aa f s:=(by rw[B];simp only[aa];grind);have j:0<aa s a:=(by rw[w];exact XC p (by omega));have y:=Lf (u:=u) j (show 0<aa s g by omega) (show 0<aa g a by omega);have:=h.T7 _ _ (CE (u:=u) j (.inr (by rw[x];exact r))) y;exact G (s':=a) (this.imp λn q=>by omega)
def sI (lo:Int) (k:Nat) (f:Int->Int):Int:=aT k λi=>f (lo+i)
theorem oR (lo:Int) (f:Int->Int):sI lo 0 f=0:=rfl
theorem fi (lo:Int) (k:Nat) (f:Int->Int):sI lo (k+1) f=sI lo k f+f (lo+k):=rfl
theorem sB (lo:Int) (a b:Nat) (f:Int->Int):sI lo (a+b) f=sI lo a f+sI (lo+a) b f:=by
 unfold sI;rw[gg];congr 1;exact bA (λi _=>by congr 1;omega)
variable {lo:Int} {k:Nat} {g:Int->Int}
theorem dh {f:Int->Int} (h:∀x,lo<=x->x<lo+k->f x=g x):sI lo k f=sI lo k g:=bA (λi a=>h _ (by omega) (by omega))
theorem KP (lo:Int) (k:Nat) (c:Int) (f:Int->Int):sI lo k (λx=>f (c-x))=sI (c-lo-k+1) k f:=by
 unfold sI;rw[<-B5 (λi=>f (c-lo-k+1+i))];refine bA (λi a=>?_);show f (c-(lo+i))=f (c-lo-k+1+((k-1-i:Nat):Int));congr 1;omega
theorem gh (lo:Int) (k:Nat) (c:Int):sI lo k (λ_=>c)=c*k:=by
 induction k with
 |zero=>simp[oR]
 |succ k a=>rw[fi,a];grind
theorem E3 (lo:Int) (k:Nat) (f:Int->Int):sI lo k (λx=> -f x)= -sI lo k f:=by
 induction k with
 |zero=>rfl
 |succ k a=>rw[fi,fi,a];omega
theorem qp (lo:Int) (k:Nat) (f g:Int->Int):sI lo k (λx=>f x+g x)=sI lo k f+sI lo k g:=by
 induction k with
 |zero=>rfl
 |succ k a=>rw[fi,fi,fi,a];omega
theorem sA (lo:Int) (k:Nat) (c:Int) (f:Int->Int):sI lo k (λx=>c*f x)=c*sI lo k f:=by
 induction k with
 |zero=>simp[oR]
 |succ k a=>rw[fi,fi,a,WC]
theorem Ow (lo a:Int) (k b:Nat) (f:Int->Int->Int):sI lo k (λx=>sI a b (λy=>f x y))=sI a b (λy=>sI lo k (λx=>f x y)):=by
 induction k with
 |zero=>simp only[oR];rw[gh];simp
 |succ k c=>rw[fi,c,<-qp];rfl
theorem uS (lo:Int) (k:Nat) (n:Nat) (f:Int->Nat->Int):sI lo k (λx=>aT n (f x))=aT n (λi=>sI lo k (λx=>f x i)):=by
 induction n with
 |zero=>simp only[aT];rw[gh];simp
 |succ n a=>simp only[aT];rw[qp,a]
theorem Cl {f:Int->Int} (t:Int) (d:Nat) (j:lo<=t) (h2:t+d<=lo+k) (h:∀x,x<t\/t+d<=x->f x=0):sI lo k f=sI t d f:=by
 obtain⟨a,c⟩:∃a:Nat,lo+a=t:=⟨(t-lo).toNat,by omega⟩;obtain⟨b,i⟩:∃b:Nat,k=a+(d+b):=⟨k-a-d,by omega⟩;rw[i,sB,sB,c];have l:sI lo a f=0:=by rw[dh (g:=λ_=>0) (λx _ m=>h x (by omega)),gh];simp
 have o:sI (t+d) b f=0:=by rw[dh (g:=λ_=>0) (λx p _=>h x (by omega)),gh];simp
 omega
theorem GH (t c:Int) (a:lo<=t) (h2:t<lo+k):sI lo k (λx=>if t=x then c else 0)=c:=by
 rw[Cl t 1 a (by omega) (λx b=>iN),fi,oR,XG (by simp)];omega
variable {M:Int}
theorem Ov {L H S:Int} (o:(k:Int)=2*M+1) (c:∀x,x<L->g x=1) (f:∀x,H<x->g x= -1) (p: -M<=L) (h2:H<=M) (q:S-M<=L) (r:H<=S+M):
  sI (-M) k g-sI (S-M) k g=2*S:=by
 rcases YI 0 S with i|i
 ·obtain⟨s,rfl⟩:∃s:Nat,S=s:=⟨S.toNat,by omega⟩;have a:=sB (-M) s k g;have b:=sB (-M) k s g;rw[Zm,b]at a;have j:sI (-M) s g=s:=(by rw[dh (g:=λ_=>1) (λx _ h=>c x (by omega)),gh];omega);have l:sI (-M+k) s g= -s:=(by rw[dh (g:=λ_=> -1) (λx h _=>f x (by omega)),gh];omega);rw[show-M+(s:Int)=s-M by omega]at a;omega
 ·obtain⟨s,m⟩:∃s:Nat,S= -(s:Int):=⟨(-S).toNat,by omega⟩;subst m;have a:=sB (-(s:Int)-M) s k g;have b:=sB (-(s:Int)-M) k s g;rw[Zm,b]at a;have j:sI (-(s:Int)-M) s g=s:=(by rw[dh (g:=λ_=>1) (λx _ h=>c x (by omega)),gh];omega);have l:sI (-(s:Int)-M+k) s g= -s:=(by rw[dh (g:=λ_=> -1) (λx h _=>f x (by omega)),gh];omega);rw[show-(s:Int)-M+(s:Int)= -M by omega]at a;omega
variable {x:Int}
theorem Oo (h:0<x):bM x=1:=by have:=aW x;omega
theorem KH (h:x<0):bM x= -1:=by have:=aW x;omega
variable {a:V2}
theorem Jj {b:V2} {y:Int} (i:(k:Int)=2*M+1) (z: -M<=a.x/\a.x<=M) (A: -M<=b.x/\b.x<=M) (B:a.y<=y) (h2:y<=b.y) (C:a.y<b.y):
  sI (-M) k (λx=>bM (ai a b ⟨x,y⟩))+sI (-M) k (λx=>bM (ai a b ⟨x,a.y+b.y-y⟩))=2*(a.x+b.x):=by
 have e:∀x,ai a b ⟨x,y⟩=(b.x-x)*(y-a.y)+(a.x-x)*(b.y-y):=λx=>by simp only[ai,aa,af];grind
 have r:∀x,bM (ai a b ⟨x,a.y+b.y-y⟩)= -(λx=>bM (ai a b ⟨x,y⟩)) (a.x+b.x-x):=λx=>by have:ai a b ⟨x,a.y+b.y-y⟩= -ai a b ⟨a.x+b.x-x,y⟩:=(by simp only[ai,aa,af];grind);rw[this,On]
 have j:∀x,x<a.x->x<b.x->0<ai a b ⟨x,y⟩:=λx l m=>by rw[e];have o:=Eu (b.x-x) (show 0<=y-a.y by omega);have p:=Eu (a.x-x) (show 0<=b.y-y by omega);have f:=XM (show 0<=b.x-x by omega) (show 0<=y-a.y by omega);have h:=XM (show 0<=a.x-x by omega) (show 0<=b.y-y by omega);generalize (b.x-x)*(y-a.y)=q at*;generalize (a.x-x)*(b.y-y)=t at*;omega
 have u:∀x,a.x<x->b.x<x->ai a b ⟨x,y⟩<0:=λx l m=>by rw[e];have o:=Eu (b.x-x) (show 0<=y-a.y by omega);have p:=Eu (a.x-x) (show 0<=b.y-y by omega);have f:=XM (show 0<=x-b.x by omega) (show 0<=y-a.y by omega);have h:=XM (show 0<=x-a.x by omega) (show 0<=b.y-y by omega);rw[show(x-b.x)*(y-a.y)= -((b.x-x)*(y-a.y)) by grind]at f;rw[show(x-a.x)*(b.y-y)= -((a.x-x)*(b.y-y)) by grind]at h;generalize (b.x-x)*(y-a.y)=q at*;generalize (a.x-x)*(b.y-y)=t at*;omega
 have w:sI (-M) k (λx=>bM (ai a b ⟨x,a.y+b.y-y⟩))= -sI (a.x+b.x-M) k (λx=>bM (ai a b ⟨x,y⟩)):=by rw[dh (λx _ _=>r x),E3,KP (-M) k (a.x+b.x) (λx=>bM (ai a b ⟨x,y⟩)),show a.x+b.x- -M-k+1=a.x+b.x-M by omega]
 rw[w];have:=Ov (g:=λx=>bM (ai a b ⟨x,y⟩)) (M:=M) (L:=if a.x<=b.x then a.x else b.x) (H:=if a.x<=b.x then b.x else a.x) (S:=a.x+b.x) (k:=k) i
  (λx c=>Oo (j x (by split at c<;>omega) (by split at c<;>omega))) (λx c=>KH (u x (by split at c<;>omega) (by split at c<;>omega)))
  (by split<;>omega) (by split<;>omega) (by split<;>omega) (by split<;>omega)
 omega
def BV (a b:V2) (y:Int):Int:=ue (bM (a.y-y)) (bM (b.y-y))
theorem SY (a b p:V2):tq (af a p) (af b p)=BV a b p.y*bM (ai a b p):=by
 unfold tq;rw[iG];have s:=aW (ai a b p);show(if 0<ai a b p then BV a b p.y else if ai a b p<0 then-BV a b p.y else 0)=_;rcases s with⟨f,c⟩|⟨f,c⟩|⟨f,c⟩;rw[c,XG f];omega;rw[c,iN,XG f];omega;rw[c,iN,iN];omega
theorem JT {a b:V2} (c:a.y<b.y):∀k:Nat,(k:Int)<b.y-a.y->sI a.y (k+1) (BV a b)=2*k+1
 |0,h=>by rw[fi,oR];unfold BV ue;have f:=aW (a.y-(a.y+((0:Nat):Int)));have g:=aW (b.y-(a.y+((0:Nat):Int)));split<;>omega
 |k+1,h=>by rw[fi,JT c k (by omega)];unfold BV ue;have f:=aW (a.y-(a.y+((k+1:Nat):Int)));have g:=aW (b.y-(a.y+((k+1:Nat):Int)));split<;>omega
theorem HV {b:V2} (m:(k:Int)=2*M+1) (o:In M a) (p:In M b) (f:a.y<b.y):
  sI (-M) k (λx=>sI (-M) k (λy=>tq (af a ⟨x,y⟩) (af b ⟨x,y⟩)))=2*((b.y-a.y)*(a.x+b.x)):=by
 obtain⟨q,r,H,I⟩:=o;obtain⟨t,u,J,K⟩:=p;rw[Ow];have w:∀y,sI (-M) k (λx=>tq (af a ⟨x,y⟩) (af b ⟨x,y⟩))=BV a b y*sI (-M) k (λx=>bM (ai a b ⟨x,y⟩)):=λy=>by rw[<-sA];exact dh (λx _ _=>SY a b ⟨x,y⟩)
 rw[dh (λy _ _=>w y)];obtain⟨D,z⟩:∃D:Nat,(D:Int)=b.y-a.y:=⟨(b.y-a.y).toNat,by omega⟩;obtain⟨F,c⟩:∃F:Int->Int,F=λy=>BV a b y*sI (-M) k (λx=>bM (ai a b ⟨x,y⟩)):=⟨_,rfl⟩;have A:∀y,y<a.y\/a.y+((D+1:Nat):Int)<=y->F y=0:=λy h=>by rw[c];have:BV a b y=0:=(by unfold BV ue;have g:=aW (a.y-y);have i:=aW (b.y-y);split<;>omega);simp only[this,Yb]
 rw[<-c,Cl a.y (D+1) (by omega) (by omega) A];have j:=KP a.y (D+1) (a.y+b.y) F;rw[show a.y+b.y-a.y-((D+1:Nat):Int)+1=a.y by omega]at j;have l:sI a.y (D+1) (λy=>F y+F (a.y+b.y-y))=2*(a.x+b.x)*sI a.y (D+1) (BV a b):=by rw[<-sA];refine dh (λy B N=>?_);have C:=Jj (y:=y) m ⟨q,r⟩ ⟨t,u⟩ B (by omega) f;have E:BV a b (a.y+b.y-y)=BV a b y:=(by unfold BV ue;have g:=aW (a.y-y);have i:=aW (b.y-y);have O:=aW (a.y-(a.y+b.y-y));have P:=aW (b.y-(a.y+b.y-y));split<;>split<;>omega);rw[c];simp only;rw[E,<-WC,C,Yd]
 rw[qp,j,fi a.y D (BV a b)]at l;have G:BV a b (a.y+D)=1:=by unfold BV ue;have g:=aW (a.y-(a.y+D));have i:=aW (b.y-(a.y+D));split<;>omega
 obtain⟨d,rfl⟩:∃d,D=d+1:=⟨D-1,by omega⟩;rw[JT f d (by omega),G]at l;have Q:2*(a.x+b.x)*(2*(d:Int)+1+1)=2*(2*((b.y-a.y)*(a.x+b.x))):=by rw[<-z];rw[show((d+1:Nat):Int)=d+1 by omega];grind
 omega
theorem MP {b:V2} (c:(k:Int)=2*M+1) (f:In M a) (g:In M b):
  sI (-M) k (λx=>sI (-M) k (λy=>tq (af a ⟨x,y⟩) (af b ⟨x,y⟩)))=2*((b.y-a.y)*(a.x+b.x)):=by
 rcases YF a.y b.y with h|h|h;exact HV c f g h
 ·have e:sI (-M) k (λx=>sI (-M) k (λy=>tq (af a ⟨x,y⟩) (af b ⟨x,y⟩)))=sI (-M) k (λx=>sI (-M) k (λy=>0)):=
   dh (λx _ _=>dh (λy _ _=>uK (by simp only[af];rw[h])))
  rw[e,h];simp[gh]
 ·have e:sI (-M) k (λx=>sI (-M) k (λy=>tq (af a ⟨x,y⟩) (af b ⟨x,y⟩)))=sI (-M) k (λx=> -sI (-M) k (λy=>tq (af b ⟨x,y⟩) (af a ⟨x,y⟩))):=
   dh (λx _ _=>by rw[<-E3];exact dh (λy _ _=>z6 _ _))
  rw[e,E3,HV c g f h];grind
def JU (l:LV) (p:V2):Int:=aT l.length λi=>tq (af (gt l i) p) (af (bw l i) p)
theorem Gh {l:LV} (c:(k:Int)=2*M+1) (a:0<l.length) (b:∀i,i<l.length->In M (gt l i)):
  sI (-M) k (λx=>sI (-M) k (λy=>JU l ⟨x,y⟩))=2*lM l:=by
 have f:sI (-M) k (λx=>sI (-M) k (λy=>JU l ⟨x,y⟩))=aT l.length (λi=>sI (-M) k (λx=>sI (-M) k (λy=>tq (af (gt l i) ⟨x,y⟩) (af (bw l i) ⟨x,y⟩)))):=by rw[<-uS];refine dh (λx _ _=>?_);exact uS (-M) k l.length (λy i=>tq (af (gt l i) ⟨x,y⟩) (af (bw l i) ⟨x,y⟩))
 have g:aT l.length (λi=>sI (-M) k (λx=>sI (-M) k (λy=>tq (af (gt l i) ⟨x,y⟩) (af (bw l i) ⟨x,y⟩))))=aT l.length (λi=>aa (gt l i) (bw l i)+aa (gt l i) (bw l i)+((λj=>2*((gt l j).x*(gt l j).y)) ((i+1)%l.length)-(λj=>2*((gt l j).x*(gt l j).y)) i)):=
  bA (λi h=>by have m:In M (bw l i):=b _ (ZJ _ a);rw[MP c (b i h) m];simp only[aa,bw];grind)
 rw[f,g,nv,nv,Ab (λj=>2*((gt l j).x*(gt l j).y)) a];unfold lM;omega
def iS (l:LV) (i:Int):Nat:=(i%(l.length:Int)).toNat
theorem jJ {l:LV} (h:3<=l.length) (i:Int):iS l i<l.length:=by
 have:=Int.emod_lt_of_pos i (show 0<(l.length:Int) by omega);have:=Int.emod_nonneg i (show(l.length:Int)≠0 by omega);unfold iS;omega
variable {i:Nat}
theorem HC {l:LV} (h:i<l.length):iS l i=i:=by
 unfold iS;rw[Int.emod_eq_of_lt (by omega) (by omega)];omega
theorem mB {l:LV} (h:3<=l.length) (i:Int) (d:Nat):iS l (i+d)=(iS l i+d)%l.length:=by
 have b:=Int.emod_nonneg i (show(l.length:Int)≠0 by omega);unfold iS;rw[<-Int.emod_add_emod i (l.length:Int) (d:Int)];obtain⟨k,a⟩:∃k:Nat,i%(l.length:Int)=k:=⟨(i%(l.length:Int)).toNat,by omega⟩;rw[a];have:((k:Int)+d)%(l.length:Int)=(((k+d)%l.length:Nat):Int):=by rw[<-aaB,<-Int.natCast_emod]
 rw[this,Yw,Yw]
theorem Bj {l:LV} (h:3<=l.length) {i j:Int} (b:i<j:=by omega) (h2:j<i+l.length:=by omega):iS l i≠iS l j:=by
 intro e;have a:j=i+((j-i).toNat:Nat):=by omega
 rw[a,mB h]at e;have f:=jJ h i;by_cases c:iS l i+(j-i).toNat<l.length;rw[X3 c]at e;omega;rw[Wt (by omega),mOf]at e;omega
def bl (l:LV) (i:Int):V2:=gt l (iS l i)
theorem jl {l:LV} (hi:i<l.length:=by omega):bl l i=gt l i:=by unfold bl;rw[HC hi]
theorem gD {l:LV} (a:3<=l.length) (i:Int):bl l (i+1)=bw l (iS l i):=by
 unfold bl;have:=mB a i 1;rw[show i+((1:Nat):Int)=i+1 by omega]at this;rw[this];rfl
theorem oW {l:LV} (a:3<=l.length) (hi:i<l.length:=by omega):bl l (i+1)=bw l i:=by
 rw[gD a,HC hi]
theorem E7 {l:LV} (a:3<=l.length) (i:Int):bl l (i-1)=iZ l (iS l i):=by
 have b:=mB a (i-1) 1;rw[show i-1+((1:Nat):Int)=i by omega]at b;have f:=jJ a (i-1);unfold iZ bl;rw[b];congr 1;by_cases c:iS l (i-1)+1<l.length;rw[X3 c,show iS l (i-1)+1+l.length-1=iS l (i-1)+l.length by omega,YE,X3 f];rw[show iS l (i-1)+1=l.length by omega,Zz,X6,mOf];omega
theorem qn {l:LV} (b:bk l):zP l.length (bl l):=by
 have a:=b.three;have c:=b.pre;refine⟨a,λi=>?_,λi=>?_,λi j h k=>?_⟩;unfold bl;have:=mB a i l.length;rw[this,YE,X3 (jJ a i)];rw[gD a,E7 a];exact c.turns _ (jJ a i);rw[gD a,gD a];have f:=mB a i 1;have g:=mB a j 1;rw[show i+((1:Nat):Int)=i+1 by omega]at f;rw[show j+((1:Nat):Int)=j+1 by omega]at g;refine c.apart _ (jJ a i) _ (jJ a j) (Bj a) ?_ ?_;rw[<-f];exact(Bj a).symm;rw[<-g];have:iS l i=iS l (i+l.length):=(by rw[mB a,YE,X3 (jJ a i)]);rw[this];exact(Bj a).symm
theorem zU {l:LV} (a:3<=l.length) (p:V2):JU l p=dr (bl l) p 0 l.length:=by
 have b:∀m,m<=l.length->dr (bl l) p 0 m=aT m (λi=>tq (af (gt l i) p) (af (bw l i) p)):=λm=>by
  induction m with
  |zero=>intro _;rfl
  |succ m c=>intro f;simp only[dr,aT];rw[c (by omega),Zf,jl,oW a]
 exact(b _ (XP _)).symm
theorem sub_self (p:V2):af p p=⟨0,0⟩:=by simp only[af];exact V2.ext (by simp only;omega) (by simp only;omega)
theorem SX (v:V2):tq ⟨0,0⟩ v=0:=uJ (by simp[aa])
theorem SU (v:V2):tq v ⟨0,0⟩=0:=uJ (by simp[aa])
theorem Iv {l:LV} (a:bk l) (hi:i<l.length):JU l (gt l i)=fX l.length (bl l) i:=by
 have b:=a.three;have C:=qn a;rw[zU b,<-C.sF _ (ZN hi)];have c:dr (bl l) (gt l i) i l.length=dr (bl l) (gt l i) i (l.length-2+1+1):=by congr 1;omega
 rw[c,jk];simp only[dr];rw[show(i:Int)+1+((l.length-2:Nat):Int)+1=i+l.length by omega,C.hZ,jl hi,sub_self,SX,SU];unfold fX;rw[jl hi];omega
theorem Ka (u v:V2): -2<=tq u v/\tq u v<=2:=by
 have a:=aW u.y;have b:=aW v.y;unfold tq ue;repeat' split
 all_goals omega
theorem B6 {f:Nat->Int} {i:Nat}:∀{n:Nat},i<n->(∀j,j<n->j≠i->f j=0)->aT n f=f i
 |0,h,_=>absurd h (XL _)
 |n+1,h,a=>by
  simp only[aT];by_cases c:i=n
  ·subst c;have:aT i f=0:=by
    rw[bA (g:=λ_=>0) (λj b=>a j (by omega) (by omega))];clear a h;induction i with
    |zero=>rfl
    |succ i l=>simp only[aT];omega
   omega
  ·rw[B6 (n:=n) (by omega) (λj b k=>a j (by omega) k),a n (by omega) (λh=>c h.symm)];omega
theorem Kl {n:Nat} {f:Nat->Int} (h:∀j,j<n->f j=0):aT n f=0:=by
 induction n with
 |zero=>rfl
 |succ n a=>simp only[aT];rw[a (λj b=>h j (by omega)),h n (by omega)];rfl
theorem AQ {f:Nat->Int} {g:Nat->Bool}:∀n,(∀i,i<n->(g i=true/\(f i=1\/f i= -1))\/(g i=false/\f i=0))->(fp n g=true↔aT n f%2=1)
 |0,_=>by simp[fp,aT]
 |n+1,h=>by have a:=AQ n (λi c=>h i (by omega));have b:=h n (by omega);simp only[fp,aT];generalize fp n g=x at*;generalize aT n f=s at*;rcases b with⟨e,k⟩|⟨e,k⟩;rw[e];cases x;simp only[Y4,aap,Xh,Bool.not_false,true_iff]at a|-;omega;simp only[true_iff,Xh,Bool.not_true,Y4,aap]at a|-;omega;rw[e,k];cases x;simp only[Y4,aap,WU]at a|-;omega;simp only[true_iff,WU]at a|-;omega
variable {p:V2}
theorem M5 {a b:V2} (h:¬aV a b p):(gZ ⟨a,b⟩ (cb p)=true/\(cq (af a p) (af b p)=1\/cq (af a p) (af b p)= -1))\/(gZ ⟨a,b⟩ (cb p)=false/\cq (af a p) (af b p)=0):=by
 have g:b.y<=p.y->p.y<a.y->ai a b p≠0:=λi j z=>h (au.1 (dj (by rw[aU,z];rfl) (by omega) i));rw[PM];unfold cq;rw[iG];simp only[af];by_cases f:a.y<=p.y/\p.y<b.y/\0<ai a b p
 ·left;refine⟨X8 (.inl f),.inl ?_⟩;repeat' split
  all_goals omega
 ·by_cases c:b.y<=p.y/\p.y<a.y/\ai a b p<=0
  ·left;have:=g c.1 c.2.1;refine⟨X8 (.inr c),.inr ?_⟩;repeat' split
   all_goals omega
  ·right;refine⟨X1 (λk=>k.elim f c),?_⟩;repeat' split
   all_goals omega
theorem Qg {l:LV} (a:0<l.length) (b:∀i,i<l.length->¬aV (gt l i) (bw l i) p):JU l p=4*aT l.length (λi=>cq (af (gt l i) p) (af (bw l i) p)):=by
 have e:JU l p=aT l.length (λi=>(4*cq (af (gt l i) p) (af (bw l i) p))+((λj=> -gq (af (gt l j) p)) ((i+1)%l.length)-(λj=> -gq (af (gt l j) p)) i)):=
  bA (λi c=>by rw[Gv (b i c)];simp only[bw];omega)
 rw[e,nv,Ab (λj=> -gq (af (gt l j) p)) a];have m:∀n (f:Nat->Int),aT n (λi=>4*f i)=4*aT n f:=λn f=>by
  induction n with
  |zero=>rfl
  |succ n g=>simp only[aT];rw[g];omega
 rw[m];omega
def oc (x y:Int):Int:=if x=y then 1 else 0
theorem Qh {l:LV} (q:bk l) {K:Int} (Q:K=2\/K= -2) (z:∀i:Nat,fX l.length (bl l) i+hA (bl l) i=K) (p:V2):
  (K=2->JU l p=4*oc (dp l p) 2+2*oc (dp l p) 1+aT l.length (λi=>if(gt l i).x=p.x then(if(gt l i).y=p.y then fX l.length (bl l) i-2 else 0)else 0))/\(K= -2->JU l p<=0):=by
 have x:=q.three;have C:=qn q;rw[yw q];by_cases y:∃i,i<l.length/\gt l i=p
 ·obtain⟨i,o,rfl⟩:=y;have hw:cz l (cb (gt l i))=1:=by
   unfold cz;have:fW l (cb (gt l i))=true:=by
    cases r:fW l (cb (gt l i))with
    |true=>rfl
    |false=>exact absurd (cd _ _) (vw.1 r i o)
   rw[this,XG rfl]
  rw[Iv q o,hw];have:=z i;have b:=Ka (af (bl l i) (bl l (i-1))) (af (bl l (i+1)) (bl l i));unfold hA at this;rw[B6 o (λj A G=>by
   by_cases c:(gt l j).x=(gt l i).x;rw[XG c,XD (λB=>G (H4 q A o (V2.ext c B)))]
   ·rw[XD c]),XG rfl,XG rfl]
  refine⟨λ_=>?_,λ_=>by omega⟩;have t:oc 1 2=0:=rfl;have u:oc 1 1=1:=rfl;rw[t,u];omega
 have H:aT l.length (λi=>if(gt l i).x=p.x then(if(gt l i).y=p.y then fX l.length (bl l) i-2 else 0)else 0)=0:=Kl (λj A=>by
  by_cases c:(gt l j).x=p.x;rw[XG c,XD (λB=>y ⟨j,A,V2.ext c B⟩)]
  ·rw[XD c])
 rw[H];by_cases E:∃i,i<l.length/\aV (gt l i) (bw l i) p
 ·obtain⟨i,o,w⟩:=E;have hw:cz l (cb p)=1:=by
   unfold cz;have:fW l (cb p)=true:=by
    cases r:fW l (cb p)with
    |true=>rfl
    |false=>exact absurd w (vw.1 r i o)
   rw[this,XG rfl]
  have D:=w;rw[<-jl o,<-oW x o]at D;have I:p≠bl l i:=λh=>y ⟨i,o,by rw[h,jl o]⟩;have J:p≠bl l (i+1):=λh=>y ⟨(i+1)%l.length,mLt,by rw[h,oW x o];rfl⟩;have k:=C.G1 z D I J;have M:dr (bl l) p i l.length=dr (bl l) p i (l.length-1+1):=(by congr 1;omega);have N:tq (af (bl l i) p) (af (bl l (i+1)) p)=0:=uJ (by rw[iG];exact D.1);rw[zU x,<-C.sF p (ZN o),M,jk,N,k,hw];have t:oc 1 2=0:=rfl;have u:oc 1 1=1:=rfl;rw[t,u];omega
 ·have w:∀i,i<l.length->¬aV (gt l i) (bw l i) p:=λi o h=>E ⟨i,o,h⟩;have O:fW l (cb p)=false:=vw.2 w;have P:=C.off (m:=5000) (by decide) (λi=>by
   have a:=cu q.fE (iS l i);have b:=cu q.fE (iS l (i+1));have:=a.x0;have:=a.x1;have:=b.x0;have:=b.x1;unfold bl;omega) z (p:=p) (λi=>by
   have:=w _ (jJ x i);rw[gD x];exact this)
  rw[<-zU x]at P;have R:=Qg (by omega) w;have F:=AQ (f:=λi=>cq (af (gt l i) p) (af (bw l i) p)) (g:=λi=>gZ (bN l i) (cb p)) l.length (λi o=>M5 (w i o));unfold cz;rw[O,XD (by simp),pc];generalize aT l.length (λi=>cq (af (gt l i) p) (af (bw l i) p))=s at*;cases r:fp l.length (λi=>gZ (bN l i) (cb p))with
  |true=>have:=F.1 r;rw[XG rfl];have t:oc 2 2=1:=rfl;have u:oc 2 1=0:=rfl;rw[t,u];omega
  |false=>
   have:¬s%2=1:=λh=>by rw[F.2 h]at r;cases r
   rw[XD (by simp)];have t:oc 0 2=0:=rfl;have u:oc 0 1=0:=rfl;rw[t,u];omega
theorem GI (lo:Int) (k:Nat) {f:Int->Int} (h:∀x,f x<=0):sI lo k f<=0:=by
 induction k with
 |zero=>simp[oR]
 |succ k a=>rw[fi];have:=h (lo+k);omega
def Sp (l:LV) (w M:Int) (k:Nat):Int:=sI (-M) k (λx=>sI (-M) k (λy=>oc (dp l ⟨x,y⟩) w))
theorem pick {l:LV} (a:bk l) {M:Int} {k:Nat} (o:(k:Int)=2*M+1) (b:∀i,i<l.length->In M (gt l i)):
  lM l=2*Sp l 2 M k+Sp l 1 M k-2:=by
 have z:=a.three;have C:=qn a;obtain⟨K,g,h,hS⟩:=C.whole;have j:=λp=>Qh a g h p;have A:=Gh o (by omega) b;rcases g with e|e
 ·have q:sI (-M) k (λx=>sI (-M) k (λy=>JU l ⟨x,y⟩))=sI (-M) k (λx=>sI (-M) k (λy=>4*oc (dp l ⟨x,y⟩) 2+2*oc (dp l ⟨x,y⟩) 1+aT l.length (λi=>if(gt l i).x=x then(if(gt l i).y=y then fX l.length (bl l) i-2 else 0)else 0))):=
   dh (λx _ _=>dh (λy _ _=>(j ⟨x,y⟩).1 e))
  have r:∀x,sI (-M) k (λy=>4*oc (dp l ⟨x,y⟩) 2+2*oc (dp l ⟨x,y⟩) 1+aT l.length (λi=>if(gt l i).x=x then(if(gt l i).y=y then fX l.length (bl l) i-2 else 0)else 0))=
    4*sI (-M) k (λy=>oc (dp l ⟨x,y⟩) 2)+2*sI (-M) k (λy=>oc (dp l ⟨x,y⟩) 1)+aT l.length (λi=>if(gt l i).x=x then fX l.length (bl l) i-2 else 0):=λx=>by
   rw[qp,qp,sA,sA,uS (-M) k l.length (λy i=>if(gt l i).x=x then(if(gt l i).y=y then fX l.length (bl l) i-2 else 0)else 0)];congr 1;refine bA (λi f=>?_);by_cases c:(gt l i).x=x;simp only[XG c];have:=b i f;exact GH _ _ this.y0 (by have:=this.y1;omega);simp only[XD c];rw[gh];simp
  have t:sI (-M) k (λx=>aT l.length (λi=>if(gt l i).x=x then fX l.length (bl l) i-2 else 0))=aT l.length (λi=>fX l.length (bl l) i-2):=(by rw[uS (-M) k l.length (λx i=>if(gt l i).x=x then fX l.length (bl l) i-2 else 0)];refine bA (λi f=>?_);have:=b i f;exact GH _ _ this.x0 (by have:=this.x1;omega));have u:∀m,aT m (λi=>fX l.length (bl l) i-2)= -kz (bl l) 0 m:=λm=>by
   induction m with
   |zero=>rfl
   |succ m w=>simp only[aT,kz];have:=h m;rw[w,Zf];omega
  rw[dh (λx _ _=>r x),qp,qp,sA,sA,t,u,hS,e]at q;unfold Sp;omega
 ·have:sI (-M) k (λx=>sI (-M) k (λy=>JU l ⟨x,y⟩))<=0:=GI _ _ (λx=>GI _ _ (λy=>(j ⟨x,y⟩).2 e));have:=a.Eb;omega
instance:DecidableEq (V2×V2):=inferInstance
def bH (l:LV):Ed:=(List.range l.length).map λi=>(gt l i,bw l i)
variable {e:V2×V2}
theorem bC {l:LV}:e∈bH l↔∃i,i<l.length/\e=(gt l i,bw l i):=by
 unfold bH;rw[XQ];exact⟨λ⟨i,h,k⟩=>⟨i,X4.1 h,k.symm⟩,λ⟨i,h,k⟩=>⟨i,X4.2 h,k.symm⟩⟩
theorem QQ (l:LV) (z:V2):W (bH l) z=aT l.length λi=>cq (af (gt l i) z) (af (bw l i) z):=by
 have a:∀(L:Nat) (f:Nat->V2×V2),W ((List.range L).map f) z=aT L λi=>cq (af (f i).1 z) (af (f i).2 z):=λL f=>by
  induction L with
  |zero=>rfl
  |succ L b=>rw[ZU,Ys,lO,b];simp only[Yg,W7,W,aT];omega
 exact a _ _
theorem Sh (m:Int) (l:LV):bH (l.map (ag m))=bD m (bH l):=by
 unfold bH bD;rw[Yq,X9];refine Yx (λi a=>?_);have a:=X4.1 a;simp only[Function.comp];rw[FA _ a,O9 _ a]
theorem Cv (m:Nat):((List.range (m+1)).map λi=>(i+1)%(m+1)).Perm (List.range (m+1)):=by
 have a:((List.range (m+1)).map λi=>(i+1)%(m+1))=(List.range m).map (·+1)++[0]:=by rw[ZU,Ys];congr 1;refine Yx (λi b=>?_);have:=X4.1 b;exact mOf;simp
 have c:List.range (m+1)=[0]++(List.range m).map (·+1):=by rw[ZO];rfl
 rw[a,c];exact Xt
theorem mK (l:LV):mT (bH l):=by
 unfold mT bH;rw[Yq,Yq];cases h:l.length with
 |zero=>exact .nil
 |succ m=>have:=((Cv m).map (gt l)).symm;rw[Yq]at this;have e:(List.range (m+1)).map ((λx:V2×V2=>x.snd)∘λi=>(gt l i,bw l i))=(List.range (m+1)).map (gt l∘λi=>(i+1)%(m+1)):=Yx (λi _=>by simp only[Function.comp,bw];rw[h]);rw[e];exact this
theorem RE {l:LV} (a:bk l):∀i:Nat,fX l.length (bl l) i+hA (bl l) i=2:=by
 have C:=qn a;obtain⟨K,c,b,hS⟩:=C.whole;rcases c with e|e;rw[e]at b;exact b;exfalso;have f:=Gh (l:=l) (M:=2000) (k:=4001) (by decide) (by have:=a.three;omega) (λi _=>cu a.fE i);have:sI (-2000) 4001 (λx=>sI (-2000) 4001 (λy=>JU l ⟨x,y⟩))<=0:=GI _ _ (λx=>GI _ _ (λy=>(Qh a (.inr e) b ⟨x,y⟩).2 e));have:=a.Eb;omega
theorem K3 (m:Int) (l:LV) (h:3<=l.length) (i:Int):bl (l.map (ag m)) i=ag m (bl l i):=by
 unfold bl iS;rw[X9];exact FA _ (jJ h i)
variable {m:Int}
theorem fC {l:LV} (c:bk l) (k:0<m) {z:V2} (w:∀e∈bD m (bH l),¬aV e.1 e.2 z):(W (bD m (bH l)) z=0\/W (bD m (bH l)) z=1)/\cz (l.map (ag m)) (cb z)=2*W (bD m (bH l)) z:=by
 have B:=c.three;have C:=(qn c).scale k;have K:=Ay (n:=l.length) (P:=bl l) k (RE c);rw[<-Sh]at w|-;generalize x:l.map (ag m)=L at*;have y:L.length=l.length:=by rw[<-x,X9]
 have q:(λi=>ag m (bl l i))=bl L:=by funext i;rw[<-x,K3 m l B]
 rw[q,<-y]at C;rw[q,<-y]at K;have o:∀i,i<L.length->¬aV (gt L i) (bw L i) z:=λi r=>w _ (bC.2 ⟨i,r,rfl⟩);have D:∀i:Int,¬aV (bl L i) (bl L (i+1)) z:=λi=>by rw[gD (by omega)];exact o _ (jJ (by omega) i)
 have E:2<=m*5000:=by omega
 have F:=C.off E (λi=>by
  have A:∀j:Int,bl L j=ag m (bl l j):=λj=>by rw[<-q]
  rw[A,A];have a:=cu c.fE (iS l i);have b:=cu c.fE (iS l (i+1));have:=a.x0;have:=a.x1;have:=b.x0;have:=b.x1;simp only[ag];rw[<-ZL,<-ZL];unfold bl;exact⟨Yv (by omega) k,Yv (by omega) k⟩) K (p:=z) D
 rw[<-zU (by omega),Qg (by omega) o,<-QQ]at F;refine⟨by omega,?_⟩;have t:=AQ (f:=λi=>cq (af (gt L i) z) (af (bw L i) z)) (g:=λi=>gZ (bN L i) (cb z)) L.length (λi r=>M5 (o i r));rw[<-QQ]at t;unfold cz;rw[vw.2 o,XD (by simp),pc];cases u:fp L.length (λi=>gZ (bN L i) (cb z))with
 |true=>have:=t.1 u;rw[XG rfl];omega
 |false=>
  have:¬W (bH L) z%2=1:=λh=>by rw[t.2 h]at u;cases u
  rw[XD (by simp)];omega
theorem aK {E:Ed}:e∈bD m E↔∃x∈E,e=(ag m x.1,ag m x.2):=by
 unfold bD;rw[XQ];exact⟨λ⟨x,h,k⟩=>⟨x,h,k.symm⟩,λ⟨x,h,k⟩=>⟨x,h,k.symm⟩⟩
theorem iA {l:LV} (b:bk l):nc (bH l) 0:=by
 intro m z c;obtain⟨n,h,a,f⟩:=(gen (bD m (bH l)) z).ex 1;have:=(fC b (m:=n*n*m) (by have:0<(n:Int)*n:=XC (by omega) (by omega);exact XC this c) (z:=nr (n*n) z ⟨n,1⟩) (λe g=>(f e (by rw[eO];exact g)).2.2)).1;rw[eO]at a;rw[<-a];omega
structure iU (E:Ed):Prop where
 cV:mT E
 nodup:E.Nodup
 nz:∀e∈E,e.1≠e.2
 one:∀e∈E,∀e'∈E,e≠e'->∀(m:Int) (u:V2),0<m->aV (ag m e.1) (ag m e.2) u->u≠ag m e.1->u≠ag m e.2->¬aV (ag m e'.1) (ag m e'.2) u
 out:∀e∈E,∃e'∈E,e'.2=e.1/\ai e'.1 e.1 e.2≠0/\∀U7∈E,U7≠e->U7≠e'->¬aV U7.1 U7.2 e.1
 qK:∀e∈E,∃e'∈E,e'.1=e.2
theorem gS (a:0<m) {u v:V2} (h:ag m u=ag m v):u=v:=by
 simp only[ag,V2.mk.injEq]at h;exact V2.ext (Y7 (by omega) h.1) (Y7 (by omega) h.2)
theorem zp {l:LV} (b:3<=l.length) (h:e∈bH l):∃i:Nat,i<l.length/\e=(bl l i,bl l (i+1)):=by
 obtain⟨i,a,rfl⟩:=bC.1 h;exact⟨i,a,by rw[jl a,oW b a]⟩
theorem QT {l:LV} (a:3<=l.length) (i:Int):(bl l i,bl l (i+1))∈bH l:=bC.2 ⟨iS l i,jJ a i,by rw[gD a];rfl⟩
theorem HZ {l:LV} (a:bk l) {i j:Nat} (hi:i<l.length) (b:j<l.length) (h:i≠j):∃k:Int,(i:Int)<k/\k<i+l.length/\bl l k=bl l j/\bl l (k+1)=bl l (j+1):=by
 have C:=qn a;by_cases c:i<j;exact⟨j,by omega,by omega,rfl,rfl⟩;refine⟨j+l.length,by omega,by omega,C.hZ j,?_⟩;rw[show(j:Int)+l.length+1=(j+1:Int)+l.length by omega];exact C.hZ (j+1)
theorem CA {l:LV} (g:bk l):iU (bH l):=by
 have c:=g.three;have C:=qn g;refine⟨mK l,?_,λe f=>?_,λe f S B D m u E h F G=>?_,λe f=>?_,λe f=>?_⟩;unfold bH;have:(List.range l.length).Nodup:=Wn;rw[List.Nodup,ZE];refine this.imp_of_mem (λ{a b} H I J e=>J ?_);exact H4 g (X4.1 H) (X4.1 I) (X5 (·.1) e);obtain⟨i,o,rfl⟩:=zp c f;exact C.next i;obtain⟨i,o,rfl⟩:=zp c f;obtain⟨j,w,rfl⟩:=zp c B;obtain⟨k,x,y,p,r⟩:=HZ g o w (λe=>D (by rw[e]));have:=(C.scale E).CK x y h F G;simp only[p,r]at this;exact this;obtain⟨i,o,rfl⟩:=zp c f;have z:bl l ((i:Int)-1+1)=bl l i:=(by congr 1;omega);refine⟨(bl l ((i:Int)-1),bl l ((i:Int)-1+1)),QT c _,z,by show ai (bl l ((i:Int)-1)) (bl l i) (bl l (i+1))≠0;exact C.pH i,λT K M N=>?_⟩;obtain⟨j,w,rfl⟩:=zp c K;obtain⟨k,x,y,p,r⟩:=HZ g o w (λe=>M (by rw[e]));show¬aV (bl l j) (bl l (j+1)) (bl l i);rw[<-p,<-r];by_cases A:k=i+l.length-1;exfalso;refine N ?_;have O:bl l ((i:Int)-1)=bl l j:=(by rw[<-p,A,<-C.hZ ((i:Int)-1)];congr 1;omega);have P:bl l ((i:Int)-1+1)=bl l (j+1):=(by rw[<-r,A,<-C.hZ ((i:Int)-1+1)];congr 1;omega);rw[O,P];by_cases Q:k=i+1;subst Q;by_cases U:l.length=3;intro h;have q:bl l ((i:Int)+1+1)=bl l ((i:Int)-1):=(by rw[<-C.hZ ((i:Int)-1)];congr 1;omega);rw[q]at h;have t:=C.pH i;have:=h.1;refine t ?_;have R:=h.1;simp only[ai,aa,af]at R|-;grind;have:=(C.nm ((i:Int)-1) (i+1) (by omega) (by omega)).b_;rw[z]at this;exact this;exact(C.nm i k (by omega) (by omega)).a_;obtain⟨i,o,rfl⟩:=zp c f;exact⟨_,QT c (i+1),rfl⟩
end Sg
end Go.Vm
