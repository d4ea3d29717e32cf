import Derived.Test.YtobmlkopbmakcaaGreatMG
import Derived.Test.YtobmlkopbmakcaaGreatMD
import Derived.Shelf.SlLaysF0
import Derived.Test.YtobmlkopbmakcaaGreatRows
set_option linter.unusedVariables false
set_option linter.unusedSimpArgs false
set_option maxRecDepth 20000
namespace Go.Vm
open Go Go.RowKit Go.Proofs
namespace Sg
theorem K7 {f d:V2} (a:In 10000 f) (b:In 10000 d):N6 f d=(rk f d:Nat):=by
 have c:=a.x0;have g:=a.x1;have h:=a.y0;have i:=a.y1;have j:=b.x0;have k:=b.x1;have l:=b.y0;have o:=b.y1;obtain⟨p,_⟩:=fS (m:=10000) (by decide) (by decide) a b;have r:=ir (X:=10000) (Y:=10000) ⟨c,g⟩ ⟨j,k⟩;have t:=ir (X:=10000) (Y:=10000) ⟨h,i⟩ ⟨l,o⟩;have q:pI f d=av f d:=by unfold pI av;rw[fq (n:=f.x*d.x) (by omega) (by omega),fq (n:=f.y*d.y) (by omega) (by omega),fq (by omega) (by omega)]
 unfold N6 rk;rw[p,q];split;rfl;(split;rfl;(split<;>rfl))
variable {g:V2}
theorem MB {f d:V2} (a:In 10000 f) (b:In 10000 g) (c:In 10000 d):TI f g d=true↔mP f g d:=by
 unfold TI mP;rw[K7 a c,K7 a b,(fS (m:=10000) (by decide) (by decide) c b).1];simp only[Zl,XJ,X0];omega
variable {s:cp}
theorem Sy {t:cp} (h1:In 10000 s.a) (h2:In 10000 s.b) (a:In 10000 t.a) (b:In 10000 t.b):SA s t=true↔xV s.a s.b t.a t.b:=by
 unfold SA xV;rw[Zl,Zl,X0,MB h1 h2 a,MB a b h1,K7 h1 a];constructor;rintro(h|h);exact .inl (by omega);exact .inr h;rintro(h|h);exact .inl (by omega);exact .inr h
variable {E:Ed} {u:V2}
theorem Cn.uniq (s:ix E) {f r g':V2} (h:Cn E u f g) (t:Cn E u r g'):f=r/\g=g':=by
 have w:∀{e x:V2×V2},e∈E->x∈E->e.1=u->aU x.1 x.2 u->u≠x.1->u≠x.2->False:=by intro e x b a y D z F;have ne:x≠e:=λq=>z (by rw[q,y]);have:=s.one x a e b ne 1 u (by decide) (by rw[aZ,aZ];exact D) (by rw[aZ];exact z) (by rw[aZ];exact F);rw[aZ,aZ,<-y]at this;exact this (bK _ _)
 rcases h with⟨e,b,A,G,h1,h2,l,m⟩|⟨e,b,h1,h2,l,m,H⟩;rcases t with⟨x,a,o,B,c,i,j,k⟩|⟨x,a,c,i,j,k,C⟩;have I:e=x:=s.Bd b a (h1.trans c.symm);have p:(A.2,A.1)=(o.2,o.1):=s.rev.Bd (dT.2 G) (dT.2 B) (h2.trans i.symm);have p:=nK p;rw[l,m,j,k,I,p];exact⟨rfl,rfl⟩;exact(w b a h1 c i j).elim
 ·rcases t with⟨x,a,o,B,c,i,j,k⟩|⟨x,a,c,i,j,k,C⟩;exact(w a b c h1 h2 l).elim
  ·have q:e=x:=Xz λne=>by have:=s.one e b x a ne 1 u (by decide) (by rw[aZ,aZ];exact h1) (by rw[aZ];exact h2) (by rw[aZ];exact l);rw[aZ,aZ]at this;exact this c
   rw[m,H,k,C,q];exact⟨rfl,rfl⟩
theorem Cn.on {f:V2} (h:Cn E u f g):∃e∈E,aU e.1 e.2 u:=by
 rcases h with⟨e,a,i,j,h1,h2,b,c⟩|⟨e,a,h1,h2,b,c,k⟩;exact⟨e,a,by rw[<-h1];exact bK _ _⟩;exact⟨e,a,h1⟩
variable {i k:Nat} {p:V2}
section
variable {o:LV} {hs:List (LV)}
theorem PK {l:LV} (h:i<l.length):gt l i=l[i]:=by simp[gt,List.getD,h]
theorem Xj {r:LV} (a:k<r.length):bA r ((k+r.length-1)%r.length)=gt r k/\lV r ((k+1)%r.length)=gt r k:=by
 unfold bA lV;constructor;congr 1;by_cases c:k=0;subst c;rw[show 0+r.length-1=r.length-1 by omega,X5 (show r.length-1<r.length by omega),show r.length-1+1=r.length by omega,Zt];rw[show k+r.length-1=(k-1)+r.length by omega,YI,X5 (show k-1<r.length by omega),show k-1+1=k by omega,X5 a];congr 1;by_cases c:k+1=r.length;rw[c,Zt,show 0+r.length-1=k by omega,X5 a];rw[X5 (show k+1<r.length by omega),show k+1+r.length-1=k+r.length by omega,YI,X5 a]
theorem DD {r:LV} (a:k<r.length):(lV r k,gt r k)∈bJ r:=by
 refine bX.2 ⟨(k+r.length-1)%r.length,mLt,?_⟩;rw[(Xj a).1];rfl
theorem wq {r:LV} (h:(o::hs)[i]? =some r) (a:k<r.length):
  (gt r k,if i=0 then bA r k else lV r k)∈gK o hs/\(if i=0 then lV r k else bA r k,gt r k)∈gK o hs:=by
 unfold gK;cases i with
 |zero=>have:r=o:=(by simpa using h.symm);subst this;rw[XL rfl,XL rfl];exact⟨X7 _ (bX.2 ⟨k,a,rfl⟩),X7 _ (DD a)⟩
 |succ i=>have b:r∈hs:=Zj (by simpa using h);rw[iN,iN];exact⟨X1 _ (ee.2 ⟨r,b,DD a⟩),X1 _ (ee.2 ⟨r,b,bX.2 ⟨k,a,rfl⟩⟩)⟩
theorem Oy {a b:V2} (c:In 2000 a) (f:In 2000 b):cW a b=ag a b/\In 10000 (ag a b):=by
 obtain⟨e,i⟩:=EB c f;exact⟨e,i.up (by decide)⟩
theorem Tl (S:cJ o hs) {r:LV} (h:(o::hs)[i]? =some r) (j:In 2000 p) (A:k<r.length) (a:yv i r p k=some s):Cn (gK o hs) p s.a s.b/\In 10000 s.a/\In 10000 s.b:=by
 have R:=S.nC (Zj h);have g:∀k,In 2000 (gt r k):=cz R.eX;obtain⟨m,z⟩:=wq (o:=o) (hs:=hs) h A;obtain⟨nx,t⟩:∃nx,nx=if i=0 then bA r k else lV r k:=⟨_,rfl⟩;obtain⟨l,u⟩:∃l,l=if i=0 then lV r k else bA r k:=⟨_,rfl⟩;have w:In 2000 nx:=by rw[t];split<;>exact g _
 have B:In 2000 l:=by rw[u];split<;>exact g _
 unfold yv at a;rw[<-t,<-u]at a;rw[<-t]at m;rw[<-u]at z;by_cases c:gt r k=p;rw[XL c]at a;cases a;obtain⟨b,x⟩:=Oy w j;obtain⟨f,y⟩:=Oy B j;refine⟨.inl ⟨_,m,_,z,c,c,b,f⟩,?_,?_⟩;show In 10000 (cW nx p);rw[b];exact x;show In 10000 (cW l p);rw[f];exact y;rw[XG c]at a;by_cases d:nx≠p/\ka ⟨gt r k,nx⟩ p=true;rw[XL d]at a;cases a;obtain⟨b,x⟩:=Oy w j;obtain⟨f,y⟩:=Oy (g k) j;have C:=(jD (s:=⟨gt r k,nx⟩) (jO ((g k).up (by decide)) (w.up (by decide)))).1 d.2;refine⟨.inr ⟨_,m,C,λq=>c q.symm,λq=>d.1 q.symm,b,f⟩,?_,?_⟩;show In 10000 (cW nx p);rw[b];exact x;show In 10000 (cW (gt r k) p);rw[f];exact y;rw[XG d]at a;cases a
theorem rE {α g:Type} {f:α->Option g}:∀{l:List α} {b:g},l.findSome? f=some b->∃a∈l,f a=some b
 |[],_,h=>nomatch h
 |x::l,b,h=>by
  rw[List.findSome?_cons]at h;cases c:f x with
  |some y=>rw[c]at h;exact⟨x,XW,by rw[c];exact h⟩
  |none=>rw[c]at h;obtain⟨a,i,e⟩:=rE h;exact⟨a,XK _ i,e⟩
theorem ND (S:cJ o hs) {p:V2} (a:In 2000 p):∀(L:List (LV)) (i:Nat),(∀j r,L[j]? =some r->(o::hs)[i+j]? =some r)->∀s,Oc p i L=some s->Cn (gK o hs) p s.a s.b/\In 10000 s.a/\In 10000 s.b
 |[],_,_,s,h=>nomatch h
 |r::L,i,b,s,h=>by
  rw[Oc]at h;cases c:(List.range r.length).findSome? (yv i r p)with
  |some y=>rw[c]at h;have e:y=s:=(by simpa using h);subst e;obtain⟨k,f,e⟩:=rE c;exact Tl S (b 0 r rfl) a (X6.1 f) e
  |none=>rw[c]at h;exact ND S a L (i+1) (λj x g=>by have:=b (j+1) x g;rwa [show i+1+j=i+(j+1) by omega]) s h
theorem yn {α b:Type} {f:α->Option b} {l:List α} (h:l.findSome? f=none):∀a∈l,f a=none:=by
 rw[aaX]at h;exact h
theorem D8 (S:cJ o hs) {p:V2}:∀(L:List (LV)) (i:Nat),(∀r∈L,bo r)->(∃r∈L,∃e∈bJ r,aU e.1 e.2 p)->Oc p i L≠none
 |[],_,_,⟨_,h,_⟩,_=>nomatch h
 |r::L,i,j,b,h=>by
  rw[Oc]at h;cases c:(List.range r.length).findSome? (yv i r p)with
  |some y=>rw[c]at h;cases h
  |none=>
   rw[c]at h;have N:=yn c;have R:=j r XW;have g:∀k,In 2000 (gt r k):=cz R.eX;have l:∀k,k<r.length->gt r k≠p:=λk a e=>by have:=N k (X6.2 a);unfold yv at this;rw[XL e]at this;cases this
   obtain⟨q,z,e,m,f⟩:=b;rcases XD.1 z with k|k;subst k;obtain⟨k,a,rfl⟩:=bX.1 m;have h1:(k+1)%q.length<q.length:=mLt;have t:=l k a;have u:=l _ h1;by_cases w:i=0;have:=N k (X6.2 a);unfold yv at this;rw[XG t,XL w,XL]at this;cases this;exact⟨u,(jD (s:=⟨gt q k,bA q k⟩) (jO ((g _).up (by decide)) ((g _).up (by decide)))).2 f⟩;have:=N _ (X6.2 h1);unfold yv at this;rw[XG u,XG w,(Xj a).2,XL]at this;cases this;exact⟨t,(jD (s:=⟨gt q ((k+1)%q.length),gt q k⟩) (jO ((g _).up (by decide)) ((g _).up (by decide)))).2 (ax.2 f)⟩;exact D8 S L (i+1) (λx b=>j x (XK _ b)) ⟨q,k,e,m,f⟩ h
theorem BH (S:cJ o hs) (f:In 2000 p) (h:Tv o hs 1 p):Cn (gK o hs) p (yu (o::hs) p).a (yu (o::hs) p).b/\In 10000 (yu (o::hs) p).a/\In 10000 (yu (o::hs) p).b:=by
 have g:∃r∈o::hs,∃e∈bJ r,aU e.1 e.2 p:=by obtain⟨r,a,e,i,b⟩:=h;rw[aZ,aZ]at b;exact⟨r,a,e,i,b⟩
 unfold yu;cases c:Oc p 0 (o::hs)with
 |none=>exact absurd c (D8 S _ 0 (λr a=>S.nC a) g)
 |some s=>exact ND S f _ 0 (λj r k=>by rw[Ya];exact k) s c
theorem il (S:cJ o hs) {v:V2}:v∈(o::hs).flatten↔∃e∈gK o hs,e.1=v:=by
 rw[Zn];constructor;rintro⟨r,b,h⟩;obtain⟨i,a,e⟩:=YF.1 b;obtain⟨k,f,j⟩:=YF.1 h;have h1:=(wq (o:=o) (hs:=hs) (i:=i) (r:=r) (by rw[XY a,e]) f).1;exact⟨_,h1,by show gt r k=v;rw[<-j];simp[gt,List.getD,f]⟩;rintro⟨e,g,rfl⟩;unfold gK at g;rcases XP.1 g with c|c;obtain⟨i,a,rfl⟩:=bX.1 c;exact⟨o,XW,db a⟩;obtain⟨r,b,k⟩:=ee.1 c;obtain⟨i,a,q⟩:=bX.1 k;have:e.1=bA r i:=XT Prod.snd q;rw[this];exact⟨r,XK _ b,db (mLt)⟩
theorem pg (S:cJ o hs) {v:V2} (h:v∈(o::hs).flatten):In 2000 v:=by
 obtain⟨r,a,b⟩:=Zn.1 h;exact jB (S.nC a) b
theorem J4 (S:cJ o hs) {v:V2} (b:In 2000 v):kc o hs v=2↔(∀e∈gK o hs,¬aU e.1 e.2 v)/\W (gK o hs) v=1:=by
 unfold kc;rw[XL ((b.up (by decide:(2000:Int)<=4000)).within (by decide) (by decide)),(Rk (b.up (by decide))).KM S,AS,oH];simp only[aZ];exact⟨λ⟨h1,h2⟩=>⟨λe a k=>h1 ⟨e,a,k⟩,h2⟩,λ⟨h1,h2⟩=>⟨λ⟨e,a,k⟩=>h1 e a k,h2⟩⟩
theorem z8 (S:cJ o hs) {v:V2} (a:In 2000 v):kc o hs v=1↔Tv o hs 1 v:=by
 unfold kc;rw[XL ((a.up (by decide:(2000:Int)<=4000)).within (by decide) (by decide)),(Rk (a.up (by decide))).R7 S]
end
theorem P1 {t:cp} (hs:aB s=true) (a:aB t=true):aH s t=2↔eh s t=true:=by
 refine⟨λh=>(yW h).2.2,λh=>?_⟩;have g:=zy hs a h;have c:∀A B D,pY s t A B D->aH s t=2:=λA B D L=>by obtain⟨i,j,k,l⟩:=L.ends hs a;have p:=(L.Rh hs a).1 h;have b:aT s t=[]:=(by refine lh λe m=>?_;obtain⟨h1,h2,f⟩:=dJ.1 m;rcases h1 with rfl|rfl|rfl|rfl;have:=i.1 f;omega;have:=j.1 f;omega;have:=k.1 h2;omega;have:=l.1 h2;omega);rw[aH,XG (by simp[hs,a]),b,h];rfl
 rcases Yh g with b|o;exact c _ _ _ (ze b);exact c _ _ _ (zd o)
section
variable {o1:LV} {h1:List (LV)} (S1:cJ o1 h1) {o2:LV} {h2:List (LV)} (S2:cJ o2 h2)
include S1 S2
theorem Ph:yi (cI (o1::h1)) (cI (o2::h2)) (λx=>!bn 1 λ_=>!decide ((2:Int)=x))=true↔∃r∈gK o1 h1,∃t∈gK o2 h2,kU r t:=by
 have l:∀x:Int,(!bn 1 λ_=>!decide ((2:Int)=x))=decide ((2:Int)=x):=λx=>by
  rw[Zw,Yx,<-Zh,aF];constructor
  ·intro h;cases c:decide ((2:Int)=x)with
   |true=>rfl
   |false=>exact absurd (λi _=>by rw[c];rfl) h
  ·intro h k;have:=k 0 (by decide);rw[h]at this;cases this
 have m:∀e∈cI (o1::h1),∀f∈cI (o2::h2),((cU e f).kind=2↔kU (e.a,e.b) (f.a,f.b)):=λe g f j=>by have o:=(tc S1 g).1;have p:=(tc S2 j).1;rw[(eH e f).1,P1 o p,tg o p];exact ZB
 have u:yi (cI (o1::h1)) (cI (o2::h2)) (λx=>!bn 1 λ_=>!decide ((2:Int)=x))=false↔∀e∈cI (o1::h1),∀f∈cI (o2::h2),¬kU (e.a,e.b) (f.a,f.b):=by unfold yi;rw[aao,iK (f:=λe=>bn (cI (o2::h2)).length λk=>!(!bn 1 λ_=>!decide ((2:Int)=(cU e (bh (cI (o2::h2)) k)).kind)))];constructor;intro h e g f j k;have:=iK (f:=λf=>!(!bn 1 λ_=>!decide ((2:Int)=(cU e f).kind))).1 (h e g) f j;rw[l,(m e g f j).2 k]at this;simp at this;intro h e g;refine iK (f:=λf=>!(!bn 1 λ_=>!decide ((2:Int)=(cU e f).kind))).2 λf j=>?_;rw[l,Yx,Zm];exact λk=>h e g f j ((m e g f j).1 k.symm)
 have w:(∀e∈cI (o1::h1),∀f∈cI (o2::h2),¬kU (e.a,e.b) (f.a,f.b))↔∀e∈gK o1 h1,∀f∈gK o2 h2,¬kU e f:=by
  have y:(∀e∈cI (o1::h1),∀f∈cI (o2::h2),¬kU (e.a,e.b) (f.a,f.b))↔∀e∈gK o1 h1,∀f∈cI (o2::h2),¬kU e (f.a,f.b):=
   lJ S1 (Q:=λa b=>∀f∈cI (o2::h2),¬kU (a,b) (f.a,f.b)) λa b h f j k=>h f j (eQ k.sym).sym
  rw[y];have q:∀e:V2×V2,(∀f∈cI (o2::h2),¬kU e (f.a,f.b))↔∀f∈gK o2 h2,¬kU e f:=λe=>
   lJ S2 (Q:=λa b=>¬kU e (a,b)) λa b h k=>h (eQ k)
  exact⟨λh e g=>(q e).1 (h e g),λh e g=>(q e).2 (h e g)⟩
 rw[<-aa4,u,w];constructor;intro h;refine Xz λk=>h λe g f j c=>k ⟨e,g,f,j,c⟩;rintro⟨e,g,f,j,c⟩ h;exact h e g f j c
omit S2 in
theorem KG (w:Int):Ur o1 h1 o2 h2 w=true↔∃e∈gK o1 h1,kc o2 h2 e.1=w:=by
 unfold Ur;dsimp only;rw[Yx,<-Zh,aF];constructor;intro h;refine Xz λq=>h λi a=>?_;obtain⟨e,b,c⟩:=(il S1).1 (db a);rw[Yx,Zm];exact λk=>q ⟨e,b,by rw[c];exact k⟩;rintro⟨e,b,k⟩ h;obtain⟨i,a,q⟩:=YF.1 ((il S1).2 ⟨e,b,rfl⟩);have:=h i a;rw[show gt (o1::h1).flatten i=e.1 by rw[<-q];exact PK a,k]at this;simp at this
theorem R2 (g:cp->cp->Bool) (Q:V2->V2->V2->V2->Prop) (B:∀s t:cp,In 10000 s.a->In 10000 s.b->In 10000 t.a->In 10000 t.b->(g s t=false↔Q s.a s.b t.a t.b)):
  Ul o1 h1 o2 h2 g=false↔∃u m o r w,((∃e∈gK o1 h1,e.1=u)\/∃e∈gK o2 h2,e.1=u)/\Cn (gK o1 h1) u m o/\Cn (gK o2 h2) u r w/\Q m o r w:=by
 unfold Ul;dsimp only;have C:∀{p:V2},p∈(o1::h1).flatten++(o2::h2).flatten->In 2000 p:=λh=>(XP.1 h).elim (pg S1) (pg S2);constructor
 ·intro h;rw[<-Zh,aF]at h;refine Xz λq=>h λi f=>?_;have b:=db f;have a:=C b;rw[Yx,ZW,ZW];refine Xz λk=>q ?_;have F:kc o1 h1 (gt ((o1::h1).flatten++(o2::h2).flatten) i)=1:=Xz λc=>k (.inl (XZ c));have G:kc o2 h2 (gt ((o1::h1).flatten++(o2::h2).flatten) i)=1:=Xz λc=>k (.inr (.inl (XZ c)));have H:g (yu (o1::h1) (gt ((o1::h1).flatten++(o2::h2).flatten) i)) (yu (o2::h2) (gt ((o1::h1).flatten++(o2::h2).flatten) i))=false:=by
   cases c:g (yu (o1::h1) (gt ((o1::h1).flatten++(o2::h2).flatten) i)) (yu (o2::h2) (gt ((o1::h1).flatten++(o2::h2).flatten) i))with
   |false=>rfl
   |true=>exact absurd (.inr (.inr (by rw[c];rfl))) k
  obtain⟨j,x,y⟩:=BH S1 a ((z8 S1 a).1 F);obtain⟨l,z,A⟩:=BH S2 a ((z8 S2 a).1 G);refine⟨_,_,_,_,_,?_,j,l,(B _ _ x y z A).1 H⟩;rcases XP.1 b with c|c;exact .inl ((il S1).1 c);exact .inr ((il S2).1 c)
 ·rintro⟨u,m,o,r,w,I,j,l,J⟩;have b:u∈(o1::h1).flatten++(o2::h2).flatten:=(by rcases I with c|c;exact X7 _ ((il S1).2 c);exact X1 _ ((il S2).2 c));have a:=C b;have D:Tv o1 h1 1 u:=AS.2 (by simp only[aZ];exact j.on);have E:Tv o2 h2 1 u:=AS.2 (by simp only[aZ];exact l.on);obtain⟨K,x,y⟩:=BH S1 a D;obtain⟨M,z,A⟩:=BH S2 a E;obtain⟨N,O⟩:=j.uniq S1.qh K;obtain⟨P,R⟩:=l.uniq S2.qh M;have S:=(B _ _ x y z A).2 (by rw[<-N,<-O,<-P,<-R];exact J);obtain⟨i,f,q⟩:=YF.1 b;refine bD i f ?_;rw[show gt ((o1::h1).flatten++(o2::h2).flatten) i=u by rw[<-q];exact PK f];rw[(z8 S1 a).2 D,(z8 S2 a).2 E,S];rfl
theorem HZ:Bo o1 h1 o2 h2=true↔¬Comm (gK o1 h1) 0 (gK o2 h2) 0:=by
 rw[P8 S1.qh S2.qh S1.yg S2.yg rfl,<-aa4];refine not_congr ?_;have t:=R2 S1 S2 (λs t=>!SA s t) xV λs t a b c d=>by rw[aao];exact Sy a b c d
 have g:=KG S1 (o2:=o2) (h2:=h2) 2;have h:=KG S2 (o2:=o1) (h2:=h1) 2;have i:=Ph S1 S2;unfold Bo J1;have j:(∃e∈gK o1 h1,kc o2 h2 e.1=2)↔∃e∈gK o1 h1,(∀y∈gK o2 h2,¬aU y.1 y.2 e.1)/\W (gK o2 h2) e.1+0=1:=by refine aax λe=>aap λf=>?_;rw[aad];exact J4 S2 (pg S1 ((il S1).2 ⟨e,f,rfl⟩))
 have k:(∃e∈gK o2 h2,kc o1 h1 e.1=2)↔∃e∈gK o2 h2,(∀y∈gK o1 h1,¬aU y.1 y.2 e.1)/\W (gK o1 h1) e.1+0=1:=by refine aax λe=>aap λf=>?_;rw[aad];exact J4 S1 (pg S2 ((il S2).2 ⟨e,f,rfl⟩))
 rw[<-j,<-k,<-g,<-h,<-i,<-t];simp only[ZW,aao]
end
section
variable {o1:LV} {h1:List (LV)} {o2:LV} {h2 L1 L2:List (LV)}
end
structure Rn (o:LV) (hs:List (LV)):Prop where
 vs:VS o hs
 zq:aP (o::hs)<=14
 SK:∀r∈o::hs,∀x∈r,In 20 x
theorem Mq {o:LV} (R:bo o) {B:Int} (a:∀x∈o,In B x) {v:V2} (h:W (bJ o) v=1):In B v:=by
 have b:V5 ⟨-B,-B⟩ ⟨B,B⟩ (bJ o):=λe c=>by obtain⟨i,f,rfl⟩:=bX.1 c;have:=a _ (db f);exact⟨this.x0,this.x1,this.y0,this.y1⟩
 have:=UP (rI o) b (m:=1) (z:=v) (by decide) (by rw[oH];exact h);simp only[abr]at this;exact⟨this.1,this.2.1,this.2.2.1,this.2.2.2⟩
theorem KF {o:LV} {hs:List (LV)} (h:EK o hs 20=true:=by kernel_rfl):Rn o hs:=by
 unfold EK at h;simp only[XJ,X0]at h;obtain⟨h1,h2,g⟩:=h;have V:=Ux g;have f:∀x∈o,In 20 x:=λx b=>by
  obtain⟨i,a,e⟩:=YF.1 b;have:=In.of (by decide) (by decide) (aF.1 h1 i a)
  rwa [show gt o i=x by rw[<-e];exact PK a]at this
 refine⟨V,h2,λr j x b=>?_⟩;rcases XD.1 j with c|c;subst c;exact f x b
 ·obtain⟨i,a,e⟩:=YF.1 b;have:=V.ok.SJ r c (gt r i,bA r i) (bX.2 ⟨i,a,rfl⟩);have:=Mq V.ok.outer f this
  rwa [show gt r i=x by rw[<-e];exact PK a]at this
section
variable {o:LV} {hs:List (LV)}
end
section
variable {co:LV} {ch:List (LV)} {mo:LV} {mh:List (LV)} {ob:List VY} (C:Rn co ch) (M:Rn mo mh) (O:∀s∈ob,Rn s.1 s.2)
include C O
include M
end
abbrev QS:LV:=WG ⟨0,0⟩ ⟨2,2⟩
theorem Gt:Rn QS []:=KF
theorem ai.tb {P:Program} {f:FuncId} {args:List DV} {K:TV->Prop} {e:Bool} (h:lY P f args (.eD [.one (.v (.bool e)),.one (i64 0)])) (a:∀b,b=e->K (.eD [.one (.v (.bool b)),.one (i64 0)])):ai P f args K:=⟨_,h,a e rfl⟩
variable {c:SV}
theorem Cw (h:ju Tryz.prog 42 [c]):∃l:LV,l.length<=maxLen/\aD c (aN l):=by
 obtain⟨m,g,e,a,b⟩:=ju.Hw (P:=Tryz.prog) (e:=50) rfl h;have f:c= .sl m 2 g:=by have:[c]=[.sl m 2 g]:=e;simpa using this
 obtain⟨l,i,j⟩:=Pv b;exact⟨l,by rw[i];exact a,by rw[f];exact λS w x r=>j S w x r⟩
theorem K8 (h:ju Tryz.prog 43 [c]):∃L:List (LV),L.length<=maxLen/\aD c (hS L):=by
 obtain⟨n,b,e,f,g⟩:=ju.Hw (P:=Tryz.prog) (e:=42) rfl h;have k:c= .sl n 1 b:=by have:[c]=[.sl n 1 b]:=e;simpa using this
 have m:∀i,∃l:LV,i<n->aD (b i 0) (aN l):=λi=>by by_cases a:i<n;obtain⟨l,_,o⟩:=Cw (c:=b i 0) (g i a);exact⟨l,λ_=>o⟩;exact⟨[],λq=>absurd q a⟩
 obtain⟨R,p⟩:=abc m;have r:∀i,i<n->((List.range n).map R).getD i []=R i:=λi a=>by simp[List.getD,a]
 refine⟨(List.range n).map R,by simpa using f,?_⟩;rw[k];refine aD.pQ (by simp) (λi a j t=>?_);obtain rfl:j=0:=by omega
 show aD (b i 0) (aN (((List.range n).map R).getD i []));rw[r i a];exact p i a
theorem KK {a b:SV} (h:ju Tryz.prog 45 [a,b]):∃(o:LV) (f:List (LV)),o.length<=maxLen/\f.length<=maxLen/\aD a (aN o)/\aD b (hS f):=by
 obtain⟨o,g,i⟩:=Cw (c:=a) (h.field rfl 0 0 1 42 rfl);obtain⟨f,j,k⟩:=K8 (c:=b) (h.field rfl 1 1 1 43 rfl);exact⟨o,f,g,j,i,k⟩
def Gs (l:LV):LV:=pH 0 l l.length
theorem Kx (l:LV) (g:l.length<=19):
  lT Tryz.prog 217 [.aJ (.n 2000) 1,.d (.one (i64 l.length)),.d TL] [.aL 1 l.length 2 50 (vG l)] (.eD []) [.aL 1 l.length 2 50 (vG (Gs l))] .none:=by
 refine cF je mixed Tryz.func217 rfl rfl [234+2000000,235+2000000] (XI rfl) (XI rfl) (fe rfl) ?_;refine Loop.by (α:=Unit) (λ_=>[(0,.aJ 2000 1),(1,au l.length),(2,.d TL),(6,au 20),(7,au 0),(8,au 20)]) (λ_=>[(2000,.aL 1 l.length 2 50 (vG l))]) (λ_=>True) (λ_=>0)
  (aG.at () trivial (.cons (.aL (λj a b c=>aD.refl _)) .nil) (.cH (.cS (.cS (.cS (.cS (.cS .nil))))))) (λq f=>?_)
 refine af.fh (dF) ?_;refine fp.mk' [2000] (Nw l 0 l.length) ⟨.cons (Fl rfl (λi m j a=>aD.refl _)) .nil,.cH (.cD (.cD (.cD .nil))),rfl,rfl,λh=>absurd rfl h⟩ ?_;refine Loop.by (α:=Unit) (λ_=>[(0,.aJ 2000 1),(1,au l.length),(2,.d TL),(6,au 20)]) (λ_=>[(2000,.aL 1 l.length 2 50 (vG (Gs l)))]) (λ_=>True) (λ_=>0)
  (aG.at () trivial (.cons (.aL (λj a b c=>aD.refl _)) .nil) (.cH (.cS (.cS (.cS .nil))))) (λq f=>?_)
 refine af.fh (dF) ?_;exact ke.mk ⟨.n 0,.none,.cons (.aL (λ_=>rfl) (λk o p r=>aD.refl _)) (.nil _),.inl rfl⟩
theorem IC (l:LV) (a:l.length<=19):
  lT Tryz.prog 180 [.aJ (.n 2000) 1,.d (.one (.fn 181 1 Qg))] [.aL 1 l.length 2 50 (vG l)] (.eD []) [.aL 1 l.length 2 50 (vG (Gs l))] .none:=by
 refine cF je mixed Tryz.func180 rfl rfl [217+2000000] (XI rfl) (XI rfl) (fe rfl) ?_;refine fp.mk' [2000] (Kx l a) ⟨.cons (Fl rfl (λi b j c=>aD.refl _)) .nil,.cH (.cD (.cD .nil)),rfl,rfl,λh=>absurd rfl h⟩ ?_;exact ke.mk ⟨.n 0,.none,.cons (.aL (λ_=>rfl) (λk f g m=>aD.refl _)) (.nil _),.inl rfl⟩
theorem Up:Ik 19 Gs:=⟨λl=>rv 0 l l.length,IC⟩
def OA:LV:=[⟨0,0⟩,⟨2,0⟩,⟨2,2⟩,⟨0,2⟩]
def Wy:List (LV):=[[⟨0,0⟩,⟨2,0⟩,⟨2,2⟩,⟨0,2⟩],[⟨2,0⟩,⟨2,2⟩,⟨0,2⟩,⟨0,0⟩],[⟨2,2⟩,⟨0,2⟩,⟨0,0⟩,⟨2,0⟩],[⟨0,2⟩,⟨0,0⟩,⟨2,0⟩,⟨2,2⟩]]
def Wb:LV:=[⟨8,1⟩,⟨15,8⟩,⟨8,15⟩,⟨1,8⟩]
theorem R6:(∀a∈OA,∀b∈OA,∀c∈OA,¬∀z∈Wb,W (bw 8 (bJ [a,b,c])) z=1)/\(∀a∈OA,∀b∈OA,∀c∈OA,∀d∈OA,(∀z∈Wb,W (bw 8 (bJ [a,b,c,d])) z=1)->[a,b,c,d]∈Wy)/\∀z∈Wb,W (bw 8 (gK QS [])) z=1:=by decide+kernel
theorem R5:∀x∈aA QS [],x∈OA:=by decide+kernel
theorem R4 {L:List (LV)} (P:QA QS [] L):∃r∈Wy,L=[r]:=by
 obtain⟨i,j,g⟩:=R6;have f:=P.WW;have e:(yI QS []).2=[]:=by kernel_rfl
 have k:aP [QS]=4:=rfl;rw[e,k]at f;have f:3*L.length<=4:=f;have l:L≠[]:=λq=>by have w:=P.Ir 8 ⟨8,1⟩ (by decide);rw[q,g _ (by decide)]at w;exact absurd w (by decide)
 have:=ZH.2 l;obtain⟨r,rfl⟩:=List.length_eq_one_iff.1 (show L.length=1 by omega);have C:=P.cv r XW;have h:∀x∈r,x∈OA:=λx m=>R5 x (P.sub r XW x m);have o:r.length<=4:=aai C.nodup h;have p:=C.n3;have t:∀z∈Wb,W (bw 8 (bJ r)) z=1:=λz u=>by have w:=P.Ir 8 z (by decide);rw[g z u,iu]at w;rw[w];exact(aad _).symm
 clear C;refine⟨r,?_,rfl⟩
 match r,o,p,h,t with
 |[a,b,c],_,_,s,t=>exact absurd t (i a (s a (by simp)) b (s b (by simp)) c (s c (by simp)))
 |[a,b,c,d],_,_,s,t=>exact j a (s a (by simp)) b (s b (by simp)) c (s c (by simp)) d (s d (by simp)) t
theorem Un:∀r∈Wy,(∀t∈[r,uG r,x8 Gs r (uG r)],3<=t.length/\t.length<=160/\pT t=true/\(∀i,i<t.length->0<eJ (cW (bA t i) (gt t i)) (cW (bA t (i+1)) (bA t i)))/\QP t t.length=1)/\r.length+(uG r).length<=19/\
  SX [x8 Gs r (uG r)] ⟨1,0⟩=true/\SX [x8 Gs r (uG r)] ⟨2,0⟩=false:=by decide+kernel
theorem JM:DP 6 [] (aE true):=by
 obtain⟨L,P⟩:=sP Gt.vs;obtain⟨r,q,rfl⟩:=R4 P;obtain⟨l,u,w,x⟩:=Un r q;have g:∀t∈[r,uG r,x8 Gs r (uG r)],MV t:=λt y=>by obtain⟨a,b,c,d,e⟩:=l t y;exact⟨a,b,c,d,e⟩
 have j:=g r (by simp);have m:=g (uG r) (by simp);have i:=g (x8 Gs r (uG r)) (by simp);have one:∀{a:LV},a∈[r]->a=r:=λh=>Yr.1 h;have o:=O8 Up (A:=[r]) (B:=[r]) (λa h=>one h▸j) (λa h=>one h▸j) (λa h=>one h▸m) (λa h b k=>by rw[one h,one k];exact⟨u,i.eX,i.kK⟩) (by simp) (by simp) (by simp);have e:uN Gs [r] ([r].map uG)=[x8 Gs r (uG r)]:=rfl;rw[e]at o;have z:Bo QS [] QS []=false:=by kernel_rfl
 have C:=P.W6;have M:∀t∈[x8 Gs r (uG r)],MV t:=λt h=>by rw[Yr.1 h];exact i
 have p:[x8 Gs r (uG r)].length<=40000:=by simp
 generalize [x8 Gs r (uG r)]=S at*;clear P l g j m i one e;refine dg Tryz.func6 [] ?_;refine ai.mk' (EX ⟨0,0⟩ ⟨2,2⟩) ?_;refine ai.mk' C ?_;refine ai.mk' o ?_;refine ai.tb (M6 Gt.vs Gt.vs) (λb f=>?_);obtain rfl:b=false:=f.trans z;repeat' first|apply af.t|apply af.f
 refine ai.bool (Dx M p ⟨1,0⟩) (λb f=>?_);obtain rfl:b=true:=f.trans w;repeat' first|apply af.t|apply af.f
 refine ai.bool (Dx M p ⟨2,0⟩) (λb f=>?_);obtain rfl:b=false:=f.trans x;repeat' first|apply af.t|apply af.f
 refine ai.mk' (iZ Gt.vs) ?_;repeat' first|apply af.t|apply af.f
 exact Fin.rfl'
def NU (m:Int) (l:LV) (z:V2):Prop:=∀d:V2,d≠⟨0,0⟩->∃v∈l,m*aa d v<aa d z
theorem Lm {l:LV} (h:l≠[]) (i:Nat):rQ l i∈l:=db (ZC _ (ZH.2 h))
theorem SD {l:LV} {v:V2} (h:v∈l):∃i,i<l.length/\rQ l i=v:=by
 obtain⟨i,a,e⟩:=YF.1 h;exact⟨i,a,by rw[yX a,gt,Yu,XY a];exact e⟩
theorem Gp {f:Nat->Int}:∀{n:Nat},bz n f≠0->∃i,i<n/\f i≠0
 |0,h=>absurd rfl h
 |n+1,h=>by by_cases c:f n=0;obtain⟨i,a,k⟩:=Gp (n:=n) (f:=f) (by simp only[bz]at h;omega);exact⟨i,by omega,k⟩;exact⟨n,by omega,c⟩
theorem gg.pass {r:LV} (C:gg r) {d:V2} (a:d≠⟨0,0⟩):∃i,oy d (bZ (rQ r) (i+r.length-1))=false/\oy d (bZ (rQ r) (i+r.length))=true:=by
 have u:=mS.unit C a 0;obtain⟨t,_,k⟩:=Gp (by rw[u];decide);simp only[Ya]at k;have q:oy d (bZ (rQ r) t)=false/\oy d (bZ (rQ r) (t+1))=true:=by unfold lW at k;exact Xz λc=>k (XG c)
 refine⟨t+1,?_,?_⟩;rw[show t+1+r.length-1=t+r.length by omega,C.nI];exact q.1;rw[C.nI];exact q.2
variable {m:Int} {z:V2}
theorem gg.sup {r:LV} (C:gg r) (b:0<m) (h:px m r z):NU m r z:=λd a=>by
 obtain⟨i,c,f⟩:=C.pass a;refine⟨rQ r i,Lm C.LI i,?_⟩;have k:=C.ahead b a h c f;have e:aa d (ag z (ah m (rQ r i)))=aa d z-m*aa d (rQ r i):=by simp only[aa,ag,ah];grind
 omega
theorem QK (m:Int) (a b z:V2):aj (ah m a) (ah m b) z=m*(aa (ag b a) z-m*aa (ag b a) a):=by simp only[aj,aa,ag,ah];grind
theorem NU.left (c:0<m) {l:LV} {a b:V2} (h:NU m l z) (f:a≠b) (g:∀v∈l,0<=aj a b v):0<aj (ah m a) (ah m b) z:=by
 obtain⟨v,i,k⟩:=h (ag b a) (cC (Zf f));have q:=g v i;have e:aj a b v=aa (ag b a) v-aa (ag b a) a:=by simp only[aj,aa,ag];grind
 rw[QK];have:m*aa (ag b a) a<=m*aa (ag b a) v:=XH (by omega) (by omega);exact XC c (by omega)
theorem NU.mono {l k:LV} (h:NU m l z) (s:∀v∈l,v∈k):NU m k z:=λd a=>by
 obtain⟨v,b,q⟩:=h d a;exact⟨v,s v b,q⟩
structure Od (l w:LV):Prop where
 cv:gg w
 sub:∀v∈w,v∈l
 left:∀e∈bJ w,∀v∈l,0<=aj e.1 e.2 v
theorem Od.iff {l w:LV} (H:Od l w) (a:0<m):px m w z↔NU m l z:=
 ⟨λh=>(H.cv.sup a h).mono H.sub,λh e b=>h.left a (H.cv.nz e b) (H.left e b)⟩
def sq (a b:LV):LV:=a.flatMap λx=>b.map (an x)
theorem oT {a b:LV} {v:V2}:v∈sq a b↔∃x∈a,∃y∈b,v=an x y:=by
 unfold sq;rw[aaK];constructor;rintro⟨x,c,h⟩;obtain⟨y,f,e⟩:=XS.1 h;exact⟨x,c,y,f,e.symm⟩;rintro⟨x,c,y,f,e⟩;exact⟨x,c,XS.2 ⟨y,f,e.symm⟩⟩
section
variable {a b al:LV}
end
def JS (w s:LV):Prop:=∃e∈bJ w,∀p∈s,aj e.1 e.2 p<=0
def Lx (s:Int) (d:V2):Prop:=0<s*d.x\/(d.x=0/\0<s*d.y)
variable {s:Int}
theorem Lx.nz {d:V2} (h:Lx s d):d≠⟨0,0⟩:=λe=>by
 rw[e]at h;unfold Lx at h;simp at h
theorem Lx.sw {a b:V2} (h:Lx s (ag b a)):Lx (-s) (ag a b):=by
 unfold Lx ag at*;simp only[Zc,Zp]at*;omega
theorem Xd (hs:s=1\/s= -1):s*s=1:=by rcases hs with rfl|rfl<;>rfl
theorem Xi (hs:s=1\/s= -1) {u d v:V2} (f:Lx s u) (g:Lx s d) (a:Lx s v) (i:0<=aa u d:=by omega) (h2:0<aa d v:=by omega):0<aa u v:=by
 have b:=Xd hs;have id:s*d.x*aa u v=s*u.x*aa d v+s*v.x*aa u d:=by simp only[aa];grind
 have c:∀{w:V2},Lx s w->0<=s*w.x:=λ{w} h=>by rcases h with h|⟨h,_⟩;omega;rw[h];omega
 have j:0<s*d.x:=by rcases g with h|⟨h,k⟩;exact h;have e:aa d v= -((s*d.y)*(s*v.x)):=(by have:(s*d.y)*(s*v.x)=(s*s)*(d.y*v.x):=(by grind);rw[this,b];simp only[aa];rw[h];grind);have:=XF (XN k) (c a);omega
 have l:0<s*u.x:=by rcases f with h|⟨h,k⟩;exact h;have e:aa u d= -((s*u.y)*(s*d.x)):=(by have:(s*u.y)*(s*d.x)=(s*s)*(u.y*d.x):=(by grind);rw[this,b];simp only[aa];rw[h];grind);have:=XC k j;omega
 have m:=XC l h2;have o:=XF (c a) i;exact(bf (show 1<=s*d.x by omega)).1.1 (by omega)
def dy (p:V2):LV->LV
 |b::a::r=>if aj a b p<=0 then dy p (a::r)else b::a::r
 |l=>l
def eB (st:LV):LV->LV
 |[]=>st
 |p::a=>eB (p::dy p st) a
abbrev eg (st:LV) (i:Nat):V2:=ag (gt st i) (gt st (i+1))
structure qI (s:Int) (dx st:LV):Prop where
 lx:∀i,i+1<st.length->Lx s (eg st i)
 tn:∀i j,i<j->j+1<st.length->0<aa (eg st j) (eg st i)
 sub:∀c∈st,c∈dx
 WZ:∀d,Lx s d->∀q∈dx,∃c∈st,aa d c<=aa d q
variable {i:Nat}
section
variable {s:Int} {dx st:LV} {p:V2}
theorem u6:∀{st:LV},st≠[]->dy p st≠[]
 |[],h=>absurd rfl h
 |[_],_=>by simp[dy]
 |b::a::r,_=>by unfold dy;split;exact u6 (by simp);simp
theorem y3:∀{st:LV} (h:st≠[]),(dy p st).getLast (u6 h)=st.getLast h
 |[],h=>absurd rfl h
 |[_],_=>by simp[dy]
 |b::a::r,_=>by by_cases c:aj a b p<=0;have e:dy p (b::a::r)=dy p (a::r):=(by rw[dy,XL c]);simp only[e];rw[y3 (st:=a::r) (by simp)];exact(Y1 (by simp)).symm;have e:dy p (b::a::r)=b::a::r:=(by rw[dy,XG c]);simp only[e]
theorem q5:∀{st:LV},∀c∈dy p st,c∈st
 |[],_,h=>h
 |[_],_,h=>by simpa[dy]using h
 |b::a::r,c,h=>by unfold dy at h;split at h;exact XK _ (q5 c h);exact h
theorem CG (hs:s=1\/s= -1):∀{st:LV},(∀i,i+1<st.length->Lx s (eg st i))->(∀q∈st,Lx s (ag p q))->∀d,Lx s d->∀c∈st,∃f∈p::dy p st,aa d f<=aa d c
 |[],_,_,_,_,_,h=>by cases h
 |[_],_,_,_,_,c,h=>⟨c,by simpa[dy]using .inr (Yr.1 h),Yf _⟩
 |b::a::r,j,l,d,m,c,h=>by by_cases k:aj a b p<=0;have e:dy p (b::a::r)=dy p (a::r):=(by rw[dy,XL k]);rw[e];have o:=CG hs (st:=a::r) (λi t=>j (i+1) (by simp only[XV]at t|-;omega)) (λq w=>l q (by simp[w])) d m;rcases XD.1 h with rfl|h;have u:Lx s (ag c a):=j 0 (by simp);have v:=l c (by simp);have z:aj a c p=aa (ag c a) (ag p c):=(by simp only[aj,aa,ag];grind);have A:aa d (ag c a)=aa d c-aa d a:=(by simp only[aa,ag];grind);have B:aa d (ag p c)=aa d p-aa d c:=(by simp only[aa,ag];grind);have C:=eR (ag c a) d;by_cases g:aa d a<=aa d c;obtain⟨f,x,D⟩:=o a (by simp);exact⟨f,x,by omega⟩;by_cases y:aa d p<=aa d c;exact⟨p,by simp,y⟩;have:=Xi hs u m v;omega;exact o c h;have e:dy p (b::a::r)=b::a::r:=(by rw[dy,XG k]);rw[e];exact⟨c,by simp only[XD]at h|-;exact .inr h,Yf _⟩
theorem wE:∀{st:LV},(∀i,i+1<st.length->Lx s (eg st i))->(∀i j,i<j->j+1<st.length->0<aa (eg st j) (eg st i))->(∀i,i+1<(dy p st).length->Lx s (eg (dy p st) i))/\(∀i j,i<j->j+1<(dy p st).length->0<aa (eg (dy p st) j) (eg (dy p st) i))/\(1<(dy p st).length->0<aa (eg (dy p st) 0) (ag p (gt (dy p st) 0)))
 |[],_,_=>⟨λi h=>absurd h (by simp[dy]),λi j _ h=>absurd h (by simp[dy]),λh=>absurd h (by simp[dy])⟩
 |[x],_,_=>⟨λi h=>absurd h (by simp[dy]),λi j _ h=>absurd h (by simp[dy]),λh=>absurd h (by simp[dy])⟩
 |b::a::r,c,f=>by by_cases k:aj a b p<=0;have e:dy p (b::a::r)=dy p (a::r):=(by rw[dy,XL k]);rw[e];exact wE (st:=a::r) (λi g=>c (i+1) (by simp only[XV]at g|-;omega)) (λi j m l=>f (i+1) (j+1) (by omega) (by simp only[XV]at l|-;omega));have e:dy p (b::a::r)=b::a::r:=(by rw[dy,XG k]);rw[e];refine⟨c,f,λ_=>?_⟩;have o:aj a b p=aa (ag b a) (ag p b):=(by simp only[aj,aa,ag];grind);show 0<aa (ag b a) (ag p b);omega
theorem qI.push (hs:s=1\/s= -1) (H:qI s dx st) (h:∀q∈dx,Lx s (ag p q)) (t:st≠[]):qI s (p::dx) (p::dy p st):=by
 obtain⟨a,l,m⟩:=wE (p:=p) H.lx H.tn;have u:gt (dy p st) 0∈dy p st:=db (ZH.2 (u6 t));have o:Lx s (ag p (gt (dy p st) 0)):=h _ (H.sub _ (q5 _ u));refine⟨λi hi=>?_,λi j z w=>?_,λc b=>?_,λd r q f=>?_⟩
 ·cases i with
  |zero=>exact o
  |succ i=>exact a i (by simp only[XV]at hi;omega)
 ·cases j with
  |zero=>omega
  |succ j=>
   have g:j+1<(dy p st).length:=(by simp only[XV]at w;omega);cases i with
   |zero=>
    show 0<aa (eg (dy p st) j) (ag p (gt (dy p st) 0));cases j with
    |zero=>exact m (by omega)
    |succ j=>exact Xi hs (a _ g) (a 0 (by omega)) o (XN (l 0 (j+1) (by omega) g)) (m (by omega))
   |succ i=>exact l i j (by omega) g
 ·rcases XD.1 b with rfl|k;simp;exact XK _ (H.sub c (q5 c k))
 ·rcases XD.1 f with rfl|k;exact⟨q,by simp,Yf _⟩;obtain⟨c,b,A⟩:=H.WZ d r q k;obtain⟨x,y,B⟩:=CG hs H.lx (λq f=>h q (H.sub q f)) d r c b;exact⟨x,y,by omega⟩
theorem qI.mono {a:LV} (H:qI s dx st) (h:∀q,q∈a↔q∈dx):qI s a st:=⟨H.lx,H.tn,λc b=>(h c).2 (H.sub c b),λd f q g=>H.WZ d f q ((h q).1 g)⟩
theorem qI.run (hs:s=1\/s= -1):∀{ps dx st:LV},qI s dx st->st≠[]->(∀p∈ps,∀q∈dx,Lx s (ag p q))->ps.Pairwise (λq p=>Lx s (ag p q))->qI s (dx++ps) (eB st ps)/\eB st ps≠[]
 |[],dx,st,H,a,_,_=>by rw[Y4];exact⟨H,a⟩
 |p::ps,dx,st,H,a,b,f=>by
  obtain⟨g,i⟩:=Y2.1 f;have:=qI.run hs (ps:=ps) (H.push hs (b p (by simp)) a) (by simp) (λx c q j=>by
   rcases XD.1 j with rfl|k;exact g x c
   ·exact b x (by simp[c]) q k) i
  refine⟨this.1.mono λq=>?_,this.2⟩;simp only[XP,XD];constructor;(rintro(h|h|h)<;>simp[h])
  ·rintro((h|h)|h)<;>simp[h]
theorem qI.of (hs:s=1\/s= -1) {p:V2} {ps:LV} (h:(p::ps).Pairwise λq p=>Lx s (ag p q)):qI s (p::ps) (eB [] (p::ps))/\eB [] (p::ps)≠[]:=by
 obtain⟨b,f⟩:=Y2.1 h;have H:qI s [p] [p]:=⟨λi hi=>absurd hi (by simp),λi j _ hi=>absurd hi (by simp),λc g=>g,λd _ q a=>⟨q,a,Yf _⟩⟩;exact qI.run hs (ps:=ps) H (by simp) (λx k q a=>by rw[Yr.1 a];exact b x k) f
theorem zF:∀{ps st:LV} (h:st≠[]) (a:eB st ps≠[]),(eB st ps).getLast a=st.getLast h
 |[],_,_,_=>rfl
 |p::ps,st,h,a=>by have:=zF (ps:=ps) (st:=p::dy p st) (by simp) a;show(eB (p::dy p st) ps).getLast _=_;rw[this,Y1 (u6 h),y3 h]
theorem tj:∀{ps st:LV} (h:ps≠[]),gt (eB st ps) 0=ps.getLast h
 |[],_,h=>absurd rfl h
 |[p],st,_=>rfl
 |p::q::ps,st,_=>by show gt (eB (p::dy p st) (q::ps)) 0=_;rw[tj (by simp)];exact(Y1 (by simp)).symm
theorem qI.side (H:qI s dx st) (hi:i+1<st.length) {j:Nat} (l:j<st.length):0<=aa (eg st i) (ag (gt st j) (gt st i)):=by
 have f:∀k,i+k<st.length->0<=aa (eg st i) (ag (gt st (i+k)) (gt st i)):=by
  intro k;induction k with
  |zero=>intro _;simp[aa,ag]
  |succ k a=>
   intro g;have b:=a (by omega);have e:aa (eg st i) (ag (gt st (i+(k+1))) (gt st i))=aa (eg st i) (ag (gt st (i+k)) (gt st i))-aa (eg st i) (eg st (i+k)):=(by rw[show i+(k+1)=i+k+1 by omega];simp only[aa,ag];grind);have m:=eR (eg st i) (eg st (i+k));cases k with
   |zero=>rw[e,YG];have:aa (eg st i) (eg st i)=0:=lL _;rw[YG]at b;omega
   |succ k=>have:=H.tn i (i+(k+1)) (by omega) (by omega);omega
 have h:∀k,k<=i->0<=aa (eg st i) (ag (gt st (i-k)) (gt st i)):=by
  intro k;induction k with
  |zero=>intro _;simp[aa,ag]
  |succ k a=>intro g;have b:=a (by omega);have e:aa (eg st i) (ag (gt st (i-(k+1))) (gt st i))=aa (eg st i) (ag (gt st (i-k)) (gt st i))+aa (eg st i) (eg st (i-(k+1))):=(by rw[show eg st (i-(k+1))=ag (gt st (i-(k+1))) (gt st (i-k)) by unfold eg;rw[show i-(k+1)+1=i-k by omega]];simp only[aa,ag];grind);have:=H.tn (i-(k+1)) i (by omega) hi;omega
 by_cases c:i<=j
 ·have:=f (j-i) (by omega)
  rwa [show i+(j-i)=j by omega]at this
 ·have:=h (i-j) (by omega)
  rwa [show i-(i-j)=j by omega]at this
theorem qI.left (H:qI s dx st) (hi:i+1<st.length) {q:V2} (b:q∈dx):0<=aa (eg st i) (ag q (gt st i)):=by
 obtain⟨c,f,k⟩:=H.WZ _ (H.lx i hi) q b;obtain⟨j,a,rfl⟩:=YF.1 f;have:=H.side hi a;have g:gt st j=st[j]:=by rw[gt,Yu,XY a];rfl
 rw[g]at this;have h:aa (eg st i) (ag st[j] (gt st i))=aa (eg st i) st[j]-aa (eg st i) (gt st i):=by simp only[aa,ag];grind
 have l:aa (eg st i) (ag q (gt st i))=aa (eg st i) q-aa (eg st i) (gt st i):=by simp only[aa,ag];grind
 omega
end
theorem qI.Rb (hs:s=1\/s= -1) {dx A B:LV} (a:qI s dx A) (b:qI (-s) dx B) (la:2<=A.length) (T:2<=B.length) (l:5<=A.length+B.length) (h:gt A 0=gt B (B.length-1)):0<aa (eg A 0) (eg B (B.length-2)):=by
 have I:=Xd hs;have p:eg B (B.length-2)=ag (gt B (B.length-2)) (gt A 0):=by unfold eg;rw[show B.length-2+1=B.length-1 by omega,h]
 have r:gt B (B.length-2)∈dx:=b.sub _ (db);have U:0<=aa (eg A 0) (eg B (B.length-2)):=by rw[p];exact a.left (by omega) r
 refine Xz λc=>?_;have z:aa (eg A 0) (eg B (B.length-2))=0:=by omega
 have x:=a.lx 0 (by omega);have y:=b.lx (B.length-2) (by omega);have o:∀q∈dx,aa (eg A 0) (ag q (gt A 0))=0:=by
  intro q C;have V:=a.left (i:=0) (by omega) C;have J:=b.left (i:=B.length-2) (by omega) C;have D:0<=aa (eg B (B.length-2)) (ag q (gt A 0)):=by
   have e:aa (eg B (B.length-2)) (ag q (gt B (B.length-2)))=aa (eg B (B.length-2)) (ag q (gt A 0)):=by have:ag q (gt B (B.length-2))=ag (ag q (gt A 0)) (eg B (B.length-2)):=(by rw[p];exact V2.ext (by simp only[ag];omega) (by simp only[ag];omega));rw[this];simp only[aa,ag];grind
   rwa [e]at J
  generalize eg B (B.length-2)=f at*;generalize eg A 0=g at*;generalize ag q (gt A 0)=w at*;refine Xz λn=>?_;have E:0<aa g w:=(by omega);rcases x with j|⟨j,F⟩;have id:s*g.x*aa f w=s*f.x*aa g w+s*w.x*aa f g:=(by simp only[aa];grind);have X:=eR f g;rw[show aa f g=0 by omega,X8,aad]at id;have:s*f.x<0:=(by rcases y with k|⟨k,m⟩;rw[Zc]at k;omega;exfalso;have:aa g f= -((s*g.x)*(-s*f.y)):=(by have:(s*g.x)*(-s*f.y)= -((s*s)*(g.x*f.y)):=(by grind);rw[this,I];simp only[aa];rw[k];grind);have:=XC j m;omega);have K:=X3 this E;have M:=XF (XN j) D;omega
  ·have G:f.x=0:=by
    have:aa g f= -(g.y*f.x):=(by simp only[aa];rw[j];grind);have N:g.y≠0:=λe=>by rw[e]at F;omega
    rcases YY.1 (show g.y*f.x=0 by omega)with q|q;exact absurd q N;exact q
   have m:0< -s*f.y:=(by rcases y with k|⟨_,m⟩;rw[G]at k;omega;exact m);have O:aa g w= -(g.y*w.x):=(by simp only[aa];rw[j];grind);have P:aa f w= -(f.y*w.x):=(by simp only[aa];rw[G];grind);have id:(s*g.y)*aa f w=(s*f.y)*aa g w:=(by rw[O,P];grind);have K:=XF (XN F) D;have M:(s*f.y)*aa g w<0:=X3 (by rw[Zc]at m;omega) E;omega
 by_cases Y:3<=A.length;have t:=a.tn 0 1 (by omega) (by omega);have Q:=o _ (a.sub _ (db (show 1<A.length by omega)));have R:=o _ (a.sub _ (db (show 2<A.length by omega)));have e:aa (eg A 1) (eg A 0)=aa (eg A 0) (ag (gt A 2) (gt A 0))-aa (eg A 0) (ag (gt A 1) (gt A 0)):=(by unfold eg;simp only[aa,ag];grind);omega
 ·have Z:3<=B.length:=(by omega);have t:=b.tn (B.length-3) (B.length-2) (by omega) (by omega);have Q:=o _ (b.sub _ (db (show B.length-3<B.length by omega)));have R:=o _ r;have S:aa (eg A 0) (eg B (B.length-3))=0:=by
   have:eg B (B.length-3)=ag (ag (gt B (B.length-3)) (gt A 0)) (ag (gt B (B.length-2)) (gt A 0)):=(by unfold eg;rw[show B.length-3+1=B.length-2 by omega];exact V2.ext (by simp only[ag];omega) (by simp only[ag];omega));rw[this];have:∀g u v:V2,aa g (ag u v)=aa g u-aa g v:=λg u v=>by simp only[aa,ag];grind
   rw[this];omega
  have H:=fO (f:=eg A 0) (d:=eg B (B.length-2)) (e:=eg B (B.length-3)) z;rw[S,X8]at H;rcases YY.1 H with q|q;have:=bL x.nz;omega;omega
def dY (A B:LV):LV:=A.tail.reverse++B.tail.reverse
structure xT (dx A B:LV):Prop where
 a:qI 1 dx A
 b:qI (-1) dx B
 la:2<=A.length
 lb:2<=B.length
 l5:5<=A.length+B.length
 ab:gt A 0=gt B (B.length-1)
 ba:gt B 0=gt A (A.length-1)
variable {i:Nat}
theorem qy {A:LV} (h:i+1<A.length:=by omega):gt A.tail.reverse i=gt A (A.length-1-i):=by
 have l:A.tail.length=A.length-1:=List.length_tail;unfold gt;rw[rB _ _,l];rw[Yu,Yu,List.getElem?_tail];rw[show A.length-1-1-i+1=A.length-1-i by omega]
section
variable {dx A B:LV}
theorem im (A B:LV):(dY A B).length=(A.length-1)+(B.length-1):=by simp[dY]
theorem xT.at_ (T:xT dx A B) (h:i<=(A.length-1)+(B.length-1)):rQ (dY A B) i=if i<A.length-1 then gt A (A.length-1-i)else gt B (B.length-1-(i-(A.length-1))):=by
 have la:=T.la;have lb:=T.lb;have f:A.tail.reverse.length=A.length-1:=by simp
 by_cases c:i=(A.length-1)+(B.length-1);unfold rQ;rw[im,c,Zt,iN,show B.length-1-(A.length-1+(B.length-1)-(A.length-1))=0 by omega,T.ba];unfold dY;rw[jc,qy];rfl
 ·unfold rQ;rw[im,mOf];unfold dY;split;rw[jc,qy]
  ·obtain⟨j,rfl⟩:∃j,i=A.tail.reverse.length+j:=⟨i-(A.length-1),by omega⟩;rw[mE,qy,f];congr 1;omega
theorem xT.dv (T:xT dx A B) (h:i<(A.length-1)+(B.length-1)):bZ (rQ (dY A B)) i=if i<A.length-1 then eg A (A.length-2-i)else eg B (B.length-2-(i-(A.length-1))):=by
 have la:=T.la;have lb:=T.lb;show ag (rQ _ (i+1)) (rQ _ i)=_;rw[T.at_ (by omega),T.at_ (by omega)];by_cases c:i<A.length-1;rw[XL c,XL c];unfold eg;rw[show A.length-2-i+1=A.length-1-i by omega];by_cases f:i+1<A.length-1;rw[XL f,show A.length-1-(i+1)=A.length-2-i by omega];rw[XG f,show i+1-(A.length-1)=0 by omega,show A.length-2-i=0 by omega,T.ab];rfl;rw[XG c,XG c,iN];unfold eg;rw[show B.length-2-(i-(A.length-1))+1=B.length-1-(i-(A.length-1)) by omega,show B.length-1-(i+1-(A.length-1))=B.length-2-(i-(A.length-1)) by omega]
theorem Sj (r:LV) (i:Nat):rQ r (i+r.length)=rQ r i:=by unfold rQ;rw[YI]
theorem Sk (r:LV) (i:Nat):rQ r (i%r.length)=rQ r i:=by unfold rQ;rw[Nat.mod_mod]
theorem rJ (r:LV) (i:Nat):bZ (rQ r) (i%r.length)=bZ (rQ r) i:=by
 show ag (rQ r (i%r.length+1)) (rQ r (i%r.length))=ag (rQ r (i+1)) (rQ r i);have:rQ r (i%r.length+1)=rQ r (i+1):=by unfold rQ;rw[ZU]
 rw[this,Sk]
theorem xT.left (T:xT dx A B) (i:Nat):0<aa (bZ (rQ (dY A B)) i) (bZ (rQ (dY A B)) (i+1)):=by
 have la:=T.la;have lb:=T.lb;have l5:=T.l5;have g:=im A B;have hi:=ZC i (show 0<(dY A B).length by omega);have e:bZ (rQ (dY A B)) (i+1)=bZ (rQ (dY A B)) (i%(dY A B).length+1):=by rw[<-rJ _ (i+1),<-rJ _ (i%(dY A B).length+1),ZU]
 rw[<-rJ _ i,e];generalize i%(dY A B).length=k at hi;rw[g]at hi;rw[T.dv hi];by_cases c:k+1=(A.length-1)+(B.length-1);have:bZ (rQ (dY A B)) (k+1)=bZ (rQ (dY A B)) 0:=(by rw[<-rJ,g,c,Zt]);rw[this,T.dv (by omega),iN,iP,show B.length-2-(k-(A.length-1))=0 by omega];exact qI.Rb (s:= -1) (.inr rfl) T.b T.a lb la (by omega) T.ba;rw[T.dv (by omega)];by_cases f:k+1<A.length-1;rw[iP,XL f];exact T.a.tn _ _ (by omega) (by omega);by_cases h:k<A.length-1;rw[XL h,XG f,show A.length-2-k=0 by omega,show k+1-(A.length-1)=0 by omega];exact qI.Rb (s:=1) (.inl rfl) T.a T.b la lb l5 T.ab;rw[XG h,XG f];exact T.b.tn _ _ (by omega) (by omega)
theorem Q8 {v:V2}:(Lx 1 v->Ev λN=>oy ⟨1,-(N:Int)⟩ v=true)/\(Lx (-1) v->Ev λN=>oy ⟨1,-(N:Int)⟩ v=false):=by
 have e:∀N:Nat,aa ⟨1,-(N:Int)⟩ v=N*v.x+v.y:=λN=>by simp only[aa];grind
 constructor;rintro(h|⟨a,b⟩);refine(dK v.y (show 0<v.x by omega)).imp λN k=>X4 (.inl (by rw[e];exact k));exact Ev.of λN=>X4 (.inl (by rw[e,a];omega));rintro(h|⟨a,b⟩);refine(jR v.y (show v.x<0 by omega)).imp λN k=>XZ (by rw[e];omega);exact Ev.of λN=>XZ (by rw[e,a];omega)
theorem xT.cv (T:xT dx A B):gg (dY A B):=by
 have la:=T.la;have lb:=T.lb;have l5:=T.l5;have g:=im A B;refine⟨by omega,Sj _,T.left,?_⟩;obtain⟨N,_,h⟩:=(Ev.all (p:=λi N=>oy ⟨1,-(N:Int)⟩ (bZ (rQ (dY A B)) i)=decide (i<A.length-1)) (List.range (dY A B).length) (λi hi=>by
  have hi:=X6.1 hi;rw[g]at hi;rw[T.dv hi];by_cases c:i<A.length-1;(rw[XL c];exact(Q8.1 (T.a.lx (A.length-2-i) (by omega))).imp λN k=>by rw[k,X4 c])
  ·rw[XG c];exact(Q8.2 (T.b.lx (B.length-2-(i-(A.length-1))) (by omega))).imp λN k=>by rw[k,XZ c])).ex 0
 have l:(⟨1,-(N:Int)⟩:V2)≠⟨0,0⟩:=λe=>by have:=XT V2.x e;simp at this
 have f:=sv l T.left 0 (dY A B).length;simp only[Ya]at f;have p0:bZ (rQ (dY A B)) (dY A B).length=bZ (rQ (dY A B)) 0:=by rw[<-rJ,Zt]
 rw[p0]at f;have at_:∀i,i<(dY A B).length->oy ⟨1,-(N:Int)⟩ (bZ (rQ (dY A B)) i)=decide (i<A.length-1):=λi hi=>h i (X6.2 hi);have one:bz (dY A B).length (λt=>lW (oy ⟨1,-(N:Int)⟩) (bZ (rQ (dY A B)) t) (bZ (rQ (dY A B)) (t+1)))=1:=by rw[vT (i:=(dY A B).length-1) (by omega) (λj m o=>?_)];unfold lW;rw[show(dY A B).length-1+1=(dY A B).length by omega,p0,at_ _ (by omega),at_ 0 (by omega)];exact XL ⟨dF,X4 (by omega)⟩;unfold lW;rw[at_ j m,at_ (j+1) (by omega)];refine XG λk=>?_;have q:=XB k.1;have r:=XA k.2;omega
 omega
theorem xT.SN (T:xT dx A B):Od dx (dY A B):=by
 have la:=T.la;have lb:=T.lb;refine⟨T.cv,λv j=>?_,λe f q g=>?_⟩;rcases XP.1 j with k|k;exact T.a.sub v (List.mem_of_mem_tail (aa9.1 k));exact T.b.sub v (List.mem_of_mem_tail (aa9.1 k))
 ·rw[gw]at f;obtain⟨i,hi,rfl⟩:=kr.1 f;rw[im]at hi;have d:=T.dv hi;have a:=T.at_ (i:=i) (by omega);show 0<=aa (bZ (rQ (dY A B)) i) (ag q (rQ (dY A B) i));have h:∀x y:V2,aa (ag x y) (ag q y)=aa (ag x y) (ag q x):=λx y=>by simp only[aa,ag];grind
  rw[d,a];by_cases c:i<A.length-1;rw[XL c,XL c];have:=T.a.left (i:=A.length-2-i) (by omega) g;unfold eg at this|-;rw[show A.length-2-i+1=A.length-1-i by omega]at this|-;rw[h];exact this;rw[XG c,XG c];have:=T.b.left (i:=B.length-2-(i-(A.length-1))) (by omega) g;unfold eg at this|-;rw[show B.length-2-(i-(A.length-1))+1=B.length-1-(i-(A.length-1)) by omega]at this|-;rw[h];exact this
end
theorem HG {l:LV} (h:l≠[]):gt l (l.length-1)=l.getLast h:=by
 have:=ZH.2 h;rw[gt,Yu,XY (by omega),List.getLast_eq_getElem];rfl
variable {dx:LV}
theorem Kb (hs:dx.Pairwise λq p=>Lx 1 (ag p q)) (O:∃a∈dx,∃b∈dx,∃c∈dx,aj a b c≠0):xT dx (eB [] dx) (eB [] dx.reverse):=by
 obtain⟨a,r,b,H,c,I,t⟩:=O;have f:dx≠[]:=List.ne_nil_of_mem r;have u:dx.reverse≠[]:=by simpa using f
 have P:dx.reverse.Pairwise λq p=>Lx (-1) (ag p q):=by rw[List.pairwise_reverse];exact hs.imp λ{x y} h=>Lx.sw (s:=1) h
 obtain⟨J,w⟩:qI 1 dx (eB [] dx)/\eB [] dx≠[]:=by
  cases dx with
  |nil=>exact absurd rfl f
  |cons p j=>exact qI.of (.inl rfl) hs
 obtain⟨K,z⟩:qI (-1) dx (eB [] dx.reverse)/\eB [] dx.reverse≠[]:=by
  have:qI (-1) dx.reverse (eB [] dx.reverse)/\eB [] dx.reverse≠[]:=by
   generalize dx.reverse=l at*;cases l with
   |nil=>exact absurd rfl u
   |cons p j=>exact qI.of (.inr rfl) P
  exact⟨this.1.mono λq=>by rw[aa9],this.2⟩
 have first:∀{l:LV} (h:l≠[]) (C:eB [] l≠[]),(eB [] l).getLast C=l.head h:=by
  intro l h C;cases l with
  |nil=>exact absurd rfl h
  |cons p j=>exact zF (st:=[p]) (by simp) C
 have k:gt (eB [] dx) 0=dx.getLast f:=tj f;have o:gt (eB [] dx.reverse) 0=dx.head f:=by rw[tj u,List.getLast_reverse]
 have D:gt (eB [] dx) ((eB [] dx).length-1)=dx.head f:=by rw[HG w,first f w]
 have E:gt (eB [] dx.reverse) ((eB [] dx.reverse).length-1)=dx.getLast f:=by rw[HG z,first u z,List.head_reverse]
 have F:dx.head f≠dx.getLast f:=by
  cases dx with
  |nil=>exact absurd rfl f
  |cons p j=>by_cases q:j=[];subst q;rw[Yr.1 r,Yr.1 H,Yr.1 I]at t;exact absurd (by simp[aj,aa,ag]) t;rw[Y1 q];intro e;have:=(Y2.1 hs).1 _ (List.getLast_mem q);rw[<-e]at this;exact this.nz (by simp[ag])
 have Q:2<=(eB [] dx).length:=by have:=ZH.2 w;refine Xz λc=>F ?_;rw[<-k,<-D,show(eB [] dx).length-1=0 by omega]
 have R:2<=(eB [] dx.reverse).length:=by have:=ZH.2 z;refine Xz λc=>F ?_;rw[<-o,<-E,show(eB [] dx.reverse).length-1=0 by omega]
 refine⟨J,K,Q,R,?_,by rw[k,E],by rw[o,D]⟩;refine Xz λa2=>t ?_;generalize eB [] dx=A at*;generalize eB [] dx.reverse=B at*;have S:A.length=2:=by omega
 have T:B.length=2:=by omega
 have U:eg A 0=ag (dx.getLast f) (dx.head f):=by unfold eg;rw[k,<-D,S]
 have V:eg B 0=ag (dx.head f) (dx.getLast f):=by unfold eg;rw[o,<-E,T]
 have G:∀q∈dx,aa (ag (dx.getLast f) (dx.head f)) (ag q (dx.head f))=0:=λq M=>by have X:=J.left (i:=0) (by omega) M;have Y:=K.left (i:=0) (by omega) M;rw[U,k]at X;rw[V,o]at Y;have a3:aa (ag (dx.getLast f) (dx.head f)) (ag q (dx.getLast f))=aa (ag (dx.getLast f) (dx.head f)) (ag q (dx.head f)):=(by simp only[aa,ag];grind);have a4:aa (ag (dx.head f) (dx.getLast f)) (ag q (dx.head f))= -aa (ag (dx.getLast f) (dx.head f)) (ag q (dx.head f)):=(by simp only[aa,ag];grind);omega
 have Z:ag (dx.getLast f) (dx.head f)≠⟨0,0⟩:=cC (Zf F);have a5:=G a r;have a6:=G b H;have a7:=G c I;generalize ag (dx.getLast f) (dx.head f)=g at*;generalize dx.head f=m at*;have a0:aa g (ag b a)=0:=by have:aa g (ag b a)=aa g (ag b m)-aa g (ag a m):=(by simp only[aa,ag];grind);omega
 have a1:aa g (ag c a)=0:=by have:aa g (ag c a)=aa g (ag c m)-aa g (ag a m):=(by simp only[aa,ag];grind);omega
 have N:=fO (e:=ag c a) a0;rw[a1,X8]at N;rcases YY.1 N with q|q;have:=bL Z;omega;exact q
def SM (dx:LV):LV:=bC (dY (eB [] dx) (eB [] dx.reverse))
theorem PD (hs:dx.Pairwise λq p=>Lx 1 (ag p q)) (f:∃a∈dx,∃b∈dx,∃c∈dx,aj a b c≠0):Od dx (SM dx):=by
 have H:=(Kb hs f).SN;exact⟨H.cv.begin,λv g=>H.sub v (Fo.1 g),λe h=>H.left e ((td _).mem_iff.1 h)⟩
def xU (N:List (V2×Int)) (m:Int) (z:V2):Prop:=∀n∈N,av n.1 z<m*n.2
structure tu (N:List (V2×Int)):Prop where
 pos:∀n∈N,0<n.2
 sym:∀n∈N,(gN n.1,n.2)∈N
variable {R m:Int} {z:V2}
section
variable {N:List (V2×Int)}
theorem oj (n:V2) (k:Int) (z:V2):av n (ah k z)=k*av n z:=by simp only[av,ah];grind
theorem Bl (n u v:V2):av n (an u v)=av n u+av n v:=by simp only[av,an];grind
theorem PT (n u v:V2):av n (ag u v)=av n u-av n v:=by simp only[av,ag];grind
theorem M4 (n z:V2):av (gN n) z= -av n z:=by simp only[av,gN];grind
theorem PU (n z:V2):av n (gN z)= -av n z:=by simp only[av,gN];grind
theorem tu.ng (S:tu N) (h:xU N m z):xU N m (gN z):=λn a=>by
 have:=h _ (S.sym n a);simp only[M4]at this;rw[PU];exact this
theorem tu.mul (S:tu N) (h:xU N m z) (g:0<m) {r:Int} (i: -R<=r) (h2:r<=R) (j:0<R):xU N (R*m) (ah r z):=λn f=>by
 have c:=S.pos n f;have k:=XC g c;rw[oj,YZ];have a:=h n f;have b:=h _ (S.sym n f);simp only[M4]at b;generalize m*n.2=C at*;generalize av n.1 z=D at*;have l:=XF (show 0<=R-r by omega) (show 0<=C+D by omega);have o:=XF (show 0<=R+r by omega) (show 0<=C-D by omega);have p:(R-r)*(C+D)=R*C+R*D-r*C-r*D:=by grind
 have t:(R+r)*(C-D)=R*C-R*D+r*C-r*D:=by grind
 have u:0<(R-r)*(C+D)\/0<(R+r)*(C-D):=by by_cases q:r<R;left;exact XC (by omega) (by omega);right;exact XC (by omega) (by omega)
 omega
theorem tu.one (S:tu N) (h:xU N m z) (a:0<m) (b:0<R):xU N (R*m) (ah R z):=S.mul h a (by omega) (Yf _) b
theorem tu.zero (S:tu N) (a:0<m):xU N m ⟨0,0⟩:=λn b=>by
 have:av n.1 ⟨0,0⟩=0:=by simp[av]
 rw[this];exact XC a (S.pos n b)
end
def jY (N:List (V2×Int)) (a b:V2):Prop:=∃m t:Int,0<m/\0<=t/\t<=m/\xU N m (an (ah (m-t) a) (ah t b))
def gM (k h:Int):List (V2×Int):=[(⟨1,0⟩,k),(⟨-1,0⟩,k),(⟨0,1⟩,k),(⟨0,-1⟩,k),(⟨1,1⟩,k+h),(⟨1,-1⟩,k+h),(⟨-1,1⟩,k+h),(⟨-1,-1⟩,k+h)]
variable {h k:Int}
theorem wJ (b:0<k) (c:0<=h):tu (gM k h):=by
 refine⟨λn a=>?_,λn a=>?_⟩;(simp only[gM,XD,YD,ZY]at a;rcases a with rfl|rfl|rfl|rfl|rfl|rfl|rfl|rfl<;>simp only<;>omega)
 ·simp only[gM,XD,YD,ZY]at a;rcases a with rfl|rfl|rfl|rfl|rfl|rfl|rfl|rfl<;>simp[gM,gN]
theorem O0:xU (gM k h) m z↔(z.x<m*k/\ -z.x<m*k/\z.y<m*k/\ -z.y<m*k)/\z.x+z.y<m*(k+h)/\z.x-z.y<m*(k+h)/\ -z.x+z.y<m*(k+h)/\ -z.x-z.y<m*(k+h):=by
 unfold xU gM;simp only[XD,YD,ZY,forall_eq_or_imp,forall_eq,av];omega
def ez (x:Int):Int:=if 0<=x then x else-x
def yh (k h x y:Int):Int:=bU (y*k+x*h) (y*h+x*k)
variable {X Y p q:Int}
theorem GX (a:0<=q) (b:q<=p) (f:0<p) (g:X<m*k) (i:X+Y<m*(k+h):=by omega):p*X+q*Y<m*(p*k+q*h):=by
 have e:m*(p*k+q*h)-(p*X+q*Y)=(p-q)*(m*k-X)+q*(m*(k+h)-(X+Y)):=by grind
 have j:=XF (show 0<=p-q by omega) (show 0<=m*k-X by omega);have l:=XF a (show 0<=m*(k+h)-(X+Y) by omega);have:0<(p-q)*(m*k-X)\/0<q*(m*(k+h)-(X+Y)):=by by_cases c:q<p;left;exact XC (by omega) (by omega);right;exact XC (by omega) (by omega)
 omega
theorem Pl (a b:Int):a<=bU a b/\b<=bU a b:=by unfold bU;split<;>omega
theorem Pm (a b:Int):bU a b=a\/bU a b=b:=by unfold bU;split<;>simp
theorem AT (l:0<m) (a:0<=q) (f:0<=p) (o:0<p\/0<q) (g:X<m*k) (i:Y<m*k) (j:X+Y<m*(k+h):=by omega):p*X+q*Y<m*yh k h q p:=by
 have M:=Pl (p*k+q*h) (p*h+q*k);unfold yh;by_cases c:q<=p;have b:=GX a c (by omega) g j;have:=XH M.1 (show 0<=m by omega);omega;have b:=GX (p:=q) (q:=p) (X:=Y) (Y:=X) (h:=h) f (by omega) (by omega) i;rw[show q*k+p*h=p*h+q*k by omega]at b;have:=XH M.2 (show 0<=m by omega);omega
theorem wK (a:0<m) {d:V2} (j:d≠⟨0,0⟩) (H:xU (gM k h) m z):aa z d<m*yh k h (ez d.x) (ez d.y):=by
 obtain⟨⟨b,f,g,i⟩,l,o,r,t⟩:=O0.1 H;have u:d.x≠0\/d.y≠0:=by refine Xz λc=>j (V2.ext ?_ ?_)<;>simp only<;>omega
 show z.x*d.y-z.y*d.x<_;unfold ez;have w:=X9 z.x d.y;have x:=X9 z.y d.x;split<;>split
 ·have:=AT (p:=d.y) (q:=d.x) (X:=z.x) (Y:= -z.y) (h:=h) (k:=k) a (by omega) (by omega) (by omega) b i;rw[Yv]at this;omega
 ·have:=AT (p:= -d.y) (q:=d.x) (X:= -z.x) (Y:= -z.y) (h:=h) (k:=k) a (by omega) (by omega) (by omega) f i;rw[Yv,Yv,Zc,abu]at this;omega
 ·have:=AT (p:=d.y) (q:= -d.x) (X:=z.x) (Y:=z.y) (h:=h) (k:=k) a (by omega) (by omega) (by omega) b g;rw[Zc]at this;omega
 ·have:=AT (p:= -d.y) (q:= -d.x) (X:= -z.x) (Y:=z.y) (h:=h) (k:=k) a (by omega) (by omega) (by omega) f g;rw[Zc,Zc,Yv,abu]at this;omega
theorem y5 (b:0<=h) (c:h<=k) (d:V2):∃v:V2,aa v d=yh k h (ez d.x) (ez d.y)/\ -k<=v.x/\v.x<=k/\ -k<=v.y/\v.y<=k/\v.x+v.y<=k+h/\v.x-v.y<=k+h/\ -v.x+v.y<=k+h/\ -v.x-v.y<=k+h/\((v.x=k\/v.x= -k)/\(v.y=h\/v.y= -h)\/(v.x=h\/v.x= -h)/\(v.y=k\/v.y= -k)):=by
 have a:∀u w:Int,(u=k/\w=h\/u=h/\w=k)->yh k h (ez d.x) (ez d.y)=ez d.y*u+ez d.x*w->∃v:V2,aa v d=yh k h (ez d.x) (ez d.y)/\ -k<=v.x/\v.x<=k/\ -k<=v.y/\v.y<=k/\v.x+v.y<=k+h/\v.x-v.y<=k+h/\ -v.x+v.y<=k+h/\ -v.x-v.y<=k+h/\((v.x=k\/v.x= -k)/\(v.y=h\/v.y= -h)\/(v.x=h\/v.x= -h)/\(v.y=k\/v.y= -k)):=by
  intro u w q e;rw[e];refine⟨⟨if 0<=d.y then u else-u,if 0<=d.x then-w else w⟩,?_,?_⟩;(show(if 0<=d.y then u else-u)*d.y-(if 0<=d.x then-w else w)*d.x=_;unfold ez;split<;>split<;>grind)
  ·simp only;split<;>split<;>omega
 rcases Pm (ez d.y*k+ez d.x*h) (ez d.y*h+ez d.x*k)with q|q;exact a k h (.inl ⟨rfl,rfl⟩) q;exact a h k (.inr ⟨rfl,rfl⟩) q
structure Rq (k h:Int) (a b:V2):Prop where
 no:∀n∈gM k h,¬(n.2<=av n.1 a/\n.2<=av n.1 b)
 cr:ez (aa a (ag b a))<yh k h (ez (ag b a).x) (ez (ag b a).y)
theorem LM (N:0<k) (z:0<=h) (O:h<=k) {a b:V2} (Q:a≠b):Rq k h a b↔jY (gM k h) a b:=by
 have S:=wJ N z;have g:=cC (Zf Q);constructor
 ·rintro⟨A,o⟩;obtain⟨d,p⟩:∃d,d=ag b a:=⟨_,rfl⟩;rw[<-p]at o g;obtain⟨v,e,a4,a5,a6,a7,a8,a9,b0,b1,_⟩:=y5 z O d;generalize yh k h (ez d.x) (ez d.y)=M at*;generalize R:aa a d=c at*;have b2: -M<c/\c<M:=(by unfold ez at o;split at o<;>omega);have B:0<M:=(by omega);have U:xU (gM k h) M (ah c v):=by
   have V:∀{x y:Int},0<y-> -y<=x->x<=y->c*x<M*y:=λ{x y} b3 r u=>by have b4:=XF (show 0<=M-c by omega) (show 0<=y+x by omega);have b5:=XF (show 0<=M+c by omega) (show 0<=y-x by omega);have C:(M-c)*(y+x)=M*y+M*x-c*y-c*x:=(by grind);have D:(M+c)*(y-x)=M*y-M*x+c*y-c*x:=(by grind);have b6:0<(M-c)*(y+x)\/0<(M+c)*(y-x):=(by by_cases q:x=y;left;exact XC (by omega) (by omega);right;exact XC (by omega) (by omega));omega
   intro n f;rw[oj];have X:=S.pos n f;refine V X ?_ ?_<;>(simp only[gM,XD,YD,ZY]at f;rcases f with rfl|rfl|rfl|rfl|rfl|rfl|rfl|rfl<;>simp only[av]<;>omega)
  have E:=bL g;obtain⟨T,Y⟩:∃T,T=av d (ag (ah c v) (ah M a)):=⟨_,rfl⟩;have Z:aa d (ag (ah c v) (ah M a))=0:=(by have:aa d (ag (ah c v) (ah M a))=M*aa a d-c*aa v d:=(by simp only[aa,ag,ah];grind);rw[this,e,R,X9];omega);have a0:ah (av d d) (ah c v)=an (ah (av d d*M) a) (ah T d):=(by rw[Y];simp only[aa,ag,ah]at Z;apply V2.ext<;>simp only[av,an,ag,ah]<;>grind);have i:=S.one U B E;rw[a0]at i;have a1:0<av d d*M:=XC E B;generalize av d d*M=P at*;have F:∀n:V2×Int,av n.1 b=av n.1 a+av n.1 d:=λn=>by rw[p,PT];omega
  by_cases w:0<=T;by_cases G:T<=P;refine⟨P,T,a1,w,G,?_⟩;have:an (ah (P-T) a) (ah T b)=an (ah P a) (ah T d):=(by rw[p];apply V2.ext<;>simp only[an,ah,ag]<;>grind);rw[this];exact i;refine⟨1,1,by decide,by decide,by decide,λn f=>?_⟩;have:an (ah (1-1) a) (ah 1 b)=b:=(by apply V2.ext<;>simp[an,ah]);rw[this,abr];refine Xz λq=>A n f ⟨?_,by omega⟩;have k:=i n f;rw[Bl,oj,oj]at k;have I:=F n;have J:=XH (show n.2<=av n.1 b by omega) (show 0<=P by omega);have id:P*av n.1 a+T*av n.1 d=P*av n.1 b+(T-P)*av n.1 d:=(by rw[I];grind);have a2:(T-P)*av n.1 d<0:=(by omega);have:av n.1 d<0:=(by refine Xz λa3=>?_;have:=XF (show 0<=T-P by omega) (show 0<=av n.1 d by omega);omega);omega;refine⟨1,0,by decide,by decide,by decide,λn f=>?_⟩;have:an (ah (1-0) a) (ah 0 b)=a:=(by apply V2.ext<;>simp[an,ah]);rw[this,abr];refine Xz λq=>A n f ⟨by omega,?_⟩;have k:=i n f;rw[Bl,oj,oj]at k;have I:=F n;have J:=XH (show n.2<=av n.1 a by omega) (show 0<=P by omega);have a2:T*av n.1 d<0:=(by omega);have:0<av n.1 d:=(by refine Xz λa3=>?_;have:=X2 (show T<=0 by omega) (show av n.1 d<=0 by omega);omega);omega
 ·rintro⟨m,t,K,w,G,H⟩;refine⟨λn f ⟨r,u⟩=>?_,?_⟩;have k:=H n f;rw[Bl,oj,oj]at k;have J:=XH r (show 0<=m-t by omega);have b7:=XH u w;have:(m-t)*n.2+t*n.2=m*n.2:=(by grind);omega
  ·have j:=wK K g H;have l:=wK K g (S.ng H);have C:aa (an (ah (m-t) a) (ah t b)) (ag b a)=m*aa a (ag b a):=(by simp only[aa,an,ag,ah];grind);have D:aa (gN (an (ah (m-t) a) (ah t b))) (ag b a)=m* -aa a (ag b a):=(by simp only[aa,an,ag,ah,gN];grind);rw[C]at j;rw[D]at l;have j:=Zs j (by omega);have l:=Zs l (by omega);have:∀x M:Int,x<M-> -x<M->ez x<M:=λx M r u=>by unfold ez;split<;>omega
   exact this _ _ j l
variable {D S T m s:Int}
theorem HP {t:Int} (b:0<m) (s0:0<=s) (z:s<=m) (a:0<=t) (A:t<=m) (j:0<=D) (h:S<0:=by omega):
  ∃l k:Int,0<l/\0<=k/\0<=l*s+k*S/\l*s+k*S<=l*m+k*D/\0<=l*t+k*T/\l*t+k*T<=l*m+k*D/\(l*s+k*S=0\/l*t+k*T=0\/l*t+k*T=l*m+k*D):=by
 have B:=XF s0 j;have C:=XC (show 0< -S by omega) b;have E:=XF (show 0<= -S by omega) a;have p:=XF (show 0<= -S by omega) (show 0<=m-t by omega);rw[Zp]at p;by_cases r:0<= -S*t+s*T
 ·by_cases u: -S*t+s*T<= -S*m+s*D;refine⟨-S,s,by omega,s0,?_,?_,r,u,.inl ?_⟩;have: -S*s+s*S=0:=(by grind);omega;have: -S*s+s*S=0:=(by grind);omega;grind
  ·
   have e:s*(T-D)=s*T-s*D:=Zp _ _ _;have q:0<s*(T-D):=(by omega);have o:0<T-D:=(by refine Xz λc=>?_;have:=XF s0 (show 0<= -(T-D) by omega);rw[Yv]at this;omega);have f:=XF (show 0<=T-D by omega) (show 0<=m-s by omega);have w:=XF (show 0<=m-t by omega) j;have x:(T-D)*s+(m-t)*S=s*(T-D)-(-S*m- -S*t):=(by grind);have g:(T-D)*t+(m-t)*T=(T-D)*m+(m-t)*D:=(by grind);have y:=XC o b;rw[Zp]at f;have i:=XF (show 0<=m-t by omega) (show 0<= -S by omega);rw[Yv]at i;refine⟨T-D,m-t,o,by omega,by omega,?_,by omega,by omega,.inr (.inr g)⟩;omega
 ·have F:T<0:=(by refine Xz λc=>?_;have:=XF s0 (show 0<=T by omega);omega);have f:=XF (show 0<= -T by omega) (show 0<=m-s by omega);rw[Zp]at f;have w:=XF a (show 0<=D by omega);have x: -T*s+t*S= -(-S*t+s*T):=(by grind);have g: -T*t+t*T=0:=(by grind);have y:=XC (show 0< -T by omega) b;have i:=XF a (show 0<= -S by omega);rw[Yv]at i;refine⟨-T,t,by omega,a,by omega,?_,by omega,by omega,.inr (.inl g)⟩;omega
theorem exit {t:Int} (p:0<m) (s0:0<=s) (u:s<=m) (w:0<=t) (x:t<=m) (r:0<=D) (h:¬(0<=S/\S<=D/\0<=T/\T<=D)):
  ∃l k:Int,0<l/\0<=k/\0<=l*s+k*S/\l*s+k*S<=l*m+k*D/\0<=l*t+k*T/\l*t+k*T<=l*m+k*D/\(l*s+k*S=0\/l*s+k*S=l*m+k*D\/l*t+k*T=0\/l*t+k*T=l*m+k*D):=by
 have y:∀l k a A:Int,l*(m-a)+k*(D-A)=l*m+k*D-(l*a+k*A):=λl k a A=>by grind
 rcases(show S<0\/D<S\/T<0\/D<T by omega)with q|q|q|q;obtain⟨l,k,b,c,f,g,i,j,o⟩:=HP (T:=T) p s0 u w x r q;exact⟨l,k,b,c,f,g,i,j,by omega⟩;obtain⟨l,k,b,c,f,g,i,j,o⟩:=HP (s:=m-s) (S:=D-S) (T:=T) p (by omega) (by omega) w x r;rw[y]at f g o;exact⟨l,k,b,c,by omega,by omega,i,j,by omega⟩;obtain⟨l,k,b,c,f,g,i,j,o⟩:=HP (s:=t) (t:=s) (S:=T) (T:=S) p w x s0 u r q;exact⟨l,k,b,c,i,j,f,g,by omega⟩;obtain⟨l,k,b,c,f,g,i,j,o⟩:=HP (s:=m-t) (t:=s) (S:=D-T) (T:=S) p (by omega) (by omega) s0 u r;rw[y]at f g o;exact⟨l,k,b,c,i,j,by omega,by omega,by omega⟩
def jb (a b c d:V2) (m s t:Int):V2:=ag (an (ah (m-t) c) (ah t d)) (an (ah (m-s) a) (ah s b))
variable {a c x z:V2}
theorem Pt {b d:V2} {K L t p q:Int} (h:an (ah (K-p) x) (ah p z)=an (ah (K*m-s) a) (ah s b)) (k:an (ah (L-q) x) (ah q z)=an (ah (L*m-t) c) (ah t d)):
  jb a b c d (K*L*m) (L*s) (K*t)=ah (K*q-L*p) (ag z x):=by
 have one:∀{a b c d x z:Int},(K-p)*x+p*z=(K*m-s)*a+s*b->(L-q)*x+q*z=(L*m-t)*c+t*d->(K*L*m-K*t)*c+K*t*d-((K*L*m-L*s)*a+L*s*b)=(K*q-L*p)*(z-x):=λ{a b c d x z} h k=>by have e:(K*L*m-K*t)*c+K*t*d-((K*L*m-L*s)*a+L*s*b)=K*((L*m-t)*c+t*d)-L*((K*m-s)*a+s*b):=(by grind);rw[e,<-h,<-k];grind
 exact V2.ext (one (XT V2.x h) (XT V2.x k)) (one (XT V2.y h) (XT V2.y k))
theorem LN {N:List (V2×Int)} (Y:tu N) {b d:V2} {t:Int} (x:0<m) (s0:0<=s) (F:s<=m) (G:0<=t) (H:t<=m) (h:xU N m (jb a b c d m s t))
  (P:a≠b) (I:c≠d) (y:∀M s t:Int,0<M->0<=s->s<=M->0<=t->t<=M->jb a b c d M s t≠⟨0,0⟩):
  jY N (ag c a) (ag d a)\/jY N (ag c b) (ag d b)\/jY N (ag a c) (ag b c)\/jY N (ag a d) (ag b d):=by
 obtain⟨D,S,T,A,e,J⟩:∃D S T:Int,0<=D/\jb a b c d D S T=⟨0,0⟩/\¬(0<=S/\S<=D/\0<=T/\T<=D):=by
  by_cases q:aa (ag b a) (ag d c)=0;(have Q:=bL (cC (Zf I));refine⟨0,av (ag d c) (ag d c),av (ag b a) (ag d c),Yf _,?_,by omega⟩;simp only[aa,ag]at q;apply V2.ext<;>simp only[jb,ag,an,ah,av]<;>grind)
  ·have z:∀r:Int,r*r=1->jb a b c d (r*aa (ag b a) (ag d c)) (r*aa (ag c a) (ag d c)) (r*aa (ag c a) (ag b a))=⟨0,0⟩:=λr _=>by apply V2.ext<;>simp only[jb,ag,an,ah,aa]<;>grind
   rcases Yh q with k|k;refine⟨-1*aa (ag b a) (ag d c),_,_,by omega,z (-1) rfl,λ⟨i,u,j,p⟩=>y _ _ _ (by omega) i u j p (z (-1) rfl)⟩;refine⟨1*aa (ag b a) (ag d c),_,_,by omega,z 1 rfl,λ⟨i,u,j,p⟩=>y _ _ _ (by omega) i u j p (z 1 rfl)⟩
 obtain⟨l,k,i,u,j,p,B,C,K⟩:=exit x s0 F G H A J;have R:=XC i x;have O:=XF u A;have v:jb a b c d (l*m+k*D) (l*s+k*S) (l*t+k*T)=ah l (jb a b c d m s t):=by have:jb a b c d (l*m+k*D) (l*s+k*S) (l*t+k*T)=an (ah l (jb a b c d m s t)) (ah k (jb a b c d D S T)):=(by apply V2.ext<;>simp only[jb,ag,an,ah]<;>grind);rw[this,e];apply V2.ext<;>simp[an,ah]
 have o:xU N (l*m+k*D) (jb a b c d (l*m+k*D) (l*s+k*S) (l*t+k*T)):=by rw[v];intro n E;have q:=Y.one h x i n E;have:=XF O (XN (Y.pos n E));rw[abx];omega
 have w:0<l*m+k*D:=by omega
 generalize l*m+k*D=M at*;generalize l*s+k*S=f at*;generalize l*t+k*T=g at*;rcases K with q|q|q|q;left;refine⟨M,g,w,B,C,?_⟩;have:an (ah (M-g) (ag c a)) (ah g (ag d a))=jb a b c d M f g:=(by rw[q];apply V2.ext<;>simp only[jb,ag,an,ah]<;>grind);rw[this];exact o;right;left;refine⟨M,g,w,B,C,?_⟩;have:an (ah (M-g) (ag c b)) (ah g (ag d b))=jb a b c d M f g:=(by rw[q];apply V2.ext<;>simp only[jb,ag,an,ah]<;>grind);rw[this];exact o;right;right;left;refine⟨M,f,w,j,p,?_⟩;have:an (ah (M-f) (ag a c)) (ah f (ag b c))=gN (jb a b c d M f g):=(by rw[q];apply V2.ext<;>simp only[jb,ag,an,ah,gN]<;>grind);rw[this];exact Y.ng o;right;right;right;refine⟨M,f,w,j,p,?_⟩;have:an (ah (M-f) (ag a d)) (ah f (ag b d))=gN (jb a b c d M f g):=(by rw[q];apply V2.ext<;>simp only[jb,ag,an,ah,gN]<;>grind);rw[this];exact Y.ng o
theorem GS {b:V2} {t:Int} (h:0<m) (i:0<=t) (j:t<=m) (c:a≠b):aU (ah m a) (ah m b) (an (ah (m-t) a) (ah t b)):=by
 by_cases f:t=0;have:an (ah (m-t) a) (ah t b)=ah m a:=(by rw[f];apply V2.ext<;>simp[an,ah]);rw[this];exact bK _ _
 ·by_cases g:t=m;have:an (ah (m-t) a) (ah t b)=ah m b:=(by rw[g];apply V2.ext<;>simp[an,ah]);rw[this];exact bp _ _
  ·have:=(kI (a:=a) (b:=b) (x:=m-t) (y:=t) (u:=an (ah (m-t) a) (ah t b)) (by omega) (by omega) c rfl rfl).1
   rwa [show m-t+t=m by omega]at this
variable {u:V2}
theorem QE {b:V2} (y:0<m) (k:a≠b) (h:aU (ah m a) (ah m b) u):∃K s:Int,0<K/\0<=s/\s<=K*m/\ah K u=an (ah (K*m-s) a) (ah s b):=by
 have l:=bL (cC (Zf k));obtain⟨z,f,g,i,j⟩:=h;simp only[ah]at f g i j;have z:aa (ag b a) (ag u (ah m a))=0:=by have e:aj (ah m a) (ah m b) u=m*aa (ag b a) (ag u (ah m a)):=(by simp only[aj,aa,ag,ah];grind);rw[e]at z;rcases YY.1 z with q|q;omega;exact q
 refine⟨av (ag b a) (ag b a),av (ag b a) (ag u (ah m a)),l,?_,?_,?_⟩
 ·have p:∀{p q r:Int},(m*p<=r\/m*q<=r)->(r<=m*p\/r<=m*q)->0<=(q-p)*(r-m*p):=λ{p q r} o t=>by rcases YK p q with c|c;have:=XH c (show 0<=m by omega);exact XF (by omega) (by omega);have:=XH c (show 0<=m by omega);exact X2 (by omega) (by omega)
  exact Int.add_nonneg (p f g) (p i j)
 ·have p:∀{p q r:Int},(m*p<=r\/m*q<=r)->(r<=m*p\/r<=m*q)->(q-p)*(r-m*p)<=(q-p)*(m*q-m*p):=λ{p q r} o t=>by have e:(q-p)*(m*q-m*p)-(q-p)*(r-m*p)=(q-p)*(m*q-r):=(by grind);have:0<=(q-p)*(m*q-r):=(by rcases YK p q with c|c;have:=XH c (show 0<=m by omega);exact XF (by omega) (by omega);have:=XH c (show 0<=m by omega);exact X2 (by omega) (by omega));omega
  have w:=p f g;have x:=p i j;have e:av (ag b a) (ag b a)*m=(b.x-a.x)*(m*b.x-m*a.x)+(b.y-a.y)*(m*b.y-m*a.y):=(by simp only[av,ag];grind);rw[e];exact Int.add_le_add w x
 ·simp only[aa,ag,ah]at z;apply V2.ext<;>simp only[ah,an,av,ag]<;>grind
theorem Hk {b p q:V2} (h:¬NM a b p q):∃(m:Int) (u:V2),0<m/\aU (ah m a) (ah m b) u/\aU (ah m p) (ah m q) u:=by
 by_cases f:aU p q a;exact⟨1,a,by decide,by rw[aZ,aZ];exact bK _ _,by rw[aZ,aZ];exact f⟩;by_cases g:aU p q b;exact⟨1,b,by decide,by rw[aZ,aZ];exact bp _ _,by rw[aZ,aZ];exact g⟩;by_cases i:aU a b p;exact⟨1,p,by decide,by rw[aZ,aZ];exact i,by rw[aZ,aZ];exact bK _ _⟩;by_cases j:aU a b q;exact⟨1,q,by decide,by rw[aZ,aZ];exact j,by rw[aZ,aZ];exact bp _ _⟩;have l:kU (a,b) (p,q):=Xz λc=>h ⟨f,g,i,j,λk=>c ⟨k.1,k.2⟩⟩;obtain⟨m,u,o,r,t⟩:=pk l;exact⟨m,u,o,r.1,t.1⟩
variable {e:V2×V2}
section
variable {X Y:Ed} {N:List (V2×Int)}
theorem xb (s:ix X) (r:lX X 0) (a:0<m) (h:e∈X) (i:aU (ah m e.1) (ah m e.2) u):∃d:V2,Ev λn=>W (bw (n*m) X) (nr n u d)=1:=by
 obtain⟨f,g,j⟩:=y4 (s.sc a) ⟨(ah m e.1,ah m e.2),aK.2 ⟨e,h,rfl⟩,i⟩;obtain⟨c,b,l,p⟩:=(s.sc a).gb j;obtain⟨d,o⟩:=KQ b l;refine⟨d,(c.inside (r.sc a) b o).imp λn k=>?_⟩;rw[ek]at k;omega
theorem qp (S:tu N) (j:ix X) (k:ix Y) (l:lX X 0) (o:lX Y 0) (a:0<m) {f:V2×V2} (p:e∈X) (q:f∈Y) {w:V2} (r:aU (ah m e.1) (ah m e.2) u) (hw:aU (ah m f.1) (ah m f.2) w) (h:xU N m (ag w u)):
  ∃(m:Int) (x z:V2),0<m/\W (bw m X) x=1/\W (bw m Y) z=1/\xU N m (ag z x):=by
 obtain⟨b,t⟩:=xb j l a p r;obtain⟨g,y⟩:=xb k o a q hw;have A:Ev λn=>∀c∈N,(n:Int)*av c.1 (ag w u)+av c.1 (ag g b)<n*(m*c.2):=Ev.all N λc i=>rG _ (h c i);obtain⟨n,E,B,C,D⟩:=((t.and (y.and A))).ex 1;refine⟨n*m,_,_,XC (by omega) a,B,C,λc i=>?_⟩;have:=D c i;have e:av c.1 (ag (nr n w g) (nr n u b))=n*av c.1 (ag w u)+av c.1 (ag g b):=by simp only[av,ag,nr];grind
 rw[e,YZ];exact this
theorem HR (c:mT X) (p:0<m) (h:W (bw m X) x≠W (bw m X) z) (nz:∀e∈X,e.1≠e.2):∃e∈X,∃K t s:Int,0<K/\0<=t/\t<=K/\0<=s/\s<=K*m/\an (ah (K-t) x) (ah t z)=an (ah (K*m-s) e.1) (ah s e.2):=by
 have r:x≠z:=λk=>h (by rw[k]);obtain⟨e,g,k⟩:∃e∈bw m X,¬NM e.1 e.2 x z:=Xz λq=>h (hA (c.sc m) λe g=>Xz λk=>q ⟨e,g,k⟩);obtain⟨f,j,rfl⟩:=aK.1 g;obtain⟨M,u,i,o,w⟩:=Hk k;rw[eu,eu]at o;obtain⟨a,s,y,A,B,C⟩:=QE (XC i p) (nz f j) o;obtain⟨b,t,D,E,F,G⟩:=QE i r w;refine⟨f,j,a*b*M,a*t,b*s,XC (XC y D) i,XF (by omega) E,?_,XF (by omega) A,?_,?_⟩;rw[YZ];exact XH F (by omega);rw[show a*b*M*m=b*(a*(M*m)) by grind];exact XH B (by omega);(have l:ah a (ah b u)=ah b (ah a u):=(by rw[eu,eu,X9]);rw[G,C]at l;have H:=XT V2.x l;have I:=XT V2.y l;simp only[ah,an]at H I;apply V2.ext<;>simp only[an,ah]<;>grind)
theorem LL (S:tu N) (j:ix X) (l:ix Y) (y:lX X 0) (A:lX Y 0):
  (∃(m:Int) (x z:V2),0<m/\W (bw m X) x=1/\W (bw m Y) z=1/\xU N m (ag z x))↔
   Comm X 0 Y 0\/(∃e∈X,∃f∈Y,¬NM e.1 e.2 f.1 f.2)\/(∃e∈X,∃f∈Y,jY N (ag f.1 e.1) (ag f.2 e.1))\/(∃f∈Y,∃e∈X,jY N (ag e.1 f.1) (ag e.2 f.1)):=by
 have nx:∀e∈X,e.1≠e.2:=j.nz;have w:∀e∈Y,e.1≠e.2:=l.nz;constructor;rintro⟨m,x,z,a,B,C,K⟩;by_cases D:Comm X 0 Y 0;exact .inl D;right;have b7:W (bw m X) z≠1:=λk=>D ⟨m,z,a,by omega,by omega⟩;have b8:W (bw m Y) x≠1:=λk=>D ⟨m,x,a,by omega,by omega⟩;obtain⟨e,b,g,p,E,O,P,Q,R,T,U⟩:=HR j.cP a (x:=x) (z:=z) (by omega) nx;obtain⟨f,c,i,b9,V,Z,a0,a1,a2,a3,a4⟩:=HR l.cP a (x:=x) (z:=z) (by omega) w;by_cases F:NM e.1 e.2 f.1 f.2;right;have G:=XC O Z;have q:=XC G a;have a5:=Pt U a4;have c0:=XF (show 0<=g by omega) a0;have c1:=XF (show 0<=i by omega) P;have c2:=XH a1 (show 0<=g by omega);have a6:=XH Q (show 0<=i by omega);rw[X9 i g]at a6;have o:xU N (g*i*m) (jb e.1 e.2 f.1 f.2 (g*i*m) (i*E) (g*V)):=(by rw[a5];exact S.mul K a (by omega) (by omega) G);have H:=XH T (show 0<=i by omega);have I:=XH a3 (show 0<=g by omega);rw[show i*(g*m)=g*i*m by grind]at H;rw[show g*(i*m)=g*i*m by grind]at I;have:=LN S q (XF (by omega) R) H (XF (by omega) a2) I o (nx e b) (w f c) (λM s t q s0 E r p k=>by have a7:an (ah (M-t) f.1) (ah t f.2)=an (ah (M-s) e.1) (ah s e.2):=(by have a8:=XT V2.x k;have a9:=XT V2.y k;simp only[jb,ag]at a8 a9;exact V2.ext (by omega) (by omega));have b0:=GS q s0 E (nx e b);have J:=GS q r p (w f c);rw[a7]at J;exact(pS q F).Bn J b0);obtain⟨b1,b2,b3⟩:=j.rn e b;obtain⟨b4,b5,b6⟩:=l.rn f c;rcases this with k|k|k|k;exact .inl ⟨e,b,f,c,k⟩;rw[<-b3]at k;exact .inl ⟨b1,b2,f,c,k⟩;exact .inr ⟨f,c,e,b,k⟩;rw[<-b6]at k;exact .inr ⟨b4,b5,e,b,k⟩;exact .inl ⟨e,b,f,c,F⟩;rintro(h|⟨e,b,f,c,h⟩|⟨e,b,f,c,m,t,a,r,p,h⟩|⟨f,c,e,b,m,t,a,r,p,h⟩);obtain⟨m,z,a,B,C⟩:=h;refine⟨m,z,z,a,by omega,by omega,?_⟩;have:ag z z=⟨0,0⟩:=(by simp[ag]);rw[this];exact S.zero a;obtain⟨m,u,a,B,C⟩:=Hk h;refine qp S j l y A a b c B C ?_;have:ag u u=⟨0,0⟩:=(by simp[ag]);rw[this];exact S.zero a;refine qp S j l y A a b c (bK _ _) (GS a r p (w f c)) ?_;have:ag (an (ah (m-t) f.1) (ah t f.2)) (ah m e.1)=an (ah (m-t) (ag f.1 e.1)) (ah t (ag f.2 e.1)):=(by apply V2.ext<;>simp only[ag,an,ah]<;>grind);rw[this];exact h;refine qp S j l y A a b c (GS a r p (nx e b)) (bK _ _) ?_;have:ag (ah m f.1) (an (ah (m-t) e.1) (ah t e.2))=gN (an (ah (m-t) (ag e.1 f.1)) (ah t (ag e.2 f.1))):=(by apply V2.ext<;>simp only[ag,an,ah,gN]<;>grind);rw[this];exact S.ng h
end
variable {m:Int} {z:V2}
theorem px.sc {r:LV} {K:Int} (hK:0<K) (h:px m r z):px (K*m) r (ah K z):=λe a=>by
 have:=h e a;rw[<-eu,<-eu,vM];exact XC (XC hK hK) this
variable {x:V2}
theorem CH {r:LV} (C:gg r) (b:0<m) (h:W (bw m (bJ r)) x≠0):Ev λn=>px (n*n*m) r (nr (n*n) x ⟨n,1⟩):=by
 have c:∀e∈bw m (bJ r),e.1≠e.2:=λe a k=>by obtain⟨y,f,rfl⟩:=aK.1 a;exact C.nz y f (gC b k)
 refine(((Ev.all (bw m (bJ r)) (λe _=>PN e.1 e.2 x)).and (Ev.all (bw m (bJ r)) (λe a=>Ds x (c e a)))).and (Ev.ge 1)).imp λn g=>?_;obtain⟨⟨i,j⟩,p⟩:=g;have l:0<(n:Int)*n:=XC (by omega) (by omega);have o:W (bw (n*n*m) (bJ r)) (nr (n*n) x ⟨n,1⟩)=W (bw m (bJ r)) x:=by rw[<-EN,fY,fY,bw,kY];exact gA (λe a=>(i e a).1)
 rcases C.NP (XC l b) (z:=nr (n*n) x ⟨n,1⟩) (λe a=>by have:=j (ah m e.1,ah m e.2) (aK.2 ⟨e,a,rfl⟩);rw[eu,eu]at this;exact this)with q|q;exact q.1;rw[o]at q;exact absurd q h
theorem Lu {X Y:Ed} (u:lX X 0) (w:lX Y 0) {L M:List (LV)} (c:∀r∈L,gg r) (l:∀r∈M,gg r)
  (sL:∀(m:Int) (z:V2),0<m->W (bw m X) z=WL m L z) (o:∀(m:Int) (z:V2),0<m->W (bw m Y) z=WL m M z) {N:List (V2×Int)} (S:tu N):
  (∃(m:Int) (x z:V2),0<m/\W (bw m X) x=1/\W (bw m Y) z=1/\xU N m (ag z x))↔∃r∈L,∃s∈M,∃(m:Int) (x z:V2),0<m/\px m r x/\px m s z/\xU N m (ag z x):=by
 constructor;rintro⟨m,x,z,a,i,j,k⟩;obtain⟨r,b,y⟩:=NS (m:=m) (L:=L) (z:=x) (by rw[<-sL m x a,i];decide);obtain⟨s,f,A⟩:=NS (m:=m) (L:=M) (z:=z) (by rw[<-o m z a,j];decide);obtain⟨n,D,B,C⟩:=((CH (c r b) a y).and (CH (l s f) a A)).ex 1;have p:0<(n:Int)*n:=XC (by omega) (by omega);refine⟨r,b,s,f,n*n*m,_,_,XC p a,B,C,?_⟩;have e:ag (nr (n*n) z ⟨n,1⟩) (nr (n*n) x ⟨n,1⟩)=ah (n*n) (ag z x):=(by apply V2.ext<;>simp only[ag,nr,ah]<;>grind);rw[e];exact S.one k a p
 ·rintro⟨r,b,s,f,m,x,z,a,i,j,k⟩;have one:∀{E:Ed} (t:lX E 0) {L:List (LV)} (c:∀r∈L,gg r) (sL:∀(m:Int) (z:V2),0<m->W (bw m E) z=WL m L z) {r:LV} (b:r∈L) {z:V2},px m r z->W (bw m E) z=1:=λ{E} t {L} c sL {r} b {z} h=>by have g:=NR c a b h;rw[<-sL m z a]at g;rcases t m z a with q|q<;>omega
  exact⟨m,x,z,a,one u c sL b i,one w l o f j,k⟩
theorem ry {r:LV} (C:gg r):Od r r:=by
 refine⟨C,λv h=>h,λe a v b=>?_⟩;rw[gw]at a;obtain⟨i,c,rfl⟩:=kr.1 a;obtain⟨k,_,rfl⟩:=SD b;exact u2 C i k
theorem Ow {a b:LV} {y:V2} (h:NU m a x) (k:NU m b y):NU m (sq a b) (an x y):=λd c=>by
 obtain⟨v,f,i⟩:=h d c;obtain⟨u,g,j⟩:=k d c;refine⟨an v u,oT.2 ⟨v,f,u,g,rfl⟩,?_⟩;have l:m*aa d (an v u)=m*aa d v+m*aa d u:=by simp only[aa,an];grind
 have o:aa d (an x y)=aa d x+aa d y:=by simp only[aa,an];grind
 omega
structure QB (k h:Int) (l:LV):Prop where
 all:∀v:V2,((v.x=k\/v.x= -k)/\(v.y=h\/v.y= -h)\/(v.x=h\/v.x= -h)/\(v.y=k\/v.y= -k))->v∈l
 only:∀v∈l,(v.x=k\/v.x= -k)/\(v.y=h\/v.y= -h)\/(v.x=h\/v.x= -h)/\(v.y=k\/v.y= -k)
theorem QB.sup {k h:Int} {l:LV} (O:QB k h l) (b:0<=h) (f:h<=k) (g:0<m):NU m l z↔xU (gM k h) m z:=by
 constructor
 ·intro S n a;have i:(⟨-n.1.y,n.1.x⟩:V2)≠⟨0,0⟩:=(by simp only[gM,XD,YD,ZY]at a;intro e;have j:=XT V2.x e;have p:=XT V2.y e;rcases a with rfl|rfl|rfl|rfl|rfl|rfl|rfl|rfl<;>simp only at j p<;>omega);obtain⟨v,r,q⟩:=S _ i;have e:∀u:V2,aa ⟨-n.1.y,n.1.x⟩ u= -av n.1 u:=λu=>by simp only[aa,av];grind
  rw[e,e,Yv]at q;have le:av n.1 v<=n.2:=(by have o:=O.only v r;simp only[gM,XD,YD,ZY]at a;rcases a with rfl|rfl|rfl|rfl|rfl|rfl|rfl|rfl<;>simp only[av]<;>omega);have:=XH le (show 0<=m by omega);omega
 ·intro H d t;obtain⟨v,e,_,_,_,_,_,_,_,_,q⟩:=y5 b f d;refine⟨v,O.all v q,?_⟩;have c:=wK g t H;rw[<-e]at c;have w:=eR d v;have x:=eR d z;rw[w,x,Yv];omega
def vl (h:V2×Int) (p:Int×V2):Int:=aa h.1 p.2-p.1*h.2
def cb (a:Int) (p:Int×V2) (b:Int) (q:Int×V2):Int×V2:=(a*p.1+b*q.1,an (ah a p.2) (ah b q.2))
theorem nk (h:V2×Int) (a:Int) (p:Int×V2) (b:Int) (q:Int×V2):vl h (cb a p b q)=a*vl h p+b*vl h q:=by simp only[vl,cb,aa,an,ah];grind
def JU (L:List (V2×Int)) (p:Int×V2):Prop:=0<p.1/\∀h∈L,0<vl h p
variable {a x:Int}
theorem tk {b y:Int} (c:0<a) (f:0<=b) (g:0<x) (h:0<y):0<a*x+b*y:=by
 have:=XC c g;have:=XF f (XN h);omega
def A0 (k:V2×Int) (p u:Int×V2):Int×V2:=cb (vl k u) p (-vl k p) u
variable {k:V2×Int}
theorem AZ {p u:Int×V2} (h:vl k p<=0) (c:0<vl k u) (p0:0<p.1) (g:0<u.1):0<(A0 k p u).1/\vl k (A0 k p u)=0/\(∀f,0<vl f p->0<vl f u->0<vl f (A0 k p u))/\∀f,vl f p=0->vl f u=0->vl f (A0 k p u)=0:=by
 unfold A0;refine⟨tk c (by omega) p0 g,by rw[nk];grind,λf a b=>?_,λf a b=>?_⟩;rw[nk];exact tk c (by omega) a b;rw[nk,a,b];simp
theorem FL {a b u:V2} (c:aa a b≠0) (g:aa a u=0) (h2:aa b u=0):u=⟨0,0⟩:=by
 have ex:aa a b*u.x=b.x*aa a u-a.x*aa b u:=by simp only[aa];grind
 have f:aa a b*u.y=b.y*aa a u-a.y*aa b u:=by simp only[aa];grind
 rw[g,h2,X8,X8]at ex f;exact V2.ext ((YY.1 ex).resolve_left c) ((YY.1 f).resolve_left c)
theorem Pu {f:V2×Int} (a:aa k.1 f.1≠0) {c d:Int×V2} (b:vl k c=0) (h2:vl f c=0) (h:vl k d=0) (i:vl f d=0) (g:V2×Int):c.1*vl g d=d.1*vl g c:=by
 have e:∀g:V2×Int,aa g.1 (ag (ah c.1 d.2) (ah d.1 c.2))=c.1*vl g d-d.1*vl g c:=λg=>by simp only[vl,aa,ag,ah];grind
 have z:=FL a (by rw[e k,b,h];simp) (by rw[e f,h2,i];simp);have q:=e g;rw[z]at q;have:aa g.1 ⟨0,0⟩=0:=by simp[aa]
 omega
theorem SG {f:V2×Int} (h:k.1≠⟨0,0⟩) {x y:Int×V2} (r:0<x.1) (i:0<y.1) (j:vl k x=0) (l:vl k y=0) (m:0<vl f x) (t:vl f y<=0):aa k.1 f.1≠0:=λq=>by
 have e:∀g:V2×Int,aa g.1 (ag (ah y.1 x.2) (ah x.1 y.2))=y.1*vl g x-x.1*vl g y:=λg=>by simp only[vl,aa,ag,ah];grind
 have a:=e k;have o:=e f;generalize ag (ah y.1 x.2) (ah x.1 y.2)=w at a o;rw[j,l,X8,X8,Int.sub_self]at a;have p:0<aa f.1 w:=by have:=XC i m;have:=XF (show 0<=x.1 by omega) (show 0<= -vl f y by omega);rw[Yv]at this;omega
 have b:aa f.1 w*k.1.x=f.1.x*aa k.1 w-w.x*aa k.1 f.1:=by simp only[aa];grind
 have c:aa f.1 w*k.1.y=f.1.y*aa k.1 w-w.y*aa k.1 f.1:=by simp only[aa];grind
 rw[a,q,X8,X8,Int.sub_self]at b c;exact h (V2.ext ((YY.1 b).resolve_left (by omega)) ((YY.1 c).resolve_left (by omega)))
theorem E7 (b:0<a) (h:0<a*x):0<x:=Zs (by rw[X8];exact h) (XN b)
theorem Db {k:V2×Int} (p:k.1≠⟨0,0⟩) {b:Int×V2} (p0:0<b.1) (q:vl k b=0):∀F:List (V2×Int),(∀f∈F,∀g∈F,∃x:Int×V2,0<x.1/\vl k x=0/\0<vl f x/\0<vl g x)->∃x:Int×V2,0<x.1/\vl k x=0/\∀f∈F,0<vl f x
 |[],_=>⟨b,p0,q,λ_ h=>absurd h YD⟩
 |f::G,H=>by
  obtain⟨y,j,i,r⟩:=Db p p0 q G λf B g a=>H f (XK _ B) g (XK _ a);by_cases c:0<vl f y;exact⟨y,j,i,λg a=>(XD.1 a).elim (λe=>e▸c) (r g)⟩;have m:vl f y<=0:=(by omega);obtain⟨x,o,l,t,_⟩:=H f XW f XW;have C:=SG p o j l i t m;obtain⟨w,z,_,A⟩:=AZ m t j o;have D:∀g∈G,0<vl g (A0 f y x):=λg a=>by obtain⟨u,E,I,J,K⟩:=H f XW g (XK _ a);obtain⟨M,N,O,P⟩:=AZ m J j E;refine E7 M ?_;rw[<-Pu C (A k i l) z (P k i I) N g];exact XC w (O g (r g a) K)
  obtain⟨n,R,Q⟩:=(Ev.all G λg a=>dK (vl g x) (D g a)).ex 1;refine⟨cb n (A0 f y x) 1 x,tk (by omega) (by decide) w o,by rw[nk,A k i l,l];simp,λg a=>?_⟩;rw[nk];rcases XD.1 a with rfl|a;rw[z];omega;have:=Q g a;omega
theorem Fz {L:List (V2×Int)} (I:∃a,JU L a):∀{M:List (V2×Int)},(∃b,JU M b)->(∀h∈L,∃b,JU M b/\0<vl h b)->(∀k∈M,∃a,JU L a/\0<vl k a)->∃p,JU L p/\JU M p
 |[],_,_,_=>by obtain⟨a,J⟩:=I;exact⟨a,J,J.1,λ_ h=>absurd h YD⟩
 |k::M,⟨b,o⟩,A,K=>by
  have l:∀{b},JU (k::M) b->JU M b:=λh=>⟨h.1,λg i=>h.2 g (XK _ i)⟩;have B:∀{b},JU (k::M) b->0<vl k b:=λh=>h.2 k XW;obtain⟨p,pL,r⟩:=Fz (M:=M) I ⟨b,l o⟩ (λh C=>by obtain⟨b,x,y⟩:=A h C;exact⟨b,l x,y⟩) (λk D=>K k (XK _ D));by_cases c:0<vl k p;exact⟨p,pL,pL.1,λg i=>(XD.1 i).elim (λe=>e▸c) (r.2 g)⟩;have kp:vl k p<=0:=(by omega);obtain⟨q,m,t⟩:=K k XW;have D:k.1≠⟨0,0⟩:=λe=>by
   have P:∀p:Int×V2,vl k p=p.1* -k.2:=λp=>by simp[vl,e,aa,Yv]
   rw[P]at kp t;have:=XC pL.1 (E7 m.1 t);omega
  have w:∀{u:Int×V2} {f g:V2×Int},0<u.1->0<vl k u->0<vl f p->0<vl f u->0<vl g p->0<vl g u->∃x:Int×V2,0<x.1/\vl k x=0/\0<vl f x/\0<vl g x:=λQ R S E T F=>by obtain⟨G,H,N,_⟩:=AZ kp R pL.1 Q;exact⟨_,G,H,N _ S E,N _ T F⟩
  obtain⟨G,H,_⟩:=AZ kp t pL.1 m.1;obtain⟨y,U,V,X⟩:=Db D G H (L++M) λf Y g i=>by
   rcases XP.1 Y with f1|f1<;>rcases XP.1 i with g1|g1
   ·exact w m.1 t (pL.2 f f1) (m.2 f f1) (pL.2 g g1) (m.2 g g1)
   ·obtain⟨u,j,E⟩:=A f f1;exact w j.1 (B j) (pL.2 f f1) E (r.2 g g1) ((l j).2 g g1)
   ·obtain⟨u,j,F⟩:=A g g1;exact w j.1 (B j) (r.2 f f1) ((l j).2 f f1) (pL.2 g g1) F
   ·exact w o.1 (B o) (r.2 f f1) ((l o).2 f f1) (r.2 g g1) ((l o).2 g g1)
  obtain⟨n,a0,Z⟩:=(Ev.all (L++M) λg i=>dK (vl g q) (X g i)).ex 1;have O:0<(cb n y 1 q).1:=tk (by omega) (by decide) U m.1;have z:∀g∈L++M,0<vl g (cb n y 1 q):=λg i=>by have:=Z g i;rw[nk];omega
  refine⟨_,⟨O,λh C=>z h (X7 _ C)⟩,O,λg i=>?_⟩;rcases XD.1 i with rfl|i;rw[nk,V];omega;exact z g (X1 _ i)
def Dk (e:V2×V2):V2×Int:=(ag e.2 e.1,aa (ag e.2 e.1) e.1)
theorem Bb (e:V2×V2) (v:V2):vl (Dk e) (1,v)=aj e.1 e.2 v:=by simp only[vl,Dk,aj,aa,ag];grind
theorem Ba {r:LV} {m:Int} (a:0<m) {z:V2}:px m r z↔JU ((bJ r).map Dk) (m,z):=by
 have e:∀e:V2×V2,aj (ah m e.1) (ah m e.2) z=m*vl (Dk e) (m,z):=λe=>by rw[QK];rfl
 constructor;exact λh=>⟨a,λg c=>by obtain⟨f,b,rfl⟩:=XS.1 c;have:=h f b;rw[e]at this;exact E7 a this⟩;(exact λh f b=>by rw[e];exact XC a (h.2 _ (aay b)))
theorem xD {r:LV} (C:gg r):JU ((bJ r).map Dk) (3,JZ r):=⟨(by decide:(0:Int)<3),λg b=>by
 obtain⟨f,a,rfl⟩:=XS.1 b;rw[gw]at a;obtain⟨t,c,rfl⟩:=kr.1 a;have:=Tg C c;have e:vl (Dk (rQ r t,rQ r (t+1))) (3,JZ r)=aa (bZ (rQ r) t) (ag (JZ r) (ah 3 (rQ r t))):=by show aa (bZ (rQ r) t) (JZ r)-3*aa (bZ (rQ r) t) (rQ r t)=_;simp only[aa,ag,ah];grind
 rw[e];exact this⟩
theorem KZ {r:LV} (C:gg r) {v:V2} (f:v∈r) {g:V2×Int} (i:0<vl g (1,v)):∃b,JU ((bJ r).map Dk) b/\0<vl g b:=by
 have c:=xD C;obtain⟨n,l,m⟩:=(dK (vl g (3,JZ r)) i).ex 1;refine⟨cb n (1,v) 1 (3,JZ r),⟨tk (by omega) (by decide) Int.one_pos c.1,λh a=>?_⟩,by rw[nk];omega⟩;have k:=c.2 h a;obtain⟨e,j,rfl⟩:=XS.1 a;rw[nk,Bb];have:=XF (show(0:Int)<=n by omega) ((ry C).left e j v f);omega
variable {s w:LV}
theorem WD (a:gg w) (g:gg s):(∃(m:Int) (z:V2),0<m/\px m w z/\px m s z)↔¬JS w s/\¬JS s w:=by
 constructor
 ·rintro⟨m,z,r,c,f⟩;have t:∀{w s:LV},gg w->gg s->px m w z->px m s z->¬JS w s:=λ{w s} a C c f ⟨e,j,k⟩=>by have:=(C.sup r f).left r (Zf (a.nz e j)) (λv x=>by have:=k v x;have:=aV e.1 e.2 v;omega);have i:=c e j;have:=aV (ah m e.1) (ah m e.2) z;omega
  exact⟨t a g c f,t g a f c⟩
 ·rintro⟨c,f⟩;have u:∀{w s:LV},gg s->¬JS w s->∀h∈(bJ w).map Dk,∃b,JU ((bJ s).map Dk) b/\0<vl h b:=λ{w s} C n h y=>by obtain⟨e,j,rfl⟩:=XS.1 y;obtain⟨p,o,k⟩:∃p∈s,0<aj e.1 e.2 p:=Xz λq=>n ⟨e,j,λp o=>by have:¬0<aj e.1 e.2 p:=λk=>q ⟨p,o,k⟩;omega⟩;exact KZ C o (by rw[Bb];exact k)
  obtain⟨p,l,A⟩:=Fz ⟨_,xD a⟩ ⟨_,xD g⟩ (u g c) (u a f);exact⟨p.1,p.2,l.1,(Ba l.1).2 l,(Ba l.1).2 A⟩
def QY (m:Int) (z:V2) (f:V2×V2):V2×Int:=(ah (-m) (ag f.2 f.1),m*aa (ag f.2 f.1) f.1-aa (ag f.2 f.1) z)
theorem Uz (m:Int) (z:V2) (f:V2×V2) (n:Int) (x:V2):vl (QY m z f) (n,x)=vl (Dk f) (n*m,ag (ah n z) (ah m x)):=by simp only[vl,QY,Dk,aa,ag,ah];grind
theorem QX (m:Int) (z:V2) (f:V2×V2) (n:Int) (u:V2):vl (QY m z f) (n*m,ag (ah n z) (ah m u))=m*m*vl (Dk f) (n,u):=by simp only[vl,QY,Dk,aa,ag,ah];grind
theorem SS {k h:Int} {l c r:LV} (O:QB k h l) (G:0<=h) (H:h<=k) (t:Od l c) (C:gg r) (I:Od (sq r c) w):
  (∃(m:Int) (z:V2),0<m/\px m w z/\px m s z)↔∃(m:Int) (x z:V2),0<m/\px m r x/\px m s z/\xU (gM k h) m (ag z x):=by
 constructor
 ·rintro⟨m,z,a,E,F⟩;have A:=t.cv;have S:=(I.iff a).1 E;have J:=XC a a;have R:∀(e:V2×V2) (v:V2),aj e.1 e.2 v=aa (ag e.2 e.1) v-aa (ag e.2 e.1) e.1:=λe v=>by simp only[aj,aa,ag];grind
  have K:∀d:V2,d≠⟨0,0⟩->∃v∈r,∃u∈c,m*aa d v+m*aa d u<aa d z:=λd T=>by obtain⟨y,U,q⟩:=S d T;obtain⟨v,j,u,o,rfl⟩:=oT.1 U;refine⟨v,j,u,o,?_⟩;have:m*aa d (an v u)=m*aa d v+m*aa d u:=(by simp only[aa,an];grind);omega
  have N:∀{r:LV},gg r->∀e∈bJ r,∀v∈r,m*aa (ag e.2 e.1) e.1<=m*aa (ag e.2 e.1) v:=λC e B v j=>by have:=(ry C).left e B v j;rw[R]at this;exact XH (by omega) (by omega)
  have P:∀g∈(bJ c).map (QY m z),0<vl g (3*m,ag (ah 3 z) (ah m (JZ c))):=λg b=>by obtain⟨f,i,rfl⟩:=XS.1 b;rw[QX];exact XC J ((xD A).2 _ (aay i))
  obtain⟨⟨n,x⟩,Q,V⟩:=Fz (M:=(bJ c).map (QY m z)) ⟨_,xD C⟩ ⟨_,XC (by decide) a,P⟩ (λg b=>by
   obtain⟨e,B,rfl⟩:=XS.1 b;obtain⟨v,j,u,o,q⟩:=K _ (cC (Zf (C.nz e B)));have Z:=N C e B v j;have X:0<vl (Dk e) (1*m,ag (ah 1 z) (ah m u)):=(by have:vl (Dk e) (1*m,ag (ah 1 z) (ah m u))=aa (ag e.2 e.1) z-m*aa (ag e.2 e.1) u-m*aa (ag e.2 e.1) e.1:=(by simp only[vl,Dk,aa,ag,ah];grind);omega);obtain⟨n,a0,D⟩:=(dK (vl (Dk e) (3*m,ag (ah 3 z) (ah m (JZ c)))) X).ex 1;refine⟨cb n (1*m,ag (ah 1 z) (ah m u)) 1 (3*m,ag (ah 3 z) (ah m (JZ c))),⟨tk (by omega) (by decide) (by show 0<1*m;omega) (XC (by decide) a),λg b=>?_⟩,by rw[nk];omega⟩;have k:=P g b;obtain⟨f,i,rfl⟩:=XS.1 b;have:=XF (show(0:Int)<=n by omega) (XF (XN J) ((ry A).left f i u o));rw[nk,QX,Bb];omega) (λg b=>by
   obtain⟨f,i,rfl⟩:=XS.1 b;obtain⟨v,j,u,o,q⟩:=K _ (cC (Zf (A.nz f i)));have a1:=N A f i u o;refine KZ C j ?_;have:vl (QY m z f) (1,v)=aa (ag f.2 f.1) z-m*aa (ag f.2 f.1) v-m*aa (ag f.2 f.1) f.1:=(by simp only[vl,QY,aa,ag,ah];grind);omega)
  have D:0<n:=Q.1;have p:=XC D a;refine⟨n*m,ah m x,ah n z,p,?_,F.sc D,(O.sup G H p).1 ((t.iff p).1 ((Ba p).2 ⟨p,λg b=>?_⟩))⟩;rw[X9];exact((Ba D).2 Q).sc a;obtain⟨f,i,rfl⟩:=XS.1 b;rw[<-Uz];exact V.2 _ (aay i)
 ·rintro⟨m,x,z,a,E,F,Y⟩;refine⟨m,z,a,(I.iff a).2 ?_,F⟩;have:=Ow (C.sup a E) (t.cv.sup a ((t.iff a).2 ((O.sup G H a).2 Y)))
  rwa [cg]at this
def uK:Nat->V2
 |0=>⟨1,0⟩
 |1=>⟨-1,0⟩
 |2=>⟨0,1⟩
 |_=>⟨0,-1⟩
def uJ:Nat->V2
 |0=>⟨1,1⟩
 |1=>⟨1,-1⟩
 |2=>⟨-1,1⟩
 |_=>⟨-1,-1⟩
def hK (k:Int):Int:=(5*k+11).tdiv 12
variable {k:Int}
theorem U0 (h:0<=k) (h2:k<=200):0<=hK k/\hK k<=1011:=by
 unfold hK;have b:=Int.tdiv_nonneg (show 0<=5*k+11 by omega) (show(0:Int)<=12 by decide);have c:=Int.tdiv_le_self (a:=5*k+11) 12 (by omega);omega
def ve (k:Int) (c:Nat->V2) (a b:V2) (i:Nat):Bool:=!(decide (pI a (c i)>=k)&&decide (pI b (c i)>=k))
def We (k h:Int) (a d:V2):Bool:=
 decide (bU (eJ a d) (bW (0-eJ a d))<bU (bW (bW (bU d.y (bW (0-d.y))*k)+bW (bU d.x (bW (0-d.x))*h))) (bW (bW (bU d.y (bW (0-d.y))*h)+bW (bU d.x (bW (0-d.x))*k))))
def N9 (k:Int) (a b:V2):Bool:=bn 4 (ve k uK a b)&&(bn 4 (ve (k+hK k) uJ a b)&&We k (hK k) a (cW b a))
theorem I6 (p:V2) (s:cp) (G:0<=k) (H:k<=200):DP 174 [vD p,sD s,.one (i64 k)] (aE (N9 k (cW s.a p) (cW s.b p))):=by
 refine dg Tryz.func174 [] ?_;have E:=U0 G H;have I:IntKind.i64.wrap ((IntKind.i64.wrap (IntKind.i64.wrap (5*k)+11)).tdiv 12)=hK k:=by rw[hw (5*k),hw (5*k+11)];exact hw _ (by unfold hK at E;omega) (by unfold hK at E;omega)
 refine ak.mk (by decide) ?_;refine ai.v (ca s.a p) (λa J=>?_);refine ai.v (ca s.b p) (λb K=>?_);refine ak.n ?_;unfold N9;rw[<-J,<-K];refine Loop.by (α:=Nat) (λi=>[(2,au k),(7,au (hK k)),(8,.ptr 8 0),(9,.ptr 9 0),(34,.d (.agg [i64 1,i64 0,i64 (-1),i64 0,i64 0,i64 1,i64 0,i64 (-1)])),(35,au i)]) (λ_=>[(8,.box (vL a)),(9,.box (vL b))]) (λi=>i<=4/\∀j,j<i->ve k uK a b j=true) (λi=>4-i)
  (aG.at 0 ⟨XR _,λ_ h=>absurd h (XO _)⟩ (.cX (.cX .nil)) (.cS (.cons (ar.int I) (.cB (.cB (.cS (.cS .nil))))))) (λi A=>?_)
 obtain⟨A,z⟩:=A;apply af.mk<;>intro B
 ·have C:i<4:=(by have:=XA B;omega);have w:ve k uK a b i=false->bn 4 (ve k uK a b)=false:=λh=>bD i C h;have r:ve k uK a b i=true->∀j,j<i+1->ve k uK a b j=true:=λh j D=>by by_cases q:j=i;rw[q];exact h;exact z j (by omega)
  obtain rfl|rfl|rfl|rfl:i=0\/i=1\/i=2\/i=3:=by omega
  ·refine ak.mk (by decide) ?_;refine ai.int (dt a ⟨1,0⟩) (λx t=>?_);have f:ve k uK a b 0=!(decide (x>=k)&&decide (pI b ⟨1,0⟩>=k)):=(by rw[t];rfl);apply af.mk<;>intro g
   ·have m:decide (x>=k)=true:=g;repeat' first|apply af.gF g|apply af.t|apply af.f
    refine ai.int (dt b ⟨1,0⟩) (λy u=>?_);rw[<-u,m]at f;repeat' first|apply af.gF g|apply af.t|apply af.f
    apply af.mk<;>intro l
    ·have o:decide (y>=k)=true:=l;rw[o]at f;repeat' first|apply af.gF l|apply af.gF g|apply af.t|apply af.f
     exact Fin.bool (by rw[w f,YN])
    ·have o:decide (y>=k)=false:=l;rw[o]at f;repeat' first|apply af.fh l|apply af.gF g|apply af.t|apply af.f
     exact aG.back (x:=0) 1 ⟨by decide,r f⟩ (by decide) (.cX (.cX .nil)) (.cS (.cS (.cB (.cB (.cS (.cS .nil))))))
   ·have m:decide (x>=k)=false:=g;rw[m]at f;repeat' first|apply af.fh g|apply af.t|apply af.f
    exact aG.back (x:=0) 1 ⟨by decide,r f⟩ (by decide) (.cX (.cX .nil)) (.cS (.cS (.cB (.cB (.cS (.cS .nil))))))
  ·refine ak.mk (by decide) ?_;refine ai.int (dt a ⟨-1,0⟩) (λx t=>?_);have f:ve k uK a b 1=!(decide (x>=k)&&decide (pI b ⟨-1,0⟩>=k)):=(by rw[t];rfl);apply af.mk<;>intro g
   ·have m:decide (x>=k)=true:=g;repeat' first|apply af.gF g|apply af.t|apply af.f
    refine ai.int (dt b ⟨-1,0⟩) (λy u=>?_);rw[<-u,m]at f;repeat' first|apply af.gF g|apply af.t|apply af.f
    apply af.mk<;>intro l
    ·have o:decide (y>=k)=true:=l;rw[o]at f;repeat' first|apply af.gF l|apply af.gF g|apply af.t|apply af.f
     exact Fin.bool (by rw[w f,YN])
    ·have o:decide (y>=k)=false:=l;rw[o]at f;repeat' first|apply af.fh l|apply af.gF g|apply af.t|apply af.f
     exact aG.back (x:=1) 2 ⟨by decide,r f⟩ (by decide) (.cX (.cX .nil)) (.cS (.cS (.cB (.cB (.cS (.cS .nil))))))
   ·have m:decide (x>=k)=false:=g;rw[m]at f;repeat' first|apply af.fh g|apply af.t|apply af.f
    exact aG.back (x:=1) 2 ⟨by decide,r f⟩ (by decide) (.cX (.cX .nil)) (.cS (.cS (.cB (.cB (.cS (.cS .nil))))))
  ·refine ak.mk (by decide) ?_;refine ai.int (dt a ⟨0,1⟩) (λx t=>?_);have f:ve k uK a b 2=!(decide (x>=k)&&decide (pI b ⟨0,1⟩>=k)):=(by rw[t];rfl);apply af.mk<;>intro g
   ·have m:decide (x>=k)=true:=g;repeat' first|apply af.gF g|apply af.t|apply af.f
    refine ai.int (dt b ⟨0,1⟩) (λy u=>?_);rw[<-u,m]at f;repeat' first|apply af.gF g|apply af.t|apply af.f
    apply af.mk<;>intro l
    ·have o:decide (y>=k)=true:=l;rw[o]at f;repeat' first|apply af.gF l|apply af.gF g|apply af.t|apply af.f
     exact Fin.bool (by rw[w f,YN])
    ·have o:decide (y>=k)=false:=l;rw[o]at f;repeat' first|apply af.fh l|apply af.gF g|apply af.t|apply af.f
     exact aG.back (x:=2) 3 ⟨by decide,r f⟩ (by decide) (.cX (.cX .nil)) (.cS (.cS (.cB (.cB (.cS (.cS .nil))))))
   ·have m:decide (x>=k)=false:=g;rw[m]at f;repeat' first|apply af.fh g|apply af.t|apply af.f
    exact aG.back (x:=2) 3 ⟨by decide,r f⟩ (by decide) (.cX (.cX .nil)) (.cS (.cS (.cB (.cB (.cS (.cS .nil))))))
  ·refine ak.mk (by decide) ?_;refine ai.int (dt a ⟨0,-1⟩) (λx t=>?_);have f:ve k uK a b 3=!(decide (x>=k)&&decide (pI b ⟨0,-1⟩>=k)):=(by rw[t];rfl);apply af.mk<;>intro g
   ·have m:decide (x>=k)=true:=g;repeat' first|apply af.gF g|apply af.t|apply af.f
    refine ai.int (dt b ⟨0,-1⟩) (λy u=>?_);rw[<-u,m]at f;repeat' first|apply af.gF g|apply af.t|apply af.f
    apply af.mk<;>intro l
    ·have o:decide (y>=k)=true:=l;rw[o]at f;repeat' first|apply af.gF l|apply af.gF g|apply af.t|apply af.f
     exact Fin.bool (by rw[w f,YN])
    ·have o:decide (y>=k)=false:=l;rw[o]at f;repeat' first|apply af.fh l|apply af.gF g|apply af.t|apply af.f
     exact aG.back (x:=3) 4 ⟨by decide,r f⟩ (by decide) (.cX (.cX .nil)) (.cS (.cS (.cB (.cB (.cS (.cS .nil))))))
   ·have m:decide (x>=k)=false:=g;rw[m]at f;repeat' first|apply af.fh g|apply af.t|apply af.f
    exact aG.back (x:=3) 4 ⟨by decide,r f⟩ (by decide) (.cX (.cX .nil)) (.cS (.cS (.cB (.cB (.cS (.cS .nil))))))
 ·have F:bn 4 (ve k uK a b)=true:=aF.2 λj D=>z j (by have:=XB B;omega);rw[F,Zd];clear z F;refine Loop.by (α:=Nat) (λi=>[(2,au k),(7,au (hK k)),(8,.ptr 8 0),(9,.ptr 9 0),(55,.d (.agg [i64 1,i64 1,i64 1,i64 (-1),i64 (-1),i64 1,i64 (-1),i64 (-1)])),(56,au i)]) (λ_=>[(8,.box (vL a)),(9,.box (vL b))]) (λi=>i<=4/\∀j,j<i->ve (k+hK k) uJ a b j=true) (λi=>4-i)
   (aG.at 0 ⟨XR _,λ_ h=>absurd h (XO _)⟩ (.cX (.cX .nil)) (.cS (.cS (.cB (.cB (.cS (.cS .nil))))))) (λi A=>?_)
  obtain⟨A,z⟩:=A;apply af.mk<;>intro B
  ·have C:i<4:=(by have:=XA B;omega);have w:ve (k+hK k) uJ a b i=false->bn 4 (ve (k+hK k) uJ a b)=false:=λh=>bD i C h;have r:ve (k+hK k) uJ a b i=true->∀j,j<i+1->ve (k+hK k) uJ a b j=true:=λh j D=>by by_cases q:j=i;rw[q];exact h;exact z j (by omega)
   obtain rfl|rfl|rfl|rfl:i=0\/i=1\/i=2\/i=3:=by omega
   ·refine ak.mk (by decide) ?_;refine ai.int (dt a ⟨1,1⟩) (λx t=>?_);have f:ve (k+hK k) uJ a b 0=!(decide (x>=(k+hK k))&&decide (pI b ⟨1,1⟩>=(k+hK k))):=(by rw[t];rfl);apply af.mk<;>intro g
    ·have m:decide (x>=(k+hK k))=true:=(by rw[<-hw (k+hK k)];exact g);repeat' first|apply af.gF g|apply af.t|apply af.f
     refine ai.int (dt b ⟨1,1⟩) (λy u=>?_);rw[<-u,m]at f;repeat' first|apply af.gF g|apply af.t|apply af.f
     apply af.mk<;>intro l
     ·have o:decide (y>=(k+hK k))=true:=(by rw[<-hw (k+hK k)];exact l);rw[o]at f;repeat' first|apply af.gF l|apply af.gF g|apply af.t|apply af.f
      exact Fin.bool (by rw[w f,YN])
     ·have o:decide (y>=(k+hK k))=false:=(by rw[<-hw (k+hK k)];exact l);rw[o]at f;repeat' first|apply af.fh l|apply af.gF g|apply af.t|apply af.f
      exact aG.back (x:=0) 1 ⟨by decide,r f⟩ (by decide) (.cX (.cX .nil)) (.cS (.cS (.cB (.cB (.cS (.cS .nil))))))
    ·have m:decide (x>=(k+hK k))=false:=(by rw[<-hw (k+hK k)];exact g);rw[m]at f;repeat' first|apply af.fh g|apply af.t|apply af.f
     exact aG.back (x:=0) 1 ⟨by decide,r f⟩ (by decide) (.cX (.cX .nil)) (.cS (.cS (.cB (.cB (.cS (.cS .nil))))))
   ·refine ak.mk (by decide) ?_;refine ai.int (dt a ⟨1,-1⟩) (λx t=>?_);have f:ve (k+hK k) uJ a b 1=!(decide (x>=(k+hK k))&&decide (pI b ⟨1,-1⟩>=(k+hK k))):=(by rw[t];rfl);apply af.mk<;>intro g
    ·have m:decide (x>=(k+hK k))=true:=(by rw[<-hw (k+hK k)];exact g);repeat' first|apply af.gF g|apply af.t|apply af.f
     refine ai.int (dt b ⟨1,-1⟩) (λy u=>?_);rw[<-u,m]at f;repeat' first|apply af.gF g|apply af.t|apply af.f
     apply af.mk<;>intro l
     ·have o:decide (y>=(k+hK k))=true:=(by rw[<-hw (k+hK k)];exact l);rw[o]at f;repeat' first|apply af.gF l|apply af.gF g|apply af.t|apply af.f
      exact Fin.bool (by rw[w f,YN])
     ·have o:decide (y>=(k+hK k))=false:=(by rw[<-hw (k+hK k)];exact l);rw[o]at f;repeat' first|apply af.fh l|apply af.gF g|apply af.t|apply af.f
      exact aG.back (x:=1) 2 ⟨by decide,r f⟩ (by decide) (.cX (.cX .nil)) (.cS (.cS (.cB (.cB (.cS (.cS .nil))))))
    ·have m:decide (x>=(k+hK k))=false:=(by rw[<-hw (k+hK k)];exact g);rw[m]at f;repeat' first|apply af.fh g|apply af.t|apply af.f
     exact aG.back (x:=1) 2 ⟨by decide,r f⟩ (by decide) (.cX (.cX .nil)) (.cS (.cS (.cB (.cB (.cS (.cS .nil))))))
   ·refine ak.mk (by decide) ?_;refine ai.int (dt a ⟨-1,1⟩) (λx t=>?_);have f:ve (k+hK k) uJ a b 2=!(decide (x>=(k+hK k))&&decide (pI b ⟨-1,1⟩>=(k+hK k))):=(by rw[t];rfl);apply af.mk<;>intro g
    ·have m:decide (x>=(k+hK k))=true:=(by rw[<-hw (k+hK k)];exact g);repeat' first|apply af.gF g|apply af.t|apply af.f
     refine ai.int (dt b ⟨-1,1⟩) (λy u=>?_);rw[<-u,m]at f;repeat' first|apply af.gF g|apply af.t|apply af.f
     apply af.mk<;>intro l
     ·have o:decide (y>=(k+hK k))=true:=(by rw[<-hw (k+hK k)];exact l);rw[o]at f;repeat' first|apply af.gF l|apply af.gF g|apply af.t|apply af.f
      exact Fin.bool (by rw[w f,YN])
     ·have o:decide (y>=(k+hK k))=false:=(by rw[<-hw (k+hK k)];exact l);rw[o]at f;repeat' first|apply af.fh l|apply af.gF g|apply af.t|apply af.f
      exact aG.back (x:=2) 3 ⟨by decide,r f⟩ (by decide) (.cX (.cX .nil)) (.cS (.cS (.cB (.cB (.cS (.cS .nil))))))
    ·have m:decide (x>=(k+hK k))=false:=(by rw[<-hw (k+hK k)];exact g);rw[m]at f;repeat' first|apply af.fh g|apply af.t|apply af.f
     exact aG.back (x:=2) 3 ⟨by decide,r f⟩ (by decide) (.cX (.cX .nil)) (.cS (.cS (.cB (.cB (.cS (.cS .nil))))))
   ·refine ak.mk (by decide) ?_;refine ai.int (dt a ⟨-1,-1⟩) (λx t=>?_);have f:ve (k+hK k) uJ a b 3=!(decide (x>=(k+hK k))&&decide (pI b ⟨-1,-1⟩>=(k+hK k))):=(by rw[t];rfl);apply af.mk<;>intro g
    ·have m:decide (x>=(k+hK k))=true:=(by rw[<-hw (k+hK k)];exact g);repeat' first|apply af.gF g|apply af.t|apply af.f
     refine ai.int (dt b ⟨-1,-1⟩) (λy u=>?_);rw[<-u,m]at f;repeat' first|apply af.gF g|apply af.t|apply af.f
     apply af.mk<;>intro l
     ·have o:decide (y>=(k+hK k))=true:=(by rw[<-hw (k+hK k)];exact l);rw[o]at f;repeat' first|apply af.gF l|apply af.gF g|apply af.t|apply af.f
      exact Fin.bool (by rw[w f,YN])
     ·have o:decide (y>=(k+hK k))=false:=(by rw[<-hw (k+hK k)];exact l);rw[o]at f;repeat' first|apply af.fh l|apply af.gF g|apply af.t|apply af.f
      exact aG.back (x:=3) 4 ⟨by decide,r f⟩ (by decide) (.cX (.cX .nil)) (.cS (.cS (.cB (.cB (.cS (.cS .nil))))))
    ·have m:decide (x>=(k+hK k))=false:=(by rw[<-hw (k+hK k)];exact g);rw[m]at f;repeat' first|apply af.fh g|apply af.t|apply af.f
     exact aG.back (x:=3) 4 ⟨by decide,r f⟩ (by decide) (.cX (.cX .nil)) (.cS (.cS (.cB (.cB (.cS (.cS .nil))))))
  ·have M:bn 4 (ve (k+hK k) uJ a b)=true:=aF.2 λj D=>z j (by have:=XB B;omega);rw[M,Zd];refine ai.v (ca b a) (λd N=>?_);refine ak.n ?_;rw[<-N];unfold We;refine ai.int (dH a d) (λc O=>?_);rw[<-O];exact Fin.bool rfl
variable {k:Int}
theorem O6 (p:V2) (s:cp) (a:0<=k) (c:k<=200):DP 173 [sD s,.one (.ad 2 λj=>(vL p).getD j (.v Go.undef)),.one (.ad 1 λj=>[i64 k].getD j (.v Go.undef))] (aE (N9 k (cW s.a p) (cW s.b p))):=by
 refine dg Tryz.func173 [] ?_;refine ai.bool (I6 p s a c) (λb f=>?_);exact Fin.bool (by rw[f])
def TH (k:Int) (E:List cp) (p:V2):Bool:=!bn E.length λi=>!N9 k (cW (bh E i).a p) (cW (bh E i).b p)
theorem O7 (p:V2) (E:List cp) (a:E.length<=40000) (c:0<=k) (f:k<=200):DP 171 [vD p,.one (.ad 1 λj=>[mX E].getD j (.v Go.undef)),.one (.ad 1 λj=>[i64 k].getD j (.v Go.undef))] (aE (TH k E p)):=by
 refine dg Tryz.func171 [] ?_;refine ai.bool (H8 E 173 2 _ (λi=>N9 k (cW (bh E i).a p) (cW (bh E i).b p)) a (λi h=>O6 p (bh E i) c f)) (λb g=>?_);exact Fin.bool (by rw[g];rfl)
def Su (o1:LV) (a:List (LV)) (o2:LV) (h2:List (LV)) (k:Int):Bool:=!bn (o1::a).flatten.length λi=>!TH k (cI (o2::h2)) (gt (o1::a).flatten i)
theorem wV (o1:LV) (a:List (LV)) (o2:LV) (h2:List (LV)) (h:aP (o1::a)<=10000) (j:a.length<=10000) (l:aP (o2::h2)<=10000) (c:0<=k) (f:k<=200):
  DP 103 [iO o1 a,iO o2 h2,.one (i64 k)] (aE (Su o1 a o2 h2 k)):=by
 refine dg Tryz.func103 [] ?_;have m:=oh (o2::h2);refine ai.mk' (kh o2 h2) ?_;refine ai.mk' (yy o1 a) ?_;refine ai.bool (vu (o1::a).flatten 171 2 _ (λi=>TH k (cI (o2::h2)) (gt (o1::a).flatten i)) (by rw[gX];omega) (λi o=>O7 _ _ (by omega) c f)) (λb g=>?_);exact Fin.bool (by rw[g];rfl)
def Jd (o1:LV) (a:List (LV)) (o2:LV) (h2:List (LV)):Bool:=yi (cI (o1::a)) (cI (o2::h2)) λx=>!bn 3 λi=>!decide (((i:Int)+1)=x)
theorem Jf (o1:LV) (a:List (LV)) (o2:LV) (h2:List (LV)) (b:aP (o1::a)<=40000:=by omega) (c:aP (o2::h2)<=40000:=by omega):
  DP 77 [iO o1 a,iO o2 h2,.one (.sl 3 1 λi j=>[i64 1,i64 2,i64 3].getD (i*1+j) (.v Go.undef))] (aE (Jd o1 a o2 h2)):=by
 refine lY.le (uh:=[iO o1 a,iO o2 h2,.one (.sl 3 1 λi _=>i64 ((i:Int)+1))]) (.cR (.cR (.cons (.one (aD.pQ rfl (λi f j g=>?_))) .nil))) (tQ o1 a o2 h2 b c 3 (λi=>(i:Int)+1));obtain rfl:j=0:=by omega
 obtain rfl|rfl|rfl:i=0\/i=1\/i=2:=by omega
 ·exact aD.refl _
 ·exact aD.refl _
 ·exact aD.refl _
def Qq (o1:LV) (a:List (LV)) (o2:LV) (h2:List (LV)) (k:Int):Bool:=Bo o1 a o2 h2&&(decide (k=0)||(!Jd o1 a o2 h2&&!Su o1 a o2 h2 k&&!Su o2 h2 o1 a k))
variable {o1 o2:LV}
theorem JP {a:List (LV)} (b:VS o1 a) {h2:List (LV)} (V2:VS o2 h2) (f:0<=k) (g:k<=200):
  DP 53 [iO o1 a,iO o2 h2,.one (i64 k)] (aE (Qq o1 a o2 h2 k)):=by
 refine dg Tryz.func53 [] ?_;have m:=b.KI;have o:=V2.KI;have p:=b.eZ;have q:=V2.eZ;unfold Qq;refine ai.bool (H0 b V2) (λx h=>?_);rw[<-h];cases x with
 |false=>
  repeat' first|apply af.t|apply af.f
  exact Fin.bool rfl
 |true=>
 repeat' first|apply af.t|apply af.f
 apply af.mk<;>intro c
 ·have d:decide (k=0)=true:=c;rw[d];repeat' first|apply af.is c|apply af.t|apply af.f
  exact Fin.bool rfl
 have d:decide (k=0)=false:=c;rw[d];repeat' first|apply af.is c|apply af.t|apply af.f
 refine ai.bool (Jf o1 a o2 h2) (λy i=>?_);rw[<-i];cases y with
 |true=>
  repeat' first|apply af.is c|apply af.t|apply af.f
  exact Fin.bool rfl
 |false=>
 repeat' first|apply af.is c|apply af.t|apply af.f
 refine ai.bool (wV o1 a o2 h2 (by omega) (by omega) (by omega) f g) (λz j=>?_);rw[<-j];cases z with
 |true=>
  repeat' first|apply af.is c|apply af.t|apply af.f
  exact Fin.bool rfl
 |false=>
 repeat' first|apply af.is c|apply af.t|apply af.f
 refine ai.bool (wV o2 h2 o1 a (by omega) (by omega) (by omega) f g) (λu l=>?_);rw[<-l];repeat' first|apply af.is c|apply af.t|apply af.f
 exact Fin.bool (by cases u<;>rfl)
theorem JI {a:List (LV)} (f:VS o1 a) {h2:List (LV)} (V2:VS o2 h2) (g:0<=k) (h:k<=200):
  DP 21 [iO o1 a,iO o2 h2,.one (i64 k)] (.eD [.one (.v (.bool (Qq o1 a o2 h2 k))),.one (i64 0)]):=by
 refine dg Tryz.func21 [] ?_;have b:decide (k<0)=false:=dF;have c:decide (k>200)=false:=dF;repeat' first|apply af.fh b|apply af.fh c|apply af.t|apply af.f
 refine ai.mk' (iZ f) ?_;repeat' first|apply af.fh b|apply af.fh c|apply af.t|apply af.f
 refine ai.mk' (iZ V2) ?_;repeat' first|apply af.fh b|apply af.fh c|apply af.t|apply af.f
 refine ai.mk' (JP f V2 g h) ?_;exact Fin.rfl'
theorem PC (v:V2):DP 170 [vD v] (aE (!aY v 8000)):=by
 refine dg Tryz.func170 [] ?_;refine ai.bool (ea v 8000) (λb a=>?_);exact Fin.bool (by rw[a])
theorem tZ (l:LV) (a:l.length<=40000:=by omega):DP 102 [.one (aN l)] (aE (pT l)):=by
 refine dg Tryz.func102 [] ?_;refine ai.mk' (vu l 170 0 (λ_=> .v Go.undef) (λk=>!aY (gt l k) 8000) a (λk b=>PC (gt l k))) ?_;exact Fin.bool (by unfold pT;simp)
structure HC (l:LV):Prop where
 three:3<=l.length
 kK:l.length<=160
 eX:pT l=true
 left:∀i,i<l.length->∀k,k<l.length->k≠i->k≠(i+1)%l.length->0<ct (gt l i) (bA l i) (gt l k)
theorem s5 {l:LV} (h:HC l):DP 51 [.one (aN l)] (aE true):=by
 refine dg Tryz.func51 [] ?_;have u:=h.three;have w:=h.kK;have f:decide ((l.length:Int)<3)=false:=dF;have g:decide ((l.length:Int)>160)=false:=dF;repeat' first|apply af.fh f|apply af.fh g|apply af.t|apply af.f
 refine ai.mk' (lY.vt (tZ l) true h.eX) ?_;repeat' first|apply af.fh f|apply af.fh g|apply af.t|apply af.f
 refine Loop.by (α:=Nat) (λi=>[(0,.d (.one (aN l))),(21,.d (.one (aN l))),(22,au l.length),(23,au i)]) (λ_=>[]) (λi=>i<=l.length) (λi=>l.length-i)
  (aG.at 0 (XR _) .nil (.cS (.cS (.cS (.cS .nil))))) (λi y=>?_)
 apply af.mk<;>intro m
 ·have o:i<l.length:=(by have:=XA m;omega);refine ak.o ?_;have e:=nN i 1;refine ak.o ?_;have em:(IntKind.i64.wrap ((i:Int)+1)).tmod l.length=(((i+1)%l.length:Nat):Int):=(by rw[show(1:Int)=(1:Nat) from rfl,e];exact(abt _ _).symm);refine Loop.by (α:=Nat) (λk=>[(0,.d (.one (aN l))),(3,au i),(4,.ptr 4 0),(5,au ((i+1)%l.length:Nat)),(21,.d (.one (aN l))),(22,au l.length),(23,au i),(33,.d (.one (aN l))),(34,au l.length),(35,au k)]) (λ_=>[(4,.box (vL (gt l i)))]) (λk=>k<=l.length) (λk=>l.length-k)
   (aG.at 0 (XR _) (.cX .nil) (.cS (.cS (.cB (.cons (ar.int em) (.cS (.cS (.cS (.cS (.cS (.cS .nil))))))))))) (λk z=>?_)
  apply af.mk<;>intro p
  ·have q:k<l.length:=(by have:=XA p;omega);have A:=ZC (i+1) (show 0<l.length by omega);refine ak.o ?_;have c:∀n:Nat,n=k+1->IntKind.i64.wrap ((k:Int)+1)=(n:Int):=λn B=>by rw[hw _];omega
   apply af.mk<;>intro a
   ·have r:k≠i:=(by have:(k:Int)≠i:=(by simpa[bne]using a);omega);repeat' first|apply af.is a|apply af.t|apply af.f
    apply af.mk<;>intro b
    ·have t:k≠(i+1)%l.length:=(by have:(k:Int)≠((i+1)%l.length:Nat):=(by simpa[bne]using b);omega);repeat' first|apply af.is b|apply af.is a|apply af.t|apply af.f
     refine ak.o ?_;repeat' first|apply af.is b|apply af.is a|apply af.t|apply af.f
     have C:=h.left i o k q r t;refine ai.int (eW (gt l i) (bA l i) (gt l k)) (λx D=>?_);have j:decide (x<=0)=false:=dF;repeat' first|apply af.fh j|apply af.is b|apply af.is a|apply af.t|apply af.f
     refine ak.n ?_;repeat' first|apply af.fh j|apply af.is b|apply af.is a|apply af.t|apply af.f
     exact aG.back (x:=k) (k+1) (by show k+1<=_;omega) (by omega) (.cX .nil) (.cS (.cS (.cB (.cS (.cS (.cS (.cS (.cS (.cS (.cons (ar.int (c _ rfl)) .nil))))))))))
    ·repeat' first|apply af.is b|apply af.is a|apply af.t|apply af.f
     refine ak.n ?_;repeat' first|apply af.is b|apply af.is a|apply af.t|apply af.f
     exact aG.back (x:=k) (k+1) (by show k+1<=_;omega) (by omega) (.cX .nil) (.cS (.cS (.cB (.cS (.cS (.cS (.cS (.cS (.cS (.cons (ar.int (c _ rfl)) .nil))))))))))
   ·repeat' first|apply af.is a|apply af.t|apply af.f
    refine ak.n ?_;repeat' first|apply af.is a|apply af.t|apply af.f
    exact aG.back (x:=k) (k+1) (by show k+1<=_;omega) (by omega) (.cX .nil) (.cS (.cS (.cB (.cS (.cS (.cS (.cS (.cS (.cS (.cons (ar.int (c _ rfl)) .nil))))))))))
  ·exact aG.back (x:=i) (i+1) (by show i+1<=_;omega) (by omega) .nil (.cS (.cS (.cS (.cons (ar.int (by rw[hw _];omega)) .nil))))
 ·exact Fin.bool rfl
def Uo (r s:LV) (i:Nat):Bool:=bn s.length λk=>decide (ct (gt r i) (bA r i) (gt s k)<=0)
def IF (r s:LV):Bool:=!bn r.length λi=>!Uo r s i
theorem Wz (r s:LV) (i k:Nat) (b:Bool) (a:b=bn k λk=>decide (ct (gt r i) (bA r i) (gt s k)<=0)) (x:Int) (c:x=ct (gt r i) (bA r i) (gt s k)):(b&&decide (x<=0))=bn (k+1) λk=>decide (ct (gt r i) (bA r i) (gt s k)<=0):=by
 rw[a,c];unfold bn;rw[ZL,List.all_append];simp
theorem Gz (r s:LV) (C:r.length<=10000) (hs:s.length<=10000):DP 52 [.one (aN r),.one (aN s)] (aE (IF r s)):=by
 refine dg Tryz.func52 [] ?_;refine Loop.by (α:=Nat) (λi=>[(0,.d (.one (aN r))),(1,.d (.one (aN s))),(10,.d (.one (aN r))),(11,au r.length),(12,au i)]) (λ_=>[]) (λi=>i<=r.length/\∀j,j<i->Uo r s j=false) (λi=>r.length-i)
  (aG.at 0 ⟨XR _,λ_ h=>absurd h (XO _)⟩ .nil (.cS (.cS (.cS (.cS (.cS .nil)))))) (λi f=>?_)
 obtain⟨f,g⟩:=f;apply af.mk<;>intro l
 ·have y:i<r.length:=(by have:=XA l;omega);refine ak.o ?_;refine Loop.by (α:=Nat×Bool) (λx=>[(0,.d (.one (aN r))),(1,.d (.one (aN s))),(5,au i),(6,.ptr 6 0),(7,aE x.2),(10,.d (.one (aN r))),(11,au r.length),(12,au i),(17,.d (.one (aN s))),(18,au s.length),(19,au x.1)]) (λ_=>[(6,.box (vL (gt r i)))]) (λx=>x.1<=s.length/\x.2=bn x.1 λk=>decide (ct (gt r i) (bA r i) (gt s k)<=0)) (λx=>s.length-x.1)
   (aG.at (0,true) ⟨XR _,rfl⟩ (.cX .nil) (.cS (.cS (.cS (.cB (.cS (.cS (.cS (.cS (.cS (.cS (.cS .nil)))))))))))) (λx c=>?_)
  obtain⟨k,b⟩:=x;obtain⟨m,a⟩:=c;replace m:k<=s.length:=m;replace a:b=bn k λk=>decide (ct (gt r i) (bA r i) (gt s k)<=0):=a;apply af.mk<;>intro o
  ·have D:k<s.length:=(by have:=XA o;omega);have p:IntKind.i64.wrap ((k:Int)+1)=((k+1:Nat):Int):=(by rw[hw _];omega);refine ak.o ?_;have step:=Wz r s i k b a;cases b with
   |true=>
    repeat' first|apply af.t|apply af.f
    refine ak.o ?_;have t:IntKind.i64.wrap ((i:Int)+1)=((i+1:Nat):Int):=nN i 1;have em:Int.toNat ((IntKind.i64.wrap ((i:Int)+1)).tmod r.length)=(i+1)%r.length:=(by rw[t,kf]);have z:=kg (i+1) r.length;repeat' first|apply af.t|apply af.f
    refine ak.mk (by rw[t];exact z) ?_;repeat' first|apply af.t|apply af.f
    refine ai.int ((eW (gt r i) (bA r i) (gt s k)).le (.cR (.cons (dX.of_eq (by unfold bA;rw[<-em])) (.cR .nil)))) (λx c=>?_);repeat' first|apply af.t|apply af.f
    refine ak.n ?_;repeat' first|apply af.t|apply af.f
    exact aG.back (x:=(k,true)) (k+1,decide (x<=0)) ⟨by show k+1<=_;omega,by show decide (x<=0)=_;rw[<-step x c];rfl⟩ (by show s.length-(k+1)<s.length-k;omega) (.cX .nil) (.cS (.cS (.cS (.cB (.cS (.cS (.cS (.cS (.cS (.cS (.cons (ar.int p) .nil)))))))))))
   |false=>
    repeat' first|apply af.t|apply af.f
    refine ak.n ?_;exact aG.back (x:=(k,false)) (k+1,false) ⟨by show k+1<=_;omega,by show false=_;rw[<-step _ rfl];rfl⟩ (by show s.length-(k+1)<s.length-k;omega) (.cX .nil) (.cS (.cS (.cS (.cB (.cS (.cS (.cS (.cS (.cS (.cS (.cons (ar.int p) .nil)))))))))))
  ·have A:k=s.length:=(by have:=XB o;omega);subst A;have u:Uo r s i=b:=a.symm;cases b with
   |true=>
    repeat' first|apply af.t|apply af.f
    exact Fin.bool (by unfold IF;rw[bD i y (by rw[u];rfl)];rfl)
   |false=>
    repeat' first|apply af.t|apply af.f
    exact aG.back (x:=i) (i+1) ⟨by show i+1<=_;omega,λj w=>by
     by_cases q:j=i;rw[q];exact u
     ·exact g j (by omega)⟩ (by omega) .nil (.cS (.cS (.cS (.cS (.cons (ar.int (by rw[hw _];omega)) .nil)))))
 ·have B:i=r.length:=(by have:=XB l;omega);subst B;exact Fin.bool (by unfold IF;rw[aF.2 λj w=>by rw[g j w];rfl];rfl)
end Sg
end Go.Vm
namespace Go.Vm
open Go Go.RowKit Go.Proofs Go.Shelf
namespace Sg
attribute [local go_sem] Oper.semAt_some
set_option maxRecDepth 100000 in
set_option maxHeartbeats 4000000 in
theorem Oi (Bs off n:Nat) (b Bc cap:Nat) (hv:Nat->V2) (Sx:Nat->Prop) (Wj:Sx b) (SQ:Sx Bs) (hn:n<=maxLen) (w:World)
  (ho:w.cell? ⟨Bs,off,none⟩=some (.slice (some ⟨b,Bc,none⟩) n cap)) (hx:∀i,i<n->w.cell? ⟨b,Bc+i*2,none⟩=some (.int .i64 (hv i).x)) (hy:∀i,i<n->w.cell? ⟨b,Bc+i*2+1,none⟩=some (.int .i64 (hv i).y)):
  BP Tryz.prog 212 [.pointer (some ⟨Bs,off,none⟩)] ((List.range n).map λi=> .agg #[.int .i64 (hv i).x,.int .i64 (hv i).y]) Sx w:=by
 intro l J Jx W C0 hW hS hJ hY h0;refine callsIn_of_wp Tryz.func212 rfl trivial ?_ rfl;have hM:∀{W':World} {a:Addr} {v:Value},(∀b,Sx b->W'.heap[b]? =w.heap[b]?)->Sx a.block->w.cell? a=some v->W'.cell? a=some v:=λhk hS h=>by rw[World.cell?_of_block (w:=w) (hk _ hS)];exact h
 have WR:=hM (a:=⟨Bs,off,none⟩) hW SQ ho;have nt:Tryz.f212.ntmps=16:=by kernel_rfl
 simp only[nt,ZR,XV,Z2,Nat.reduceAdd,Nat.reduceSub,aaP,aaO,aa2,aaU,Z1,YM]
 gi_wp2
 gi_loopw [7] (λi wr=>∃k C,k<=n/\i= .int .i64 (k:Nat)/\J k C wr/\∀b,Sx b->wr.heap[b]? =w.heap[b]?)
   (λi _=>n-(RowKit.intOf i).toNat)
 case atStart=>exact⟨0,C0,XR _,rfl,h0,hW⟩
 case round=>
  obtain⟨k,C,hk,rfl,Jw,My⟩:=hrel;by_cases Ju:k<n
  ·have Xp:=hM (a:=⟨b,Bc+k*2,none⟩) My Wj (hx k Ju);have hcy:=hM (a:=⟨b,Bc+k*2+1,none⟩) My Wj (hy k Ju);have TJ:Below wr.heap.size wr (wr.alloc (.cells #[.int .i64 (hv k).x,.int .i64 (hv k).y] 50)):=(Below.refl _ wr).alloc (XU _) _;obtain⟨fn,tmps,assign,body,hy,hR⟩:=hY k C (.agg #[.int .i64 (hv k).x,.int .i64 (hv k).y]) _ (by simp[Ju]) (hJ k C _ _ Jw TJ)
   gi_wp2
   refine⟨rfl,hR.mono ?_⟩;rintro e W4 (⟨rfl,C',U1,Xk,UT⟩|⟨rfl,MD⟩)
   ·gi_wp2
    go_roundw
    case rel=>
     refine⟨k+1,C',by omega,?_,U1,λb hb=>?_⟩;have SL:wrap64 ((k:Int)+1)=((k+1:Nat):Int):=(by unfold maxLen at hn;unfold wrap64;omega);rw[SL];obtain⟨q1,q2⟩:=(hS k C wr Jw b).2 hb;exact((UT b (Yc q1 TJ.size) q2).2.trans (TJ.block b q1)).trans (My b hb)
    case measure=>
     have SL:wrap64 ((k:Int)+1)=((k+1:Nat):Int):=(by unfold maxLen at hn;unfold wrap64;omega);rw[SL];simp only[RowKit.intOf];omega
   ·gi_wp2
    refine bodyPost_ret (results_none rfl _ _ _) rfl ?_;exact⟨⟨_,rfl⟩,.inr MD⟩
  ·obtain rfl:k=n:=by omega
   gi_wp2
   go_end0
   exact⟨⟨_,rfl⟩,.inl ⟨C,by simpa using Jw⟩⟩
variable {j m:Nat}
theorem z1 (h:j<m) (a:m<=maxLen):wrap64 ((j:Int)+1)=((j+1:Nat):Int):=by unfold maxLen at a;unfold wrap64;omega
theorem y9 (h:j<m) (a:m<=maxLen):m-(RowKit.intOf (.int .i64 (wrap64 ((j:Int)+1)))).toNat<m-(RowKit.intOf (.int .i64 (j:Int))).toNat:=by
 rw[z1 h a];simp only[RowKit.intOf];omega
variable {α:Type}
theorem ky (n m:Nat) (f:Nat->Nat->α):((List.range n).flatMap λi=>(List.range m).map (f i)).length=n*m:=by
 induction n with
 |zero=>simp
 |succ n a=>rw[ZL,aaT,XQ,a,aak];simp
theorem MN {n i:Nat} {f:Nat->Nat->α} (hi:i<n) (a:j<m):((List.range n).flatMap λi=>(List.range m).map (f i))[i*m+j]? =some (f i j):=by
 induction n with
 |zero=>omega
 |succ n b=>rw[ZL,aaT];by_cases c:i=n;subst c;rw[Zo (by rw[ky];omega),ky,show i*m+j-i*m=j by omega];simp[a];have:i*m+j<n*m:=(by have:=XX m (show i+1<=n by omega);rw[aak]at this;omega);rw[Zq (by rw[ky];exact this)];exact b (by omega)
theorem Ts (a b:V2) (w:World):CallsIn Fence.wide 0 Tryz.prog 75 #[.agg #[.int .i64 a.x,.int .i64 a.y],.agg #[.int .i64 b.x,.int .i64 b.y]] w λe c=>e= .returned (.agg #[.int .i64 (mO a b).x,.int .i64 (mO a b).y])/\Below w.heap.size w c:=by
 refine callsIn_wide.2 ?_;have h:=(nn a b).2 w (λ_=>False) [.agg #[.int .i64 a.x,.int .i64 a.y],.agg #[.int .i64 b.x,.int .i64 b.y]] (λ_ h=>h.elim)
  (.cons ⟨[_,_],rfl,.cons (.v rfl) (.cons (.v rfl) .nil)⟩ (.cons ⟨[_,_],rfl,.cons (.v rfl) (.cons (.v rfl) .nil)⟩ .nil))
 refine Calls.mono h ?_;rintro _ c ⟨v,rfl,f,g⟩;obtain⟨xs,rfl,i⟩:=(show lU _ _ v (vD (mO a b)) from g);cases i with
 |cons j t=>
  cases t with
  |cons k t=>cases t;obtain⟨rfl,_⟩:=Rd.bT j;obtain⟨rfl,_⟩:=Rd.bT k;exact⟨rfl,f⟩
set_option maxRecDepth 100000 in
set_option maxHeartbeats 4000000 in
theorem Ox (B1 o1 B2 o2 n m:Nat) (b1 f1 c1 b2 f2 c2:Nat) (hv gv:Nat->V2) (Sx:Nat->Prop) (Xs:Sx b1) (Xr:Sx b2) (hB1:Sx B1) (Xt:Sx B2) (hn:n<=maxLen) (hm:m<=maxLen) (w:World)
  (WQ:w.cell? ⟨B1,o1,none⟩=some (.slice (some ⟨b1,f1,none⟩) n c1)) (Xl:w.cell? ⟨B2,o2,none⟩=some (.slice (some ⟨b2,f2,none⟩) m c2))
  (hx:∀i,i<n->w.cell? ⟨b1,f1+i*2,none⟩=some (.int .i64 (hv i).x)) (hy:∀i,i<n->w.cell? ⟨b1,f1+i*2+1,none⟩=some (.int .i64 (hv i).y))
  (gx:∀i,i<m->w.cell? ⟨b2,f2+i*2,none⟩=some (.int .i64 (gv i).x)) (gy:∀i,i<m->w.cell? ⟨b2,f2+i*2+1,none⟩=some (.int .i64 (gv i).y))
  (val:Nat->Nat->Value) (WO:val=λi j=> .agg #[.int .i64 (mO (hv i) (gv j)).x,.int .i64 (mO (hv i) (gv j)).y]):
  BP Tryz.prog 169 [.pointer (some ⟨B1,o1,none⟩),.pointer (some ⟨B2,o2,none⟩)] ((List.range n).flatMap λi=>(List.range m).map (val i)) Sx w:=by
 intro l J Jx W C0 hW hS hJ hY h0;refine callsIn_of_wp Tryz.func169 rfl trivial ?_ rfl;have hM:∀{W':World} {a:Addr} {v:Value},(∀b,Sx b->W'.heap[b]? =w.heap[b]?)->Sx a.block->w.cell? a=some v->W'.cell? a=some v:=λhk hS h=>by rw[World.cell?_of_block (w:=w) (hk _ hS)];exact h
 have WR:=hM (a:=⟨B1,o1,none⟩) hW hB1 WQ;have nt:Tryz.f169.ntmps=28:=by kernel_rfl
 simp only[nt,ZR,XV,Z2,Nat.reduceAdd,Nat.reduceSub,aaP,aaO,aa2,aaU,Z1,YM]
 gi_wp2
 gi_loopw [10] (λi wr=>∃k C,k<=n/\i= .int .i64 (k:Nat)/\J (k*m) C wr/\∀b,Sx b->wr.heap[b]? =w.heap[b]?)
   (λi _=>n-(RowKit.intOf i).toNat)
 case atStart=>exact⟨0,C0,XR _,rfl,by rw[aaV];exact h0,hW⟩
 case round=>
  obtain⟨k,C,hk,rfl,Jw,My⟩:=hrel;by_cases Ju:k<n
  ·have Xp:=hM (a:=⟨b1,f1+k*2,none⟩) My Xs (hx k Ju);have hcy:=hM (a:=⟨b1,f1+k*2+1,none⟩) My Xs (hy k Ju);have ho2':=hM (a:=⟨B2,o2,none⟩) My Xt Xl;obtain⟨W1,UY⟩:∃W1,W1=wr.alloc (.cells #[.int .i64 (hv k).x,.int .i64 (hv k).y] 50):=⟨_,rfl⟩;have TJ:Below wr.heap.size wr W1:=(by rw[UY];exact(Below.refl _ wr).alloc (XU _) _);have hJ1:=hJ _ C _ _ Jw TJ;have Xm:∀b,Sx b->W1.heap[b]? =w.heap[b]?:=λb hb=>(TJ.block b ((hS _ C wr Jw b).2 hb).1).trans (My b hb);have UR:=hM (a:=⟨B2,o2,none⟩) Xm Xt Xl;rw[UY]at UR;obtain⟨B0,Wl⟩:∃B0,B0=wr.heap.size:=⟨_,rfl⟩
   gi_wp2
   rw[<-Wl]
   gi_loopw [16] (λi w2=>∃j C,j<=m/\i= .int .i64 (j:Nat)/\J (k*m+j) C w2/\(∀b,Sx b->w2.heap[b]? =w.heap[b]?)/\¬C B0/\B0<w2.heap.size/\w2.heap[B0]? =some (.cells #[.int .i64 (hv k).x,.int .i64 (hv k).y] 50))
    (λi _=>m-(RowKit.intOf i).toNat)
   case atStart=>
    rw[<-UY];exact⟨0,C,XR _,rfl,hJ1,Xm,λq=>absurd ((hS _ C wr Jw _).1 q) (by omega),by rw[UY,Wl];simp,by rw[UY,Wl];exact World.alloc_heap_new wr _⟩
   case round=>
    clear Wl;obtain⟨j,C2,hj,rfl,WU,PF,hC2,SP,UQ⟩:=hrel;by_cases Mz:j<m
    ·have gcx:=hM (a:=⟨b2,f2+j*2,none⟩) PF Xr (gx j Mz);have gcy:=hM (a:=⟨b2,f2+j*2+1,none⟩) PF Xr (gy j Mz);obtain⟨W2,WT⟩:∃W2,W2=wr.alloc (.cells #[.int .i64 (gv j).x,.int .i64 (gv j).y] 50):=⟨_,rfl⟩;have Wh:Below wr.heap.size wr W2:=(by rw[WT];exact(Below.refl _ wr).alloc (XU _) _);have own:W2.heap[B0]? =some (.cells #[.int .i64 (hv k).x,.int .i64 (hv k).y] 50):=(by rw[Wh.block _ SP,UQ]);have oc0:W2.cell? ⟨B0,0,none⟩=some (.int .i64 (hv k).x):=(by simp[World.cell?,own]);have oc1:W2.cell? ⟨B0,1,none⟩=some (.int .i64 (hv k).y):=(by simp[World.cell?,own]);rw[WT]at oc0 oc1
     gi_wp2
     rw[<-WT];refine⟨trivial,rfl,(Ts (hv k) (gv j) W2).mono ?_⟩;rintro e W3 ⟨rfl,Xq⟩;have PI:Below wr.heap.size wr W3:=⟨Wh.toBelow.trans (Xq.toBelow.mono Wh.size),Yg Wh.drawn Xq.drawn⟩;have U2:=hJ _ C2 _ _ WU PI;obtain⟨fn,tmps,assign,body,hyy,hR⟩:=hY (k*m+j) C2 (.agg #[.int .i64 (mO (hv k) (gv j)).x,.int .i64 (mO (hv k) (gv j)).y]) W3 (by rw[MN Ju Mz,WO]) U2
     gi_wp2
     refine⟨rfl,hR.mono ?_⟩;rintro e W4 (⟨rfl,C',U1,Xk,UT⟩|⟨rfl,MD⟩)
     ·gi_wp2
      go_roundw
      case rel=>
       have JY:∀b,b<wr.heap.size->¬C2 b->¬C' b/\W4.heap[b]? =wr.heap[b]?:=λb q1 q2=>by obtain⟨r1,r2⟩:=UT b (Yc q1 PI.size) q2;exact⟨r1,r2.trans (PI.block b q1)⟩
       obtain⟨p1,p2⟩:=JY B0 SP hC2;refine⟨j+1,C',by omega,?_,U1,λb hb=>?_,p1,Yc SP (Yg PI.size Xk),p2.trans UQ⟩;rw[z1 Mz hm];obtain⟨q1,q2⟩:=(hS _ C2 wr WU b).2 hb;exact(JY b q1 q2).2.trans (PF b hb)
      case measure=>
       exact y9 Mz hm
     ·gi_wp2
      refine bodyPost_ret (results_none rfl _ _ _) rfl ?_;exact⟨⟨_,rfl⟩,.inr MD⟩
    ·obtain rfl:j=m:=by omega
     gi_wp2
     go_roundw
     case rel=>
      exact⟨k+1,C2,Ju,by rw[z1 Ju hn],by rw[aak];exact WU,PF⟩
     case measure=>
      exact y9 Ju hn
  ·obtain rfl:k=n:=by omega
   gi_wp2
   go_end0
   exact⟨⟨_,rfl⟩,.inl ⟨C,by rw[ky];exact Jw⟩⟩
theorem vj (l:LV):l=(List.range l.length).map (gt l):=by
 apply Z7;simp;intro i a b;simp[gt,List.getD,a]
theorem zZ {S:Nat->Prop} {w:World} {α:Type} (f:α->List Value) (g:α->List DV):∀l:List α,(∀x∈l,dA S w (f x) (g x))->dA S w (l.flatMap f) (l.flatMap g)
 |[],_=> .nil
 |x::l,h=>(h x (by simp)).append (zZ f g l (λy a=>h y (by simp[a])))
theorem Rf {S:Nat->Prop} {w:World} (v:V2):lU S w (.agg #[.int .i64 v.x,.int .i64 v.y]) (vD v):=⟨[_,_],rfl,.cons (.v rfl) (.cons (.v rfl) .nil)⟩
theorem Iu (l:LV) (F:0<l.length):zX Tryz.prog 212 (cells 1 λ_=> .ad 1 λ_=>aN l) (l.map λv=>vD v):=by
 refine⟨⟨_,Tryz.func212,rfl,rfl⟩,λw S G H m=>?_⟩;cases m with
 |cons o p=>
  cases p;obtain⟨q,r,xs,rfl,t,u,x⟩:=Rd.mD o;have g:=u 0 (by omega);have y:Rd S w (xs 0) (aN l):=x 0 (by omega);rw[YG]at g;rcases Rd.nV y with⟨e,z⟩|⟨a,cap,e,z⟩|⟨b,A,cap,h,e,B,C,D,j,k⟩;omega;omega
  ·refine⟨(List.range l.length).map λi=> .agg #[.int .i64 (gt l i).x,.int .i64 (gt l i).y],?_,Oi q r l.length b A cap (gt l) S B t (Yg C D) w (by rw[<-e];exact g) (λi c=>?_) (λi c=>?_)⟩
   ·have E:(l.map λv=>vD v)=(List.range l.length).map λi=>vD (gt l i):=by
     conv=>lhs;rw[vj l,Yp]
     rfl
    rw[E];exact r0 _ _ _ (λi _=>Rf _)
   ·have f:=j i c 0 (by omega);rw[(Rd.bT (show Rd S w (h i 0) (i64 (gt l i).x) from k i c 0 (by omega))).1]at f;exact f
   ·have f:=j i c 1 (by omega);rw[(Rd.bT (show Rd S w (h i 1) (i64 (gt l i).y) from k i c 1 (by omega))).1]at f;exact f
def jy (r s:LV):LV:=r.flatMap λa=>s.map (mO a)
abbrev Vg (r s:LV):Nat->SV:=λj=>match j with
 |0=> .ad 1 λ_=>aN r
 |_=> .ad 1 λ_=>aN s
theorem yF (r s:LV) (y:0<r.length) (g:0<s.length):zX Tryz.prog 169 (cells 2 (Vg r s)) ((jy r s).map λv=>vD v):=by
 refine⟨⟨_,Tryz.func169,rfl,rfl⟩,λw S b3 b4 z=>?_⟩;have one:∀{x:Value} {l:LV},0<l.length->Rd S w x (.ad 1 λ_=>aN l)->∃(B o b f c:Nat),x= .pointer (some ⟨B,o,none⟩)/\S B/\S b/\l.length<=maxLen/\w.cell? ⟨B,o,none⟩=some (.slice (some ⟨b,f,none⟩) l.length c)/\
   (∀i,i<l.length->w.cell? ⟨b,f+i*2,none⟩=some (.int .i64 (gt l i).x))/\∀i,i<l.length->w.cell? ⟨b,f+i*2+1,none⟩=some (.int .i64 (gt l i).y):=by
  intro x l hl k;obtain⟨A,C,xs,rfl,D,E,F⟩:=Rd.mD k;have p:=E 0 (by omega);have G:Rd S w (xs 0) (aN l):=F 0 (by omega);rw[YG]at p;rcases Rd.nV G with⟨e,H⟩|⟨a,cap,e,H⟩|⟨b,I,cap,q,e,J,K,M,t,u⟩;omega;omega;refine⟨A,C,b,I,cap,rfl,D,J,Yg K M,by rw[<-e];exact p,λi h=>?_,λi h=>?_⟩;have g:=t i h 0 (by omega);rw[(Rd.bT (show Rd S w (q i 0) (i64 (gt l i).x) from u i h 0 (by omega))).1]at g;exact g;have g:=t i h 1 (by omega);rw[(Rd.bT (show Rd S w (q i 1) (i64 (gt l i).y) from u i h 1 (by omega))).1]at g;exact g
 cases z with
 |cons k m=>
  cases m with
  |cons N m=>
   cases m;obtain⟨O,P,Q,R,T,rfl,U,V,X,Y,Z,a0⟩:=one (l:=r) y k;obtain⟨a1,a2,a3,a4,a5,rfl,a6,a7,a8,a9,b0,b1⟩:=one (l:=s) g N;refine⟨_,?_,Ox O P a1 a2 r.length s.length Q R T a3 a4 a5 (gt r) (gt s) S V a7 U a6 X a8 w Y a9 Z a0 b0 b1 _ rfl⟩;have b2:((jy r s).map λv=>vD v)=(List.range r.length).flatMap λi=>(List.range s.length).map λj=>vD (mO (gt r i) (gt s j)):=by
    unfold jy;rw[List.map_flatMap]
    conv=>lhs;rw[vj r,List.flatMap_map]
    refine XT (λf=>(List.range r.length).flatMap f) (funext λi=>?_);rw[Yp]
    conv=>lhs;rw[vj s,Yp]
    rfl
   rw[b2];exact zZ _ _ _ (λi _=>r0 _ _ _ (λj _=>Rf _))
variable {k:Nat}
theorem QG {xs:LV} {x:DV} (h:(xs.map λv=>vD v)[k]? =some x):k<xs.length/\x=vD (gt xs k):=by
 rw[ZA]at h;cases a:xs[k]? with
 |none=>rw[a]at h;cases h
 |some r=>rw[a]at h;cases h;have:=(Ye.1 a).1;exact⟨this,by simp[gt,List.getD,a]⟩
theorem oC (xs:LV) (h:k<xs.length:=by omega):xs.take (k+1)=xs.take k++[gt xs k]:=by
 rw[YL];simp[gt,List.getD,XY h]
section
variable (xs:LV) (hl:xs.length<=10000) {g n:Nat} {cap:Nat->SV} (UU:zX Tryz.prog g (cells n cap) (xs.map λv=>vD v))
include hl UU
theorem F1:DP 168 [.one (.v Fe),.one (.fn g n cap)] (.d (.one (aN xs))):=by
 refine dg Tryz.func168 [] ?_;refine hD.Tq (λ_=>[(2,.ptr 2 0)]) (λk=>[(2,.obj [.aJ 500 0]),(500,.aL 0 (xs.take k).length 2 50 (vG (xs.take k)))]) (λ_=>True)
  rfl UU rfl (by decide) (by kernel_rfl) (λ_=>rfl)
  (aG.q8 2 0 500 2 50 (vG []) _ _ rfl rfl rfl rfl (aG.next (.cons (.obj (.cons (.aJ (by intro q;cases q) rfl rfl) .nil)) (.cons (.aR rfl (λi a _ _=>absurd a (XO _))) .nil)) (.cons (.ptr (by intro q;cases q)) .nil) trivial)) (λk x c _=>?_) (λ_=>?_)
 ·obtain⟨f,rfl⟩:=QG c;have e:=oC xs f;refine ak.mk (aS (by rw[Yj];omega)) ?_;exact aG.next (.cons (.obj (.cons (.aJ (by intro q;cases q) rfl rfl) .nil)) (.cons (.aR (by rw[e,XQ];rfl) (λi a j b=>by rw[e];exact gP _ (gt xs k) i j a b)) .nil)) (.cons (.ptr (by intro q;cases q)) .nil) trivial
 ·have e:xs.take (xs.map λv=>vD v).length=xs:=Zi (by simp);exact Fin.one (aD.pQ (by rw[e]) (λi a j b=>by rw[e];exact aD.refl _))
theorem D9:lT Tryz.prog 168 [.d (.one (.v Fe)),.d (.one (.fn g n cap))] [] (.aJ (.n 3000) 0) [] (.aL 0 xs.length 2 50 (vG xs)):=by
 refine cF je mixed Tryz.func168 rfl rfl [] (XI rfl) (XI rfl) (fe rfl) ?_;refine hD.Tq (λ_=>[(2,.ptr 2 0)]) (λk=>[(2,.obj [.aJ 500 0]),(500,.aL 0 (xs.take k).length 2 50 (vG (xs.take k)))]) (λ_=>True)
  rfl UU rfl (by decide) (by kernel_rfl) (λ_=>rfl)
  (aG.q8 2 0 500 2 50 (vG []) _ _ rfl rfl rfl rfl (aG.next (.cons (.obj (.cons (.aJ (by intro q;cases q) rfl rfl) .nil)) (.cons (.aR rfl (λi a _ _=>absurd a (XO _))) .nil)) (.cons (.ptr (by intro q;cases q)) .nil) trivial)) (λk x c _=>?_) (λ_=>?_)
 ·obtain⟨f,rfl⟩:=QG c;have e:=oC xs f;refine ak.mk (aS (by rw[Yj];omega)) ?_;exact aG.next (.cons (.obj (.cons (.aJ (by intro q;cases q) rfl rfl) .nil)) (.cons (.aR (by rw[e,XQ];rfl) (λi a j b=>by rw[e];exact gP _ (gt xs k) i j a b)) .nil)) (.cons (.ptr (by intro q;cases q)) .nil) trivial
 ·have e:xs.take (xs.map λv=>vD v).length=xs:=Zi (by simp);exact ke.mk ⟨.n 500,.one (.aJ rfl rfl rfl),.nil _,.inr ⟨.aR (by rw[e]) (λh=>absurd h (by decide)) (λi a j b=>by rw[e];exact aD.refl _),rfl⟩⟩
theorem uc:DP 100 [.one (.fn g n cap)] (.d (.one (aN xs))):=by
 refine dg Tryz.func100 [] ?_;refine ai.mk' (F1 xs hl UU) ?_;exact Fin.one (aD.refl _)
theorem BA:lT Tryz.prog 100 [.d (.one (.fn g n cap))] [] (.aJ (.n 3000) 0) [] (.aL 0 xs.length 2 50 (vG xs)):=by
 refine cF je mixed Tryz.func100 rfl rfl [168+2000000] (XI rfl) (XI rfl) (fe rfl) ?_;refine fp.mk' [] (D9 xs hl UU) ⟨.nil,.cD (.cD .nil),rfl,rfl,λ_=>rfl⟩ ?_;refine ke.mk ⟨_,.one (.aJ rfl rfl rfl),.nil _,.inr ⟨.aR rfl (λh=>absurd h (by decide)) (λi a j b=>aD.refl _),rfl⟩⟩
end
theorem Es (l:LV):DP 162 [.one (aN l)] (.d (.one (.fn 212 1 λ_=> .ad 1 λ_=>aN l))):=by
 refine dg Tryz.func162 [] ?_;refine Fin.one (aD.fn (λj a=>?_))
 match j,a with
 |0,_=>exact aD.ad (λi b=>match i,b with
  |0,_=>aD.refl _)
theorem yE (r s:LV):DP 101 [.one (aN r),.one (aN s)] (.d (.one (.fn 169 2 (Vg r s)))):=by
 refine dg Tryz.func101 [] ?_;refine Fin.one (aD.fn (λj b=>?_))
 match j,b with
 |0,_=>exact aD.ad (λi a=>match i,a with
  |0,_=>aD.refl _)
 |1,_=>exact aD.ad (λi a=>match i,a with
  |0,_=>aD.refl _)
end Sg
end Go.Vm
namespace Go.Vm
open Go Go.RowKit Go.Proofs
namespace Sg
def lN (l:LV):Nat->LV
 |0=>[]
 |m+1=>if m≠0/\gt l m=gt l (m-1)then lN l m else lN l m++[gt l m]
def FT (l:LV):LV:=lN l l.length
theorem H7 (l:LV):∀m,(lN l m).length<=m
 |0=>XU _
 |m+1=>by have:=H7 l m;rw[lN];split;omega;rw[XQ];simp;omega
theorem xC (l:LV):∀m,m<=l.length->(∀i,1<=i->i<m->gt l i≠gt l (i-1))->lN l m=l.take m
 |0,_,_=>by simp[lN]
 |m+1,b,h=>by rw[lN,xC l m (by omega) (λi a c=>h i a (by omega)),oC l];rw[XG (λq=>h m (by omega) (by omega) q.2)]
def yt (l:LV) (m:Nat):LV:=lN l m++l.drop (lN l m).length
variable {i m:Nat}
theorem BD (l:LV) (h:(lN l m).length<=i:=by omega):gt (yt l m) i=gt l i:=by
 unfold yt;obtain⟨d,rfl⟩:∃d,i=(lN l m).length+d:=⟨i-(lN l m).length,by omega⟩;rw[mE];simp[gt,List.getD]
theorem BC (l:LV) (h:i<(lN l m).length:=by omega):gt (yt l m) i=gt (lN l m) i:=by
 unfold yt;rw[jc h]
theorem Qc (l:LV) (b:m<l.length) (h:¬(m≠0/\gt l m=gt l (m-1))) (i:Nat):gt (yt l (m+1)) i=if i=(lN l m).length then gt l m else gt (yt l m) i:=by
 have e:lN l (m+1)=lN l m++[gt l m]:=by rw[lN,XG h]
 have f:(lN l (m+1)).length=(lN l m).length+1:=by rw[e,XQ];rfl
 by_cases c:i<(lN l m).length;rw[iN,BC l,BC l c,e,jc c];by_cases a:i=(lN l m).length;rw[XL a,BC l,e,a];have:=mE (lN l m) [gt l m] 0;rw[YG]at this;rw[this];rfl;rw[XG a,BD l,BD l]
theorem DR (l:LV) (h:m≠0/\gt l m=gt l (m-1)):lN l (m+1)=lN l m/\yt l (m+1)=yt l m:=by
 have e:lN l (m+1)=lN l m:=by rw[lN,XL h]
 exact⟨e,by unfold yt;rw[e]⟩
theorem By (l:LV) (Y:2<=l.length:=by omega) (Z:l.length<=10000:=by omega):lT Tryz.prog 164 [.aJ (.n 2000) 1] [.aL 1 l.length 2 50 (vG l)] (.aJ (.n 2000) 3) [.aL 3 (FT l).length 2 50 (vG (FT l))] .none:=by
 refine cF je mixed Tryz.func164 rfl rfl [3,17] (XI rfl) (XI rfl) (fe rfl) ?_;have M:(∀i,1<=i->i<l.length->gt l i≠gt l (i-1))->FT l=l:=λh=>by unfold FT;rw[xC l _ (XU _) h,YX]
 refine af.fh (dF) ?_;refine Loop.by (α:=Nat) (λk=>[(0,.aJ (.n 2000) 1),(3,au k)]) (λ_=>[((2000:Id),.aL 1 l.length 2 50 (vG l))]) (λk=>1<=k/\k<=l.length/\∀i,1<=i->i<k->gt l i≠gt l (i-1)) (λk=>l.length-k)
  (aG.at 1 ⟨XU _,by omega,λi t u=>absurd u (by omega)⟩ (.cons (.aR rfl (λ_ _ _ _=>aD.refl _)) .nil) (.cH (.cS .nil))) (λk w=>?_)
 obtain⟨a0,w,g⟩:=w;apply af.mk<;>intro y
 ·have a1:k<l.length:=(by have:=XA y;omega);have z:IntKind.i64.wrap ((k:Int)-1)=((k-1:Nat):Int):=(by rw[hw _];omega);refine ak.o ?_;refine ak.mk (by rw[z];omega) ?_;refine rY.v (gt l k) (gt l (IntKind.i64.wrap ((k:Int)-1)).toNat) (λe o=>?_);refine ak.n ?_;rw[z]at o;apply af.mk<;>intro p
  ·have N:k≠0/\gt l k=gt l (k-1):=⟨by omega,o.1 p⟩;have A:lN l k=l.take k:=xC l k (by omega) g;obtain⟨O,P⟩:=DR l N;have B:(lN l (k+1)).length=k:=(by rw[O,A,Yj];omega);have Q:yt l (k+1)=l:=(by rw[P];unfold yt;rw[A,Yj,abi (by omega),ZJ]);refine ak.o ?_;refine fm.l ?_;refine Loop.by (α:=Nat) (λj=>[(0,.aJ (.n 2000) 1),(3,au (lN l (k+j)).length),(4,.sub (.n 2000) 1 (0+k) (l.length-k)),(5,au j)]) (λj=>[((2000:Id),.aL 1 l.length 2 50 (vG (yt l (k+j))))]) (λj=>1<=j/\k+j<=l.length/\(lN l (k+j)).length+1<=k+j) (λj=>l.length-j)
    (aG.at 1 ⟨XU _,by omega,by rw[B];omega⟩ (.cons (.aR rfl (λi a j b=>by rw[Q];exact aD.refl _)) .nil) (.cH (.cons (ar.int (by rw[B])) (.cons (.sub rfl rfl) (.cS .nil))))) (λj b=>?_)
   obtain⟨a2,b,a3⟩:=b;apply af.mk<;>intro C
   ·have R:k+j<l.length:=(by have:=XA C;omega);have D:IntKind.i64.wrap ((j:Int)-1)=((j-1:Nat):Int):=(by rw[hw _];omega);have E:IntKind.i64.wrap ((j:Int)+1)=((j+1:Nat):Int):=(by rw[hw _];omega);refine ak.o ?_;refine ak.mk (by rw[D];omega) ?_;refine rY.v (gt (yt l (k+j)) (0+k+j)) (gt (yt l (k+j)) (0+k+(IntKind.i64.wrap ((j:Int)-1)).toNat)) (λS r=>?_);refine ak.n ?_;have F:gt (yt l (k+j)) (0+k+j)=gt l (k+j):=(by rw[BD l,Ya]);have T:gt (yt l (k+j)) (0+k+(IntKind.i64.wrap ((j:Int)-1)).toNat)=gt l (k+j-1):=(by rw[D,Yi,BD l];congr 1;omega);rw[F,T]at r;cases S with
    |true=>
     obtain⟨G,U⟩:=DR l (m:=k+j) ⟨by omega,r.1 rfl⟩;repeat' first|apply af.t|apply af.f
     refine aG.back (x:=j) (j+1) ⟨by omega,by omega,by rw[<-YE,G];omega⟩ (by omega) (.cons (.aR rfl (λi a c f=>by rw[<-YE,U];exact aD.refl _)) .nil) (.cH (.cons (ar.int (by rw[<-YE,G])) (.cons (.sub rfl rfl) (.cons (ar.int E) .nil))))
    |false=>
     have H:¬(k+j≠0/\gt l (k+j)=gt l (k+j-1)):=λq=>by have:=r.2 q.2;cases this
     have I:(lN l (k+j+1)).length=(lN l (k+j)).length+1:=(by rw[lN,XG H,XQ];rfl);repeat' first|apply af.t|apply af.f
     refine ak.o ?_;refine ak.o ?_;refine aG.back (x:=j) (j+1) ⟨by omega,by omega,by rw[<-YE,I];omega⟩ (by omega) (.cons (.aR rfl (λi a c f=>?_)) .nil) (.cH (.cons (ar.int (by rw[<-YE,I,hw _];omega)) (.cons (.sub rfl rfl) (.cons (ar.int E) .nil))));have J:=Qc l R H i;refine aD.put (by exact f) (λq=>aD.Rv f ?_) (λq=>aD.of_eq (fb ?_ c));rw[Yi]at q;show gt (yt l (k+j)) (0+k+j)=gt (yt l (k+(j+1))) i;rw[<-YE,J,XL q,F];rw[Yi]at q;show gt (yt l (k+j)) i=gt (yt l (k+(j+1))) i;rw[<-YE,J,XG q]
   ·have K:k+j=l.length:=(by have:=XB C;omega);have a4:(lN l (k+j)).length<=l.length:=(by omega);refine ak.o ?_;refine fm.l ?_;refine ak.o ?_;refine fm.r ⟨rfl,?_⟩;refine ke.mk ⟨.n 0,.one (.aJ rfl rfl rfl),.cons (.aR ?_ (λh=>absurd h (by decide)) (λi a c f=>?_)) (.nil _),.inl rfl⟩;rw[Yi,K];rfl;rw[Yi]at a|-;rw[zN,YN,ZG];refine aD.of_eq (fb ?_ c);show gt (yt l (k+j)) i=gt (FT l) i;rw[BC l a,K];rfl
  ·have V:gt l k≠gt l (k-1):=λq=>by rw[o.2 q]at p;cases p
   refine aG.back (x:=k) (k+1) ⟨by omega,by omega,λi t u=>?_⟩ (by omega) (.cons (.aR rfl (λ_ _ _ _=>aD.refl _)) .nil) (.cH (.cons (ar.int (by rw[hw _];omega)) .nil));by_cases q:i=k;rw[q];exact V;exact g i t (by omega)
 ·have X:k=l.length:=(by have:=XB y;omega);subst X;have e:=M g;refine Cut.mk (aG.ic [(0,.aJ 2000 3)] [((2000:Id),.aL 3 l.length 2 50 (vG l))] (.cons (.aR rfl (λ_ _ _ _=>aD.refl _)) .nil) (.cH .nil) ?_);exact ke.mk ⟨.n 0,.one (.aJ rfl rfl rfl),.cons (.aR (by rw[e]) (λh=>absurd h (by decide)) (λi a j b=>by rw[e];exact aD.refl _)) (.nil _),.inl rfl⟩
def Mi:Go.Shelf.Ren:=⟨λ|6=>211|15=>96|14=>233|28=>159|29=>160|20=>234|21=>250|22=>251|23=>252|24=>253|25=>254|26=>255|27=>256|46=>261|47=>207|48=>208|49=>262|50=>263|57=>266|n=>n,λ|22=>41|24=>50|25=>140|3=>3|39=>145|0=>0|53=>194|55=>196|4=>4|46=>188|45=>187|50=>86|5=>5|9=>9|66=>227|70=>231|76=>245|77=>80|n=>n,λ|n=>n⟩
theorem WM:Go.Proofs.SlLaysF0.n6 Tryz.prog Mi:={
 mixed:=by kernel_rfl
 f6:=⟨Tryz.f211.name,by decide,Tryz.func211.trans (XT some (by kernel_rfl))⟩
 f14:=⟨Tryz.f233.name,by decide,Tryz.func233.trans (XT some (by kernel_rfl))⟩
 f15:=Tryz.func96.trans (XT some (by kernel_rfl))
 f20:=⟨Tryz.f234.name,by decide,Tryz.func234.trans (XT some (by kernel_rfl))⟩
 f21:=⟨Tryz.f250.name,by decide,Tryz.func250.trans (XT some (by kernel_rfl))⟩
 f22:=⟨Tryz.f251.name,by decide,Tryz.func251.trans (XT some (by kernel_rfl))⟩
 f23:=⟨Tryz.f252.name,by decide,Tryz.func252.trans (XT some (by kernel_rfl))⟩
 f24:=⟨Tryz.f253.name,by decide,Tryz.func253.trans (XT some (by kernel_rfl))⟩
 f25:=⟨Tryz.f254.name,by decide,Tryz.func254.trans (XT some (by kernel_rfl))⟩
 f26:=⟨Tryz.f255.name,by decide,Tryz.func255.trans (XT some (by kernel_rfl))⟩
 f27:=⟨Tryz.f256.name,by decide,Tryz.func256.trans (XT some (by kernel_rfl))⟩
 f28:=Tryz.func159.trans (XT some (by kernel_rfl))
 f29:=Tryz.func160.trans (XT some (by kernel_rfl))
 f46:=⟨Tryz.f261.name,by decide,Tryz.func261.trans (XT some (by kernel_rfl))⟩
 f47:=Tryz.func207.trans (XT some (by kernel_rfl))
 f48:=Tryz.func208.trans (XT some (by kernel_rfl))
 f49:=⟨Tryz.f262.name,by decide,Tryz.func262.trans (XT some (by kernel_rfl))⟩
 f50:=⟨Tryz.f263.name,by decide,Tryz.func263.trans (XT some (by kernel_rfl))⟩
 f57:=⟨Tryz.f266.name,by decide,Tryz.func266.trans (XT some (by kernel_rfl))⟩
 t0:=Tryz.underlying0
 a0:=Tryz.isAgg0
 z0:=Tryz.sizeOf0
 v0:=Tryz.zeroValue0
 t3:=Tryz.underlying3
 a3:=Tryz.isAgg3
 z3:=Tryz.sizeOf3
 v3:=Tryz.zeroValue3
 t4:=Tryz.underlying4
 a4:=Tryz.isAgg4
 z4:=Tryz.sizeOf4
 v4:=Tryz.zeroValue4
 t5:=Tryz.underlying5
 a5:=Tryz.isAgg5
 z5:=Tryz.sizeOf5
 v5:=Tryz.zeroValue5
 t9:=Tryz.underlying9
 a9:=Tryz.isAgg9
 z9:=Tryz.sizeOf9
 v9:=Tryz.zeroValue9
 t22:=Tryz.underlying41
 a22:=Tryz.isAgg41
 z22:=Tryz.sizeOf41
 v22:=Tryz.zeroValue41
 t25:=Tryz.underlying140
 a25:=Tryz.isAgg140
 z25:=Tryz.sizeOf140
 v25:=Tryz.zeroValue140
 t39:=Tryz.underlying145
 a39:=Tryz.isAgg145
 z39:=Tryz.sizeOf145
 v39:=Tryz.zeroValue145
 t45:=Tryz.underlying187
 a45:=Tryz.isAgg187
 z45:=Tryz.sizeOf187
 v45:=Tryz.zeroValue187
 t46:=Tryz.underlying188
 a46:=Tryz.isAgg188
 z46:=Tryz.sizeOf188
 v46:=Tryz.zeroValue188
 t50:=Tryz.underlying86
 a50:=Tryz.isAgg86
 z50:=Tryz.sizeOf86
 v50:=Tryz.zeroValue86
 t53:=Tryz.underlying194
 a53:=Tryz.isAgg194
 z53:=Tryz.sizeOf194
 v53:=Tryz.zeroValue194
 t55:=Tryz.underlying196
 a55:=Tryz.isAgg196
 z55:=Tryz.sizeOf196
 v55:=Tryz.zeroValue196
 t66:=Tryz.underlying227
 a66:=Tryz.isAgg227
 z66:=Tryz.sizeOf227
 v66:=Tryz.zeroValue227
 t70:=Tryz.underlying231
 a70:=Tryz.isAgg231
 z70:=Tryz.sizeOf231
 v70:=Tryz.zeroValue231
 t76:=Tryz.underlying245
 a76:=Tryz.isAgg245
 z76:=Tryz.sizeOf245
 v76:=Tryz.zeroValue245
 t77:=Tryz.underlying80
 a77:=Tryz.isAgg80
 z77:=Tryz.sizeOf80
 v77:=Tryz.zeroValue80}
def JH (a b:V2):Int:=Sm (uL a.x b.x) (uL a.y b.y)
theorem BB {a b:V2}:JH a b<0↔a.x<b.x\/(a.x=b.x/\a.y<b.y):=by
 unfold JH Sm uL;repeat' split
 all_goals omega
theorem MC (a b:V2):DP 163 [vD a,vD b] (au (JH a b)):=by
 refine dg Tryz.func163 [] ?_;refine ai.int (mM _ _) (λp c=>?_);refine ai.int (mM _ _) (λq f=>?_);refine ai.int (E3 p q _ rfl rfl) (λr g=>?_);refine ak.n ?_;refine Fin.int ?_;rw[g,c,f];rfl
def TM (l:LV) (i j:Nat):Int:=JH (gt l i) (gt l j)
theorem BG (l:LV):nh l.length (TM l):=by
 refine⟨λi _ h=>?_,λi j k _ _ _ a b=>?_,λi j k _ _ _ a b c=>?_⟩<;>unfold TM at* <;>rw[BB]at* <;>omega
def nq (l:LV):LV:=(List.range l.length).map λi=>gt l (tH l.length (TM l) i)
theorem v8 (l:LV):(nq l).length=l.length:=by simp[nq]
theorem ID (l:LV):(nq l).Perm l:=by
 have h:=(jl (BG l)).1.map (gt l);rw[Yp]at h
 conv=>rhs;rw[vj l]
 exact h
theorem Kz (l:LV) {i j:Nat} (b:i<j) (a:j<l.length):¬JH (gt (nq l) j) (gt (nq l) i)<0:=by
 have:=(jl (BG l)).2 i j b a;unfold TM at this;have e:∀i,i<l.length->gt (nq l) i=gt l (tH l.length (TM l) i):=λi c=>by simp[nq,gt,List.getD,c]
 rw[e j a,e i (by omega)];exact this
theorem Cd (l:LV) (b:0<l.length:=by omega) (c:l.length<=10000:=by omega):lT Tryz.prog 161 [.d (.one (.fn 212 1 λ_=> .ad 1 λ_=>aN l)),.d (.one (.fn 163 0 λ_=> .v Go.undef))] [] (.aJ (.n 3000) 0) []
  (.aL 0 (nq l).length 2 50 (vG (nq l))):=by
 refine cF je mixed Tryz.func161 rfl rfl [100+2000000,9000010] (XI rfl) (XI rfl) (fe rfl) ?_;refine fp.mk' [] (BA l c (Iu l b)) ⟨.nil,.cD .nil,rfl,rfl,λ_=>rfl⟩ ?_;refine BN.mk' (EH (cv:= .s (.fn 163 0 λ_=> .v Go.undef)) (ks:=[]) (cf:=TM l) (k:=2) (n:=l.length) (get:=vG l) rfl rfl rfl WM rfl (enters_of Tryz.func211 rfl) (by decide) Tryz.isAgg50 Tryz.sizeOf50 rfl rfl rfl rfl (.s _) (by simp) (BG l) (by omega) (λi j a f=>MC (gt l i) (gt l j))) ?_;exact ke.mk ⟨_,.one (.aJ rfl rfl rfl),.nil _,.inr ⟨.aR (v8 l).symm (λh=>absurd h (by decide)) (λi a j f=>aD.of_eq (fb (by simp[nq,List.getD,a]) j)),rfl⟩⟩
theorem IQ (l:LV) (o:l.length<=10000:=by omega):lT Tryz.prog 166 [.aJ (.n 2000) 1] [.aL 1 l.length 2 50 (vG l)] (.eD []) [.aL 1 l.length 2 50 (vG l.reverse)] .none:=by
 refine cF je mixed Tryz.func166 rfl rfl [] (XI rfl) (XI rfl) (fe rfl) ?_;refine Loop.by (α:=Nat) (λk=>[(0,.aJ (.n 2000) 1),(2,au (k:Int)),(3,au ((l.length:Int)-1-k))]) (λk=>[(.n 2000,.aL 1 l.length 2 50 (vG (Sd l k)))]) (λk=>2*k<=l.length) (λk=>l.length-2*k)
  (aG.at 0 (by omega) (.cons (.aL (λi a j b=>aD.of_eq (fb ?_ j))) .nil) (.cH (.cS (.cons (ar.int ?_) .nil)))) (λk p=>?_)
 ·rw[km _ _ _ a,iN]
 ·rw[hw _];omega
 apply af.mk<;>intro h
 ·have q:(k:Int)<(l.length:Int)-1-k:=(by simpa using h);refine ak.o ?_;refine ak.o ?_;refine ak.o ?_;refine ak.o ?_;refine ak.n ?_;refine aG.back (x:=k) (k+1) (by omega) (by omega) (.cons (.aL (λi a j b=>?_)) .nil) (.cH (.cons (ar.int ?_) (.cons (ar.int ?_) .nil)));have g:((l.length:Int)-1-k).toNat=l.length-1-k:=(by omega);have m:((k:Int)).toNat=k:=(by omega);refine aD.put (by exact b) (λe=>aD.Rv b ?_) (λe=>aD.put (by exact b) (λf=>aD.Rv b ?_) (λf=>aD.of_eq (fb ?_ j)));rw[g]at e;rw[e,m,km _ _ _,km _ _ _,iN,iP];congr 1;omega;rw[m]at f;rw[f,g,km _ _ _,km _ _ _,iN,iP];rw[g]at e;rw[m]at f;rw[km _ _ _ a,km _ _ _ a];by_cases c:i<k\/l.length-k<=i;rw[XL c,iP];rw[XG c,iN];rw[hw _];omega;rw[hw _];omega
 ·have r:¬(k:Int)<(l.length:Int)-1-k:=(by simpa using h);refine ke.mk ⟨.n 0,.none,.cons (.aL (λh=>h) (λi a j b=>aD.of_eq (fb ?_ j))) (.nil _),.inl rfl⟩;rw[km _ _ _ a,rB _ _ a];by_cases c:i<k\/l.length-k<=i;rw[XL c];rw[XG c];congr 1;omega
def mr (p:V2):LV->LV
 |b::a::r=>if ct a b p<=0 then mr p (a::r)else b::a::r
 |l=>l
def gG (st:LV):LV->LV
 |[]=>st
 |p::a=>gG (p::mr p st) a
theorem zE:∀(ps st:LV) (p:V2),gG st (ps++[p])=p::mr p (gG st ps)
 |[],_,_=>rfl
 |q::ps,st,p=>zE ps (q::mr q st) p
theorem CF (p:V2):∀c:LV,(mr p c).length<=c.length
 |[]=>XU _
 |[_]=>by simp[mr]
 |b::a::r=>by unfold mr;split;have:=CF p (a::r);simp only[XV]at this|-;omega;exact XU _
theorem HF (b:V2) (r:LV):gt (b::r).reverse r.length=b:=by
 rw[aab];have:=mE r.reverse [b] 0;rw[Z5,YG]at this;rw[this];rfl
theorem PJ (b a:V2) (r:LV):gt (b::a::r).reverse r.length=a:=by
 rw[aab,jc (by simp),HF]
theorem HE (b:V2) (r:LV) {i:Nat} (h:i<r.length):gt (b::r).reverse i=gt r.reverse i:=by
 rw[aab,jc (by simpa using h)]
theorem FA (l:LV) (o:l.length<=10000) (h:0<l.length):DP 167 [.one (aN l)] (.d (.one (aN (bC l)))):=by
 refine dg Tryz.func167 [] ?_;refine Loop.by (α:=Nat) (λi=>[(0,.d (.one (aN l))),(3,au (lk l i)),(6,.d (.one (aN l))),(7,au l.length),(8,au i)]) (λ_=>[]) (λi=>i<=l.length) (λi=>l.length-i)
  (aG.at 0 (XR _) .nil (.cS (.cS (.cS (.cS (.cS .nil)))))) (λi k=>?_)
 have p:=Ra l i;apply af.mk<;>intro c
 ·have q:i<l.length:=(by have:=XA c;omega);have r:lk l i<l.length:=(by omega);refine ak.o ?_;refine ak.o ?_;refine ai.bool (jh (gt l i) (gt l (lk l i))) (λb f=>?_);refine ak.n ?_;cases b with
  |true=>
   repeat' first|apply af.t|apply af.f
   exact aG.back (x:=i) (i+1) (by show i+1<=_;omega) (by omega) .nil (.cS (.cons (ar.int (by rw[lk,XL f.symm])) (.cS (.cS (.cons (ar.int (by rw[hw _];omega)) .nil)))))
  |false=>
   repeat' first|apply af.t|apply af.f
   exact aG.back (x:=i) (i+1) (by show i+1<=_;omega) (by omega) .nil (.cS (.cons (ar.int (by rw[lk,XG (by rw[<-f];decide)])) (.cS (.cS (.cons (ar.int (by rw[hw _];omega)) .nil)))))
 ·obtain rfl:i=l.length:=(by have:=XB c;omega);have t:eb l<l.length:=w6 l _ h;have m:lk l l.length=eb l:=rfl;rw[m];refine ak.o ?_;refine ak.o ?_;refine ai.mk' (qC (l.length-eb l) (eb l-0) _ _ _ (by omega) (by omega) rfl rfl) ?_;refine ak.n ?_;refine Fin.one ?_;refine aD.pQ (by simp only[bC,gS];omega) (λi k j u=>aD.of_eq ?_);have g:i<l.length:=(by omega);by_cases a:i<l.length-eb l;rw[hp a,ZD];refine fb ?_ j;rw[bC,kl _ _ _ (by omega) g,XL a];rfl;rw[ht a,ZG];refine fb ?_ j;rw[bC,kl _ _ _ (by omega) g,XG a,Ya]
theorem DT (l:LV) (n:Nat) (F:n=l.length) (P:l.length<=10000:=by omega):lT Tryz.prog 165 [.ptr (.n 2001) 0] [.aL 1 n 2 50 (vG l),.obj [.aJ (.n 2000) 1]] (.aJ (.n 3000) 0)
  [.aL 1 n 2 50 (vG l),.obj [.aJ (.n 2000) 1]] (.aL 0 (gG [] l).reverse.length 2 50 (vG (gG [] l).reverse)):=by
 subst F;refine cF je mixed Tryz.func165 rfl rfl [] (XI rfl) (XI rfl) (fe rfl) ?_;have step:∀k,k<l.length->gG [] (l.take (k+1))=gt l k::mr (gt l k) (gG [] (l.take k)):=λk u=>by rw[oC l u,zE]
 have G:∀k,(gG [] (l.take k)).length<=k:=λk=>by
  induction k with
  |zero=>simp[gG]
  |succ k H=>by_cases c:k<l.length;rw[step k c,XV];have:=CF (gt l k) (gG [] (l.take k));omega;rw[Zi (by omega)];rw[Zi (by omega)]at H;omega
 refine Loop.by (α:=Nat) (λk=>[(2,.aJ 501 0),(5,.aJ 2000 1),(6,au l.length),(7,au k)]) (λk=>[((2000:Id),.aL 1 l.length 2 50 (vG l)),(2001,.obj [.aJ (.n 2000) 1]),(501,.aL 0 (gG [] (l.take k)).reverse.length 2 50 (vG (gG [] (l.take k)).reverse))]) (λk=>k<=l.length) (λk=>l.length-k)
  (aG.nil 2 501 2 50 (vG []) rfl rfl (aG.at 0 (XR _) (.cons (.aR rfl (λ_ _ _ _=>aD.refl _)) (.cons (.obj (.cons (.aJ (by intro q;cases q) rfl rfl) .nil)) (.cons (.aR rfl (λi g=>absurd g (XO i))) .nil))) (.cH (.cH (.cS (.cS .nil)))))) (λk u=>?_)
 apply af.mk<;>intro w
 ·have I:k<l.length:=(by have:=XA w;omega);refine ak.o ?_;have J:=G k;refine Loop.by (α:=LV) (λf=>[(2,.aJ 501 0),(4,.ptr 4 0),(5,.aJ 2000 1),(6,au l.length),(7,au k)]) (λf=>[((2000:Id),.aL 1 l.length 2 50 (vG l)),(2001,.obj [.aJ (.n 2000) 1]),(501,.aL 0 f.reverse.length 2 50 (vG f.reverse)),(4,.box (vL (gt l k)))]) (λf=>f.length<=k/\mr (gt l k) f=mr (gt l k) (gG [] (l.take k))) (λf=>f.length)
   (aG.at (gG [] (l.take k)) ⟨J,rfl⟩ (.cons (.aR rfl (λ_ _ _ _=>aD.refl _)) (.cons (.obj (.cons (.aJ (by intro q;cases q) rfl rfl) .nil)) (.cons (.aR rfl (λ_ _ _ _=>aD.refl _)) (.cX .nil)))) (.cH (.cB (.cH (.cS (.cS .nil)))))) (λf K=>?_)
  obtain⟨M,y⟩:=K;have z:mr (gt l k) f=f->gG [] (l.take (k+1))=gt l k::f:=λq=>by rw[step k I,<-y,q]
  have Q:f.reverse.length=f.length:=Z5;have A:IntKind.i64.wrap ((k:Int)+1)=((k+1:Nat):Int):=(by rw[hw _];omega);by_cases B:2<=f.length
  ·obtain⟨b,a,r,rfl⟩:∃b a r,f=b::a::r:=by
    match f,B with
    |b::a::r,_=>exact⟨b,a,r,rfl⟩
   have R:(b::a::r).length=r.length+2:=rfl;have m:decide (((b::a::r).reverse.length:Int)>=2)=true:=X4 (by omega);have C:IntKind.i64.wrap (((b::a::r).reverse.length:Int)-2)=(r.length:Int):=(by rw[hw _];omega);have o:IntKind.i64.wrap (((b::a::r).reverse.length:Int)-1)=((r.length+1:Nat):Int):=(by rw[hw _];omega);have N:gt (b::a::r).reverse (IntKind.i64.wrap (((b::a::r).reverse.length:Int)-2)).toNat=a:=(by rw[C,Yi,PJ]);have O:gt (b::a::r).reverse (IntKind.i64.wrap (((b::a::r).reverse.length:Int)-1)).toNat=b:=(by rw[o,Yi];exact HF b (a::r));repeat' first|apply af.gF m|apply af.t|apply af.f
   refine ak.mk (by rw[C];omega) ?_;repeat' first|apply af.gF m|apply af.t|apply af.f
   refine ak.mk (by rw[o];omega) ?_;repeat' first|apply af.gF m|apply af.t|apply af.f
   refine ai.int ((eW a b (gt l k)).le (.cons (dX.of_eq (XT (λv:V2=>vD v) N)) (.cons (dX.of_eq (XT (λv:V2=>vD v) O)) (.cR .nil)))) (λx D=>?_);repeat' first|apply af.gF m|apply af.t|apply af.f
   refine ak.n ?_;repeat' first|apply af.gF m|apply af.t|apply af.f
   apply af.mk<;>intro E
   ·have p:mr (gt l k) (b::a::r)=mr (gt l k) (a::r):=(by rw[mr,XL (by rw[<-D];exact XA E)]);refine ak.mk (by rw[o];omega) ?_;refine fm.r ⟨rfl,?_⟩;refine aG.back (x:=b::a::r) (a::r) ⟨by simp only[XV]at M|-;omega,by rw[<-p];exact y⟩ (by simp) (.cons (.aR rfl (λ_ _ _ _=>aD.refl _)) (.cons (.obj (.cons (.aJ (by intro q;cases q) rfl rfl) .nil)) (.cons (.aR (by rw[o,Yi,Z5];rfl) (λi g j t=>?_)) (.cX .nil)))) (.cH (.cB (.cH (.cS (.cS .nil)))));rw[o,Yi]at g;exact aD.of_eq (fb (HE b (a::r) g) j)
   ·have p:mr (gt l k) (b::a::r)=b::a::r:=(by rw[mr,XG (by rw[<-D];exact XB E)]);have e:=z p;refine ak.mk (aS) ?_;exact aG.back (x:=k) (k+1) (by show k+1<=_;omega) (by omega) (.cons (.aR rfl (λ_ _ _ _=>aD.refl _)) (.cons (.obj (.cons (.aJ (by intro q;cases q) rfl rfl) .nil)) (.cons (.aR (by rw[e,aab (a:=gt l k),XQ];rfl) (λi g j t=>by rw[e,aab (a:=gt l k)];exact gP _ (gt l k) i j g t)) .nil))) (.cH (.cH (.cS (.cons (ar.int A) .nil))))
  ·have p:mr (gt l k) f=f:=by
    match f,B with
    |[],_=>rfl
    |[_],_=>rfl
    |_::_::_,h=>exact absurd (by simp) h
   have m:decide ((f.reverse.length:Int)>=2)=false:=dF;repeat' first|apply af.fh m|apply af.t|apply af.f
   refine ak.n ?_;repeat' first|apply af.fh m|apply af.t|apply af.f
   have e:=z p;refine ak.mk (aS) ?_;exact aG.back (x:=k) (k+1) (by show k+1<=_;omega) (by omega) (.cons (.aR rfl (λ_ _ _ _=>aD.refl _)) (.cons (.obj (.cons (.aJ (by intro q;cases q) rfl rfl) .nil)) (.cons (.aR (by rw[e,aab (a:=gt l k),XQ];rfl) (λi g j t=>by rw[e,aab (a:=gt l k)];exact gP _ (gt l k) i j g t)) .nil))) (.cH (.cH (.cS (.cons (ar.int A) .nil))))
 ·obtain rfl:k=l.length:=(by have:=XB w;omega);have e:l.take l.length=l:=YX;exact ke.mk ⟨.n 501,.one (.aJ rfl rfl rfl),.cons (.aL (λh=>h) (λ_ _ _ _=>aD.refl _)) (.cons (.obj (.cons (.aJ rfl rfl rfl) .nil)) (.nil _)),.inr ⟨.aR (by rw[e]) (λh=>absurd h (by decide)) (λi g j t=>by rw[e];exact aD.refl _),rfl⟩⟩
def fN (l:LV):LV:=FT (nq l)
def iU (l:LV):LV:=bC (dY (gG [] (fN l)) (gG [] (fN l).reverse))
structure BR (l:LV):Prop where
 eX:pT l=true
 two:2<=l.length
 kK:l.length<=400
 la:2<=(gG [] (fN l)).length
 lb:2<=(gG [] (fN l).reverse).length
 l5:5<=(gG [] (fN l)).length+(gG [] (fN l).reverse).length
 zq:(dY (gG [] (fN l)) (gG [] (fN l).reverse)).length<=160
theorem xc {l:LV} (H:BR l):DP 99 [.one (aN l)] (.eD [.one (aN (iU l)),.one (i64 0)]):=by
 refine ig je mixed Tryz.func99 rfl rfl [161+2000000,164+2000000,165+1000000,165+2000000,166+2000000,8,10,12,15] (XI rfl) ?_;have t:=H.two;have u:=H.kK;have f:decide ((l.length:Int)>400)=false:=dF;refine af.fh f ?_;refine ai.mk' (lY.vt (tZ l) true H.eX) ?_;repeat' first|apply af.fh f|apply af.t|apply af.f
 refine ai.mk' (Es l) ?_;refine fp.mk' [] (Cd l) ⟨.nil,.cD (.cD .nil),rfl,rfl,λ_=>rfl⟩ ?_;have w:(nq l).length=l.length:=v8 l;refine fp.mk' [17] (By (nq l)) ⟨.cons (.aL (λ_ _ _ _=>aD.refl _)) .nil,.cH .nil,rfl,rfl,λh=>absurd rfl h⟩ ?_;have y:(fN l).length<=l.length:=by have:=H7 (nq l) (nq l).length;unfold fN FT;omega
 refine Cut.mk (aG.ic [(4,.ptr 4 0)] [((17:Id),.aL 0 (fN l).length 2 50 (vG (fN l))),(4,.obj [.aJ 17 0])] (.cons (.aR rfl (λ_ _ _ _=>aD.refl _)) (.cons (.obj (.cons (.aJ (by intro q;cases q) rfl rfl) .nil)) .nil)) (.cons (.ptr (by intro q;cases q)) .nil) ?_);refine fp.mk' [17,4] (DT (fN l) _ rfl) ⟨.cons (.aL (λ_ _ _ _=>aD.refl _)) (.cons (.obj (.cH .nil)) .nil),.cons (.ptr rfl) .nil,rfl,rfl,λ_=>rfl⟩ ?_;refine Cut.mk (aG.ic [(4,.ptr 4 0),(5,.cP 165 [.ptr 4 0]),(6,.aJ 22 0)] [((17:Id),.aL 0 (fN l).length 2 50 (vG (fN l))),(4,.obj [.aJ 17 0]),(22,.aL 0 (gG [] (fN l)).reverse.length 2 50 (vG (gG [] (fN l)).reverse))] (.cons (.aR rfl (λ_ _ _ _=>aD.refl _)) (.cons (.obj (.cons (.aJ (by intro q;cases q) rfl rfl) .nil)) (.cons (.aR rfl (λ_ _ _ _=>aD.refl _)) .nil))) (.cons (.ptr (by intro q;cases q)) (.cons (.cP (.cons (.ptr (by intro q;cases q)) .nil)) (.cH .nil))) ?_);refine fp.mk' [17] (IQ (fN l)) ⟨.cons (.aL (λ_ _ _ _=>aD.refl _)) .nil,.cH .nil,rfl,rfl,λh=>absurd rfl h⟩ ?_;refine fp.mk' [17,4] (DT (fN l).reverse (fN l).length List.length_reverse.symm (by rw[Z5];omega)) ⟨.cons (.aL (λ_ _ _ _=>aD.refl _)) (.cons (.obj (.cH .nil)) .nil),.cons (.ptr rfl) .nil,rfl,rfl,λ_=>rfl⟩ ?_;have z:=H.la;have C:=H.lb;have D:=H.l5;have k:=H.zq;unfold iU;generalize gG [] (fN l)=A at*;generalize gG [] (fN l).reverse=B at*;have E:A.reverse.length=A.length:=Z5;have F:B.reverse.length=B.length:=Z5;rw[im]at k;refine Cut.mk (aG.ic [(6,.aJ 22 0),(7,.aJ 26 0)] [((22:Id),.aL 0 A.reverse.length 2 50 (vG A.reverse)),(26,.aL 0 B.reverse.length 2 50 (vG B.reverse))] (.cons (.aR rfl (λ_ _ _ _=>aD.refl _)) (.cons (.aR rfl (λ_ _ _ _=>aD.refl _)) .nil)) (.cH (.cH .nil)) ?_);have m:decide ((A.reverse.length:Int)<2)=false:=dF;have o:decide (IntKind.i64.wrap (IntKind.i64.wrap ((A.reverse.length:Int)+B.reverse.length)-2)<3)=false:=XZ (by rw[hw ((A.reverse.length:Int)+B.reverse.length),hw _];omega);repeat' first|apply af.fh m|apply af.fh o|apply af.t|apply af.f
 have a:IntKind.i64.wrap ((A.reverse.length:Int)-1)=((A.length-1:Nat):Int):=by rw[hw _];omega
 have c:IntKind.i64.wrap ((B.reverse.length:Int)-1)=((B.length-1:Nat):Int):=by rw[hw _];omega
 refine ak.mk (by rw[a];omega) ?_;refine fm.r ⟨rfl,?_⟩;refine ak.mk (by rw[c];omega) ?_;refine fm.l ?_;refine ak.mk (aS (by rw[a,c];simp only[Yi];omega)) ?_;refine ak.n ?_;have g:∀(L:LV) (i:Nat),i+1<L.length->gt L.tail.reverse i=gt L.reverse i:=λL i b=>by
  cases L with
  |nil=>simp at b
  |cons x r=>exact(HE x r (by simp only[XV]at b;omega)).symm
 refine Cut.mk (aG.freeze 8 22 _ _ 2 50 _ rfl rfl (aG.ic [(8,.d (.one (aN (dY A B))))] [] .nil (.cons (.data (dX.one (aD.pQ ?_ (λi b j G=>?_)))) .nil) ?_));rw[a,c,im];simp only[Yi];omega
 ·rw[a,c]at b;simp only[Yi]at b;rw[a];simp only[Yi];refine aD.bif (λh=>aD.of_eq (fb ?_ j)) (λh=>aD.of_eq (fb ?_ j));show gt A.reverse i=gt (dY A B) i;unfold dY;rw[jc (by simp;omega),g A i (by omega)]
  ·show gt B.reverse (0+(i-(A.length-1)))=gt (dY A B) i;obtain⟨d,rfl⟩:∃d,i=A.length-1+d:=⟨i-(A.length-1),by omega⟩;have e:gt (dY A B) (A.length-1+d)=gt B.tail.reverse d:=(by unfold dY;have:=mE A.tail.reverse B.tail.reverse d;rw[Z5,List.length_tail]at this;exact this);rw[e,g B d (by omega)];congr 1;omega
 have p:decide (((dY A B).length:Int)>160)=false:=XZ (by rw[im];omega);refine af.fh p ?_;refine ai.mk' (FA (dY A B) (by rw[im];omega) (by rw[im];omega)) ?_;exact Fin.eD (.cR (.cR .nil))
def pF (k:Int):LV:=[⟨k,hK k⟩,⟨hK k,k⟩,⟨k,-hK k⟩,⟨hK k,-k⟩,⟨-k,hK k⟩,⟨-hK k,k⟩,⟨-k,-hK k⟩,⟨-hK k,-k⟩]
theorem CL {k:Int} (y:1<=k) (r:k<=200) (H:BR (pF k)):DP 98 [.one (i64 k)] (.eD [.one (aN (iU (pF k))),.one (i64 0)]):=by
 refine dg Tryz.func98 [] ?_;have t:decide (k<1)=false:=dF;have u:decide (k>200)=false:=dF;have p:=U0 (show 0<=k by omega) r;have w:IntKind.i64.wrap ((IntKind.i64.wrap (IntKind.i64.wrap (5*k)+11)).tdiv 12)=hK k:=by rw[hw (5*k),hw (5*k+11)];exact hw _ (by unfold hK at p;omega) (by unfold hK at p;omega)
 repeat' first|apply af.fh t|apply af.fh u|apply af.t|apply af.f
 refine ak.mk (by decide) ?_;refine Loop.by (α:=Nat) (λi=>[(0,au k),(4,au (hK k)),(5,.aJ 501 0),(22,.d (.agg [i64 1,i64 1,i64 1,i64 (-1),i64 (-1),i64 1,i64 (-1),i64 (-1)])),(23,au i)]) (λi=>[(501,.aL 0 (2*i) 2 50 (vG (pF k)))]) (λi=>i<=4) (λi=>4-i)
  (aG.nil 5 501 2 50 (vG []) rfl rfl (aG.at 0 (XR _) (.cons (.aR rfl (λi q=>absurd q (XO i))) .nil) (.cS (.cons (ar.int w) (.cH (.cS (.cS .nil))))))) (λi q=>?_)
 apply af.mk<;>intro c
 ·have z:i<4:=(by have:=XA c;omega);have b:IntKind.i64.wrap (1*k)=k:=(by rw[hw _];omega);have f:IntKind.i64.wrap (1*hK k)=hK k:=(by rw[hw _];omega);have g:IntKind.i64.wrap (-1*k)= -k:=(by rw[hw _];omega);have l:IntKind.i64.wrap (-1*hK k)= -hK k:=(by rw[hw _];omega);obtain rfl|rfl|rfl|rfl:i=0\/i=1\/i=2\/i=3:=(by omega);all_goals refine ak.mk (by decide) ?_
  all_goals refine ak.mk (aS (by decide)) ?_
  ·refine aG.back (x:=0) 1 (by decide) (by decide) (.cons (.aR rfl (λa m j o=>?_)) .nil) (.cS (.cS (.cH (.cS (.cS .nil)))));refine aD.bif (λh=>aD.refl _) (λh=>?_);obtain rfl|rfl:a=0\/a=1:=(by omega);obtain rfl|rfl:j=0\/j=1:=(by omega);exact aD.of_eq (XT i64 b);exact aD.of_eq (XT i64 f);obtain rfl|rfl:j=0\/j=1:=(by omega);exact aD.of_eq (XT i64 f);exact aD.of_eq (XT i64 b)
  ·refine aG.back (x:=1) 2 (by decide) (by decide) (.cons (.aR rfl (λa m j o=>?_)) .nil) (.cS (.cS (.cH (.cS (.cS .nil)))));refine aD.bif (λh=>aD.refl _) (λh=>?_);obtain rfl|rfl:a=2\/a=3:=(by omega);obtain rfl|rfl:j=0\/j=1:=(by omega);exact aD.of_eq (XT i64 b);exact aD.of_eq (XT i64 l);obtain rfl|rfl:j=0\/j=1:=(by omega);exact aD.of_eq (XT i64 f);exact aD.of_eq (XT i64 g)
  ·refine aG.back (x:=2) 3 (by decide) (by decide) (.cons (.aR rfl (λa m j o=>?_)) .nil) (.cS (.cS (.cH (.cS (.cS .nil)))));refine aD.bif (λh=>aD.refl _) (λh=>?_);obtain rfl|rfl:a=4\/a=5:=(by omega);obtain rfl|rfl:j=0\/j=1:=(by omega);exact aD.of_eq (XT i64 g);exact aD.of_eq (XT i64 f);obtain rfl|rfl:j=0\/j=1:=(by omega);exact aD.of_eq (XT i64 l);exact aD.of_eq (XT i64 b)
  ·refine aG.back (x:=3) 4 (by decide) (by decide) (.cons (.aR rfl (λa m j o=>?_)) .nil) (.cS (.cS (.cH (.cS (.cS .nil)))));refine aD.bif (λh=>aD.refl _) (λh=>?_);obtain rfl|rfl:a=6\/a=7:=(by omega);obtain rfl|rfl:j=0\/j=1:=(by omega);exact aD.of_eq (XT i64 g);exact aD.of_eq (XT i64 l);obtain rfl|rfl:j=0\/j=1:=(by omega);exact aD.of_eq (XT i64 l);exact aD.of_eq (XT i64 g)
 ·obtain rfl:i=4:=(by have:=XB c;omega);refine ai.mk' ((xc H).le (.cons (dX.one (aD.pQ rfl (λa m j o=>aD.refl _))) .nil)) ?_;exact Fin.eD (.cR (.cR .nil))
theorem LD:DP 98 [.one (i64 0)] (.eD [.one (.v Fe),.one (i64 2)]):=by
 refine dg Tryz.func98 [] ?_;repeat' first|apply af.t|apply af.f
 exact Fin.eD (.cR (.cR .nil))
def nZ (a:LV) (L:List (LV)):List (LV):=L.map λr=>iU (jy r a)
theorem rA (a:LV) {L:List (LV)} {i:Nat} (h:i<L.length):(nZ a L).getD i []=iU (jy (L.getD i []) a):=by simp[nZ,List.getD,h]
structure Io (k:Int) (oc:LV) (L:List (LV)):Prop where
 k0:0<=k
 k1:k<=200
 WJ:(k=0/\oc=[⟨0,0⟩])\/(k≠0/\DP 98 [.one (i64 k)] (.eD [.one (aN oc),.one (i64 0)]))
 pos:0<oc.length
 zq:L.length<=10000
 cv:∀r∈L,HC r
 SN:∀r∈L,BR (jy r oc)
variable {k:Int} {oc:LV}
theorem MF {L:List (LV)} (G:Io k oc L):DP 50 [.one (hS L),.one (i64 k)] (.eD [.one (hS (nZ oc L)),.one (i64 0)]):=by
 refine dg Tryz.func50 [7] ?_;have E:=G.k0;have F:=G.k1;have H:=G.zq;have u:decide (k<0)=false:=dF;have w:decide (k>200)=false:=dF;repeat' first|apply af.fh u|apply af.fh w|apply af.t|apply af.f
 rcases G.WJ with⟨rfl,p⟩|⟨y,p⟩
 ·refine ai.mk' LD ?_;refine af.t ?_;refine Cut.mk (aG.ic [(0,.d (.one (hS L))),(6,.d (.one (aN oc)))] [] .nil (.cS (.cons (.data (dX.one (aD.pQ (by rw[p];rfl) (λi g j l=>?_)))) .nil)) ?_);rw[p];have l:j<2:=l;obtain rfl:i=0:=(by omega);obtain rfl|rfl:j=0\/j=1:=(by omega);exact aD.refl _;exact aD.refl _;refine Loop.by (α:=Nat) (λi=>[(6,.d (.one (aN oc))),(8,.aJ 501 0),(28,.d (.one (hS L))),(29,au L.length),(30,au i)]) (λi=>[(501,.aL 0 i 1 42 λa _=>aN ((nZ oc L).getD a []))]) (λi=>i<=L.length) (λi=>L.length-i)
   (aG.nil 8 501 1 42 (λa _=>aN ((nZ oc L).getD a [])) rfl rfl (aG.at 0 (XR _) (.cons (.aR rfl (λi g=>absurd g (XO i))) .nil) (.cS (.cH (.cS (.cS (.cS .nil))))))) (λi g=>?_)
  apply af.mk<;>intro m
  ·have o:i<L.length:=(by have:=XA m;omega);obtain⟨r,b⟩:∃r,r=L.getD (i:Int).toNat []:=⟨_,rfl⟩;have c:r∈L:=(by rw[b];simp[List.getD,o]);have f:=G.cv r c;have z:=f.three;have A:=f.kK;have t:=G.pos;refine ak.o ?_;refine ai.mk' ((s5 f).le (.cons (dX.of_eq (by rw[b])) .nil)) ?_;repeat' first|apply af.t|apply af.f
   refine ai.mk' ((yE r oc).le (.cons (dX.of_eq (by rw[b])) (.cR .nil))) ?_;refine ai.mk' (uc (jy r oc) (by have:=(G.SN r c).kK;omega) (yF r oc (by omega) t)) ?_;refine ai.mk' (xc (G.SN r c)) ?_;repeat' first|apply af.t|apply af.f
   refine ak.mk (aS) ?_;refine aG.back (x:=i) (i+1) (by show i+1<=_;omega) (by omega) (.cons (.aR rfl (λq B j l=>?_)) .nil) (.cS (.cH (.cS (.cS (.cons (ar.int (by rw[hw _];omega)) .nil)))));obtain rfl:j=0:=(by omega);refine aD.bif (λh=>aD.refl _) (λh=>?_);obtain rfl:q=i:=(by omega);rw[rA oc o,Zb];exact aD.of_eq (by rw[b];rfl)
  ·obtain rfl:i=L.length:=(by have:=XB m;omega);refine Fin.eD (.cons (dX.one (aD.pQ (by unfold nZ;rw[Yy]) (λa C j l=>?_))) (.cR .nil));obtain rfl:j=0:=(by omega);exact aD.refl _
 ·refine ai.mk' p ?_;have D:(k==0)=false:=(by simpa using y);refine af.fh D ?_;refine Cut.mk (aG.ic [(0,.d (.one (hS L))),(6,.d (.one (aN oc)))] [] .nil (.cS (.cS .nil)) ?_);refine Loop.by (α:=Nat) (λi=>[(6,.d (.one (aN oc))),(8,.aJ 501 0),(28,.d (.one (hS L))),(29,au L.length),(30,au i)]) (λi=>[(501,.aL 0 i 1 42 λa _=>aN ((nZ oc L).getD a []))]) (λi=>i<=L.length) (λi=>L.length-i)
   (aG.nil 8 501 1 42 (λa _=>aN ((nZ oc L).getD a [])) rfl rfl (aG.at 0 (XR _) (.cons (.aR rfl (λi g=>absurd g (XO i))) .nil) (.cS (.cH (.cS (.cS (.cS .nil))))))) (λi g=>?_)
  apply af.mk<;>intro m
  ·have o:i<L.length:=(by have:=XA m;omega);obtain⟨r,b⟩:∃r,r=L.getD (i:Int).toNat []:=⟨_,rfl⟩;have c:r∈L:=(by rw[b];simp[List.getD,o]);have f:=G.cv r c;have z:=f.three;have A:=f.kK;have t:=G.pos;refine ak.o ?_;refine ai.mk' ((s5 f).le (.cons (dX.of_eq (by rw[b])) .nil)) ?_;repeat' first|apply af.t|apply af.f
   refine ai.mk' ((yE r oc).le (.cons (dX.of_eq (by rw[b])) (.cR .nil))) ?_;refine ai.mk' (uc (jy r oc) (by have:=(G.SN r c).kK;omega) (yF r oc (by omega) t)) ?_;refine ai.mk' (xc (G.SN r c)) ?_;repeat' first|apply af.t|apply af.f
   refine ak.mk (aS) ?_;refine aG.back (x:=i) (i+1) (by show i+1<=_;omega) (by omega) (.cons (.aR rfl (λq B j l=>?_)) .nil) (.cS (.cH (.cS (.cS (.cons (ar.int (by rw[hw _];omega)) .nil)))));obtain rfl:j=0:=(by omega);refine aD.bif (λh=>aD.refl _) (λh=>?_);obtain rfl:q=i:=(by omega);rw[rA oc o,Zb];exact aD.of_eq (by rw[b];rfl)
  ·obtain rfl:i=L.length:=(by have:=XB m;omega);refine Fin.eD (.cons (dX.one (aD.pQ (by unfold nZ;rw[Yy]) (λa C j l=>?_))) (.cR .nil));obtain rfl:j=0:=(by omega);exact aD.refl _
def Tn (a:LV) (M:List (LV)) (k:Nat):Bool:=bn k λj=>IF a (M.getD j [])||IF (M.getD j []) a
def Qo (W M:List (LV)) (n:Nat):Bool:=bn n λi=>Tn (W.getD i []) M M.length
theorem pr (n:Nat) (f:Nat->Bool):bn (n+1) f=(bn n f&&f n):=by
 unfold bn;rw[ZL,List.all_append];simp
theorem Ic {n m:Nat} {f:Nat->Bool} (h:n<=m) (a:bn n f=false):bn m f=false:=by
 obtain⟨d,rfl⟩:=Nat.le.dest h;clear h;induction d with
 |zero=>exact a
 |succ d b=>rw[<-YE,pr,b];rfl
theorem E8 {L M:List (LV)} (G:Io k oc L) (l:∀r∈M,HC r) (B:M.length<=10000) (u:∀r∈L,(iU (jy r oc)).length<=10000):
  DP 20 [.one (hS L),.one (hS M),.one (i64 k)] (.eD [.one (.v (.bool (Qo (nZ oc L) M L.length))),.one (i64 0)]):=by
 refine dg Tryz.func20 [] ?_;have C:=G.zq;refine ai.mk' (MF G) ?_;repeat' first|apply af.t|apply af.f
 have w:(nZ oc L).length=L.length:=by unfold nZ;rw[Yy]
 have wr:∀i,i<L.length->((nZ oc L).getD i []).length<=10000:=λi a=>by rw[rA oc a];exact u _ (by simp[List.getD,a])
 generalize nZ oc L=W at*;refine Loop.by (α:=Nat) (λi=>[(1,.d (.one (hS M))),(8,.d (.one (hS W))),(25,.d (.one (hS M))),(26,au M.length),(27,au i)]) (λ_=>[]) (λi=>i<=M.length) (λi=>M.length-i)
  (aG.at 0 (XR _) .nil (.cS (.cS (.cS (.cS (.cS .nil)))))) (λi a=>?_)
 apply af.mk<;>intro c
 ·have m:i<M.length:=(by have:=XA c;omega);have z:M.getD (i:Int).toNat []∈M:=(by simp[List.getD,m]);refine ak.o ?_;refine ai.mk' (s5 (l _ z)) ?_;repeat' first|apply af.t|apply af.f
  exact aG.back (x:=i) (i+1) (by show i+1<=_;omega) (by omega) .nil (.cS (.cS (.cS (.cS (.cons (ar.int (by rw[hw _];omega)) .nil)))))
 ·refine Loop.by (α:=Nat) (λi=>[(1,.d (.one (hS M))),(35,.d (.one (hS W))),(36,au W.length),(37,au i)]) (λ_=>[]) (λi=>i<=W.length/\Qo W M i=true) (λi=>W.length-i)
   (aG.at 0 ⟨XR _,rfl⟩ .nil (.cS (.cS (.cS (.cS .nil))))) (λi a=>?_)
  obtain⟨a,f⟩:=a;apply af.mk<;>intro c
  ·have m:i<W.length:=(by have:=XA c;omega);have o:=wr i (by omega);refine ak.o ?_;refine Loop.by (α:=Nat) (λj=>[(1,.d (.one (hS M))),(13,.d (.one (aN (W.getD i [])))),(35,.d (.one (hS W))),(36,au W.length),(37,au i),(41,.d (.one (hS M))),(42,au M.length),(43,au j)]) (λ_=>[]) (λj=>j<=M.length/\Tn (W.getD i []) M j=true) (λj=>M.length-j)
    (aG.at 0 ⟨XR _,rfl⟩ .nil (.cS (.cS (.cS (.cS (.cS (.cS (.cS (.cS .nil))))))))) (λj p=>?_)
   obtain⟨p,g⟩:=p;apply af.mk<;>intro q
   ·have A:j<M.length:=(by have:=XA q;omega);have t:(M.getD j []).length<=10000:=(by have:=(l (M.getD j []) (by simp[List.getD,A])).kK;omega);refine ak.o ?_;have bA:∀b,(IF (W.getD i []) (M.getD j [])||IF (M.getD j []) (W.getD i []))=b->Tn (W.getD i []) M (j+1)=b:=λb h=>by unfold Tn at g|-;rw[pr,g,h];rfl
    have done:Tn (W.getD i []) M (j+1)=false->Qo W M L.length=false:=λh=>by refine Ic (n:=i+1) (by omega) ?_;have e:Tn (W.getD i []) M M.length=false:=Ic (show j+1<=M.length by omega) h;rw[pr,e];simp
    refine ai.mk' (Gz (W.getD i []) (M.getD j []) o t) ?_;generalize D:IF (W.getD i []) (M.getD j [])=x at*;cases x with
    |true=>
     repeat' first|apply af.t|apply af.f
     exact aG.back (x:=j) (j+1) ⟨by show j+1<=_;omega,bA true rfl⟩ (by omega) .nil (.cS (.cS (.cS (.cS (.cS (.cS (.cS (.cons (ar.int (by rw[hw _];omega)) .nil))))))))
    |false=>
     repeat' first|apply af.t|apply af.f
     refine ai.mk' (Gz (M.getD j []) (W.getD i []) t o) ?_;generalize E:IF (M.getD j []) (W.getD i [])=y at*;cases y with
     |true=>
      repeat' first|apply af.t|apply af.f
      exact aG.back (x:=j) (j+1) ⟨by show j+1<=_;omega,bA true rfl⟩ (by omega) .nil (.cS (.cS (.cS (.cS (.cS (.cS (.cS (.cons (ar.int (by rw[hw _];omega)) .nil))))))))
     |false=>
      repeat' first|apply af.t|apply af.f
      exact Fin.eD (.cons (dX.of_eq (by rw[done (bA false rfl)])) (.cR .nil))
   ·obtain rfl:j=M.length:=(by have:=XB q;omega);exact aG.back (x:=i) (i+1) ⟨by show i+1<=_;omega,by unfold Qo at f|-;rw[pr,f,g];rfl⟩ (by omega) .nil (.cS (.cS (.cS (.cons (ar.int (by rw[hw _];omega)) .nil))))
  ·have a:i=W.length:=(by have:=XB c;omega);have e:Qo W M L.length=true:=(by rw[<-w,<-a];exact f);exact Fin.eD (.cons (dX.of_eq (by rw[e])) (.cR .nil))
theorem sb {B:Int} {a b c:V2} (f:B<=8000) (g:In B a) (h:In B b) (i:In B c):(0<ct a b c↔0<aj a b c)/\(ct a b c<=0↔aj a b c<=0):=by
 have e:=jw (m:=8000) (by decide) (by decide) (g.up f) (h.up f) (i.up f);have:=qT (n:=aj a b c);rw[e];unfold mW;show(0<bN (aj a b c)↔_)/\(bN (aj a b c)<=0↔_);omega
theorem GO {B:Int} (f:B<=8000) {p:V2} (g:In B p):∀{st:LV},(∀v∈st,In B v)->mr p st=dy p st
 |[],_=>rfl
 |[_],_=>rfl
 |b::a::r,h=>by have e:=(sb f (h a (by simp)) (h b (by simp)) g).2;have i:=GO f g (st:=a::r) λv j=>h v (XK _ j);unfold mr dy;by_cases c:aj a b p<=0;rw[XL c,XL (e.2 c),i];rw[XG c,XG (λk=>c (e.1 k))]
theorem BE {B:Int} (b:B<=8000):∀{ps st:LV},(∀v∈ps,In B v)->(∀v∈st,In B v)->gG st ps=eB st ps
 |[],_,_,_=>rfl
 |p::ps,st,h,k=>by have c:=h p (by simp);unfold gG eB;rw[GO b c k];refine BE b (λv a=>h v (XK _ a)) λv a=>?_;rcases XD.1 a with rfl|a;exact c;exact k v (q5 v a)
theorem H6 {l:LV} (h:∀i j,i<j->j<l.length->¬JH (gt l j) (gt l i)<0):∀m,m<=l.length->(lN l m).Pairwise (λq p=>Lx 1 (ag p q))/\∀v,v∈lN l m↔∃i,i<m/\gt l i=v
 |0,_=>⟨.nil,λv=>⟨λk=>by simp[lN]at k,λ⟨_,k,_⟩=>absurd k (XO _)⟩⟩
 |m+1,x=>by obtain⟨f,b⟩:=H6 h m (by omega);unfold lN;split;rename_i c;refine⟨f,λv=>(b v).trans ⟨λ⟨i,a,e⟩=>⟨i,by omega,e⟩,λ⟨i,a,e⟩=>?_⟩⟩;by_cases q:i=m;subst q;exact⟨i-1,by omega,by rw[<-c.2];exact e⟩;exact⟨i,by omega,e⟩;rename_i c;refine⟨aac.2 ⟨f,List.pairwise_singleton _ _,λq g p o=>?_⟩,λv=>?_⟩;obtain rfl:=Yr.1 o;obtain⟨i,a,rfl⟩:=(b q).1 g;have r:=h i m a (by omega);have t:=h (m-1) m (by omega) (by omega);have u:gt l m≠gt l (m-1):=λe=>c ⟨by omega,e⟩;have y:¬((gt l m).x=(gt l (m-1)).x/\(gt l m).y=(gt l (m-1)).y):=λk=>u (V2.ext k.1 k.2);rw[BB]at r t;unfold Lx;simp only[ag];by_cases q:i=m-1;subst q;omega;have w:=h i (m-1) (by omega) (by omega);rw[BB]at w;omega;rw[XP,b,Yr];constructor;rintro(⟨i,a,e⟩|rfl);exact⟨i,by omega,e⟩;exact⟨m,by omega,rfl⟩;rintro⟨i,a,e⟩;by_cases q:i=m;subst q;exact .inr e.symm;exact .inl ⟨i,by omega,e⟩
theorem OR (l:LV):(fN l).Pairwise (λq p=>Lx 1 (ag p q))/\∀v,v∈fN l↔v∈l:=by
 have h:=H6 (l:=nq l) (λi j b c=>Kz l b (by rw[<-v8 l];exact c)) (nq l).length (XU _);refine⟨h.1,λv=>(h.2 v).trans ?_⟩;rw[<-(ID l).mem_iff];exact⟨λ⟨i,a,e⟩=>e▸db a,λk=>by obtain⟨i,a,e⟩:=YF.1 k;exact⟨i,a,by rw[<-e];exact PK a⟩⟩
structure V6 (l:LV):Prop where
 SK:∀v∈l,In 8000 v
 kK:l.length<=160
 tri:∃a∈l,∃b∈l,∃c∈l,aj a b c≠0
theorem lu:∀{a b:LV},a.Nodup->(∀x∈a,x∈b)->a.length<=b.length
 |[],_,_,_=>XR _
 |x::a,b,h,s=>by
  obtain⟨f,g⟩:=YA.1 h;obtain⟨p,q,rfl⟩:=aan (s x (by simp));have:=lu (b:=p++q) g λy c=>by have:=s y (XK _ c);simp only[XP,XD]at this|-;rcases this with k|rfl|k;exact .inl k;exact absurd c f;exact .inr k
  simp only[XQ,XV]at this|-;omega
theorem CQ {l:LV} (h:∀v∈l,In 8000 v):pT l=true:=aF.2 λi a=>(h _ (db a)).within (by decide) (by decide)
theorem V6.ok {l:LV} (H:V6 l):BR l/\Od l (iU l)/\(iU l).length<=l.length:=by
 obtain⟨m,h⟩:=OR l;obtain⟨a,o,b,p,c,w,r⟩:=H.tri;have t:∃a∈fN l,∃b∈fN l,∃c∈fN l,aj a b c≠0:=⟨a,(h a).2 o,b,(h b).2 p,c,(h c).2 w,r⟩;have T:=Kb m t;have K:=PD m t;have i:gG [] (fN l)=eB [] (fN l):=BE (B:=8000) (by decide) (λv g=>H.SK v ((h v).1 g)) (λv g=>absurd g YD);have j:gG [] (fN l).reverse=eB [] (fN l).reverse:=BE (B:=8000) (by decide) (λv g=>H.SK v ((h v).1 (aa9.1 g))) (λv g=>absurd g YD);have e:iU l=SM (fN l):=by unfold iU SM;rw[i,j]
 have k:Od l (iU l):=by rw[e];exact⟨K.cv,λv g=>(h v).1 (K.sub v g),λf y v g=>K.left f y v ((h v).2 g)⟩
 have z:(iU l).length<=l.length:=lu k.cv.nodup k.sub;have A:2<=l.length:=by
  have:a≠b:=λq=>r (by rw[q];simp[aj,aa,ag]);have:=lu (a:=[a,b]) (b:=l) (by simp[this]) λx u=>by simp only[XD,YD,ZY]at u;rcases u with rfl|rfl;exact o;exact p
  exact this
 have zq:(dY (eB [] (fN l)) (eB [] (fN l).reverse)).length<=160:=by have:=lu T.cv.nodup (b:=l) λv g=>(h v).1 (T.SN.sub v g);have:=H.kK;omega
 have C:=H.kK;exact⟨⟨CQ H.SK,A,by omega,by rw[i];exact T.la,by rw[j];exact T.lb,by rw[i,j];exact T.l5,by rw[i,j];exact zq⟩,k,z⟩
theorem UW {r:LV} (C:gg r) (hi:∀v∈r,In 8000 v) (j:r.length<=160):HC r:=by
 have l:=C.n3;refine⟨l,j,CQ hi,λi b k a m o=>?_⟩;have g:∀i,i<r.length->In 8000 (gt r i):=λi b=>hi _ (db b);have p:bA r i=gt r ((i+1)%r.length):=rfl;have f:=ZC (i+1) (show 0<r.length by omega);refine(sb (B:=8000) (by decide) (g i b) (g _ f) (g k a)).1.2 ?_;have:=mS.Oz C b a m (λq=>o (by
  rw[yX a]at q;have q:gt r k=gt r ((i+1)%r.length):=q;rw[PK a,PK f]at q;have h:=C.nodup;rw[List.Nodup,Y7]at h;rcases Z0 k ((i+1)%r.length)with c|c|c;exact absurd q (h _ _ a f c);exact c
  ·exact absurd q.symm (h _ _ f a c)))
 rw[yX b,yX a]at this;exact this
theorem Gu {r s:LV} (f:∀v∈r,In 8000 v) (hs:∀v∈s,In 8000 v):IF r s=true↔JS r s:=by
 have g:∀{r:LV},(∀v∈r,In 8000 v)->∀i,i<r.length->In 8000 (gt r i):=λh i a=>h _ (db a);have j:∀i,i<r.length->(Uo r s i=true↔∀p∈s,aj (gt r i) (bA r i) p<=0):=λi a=>by have l:∀p∈s,(ct (gt r i) (bA r i) p<=0↔aj (gt r i) (bA r i) p<=0):=λp c=>(sb (B:=8000) (by decide) (g f i a) (g f _ (mLt)) (hs p c)).2;unfold Uo;rw[aF];constructor;intro h p c;obtain⟨k,b,e⟩:=YF.1 c;rw[<-PK b]at e;have:=XA (h k b);rw[e]at this;exact(l p c).1 this;intro h k b;exact X4 ((l _ (db b)).2 (h _ (db b)))
 unfold IF JS;rw[Yx,<-Zh,aF];constructor;intro h;refine Xz λq=>h λi a=>?_;rw[Yx,<-Zh,j i a];exact λk=>q ⟨_,bX.2 ⟨i,a,rfl⟩,k⟩;rintro⟨e,m,k⟩ h;obtain⟨i,a,rfl⟩:=bX.1 m;have:=h i a;rw[Yx,<-Zh,j i a]at this;exact this k
variable {k:Int}
theorem Dq (h:1<=k):0<=hK k/\hK k<=k:=by
 unfold hK;rw[abY (by omega)];omega
theorem C4 (x:Int):bU x (0-x)=ez x:=by unfold bU ez;split<;>split<;>omega
theorem Rl {f:Nat->Bool}:bn 4 f=true↔f 0=true/\f 1=true/\f 2=true/\f 3=true:=by
 rw[aF];constructor;intro h;exact⟨h 0 (by decide),h 1 (by decide),h 2 (by decide),h 3 (by decide)⟩;rintro⟨a,b,c,g⟩ i j;obtain rfl|rfl|rfl|rfl:i=0\/i=1\/i=2\/i=3:=(by omega);exact a;exact b;exact c;exact g
variable {a:V2}
theorem DE {d:V2} (b:In 4000 a) (c:In 1 d):pI a d=av d a:=by
 obtain⟨f,g,i,j⟩:=b;obtain⟨k,l,m,o⟩:=c;have p: -4000<=a.x*d.x/\a.x*d.x<=4000:=by obtain h|h|h:d.x= -1\/d.x=0\/d.x=1:=(by omega);all_goals rw[h];omega
 have q: -4000<=a.y*d.y/\a.y*d.y<=4000:=by obtain h|h|h:d.y= -1\/d.y=0\/d.y=1:=(by omega);all_goals rw[h];omega
 unfold pI av;rw[fq (n:=a.x*d.x) (by omega) (by omega),fq (n:=a.y*d.y) (by omega) (by omega),fq (by omega) (by omega),X9 a.x,X9 a.y]
theorem M7 (i:Nat):In 1 (uK i)/\In 1 (uJ i):=by
 match i with
 |0=>exact⟨⟨by decide,by decide,by decide,by decide⟩,⟨by decide,by decide,by decide,by decide⟩⟩
 |1=>exact⟨⟨by decide,by decide,by decide,by decide⟩,⟨by decide,by decide,by decide,by decide⟩⟩
 |2=>exact⟨⟨by decide,by decide,by decide,by decide⟩,⟨by decide,by decide,by decide,by decide⟩⟩
 |n+3=>exact⟨⟨by show(-1:Int)<=0;decide,by show(0:Int)<=1;decide,by show(-1:Int)<= -1;decide,by show(-1:Int)<=1;decide⟩,⟨by show(-1:Int)<= -1;decide,by show(-1:Int)<=1;decide,by show(-1:Int)<= -1;decide,by show(-1:Int)<=1;decide⟩⟩
theorem G3 {c:Nat->V2} (f:∀i,In 1 (c i)) {b:V2} (g:In 4000 a) (h:In 4000 b) (i:Nat):ve k c a b i=true↔¬(k<=av (c i) a/\k<=av (c i) b):=by
 unfold ve;rw[DE g (f i),DE h (f i)];simp only[Yx,ZW,Zm];omega
theorem O5 {h:Int} (k0:0<=k) (k1:k<=300) (j:0<=h) (b:h<=300) {d:V2} (z:In 4000 a) (l:In 8000 d):We k h a d=true↔ez (aa a d)<yh k h (ez d.x) (ez d.y):=by
 obtain⟨e,B,C⟩:=fS (m:=8000) (by decide) (by decide) (z.up (by decide)) l;obtain⟨o,p,q,r⟩:=l;have t:∀x:Int,-8000<=x->x<=8000->0<=ez x/\ez x<=8000:=λx b i=>by unfold ez;split<;>omega
 have c:∀x y:Int,0<=x->x<=8000->0<=y->y<=300->0<=x*y/\x*y<=2400000:=λx y b i u A=>⟨XF b u,by have:=abw i A u (by decide:(0:Int)<=8000);omega⟩;have f:=t d.x o p;have g:=t d.y q r;have D:=c _ k g.1 g.2 k0 k1;have E:=c _ h f.1 f.2 j b;have F:=c _ h g.1 g.2 j b;have G:=c _ k f.1 f.2 k0 k1;have w:∀x:Int,-8000<=x->x<=8000->bU x (bW (0-x))=ez x:=λx b i=>by rw[fq (by omega) (by omega)];exact C4 x
 unfold We yh;rw[decide_eq_true_iff,e,fq (n:=0-aa a d) (by omega) (by omega),C4,w _ o p,w _ q r];rw[fq (n:=ez d.y*k) (by omega) (by omega),fq (n:=ez d.x*h) (by omega) (by omega),fq (n:=ez d.y*h) (by omega) (by omega),fq (n:=ez d.x*k) (by omega) (by omega)];rw[fq (n:=ez d.y*k+ez d.x*h) (by omega) (by omega),fq (n:=ez d.y*h+ez d.x*k) (by omega) (by omega)]
theorem O4 (k0:1<=k) (k1:k<=200) {b:V2} (g:In 4000 a) (h:In 4000 b):N9 k a b=true↔Rq k (hK k) a b:=by
 obtain⟨l,z⟩:=Dq k0;obtain⟨e,o⟩:=fJ (m:=4000) (by decide) h g;unfold N9;rw[e,XJ,XJ,Rl,Rl,O5 (by omega) (by omega) l (by omega) g o];simp only[G3 (λi=>(M7 i).1) g h,G3 (λi=>(M7 i).2) g h];constructor;rintro⟨⟨p,q,r,t⟩,⟨u,w,x,y⟩,c⟩;refine⟨λn j=>?_,c⟩;simp only[gM,XD,YD,ZY]at j;rcases j with rfl|rfl|rfl|rfl|rfl|rfl|rfl|rfl;exact p;exact q;exact r;exact t;exact u;exact w;exact x;exact y
 ·rintro⟨f,c⟩;refine⟨⟨f (⟨1,0⟩,k) (by simp[gM]),f (⟨-1,0⟩,k) (by simp[gM]),f (⟨0,1⟩,k) (by simp[gM]),f (⟨0,-1⟩,k) (by simp[gM])⟩,
   ⟨f (⟨1,1⟩,k+hK k) (by simp[gM]),f (⟨1,-1⟩,k+hK k) (by simp[gM]),f (⟨-1,1⟩,k+hK k) (by simp[gM]),f (⟨-1,-1⟩,k+hK k) (by simp[gM])⟩,c⟩
theorem Fh {N:List (V2×Int)} {b:V2} (h:jY N a b):jY N b a:=by
 obtain⟨m,t,c,f,g,h⟩:=h;refine⟨m,m-t,c,by omega,by omega,?_⟩;have e:an (ah (m-(m-t)) b) (ah (m-t) a)=an (ah (m-t) a) (ah t b):=by rw[show m-(m-t)=t by omega];exact V2.ext (by simp only[an];omega) (by simp only[an];omega)
 rw[e];exact h
variable {o1 o2:LV}
section
variable {k:Int} (k0:1<=k) (k1:k<=200)
include k0 k1
theorem G1 {h2:List (LV)} (g:cJ o2 h2) {p:V2} (o:In 2000 p):TH k (cI (o2::h2)) p=true↔∃f∈gK o2 h2,jY (gM k (hK k)) (ag f.1 p) (ag f.2 p):=by
 obtain⟨u,w⟩:=Dq k0;have one:∀e∈cI (o2::h2),(N9 k (cW e.a p) (cW e.b p)=true↔jY (gM k (hK k)) (ag e.a p) (ag e.b p)):=λe j=>by obtain⟨r,x,i,t,rfl⟩:=(lA g).1 j;have R:=g.nC x;have y:In 2000 (gt r i):=jB R (db t);have z:In 2000 (bA r i):=jB R (db (mLt));obtain⟨A,B⟩:=fJ (m:=2000) (by decide) y o;obtain⟨C,D⟩:=fJ (m:=2000) (by decide) z o;have E:gt r i≠bA r i:=pc R t;show N9 k (cW (gt r i) p) (cW (bA r i) p)=true↔jY _ (ag (gt r i) p) (ag (bA r i) p);rw[A,C,O4 k0 k1 B D];refine LM (by omega) u w λq=>E ?_;have F:=XT V2.x q;have G:=XT V2.y q;simp only[ag]at F G;exact V2.ext (by omega) (by omega)
 have H:TH k (cI (o2::h2)) p=false↔∀f∈gK o2 h2,¬jY (gM k (hK k)) (ag f.1 p) (ag f.2 p):=by unfold TH;rw[aao,iK (f:=λe=>!N9 k (cW e.a p) (cW e.b p)),<-lJ g (Q:=λa b=>¬jY (gM k (hK k)) (ag a p) (ag b p)) λa b h q=>h (Fh q)];refine aaM λe=>aaM λj=>?_;rw[Yx,<-Zh,one e j]
 rw[<-aa4,H];constructor;intro h;refine Xz λq=>h λf l c=>q ⟨f,l,c⟩;rintro⟨f,l,c⟩ h;exact h f l c
theorem G2 {b h2:List (LV)} (g:cJ o1 b) (o:cJ o2 h2):Su o1 b o2 h2 k=true↔∃e∈gK o1 b,∃f∈gK o2 h2,jY (gM k (hK k)) (ag f.1 e.1) (ag f.2 e.1):=by
 unfold Su;rw[Yx,<-Zh,aF];constructor;intro h;refine Xz λq=>h λi j=>?_;have a:=db j;obtain⟨e,l,p⟩:=(il g).1 a;rw[Yx,<-Zh,G1 k0 k1 o (pg g a)];exact λ⟨f,m,c⟩=>q ⟨e,l,f,m,by rw[p];exact c⟩;rintro⟨e,l,f,m,c⟩ h;have a:=(il g).2 ⟨e,l,rfl⟩;obtain⟨i,j,q⟩:=YF.1 a;have:=h i j;rw[Yx,<-Zh,show gt (o1::b).flatten i=e.1 by rw[<-q];exact PK j,G1 k0 k1 o (pg g a)]at this;exact this ⟨f,m,c⟩
end
theorem ET (s t:cp):aH s t=0\/aH s t=1\/aH s t=2\/aH s t=3:=by
 unfold aH;repeat' split
 all_goals simp
theorem Pj {l h2:List (LV)} (m:cJ o1 l) (o:cJ o2 h2):Jd o1 l o2 h2=true↔∃e∈gK o1 l,∃f∈gK o2 h2,¬NM e.1 e.2 f.1 f.2:=by
 have r:∀x:Int,(!bn 3 λi=>!decide (((i:Int)+1)=x))=true↔x=1\/x=2\/x=3:=λx=>by rw[Yx,<-Zh,aF];constructor;intro h;refine Xz λq=>h λi y=>?_;rw[Yx,Zm];omega;intro h k;have k0:=k 0 (by decide);have k1:=k 1 (by decide);have t:=k 2 (by decide);rw[Yx,Zm]at k0 k1 t;omega
 have p:∀e∈cI (o1::l),∀f∈cI (o2::h2),((!bn 3 λi=>!decide (((i:Int)+1)=(cU e f).kind))=true↔¬NM e.a e.b f.a f.b):=λe j f g=>by have h:=ET e f;have n:=oS (tc m j).1 (tc o g).1;rw[r,(eH e f).1,<-n];omega
 have u:Jd o1 l o2 h2=false↔∀e∈cI (o1::l),∀f∈cI (o2::h2),NM e.a e.b f.a f.b:=by unfold Jd yi;rw[aao,iK (f:=λe=>bn (cI (o2::h2)).length λk=>!(!bn 3 λi=>!decide (((i:Int)+1)=(cU e (bh (cI (o2::h2)) k)).kind)))];constructor;intro h e j f g;have:=iK (f:=λf=>!(!bn 3 λi=>!decide (((i:Int)+1)=(cU e f).kind))).1 (h e j) f g;refine Xz λc=>?_;rw[(p e j f g).2 c]at this;cases this;intro h e j;refine iK (f:=λf=>!(!bn 3 λi=>!decide (((i:Int)+1)=(cU e f).kind))).2 λf g=>?_;rw[Yx,<-Zh,p e j f g];exact λk=>k (h e j f g)
 have w:(∀e∈cI (o1::l),∀f∈cI (o2::h2),NM e.a e.b f.a f.b)↔∀e∈gK o1 l,∀f∈gK o2 h2,NM e.1 e.2 f.1 f.2:=by rw[lJ m (Q:=λa b=>∀f∈cI (o2::h2),NM a b f.a f.b) λa b h f g=>(h f g).rev];exact aaM λe=>aaM λ_=>lJ o (Q:=λa b=>NM e.1 e.2 a b) λa b h=>h.swap
 rw[<-aa4,u,w];constructor;intro h;refine Xz λk=>h λe j f g=>Xz λc=>k ⟨e,j,f,g,c⟩;rintro⟨e,j,f,g,c⟩ h;exact c (h e j f g)
theorem Qp {a h2:List (LV)} (b:cJ o1 a) (c:cJ o2 h2) (k0:1<=k) (k1:k<=200:=by omega):
  Qq o1 a o2 h2 k=true↔¬∃(m:Int) (x z:V2),0<m/\W (bw m (gK o1 a)) x=1/\W (bw m (gK o2 h2)) z=1/\xU (gM k (hK k)) m (ag z x):=by
 obtain⟨f,h⟩:=Dq k0;rw[LL (wJ (by omega) f) b.qh c.qh b.yg c.yg,<-G2 k0 k1 b c,<-G2 k0 k1 c b,<-Pj b c];have d:=HZ b c;have g:decide (k=0)=false:=dF;have e:Bo o1 a o2 h2=false↔Comm (gK o1 a) 0 (gK o2 h2) 0:=by rw[<-Zh,d];exact abH
 rw[<-e];clear d e;unfold Qq;rw[g];cases Bo o1 a o2 h2<;>cases Jd o1 a o2 h2<;>cases Su o1 a o2 h2 k<;>cases Su o2 h2 o1 a k<;>simp
theorem NF {a h2:List (LV)} (b:cJ o1 a) (c:cJ o2 h2):Qq o1 a o2 h2 0=true↔¬Comm (gK o1 a) 0 (gK o2 h2) 0:=by
 rw[<-HZ b c];unfold Qq;simp
variable {s:LV}
theorem OB {r:LV} (c:∀v∈r,In 1000000 v) (hs:∀v∈s,In 1000000 v):jy r s=sq r s:=by
 unfold jy sq;rw[List.flatMap_def,List.flatMap_def];refine XT _ (YS λa f=>YS λb g=>?_);rw[Qt (c a f) (hs b g)];rfl
theorem KE (r s:LV):(sq r s).length=r.length*s.length:=by
 unfold sq;induction r with
 |nil=>simp
 |cons a r b=>rw[aar,XQ,b,Yy,XV,aak];omega
theorem yM:∀r:LV,sq r [⟨0,0⟩]=r
 |[]=>rfl
 |a::r=>by have:=yM r;unfold sq at this|-;rw[aar,this];show an a ⟨0,0⟩::r=a::r;congr 1;exact V2.ext (aad _) (aad _)
theorem PH {r:LV} (C:gg r) (j:∀v∈r,In 4000 v) (hs:∀v∈s,In 200 v) (k:s≠[]) (l:r.length*s.length<=160):V6 (sq r s):=by
 have t:=C.n3;obtain⟨y,h⟩:=List.exists_mem_of_ne_nil s k;refine⟨λv o=>?_,by rw[KE];exact l,?_⟩;obtain⟨a,p,b,q,rfl⟩:=oT.1 o;have f:=j a p;have g:=hs b q;have u:=f.x0;have w:=f.x1;have x:=f.y0;have z:=f.y1;have A:=g.x0;have B:=g.x1;have D:=g.y0;have E:=g.y1;exact⟨by simp only[an];omega,by simp only[an];omega,by simp only[an];omega,by simp only[an];omega⟩
 ·have m:=λi=>Lm C.LI i;refine⟨_,oT.2 ⟨_,m 0,y,h,rfl⟩,_,oT.2 ⟨_,m 1,y,h,rfl⟩,_,oT.2 ⟨_,m 2,y,h,rfl⟩,?_⟩;have e:∀a b c:V2,aj (an a y) (an b y) (an c y)=aj a b c:=λa b c=>by simp only[aj,aa,ag,an];grind
  rw[e];have:=C.strict 0 2 (by decide) (by omega);have:0<aj (rQ r 0) (rQ r 1) (rQ r 2):=this;omega
variable {k:Int}
theorem UZ (h:1<=k):1<=hK k:=by
 unfold hK;rw[abY (by omega)];omega
theorem Ss (k:Int):QB k (hK k) (pF k):=by
 refine⟨λv a=>?_,λv a=>?_⟩;(obtain⟨x,y⟩:=v;simp only[pF,XD,YD,ZY,V2.mk.injEq];simp only at a;rcases a with⟨h1|h1,h2|h2⟩|⟨h1|h1,h2|h2⟩<;>rw[h1,h2]<;>simp)
 ·simp only[pF,XD,YD,ZY]at a;rcases a with rfl|rfl|rfl|rfl|rfl|rfl|rfl|rfl<;>simp
theorem GW (h:1<=k) (h2:k<=200):∀v∈pF k,In 200 v:=λv a=>by
 obtain⟨b,h1⟩:=Dq h;simp only[pF,XD,YD,ZY]at a;rcases a with rfl|rfl|rfl|rfl|rfl|rfl|rfl|rfl<;>exact⟨by dsimp only;omega,by dsimp only;omega,by dsimp only;omega,by dsimp only;omega⟩
theorem LC (h:1<=k) (h2:k<=200:=by omega):V6 (pF k):=by
 refine⟨λv a=>(GW h h2 v a).up (by decide),by simp[pF],⟨k,hK k⟩,by simp[pF],⟨k,-hK k⟩,by simp[pF],⟨-k,hK k⟩,by simp[pF],?_⟩;have g:=UZ h;have:aj ⟨k,hK k⟩ ⟨k,-hK k⟩ ⟨-k,hK k⟩= -(4*(hK k*k)):=by simp only[aj,aa,ag];grind
 have:=XC (show 0<hK k by omega) (show 0<k by omega);omega
theorem Qn {b:LV} {L M:List (LV)} (u:∀r∈L,gg (iU (jy r b))/\∀v∈iU (jy r b),In 8000 v) (w:∀s∈M,gg s/\∀v∈s,In 8000 v):
  Qo (nZ b L) M L.length=true↔¬∃r∈L,∃s∈M,∃(m:Int) (z:V2),0<m/\px m (iU (jy r b)) z/\px m s z:=by
 have f:∀{L:List (LV)} {i:Nat},i<L.length->L.getD i []∈L:=λ{L} {i} a=>by simp[List.getD,a]
 have o:∀{L:List (LV)} {r:LV},r∈L->∃i,i<L.length/\L.getD i []=r:=λ{L} {r} c=>by obtain⟨i,a,e⟩:=YF.1 c;exact⟨i,a,by rw[<-e];simp[List.getD,a]⟩
 have p:∀r∈L,∀s∈M,((IF (iU (jy r b)) s||IF s (iU (jy r b)))=true↔¬∃(m:Int) (z:V2),0<m/\px m (iU (jy r b)) z/\px m s z):=λr c s g=>by obtain⟨x,q⟩:=u r c;obtain⟨y,t⟩:=w s g;rw[WD x y,Zl,Gu q t,Gu t q,Classical.not_and_iff_not_or_not,abH,abH]
 unfold Qo Tn;rw[aF];constructor;rintro h ⟨r,c,s,g,k⟩;obtain⟨i,a,rfl⟩:=o c;obtain⟨j,l,rfl⟩:=o g;have:=aF.1 (h i a) j l;rw[rA b a]at this;exact(p _ c _ g).1 this k;intro h i a;rw[aF];intro j l;rw[rA b a];exact(p _ (f a) _ (f l)).2 λk=>h ⟨_,f a,_,f l,k⟩
section
variable {o1 o2:LV} {h1 h2 L M:List (LV)}
theorem QA.small (S:Rn o1 h1) (P:QA o1 h1 L):L.length<=65/\∀r∈L,r.length<=14/\∀v∈r,In 4000 v:=by
 refine⟨?_,λr a=>⟨?_,(P.rgs S.vs).SK r a⟩⟩;have h1:=P.zq;have h2:=aaE S.zq S.zq;omega;have:=lu (P.cv r a).nodup (P.sub r a);rw[iJ S.vs]at this;have:=S.zq;omega
theorem ME (l:Rn o1 h1) (p:Rn o2 h2) (g:QA o1 h1 L) (i:QA o2 h2 M) (K:0<=k) (V:k<=12):
  ∃c,Io k c L/\(∀r∈M,HC r)/\M.length<=10000/\(∀r∈L,(iU (jy r c)).length<=10000)/\Qo (nZ c L) M L.length=Qq o1 h1 o2 h2 k:=by
 obtain⟨X,w⟩:=g.small l;obtain⟨Y,A⟩:=i.small p;have B:∀{o:LV} {h L:List (LV)},QA o h L->(∀r∈L,r.length<=14/\∀v∈r,In 4000 v)->∀r∈L,HC r:=λP b r a=>
  UW (P.cv r a) (λv f=>((b r a).2 v f).up (by decide)) (by have:=(b r a).1;omega)
 have N:∀s∈M,gg s/\∀v∈s,In 8000 v:=λs x=>⟨i.cv s x,λv f=>((A s x).2 v f).up (by decide)⟩;have G:∀c:LV,c≠[]->c.length<=8->(∀v∈c,In 200 v)->
   ((k=0/\c=[⟨0,0⟩])\/(k≠0/\DP 98 [.one (i64 k)] (.eD [.one (aN c),.one (i64 0)])))->
   Io k c L/\(∀r∈L,Od (sq r c) (iU (jy r c))/\(iU (jy r c)).length<=10000)/\
    (Qo (nZ c L) M L.length=true↔¬∃r∈L,∃s∈M,∃(m:Int) (z:V2),0<m/\px m (iU (jy r c)) z/\px m s z):=by
  intro c H C y Q;have e:∀r∈L,jy r c=sq r c:=λr a=>OB (λv f=>((w r a).2 v f).up (by decide)) (λv f=>(y v f).up (by decide));have R:∀r∈L,r.length*c.length<=112:=λr a=>aaE (w r a).1 C;have q:∀r∈L,V6 (jy r c):=λr a=>by rw[e r a];exact PH (g.cv r a) (w r a).2 y H (by have:=R r a;omega)
  refine⟨⟨K,by omega,Q,ZH.2 H,by omega,B g w,λr a=>(q r a).ok.1⟩,λr a=>?_,Qn (λr a=>?_) N⟩;obtain⟨_,j,D⟩:=(q r a).ok;refine⟨by rw[<-e r a];exact j,?_⟩;have:=(q r a).kK;omega;obtain⟨_,j,D⟩:=(q r a).ok;exact⟨j.cv,λv f=>(q r a).SK v (j.sub v f)⟩
 by_cases z:k=0;subst z;obtain⟨E,t,F⟩:=G [⟨0,0⟩] (by simp) (by decide) (λv f=>by obtain rfl:=Yr.1 f;exact⟨by decide,by decide,by decide,by decide⟩) (.inl ⟨rfl,rfl⟩);refine⟨[⟨0,0⟩],E,B i A,by omega,λr a=>(t r a).2,?_⟩;rw[Zw,F,NF l.vs.ok p.vs.ok,DO l.vs.ok.yg p.vs.ok.yg g.cv i.cv g.Ir i.Ir];refine not_congr (aax λr=>aap λa=>aax λs=>aap λx=>aax λm=>aax λz=>aap λI=>and_congr_left λ_=>?_);have S:=yM r;rw[(t r a).1.iff I,S];exact((ry (g.cv r a)).iff I).symm
 ·have u:1<=k:=(by omega);obtain⟨J,T⟩:=Dq u;have O:=LC u;obtain⟨U,j,D⟩:=O.ok;have y:∀v∈iU (pF k),In 200 v:=λv f=>GW u (by omega) v (j.sub v f);have C:(iU (pF k)).length<=8:=D;obtain⟨E,t,F⟩:=G (iU (pF k)) j.cv.LI C y (.inr ⟨z,CL u (by omega) U⟩);refine⟨_,E,B i A,by omega,λr a=>(t r a).2,?_⟩;rw[Zw,F,Qp l.vs.ok p.vs.ok u,Lu l.vs.ok.yg p.vs.ok.yg g.cv i.cv g.Ir i.Ir (wJ (by omega) J)];exact not_congr (aax λr=>aap λa=>aax λs=>aap λx=>SS (Ss k) J T j (g.cv r a) (t r a).1)
end
theorem Oq (o1:LV) (b:List (LV)) (o2:LV) (h2:List (LV)) (a:Int) (p:0<=a) (H:a<=255) (q:o1.length<=maxLen) (t:b.length<=maxLen) (u:o2.length<=maxLen) (w:h2.length<=maxLen):
  DP 5 [iO o1 b,iO o2 h2,.one (.v (.int .u8 a))] (aE true):=by
 refine dg Tryz.func5 [] ?_;refine ai.mk' JM ?_;repeat' first|apply af.t|apply af.f
 refine ai.bool (yN o1 b 20 t q) (λx y=>?_);cases x with
 |false=>
  repeat' first|apply af.t|apply af.f
  exact Fin.rfl'
 |true=>
 repeat' first|apply af.t|apply af.f
 refine ai.bool (yN o2 h2 20 w u) (λz A=>?_);cases z with
 |false=>
  repeat' first|apply af.t|apply af.f
  exact Fin.rfl'
 |true=>
 repeat' first|apply af.t|apply af.f
 have c:=KF y.symm;have f:=KF A.symm;obtain⟨L,g⟩:=sP c.vs;obtain⟨M,h⟩:=sP f.vs;obtain⟨k,i⟩:∃k,k=(IntKind.i64.wrap a).tmod 13:=⟨_,rfl⟩;have j:0<=k/\k<=12:=by rw[i,wid,Int.tmod_eq_emod_of_nonneg p];omega
 obtain⟨I,G,B,C,D,m⟩:=ME c f g h j.1 j.2;have E:=g.W6;have F:=h.W6;have l:=E8 G B C D;have o:=JI c.vs f.vs j.1 (show k<=200 by omega);rw[m]at l;clear G m g h;generalize Qq o1 b o2 h2 k=r at l o;refine ak.mk ⟨_,rfl⟩ ?_;refine ak.mk (by decide) ?_;refine ai.mk' E ?_;refine ai.mk' F ?_;refine ai.mk' (l.le (.cR (.cR (.cons (dX.of_eq (by rw[i])) .nil)))) ?_;refine ai.mk' (o.le (.cR (.cR (.cons (dX.of_eq (by rw[i])) .nil)))) ?_;repeat' first|apply af.t|apply af.f|refine ak.n ?_|fail
 exact Fin.bool (by cases r<;>rfl)
theorem Ot:∀f,uO Tryz.prog Tryz.f5.params.toList f->DP 5 f (aE true):=by
 intro f h;obtain⟨J,r,rfl,l,h⟩:=uO.w9 h;obtain⟨K,r,rfl,m,h⟩:=uO.w9 h;obtain⟨M,r,rfl,o,h⟩:=uO.w9 h;cases h;obtain⟨a,rfl,p⟩:=tp.int (k:= .u8) (by kernel_rfl) rfl o;obtain⟨g,rfl,t⟩:=tp.agg (by kernel_rfl) l;obtain⟨i,rfl,u⟩:=tp.agg (by kernel_rfl) m;have q:g.length=2:=(ju.vk rfl t).1;have w:i.length=2:=(ju.vk rfl u).1;have j:0<=a/\a<=255:=by have:=p;simp[TN,Lit.wf,IntKind.min,IntKind.max,IntKind.bits,IntKind.signed]at this;omega
 match g,q,t,i,w,u with
 |[b,c],_,t,[d,e],_,u=>obtain⟨x,y,z,A,B,C⟩:=KK (a:=b) (b:=c) t;obtain⟨D,E,F,G,H,I⟩:=KK (a:=d) (b:=e) u;exact(Oq x y D E a j.1 j.2 z A F G).le (.cons (dX.agg (.cons B (.cons C .nil))) (.cons (dX.agg (.cons H (.cons I .nil))) (.cR .nil)))
end Sg
end Go.Vm
namespace Go.Proofs.YtobmlkopbmakcaaGreat
open Go Go.Vm Go.ChangeShapes Go.WideShapes Go.ChangeAt Go.RowKit Go.Proofs
theorem uD:ownKnob Tryz.prog.godebug=none:=by kernel_rfl
theorem pG:laidOutB Tryz.prog=true:=by kernel_rfl
set_option maxRecDepth 100000 in
theorem qv (b:Os) (c:b.Started) (H:Type) (enc:TypeId×Value->H):
  ReturnsInHanded {} Tryz.checked b 5 .any (Rows.topClearanceSpec.pre6 enc Tryz.prog Tryz.f5 Rows.topClearanceRow.domain false) (Rows.topClearanceSpec.post enc Tryz.prog Tryz.f5 false true false false):=by
 refine returnsInHanded_of_change (C:=Tryz.checked) uD c (by kernel_rfl) Tryz.func5
  (ChangeSpec.witness6 (enc:=enc) (C:=Tryz.checked) false ⟨#[],#[.agg #[.slice none 0 0,.slice none 0 0],.agg #[.slice none 0 0,.slice none 0 0],.int .u8 0],[]⟩ 8 (by kernel_rfl) (by kernel_rfl) (by kernel_rfl) (by kernel_rfl)) ?_
 intro W f args a g i j k l _;exact A7 (n:=8) rfl rfl rfl (by kernel_rfl) (by kernel_rfl) pG (λa h=>match a,h with|[m,o,p],_=>⟨rfl,rfl,rfl⟩) Sg.Ot W f args a g i j k
theorem sQ:Rows.topClearanceRow.holds Tryz.pinned (OpenSpec.ofChange Rows.topClearanceSpec):=
 OpenClaim.holds_of_wide 5 Tryz.f5 rfl rfl rfl rfl rfl rfl rfl ⟨rfl,rfl,rfl,rfl,rfl⟩ rfl rfl rfl rfl rfl (by kernel_rfl) Tryz.func5 (by kernel_rfl)
  (XA (by kernel_rfl)) (by unfold Func.isWrapper;first|(rw[XL (by decide+kernel)];kernel_rfl)|(rw[XG (by decide+kernel)];exact⟨rfl,rfl⟩))
  (λa b H c _=>qv a b H c)
theorem provedTopClearance:Rows.TopClearanceSaid:=sQ
#print axioms provedTopClearance
end Go.Proofs.YtobmlkopbmakcaaGreat
