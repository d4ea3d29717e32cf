import Derived.Test.YtobmlkopbmakcaaGreatLE
import Derived.Test.YtobmlkopbmakcaaGreatLD
set_option linter.unusedVariables false
set_option linter.unusedSimpArgs false
set_option maxRecDepth 20000
namespace Go.Vm
open Go Go.RowKit Go.Proofs
namespace Sg
def lq (l:LV):Bool:=bJ l.length λi=>decide (cQ (gt l i) (bw l i) (I9 l i)≠0)
def jv (l:LV) (i k:Nat):Bool:=decide (k<=i)||decide (aI (bN l i) (bN l k)=if hD l.length i k=true then 1 else 0)
def mg (l:LV):Bool:=bJ l.length λi=>bJ l.length λk=>jv l i k
def kh (l:LV):Bool:=hI l&&lq l&&mg l&&decide (0<rY l)
theorem Cr (l:LV) (I:l.length<=40000):DP 72 [.one (aS l)] (aD (kh l)):=by
 refine dg Tryz.func72 [] ?_;refine ab.mk (λh=>?_) (λh=>?_)
 ·have Q:l.length<3:=(by have:=XB h;omega);repeat' first|apply ab.t|apply ab.f
  refine Fin.bool ?_;simp[kh,hI,show¬3<=l.length by omega]
 have Q:3<=l.length:=by have:=XA h;omega
 repeat' first|apply ab.t|apply ab.f
 refine ab.mk (λh=>?_) (λh=>?_)
 ·have J:¬l.length<=40:=(by have:=XB h;omega);repeat' first|apply ab.t|apply ab.f
  refine Fin.bool ?_;simp[kh,hI,J]
 have J:l.length<=40:=by have:=XA h;omega
 repeat' first|apply ab.t|apply ab.f
 refine ah.bool (Co l I) (λb R=>?_);repeat' first|apply ab.t|apply ab.f
 refine ab.mk (λh=>?_) (λh=>?_)
 ·have K:dJ l=false:=(by rw[<-R];simpa using h);repeat' first|apply ab.t|apply ab.f
  refine Fin.bool ?_;simp[kh,hI,K]
 have K:dJ l=true:=by rw[<-R];simpa using h
 repeat' first|apply ab.t|apply ab.f
 have a1:kh l=(lq l&&mg l&&decide (0<rY l)):=by simp[kh,hI,Q,J,K]
 rw[a1];refine Loop.by (α:=Nat) (λk=>[(0,.d (.one (aS l))),(3,an l.length),(4,an k)]) (λ_=>[]) (λk=>k<=l.length/\∀i,i<k->cQ (gt l i) (bw l i) (I9 l i)≠0) (λk=>l.length-k)
  (aH.at 0 ⟨XS _,λ_ h=>absurd h (XL _)⟩ .nil (.cS (.cS (.cS .nil)))) (λk B=>?_)
 obtain⟨B,S⟩:=B;refine ab.mk (λh=>?_) (λh=>?_);have D:k<l.length:=(by have:=XB h;omega);have u:=qB k 1;have T:=qB k 2;have a2:=kY (k+1) l.length;have a3:=kY (k+2) l.length;refine aj.o ?_;refine aj.o ?_;refine aj.mk (by rw[show(1:Int)=(1:Nat) from rfl,u];exact a2) ?_;refine aj.o ?_;refine aj.mk (by rw[show(2:Int)=(2:Nat) from rfl,T];exact a3) ?_;refine ah.int (vF (gt l k) (gt l (Int.toNat ((IntKind.i64.wrap ((k:Int)+(1:Nat))).tmod l.length))) (gt l (Int.toNat ((IntKind.i64.wrap ((k:Int)+(2:Nat))).tmod l.length)))) (λc o=>?_);rw[u,T,kX,kX]at o;replace o:c=cQ (gt l k) (bw l k) (I9 l k):=o;refine aj.n ?_;refine ab.mk (λw=>?_) (λw=>?_);refine Fin.bool ?_;have a4:cQ (gt l k) (bw l k) (I9 l k)=0:=(by rw[<-o];simpa using w);rw[lq,bS k D (by rw[a4];rfl),Zp,Zp];refine aH.back (x:=k) (k+1) ⟨by omega,λi p=>?_⟩ (by omega) .nil (.cS (.cS (.cons (ao.int ?_) .nil)));rcases YP.1 p with p|rfl;exact S i p;rw[<-o];simpa using w;rw[hw _];omega;have C:k=l.length:=by have:=XA h;omega
 subst C;have a5:lq l=true:=aE.2 (λi p=>by simpa using S i p);rw[a5,Zh];refine ah.mk' (mf l I) ?_;have M:¬l.length<2:=by omega
 have a9:=gL M;refine Loop.by (α:=Nat) (λk=>[(0,.d (.one (aS l))),(3,an l.length),(5,.d (.one (nh (aw l)))),(6,an k)]) (λ_=>[]) (λk=>k<=l.length/\∀i,i<k->∀j,j<l.length->jv l i j=true) (λk=>l.length-k)
  (aH.at 0 ⟨XS _,λ_ h=>absurd h (XL _)⟩ .nil (.cS (.cS (.cS (.cS .nil))))) (λk B=>?_)
 obtain⟨B,U⟩:=B;refine ab.mk (λh=>?_) (λh=>?_)
 ·have D:k<l.length:=(by have:=XB h;omega);have u:IntKind.i64.wrap ((k:Int)+1)=((k+1:Nat):Int):=qB k 1;refine Loop.by (α:=Nat) (λq=>[(0,.d (.one (aS l))),(3,an l.length),(5,.d (.one (nh (aw l)))),(6,an k),(7,an q)]) (λ_=>[]) (λq=>k<q/\q<=l.length/\∀j,j<q->jv l k j=true) (λq=>l.length-q)
   (aH.at (k+1) ⟨by omega,by omega,λj A=>by simp[jv,show j<=k by omega]⟩ .nil (.cS (.cS (.cS (.cS (.cons (ao.int u) .nil)))))) (λq V=>?_)
  obtain⟨b0,V,X⟩:=V;refine ab.mk (λh=>?_) (λh=>?_)
  ·have Y:q<l.length:=(by have:=XB h;omega);have E:∀(t:Nat->TV) (m:Id->Mem),fk t m (aX []) [(0,.d (.one (aS l))),(3,an l.length),(5,.d (.one (nh (aw l)))),(6,an k),(7,an (IntKind.i64.wrap ((q:Int)+1)))]->jv l k q=true->
     aH t m (λa6 a7=>∃y,Kept (λq=>[(0,.d (.one (aS l))),(3,an l.length),(5,.d (.one (nh (aw l)))),(6,an k),(7,an ((q:Nat):Int))]) (λ_=>[]) (λq=>k<q/\q<=l.length/\∀j,j<q->jv l k j=true) y a6 a7/\l.length-y<l.length-q):=by
    intro t m Z a8;rw[show IntKind.i64.wrap ((q:Int)+1)=((q+1:Nat):Int) from qB q 1]at Z;exact aH.back (rank:=λq=>l.length-q) (q+1) ⟨by omega,by omega,λj A=>by
     rcases YP.1 A with A|rfl;exact X j A
     ·exact a8⟩ (by omega) .nil Z
   have F:∀c,c=aI (bm (aw l) k) (bm (aw l) q)->jv l k q=decide (c=if hD l.length k q=true then 1 else 0):=(by intro c o;rw[o,dB M k D,dB M q Y];simp[jv,show¬q<=k by omega]);have G:jv l k q=false->(mg l&&decide (0<rY l))=false:=λh=>by rw[mg,bS k D (bS q Y h),Zp]
   have a0:IntKind.i64.wrap ((l.length:Int)-1)=((l.length-1:Nat):Int):=(by rw[hw _];omega);refine ab.mk (λw=>?_) (λw=>?_)
   ·have H:q=k+1:=(by have:(q:Int)=IntKind.i64.wrap ((k:Int)+1):=(by simpa using w);rw[u]at this;omega);have r:hD l.length k q=true:=(by simp[hD,H]);repeat' first|apply ab.t|apply ab.f
    refine aj.o ?_;refine aj.o ?_;refine ah.int (oV (bm (aw l) k) (bm (aw l) q)) (λc o=>?_);refine aj.n ?_;have f:=F c o;rw[XG r]at f;repeat' first|apply ab.t|apply ab.f
    refine ab.mk (λg=>?_) (λg=>?_)
    ·have:c≠1:=(by simpa using g);repeat' first|apply ab.t|apply ab.f
     refine Fin.bool ?_;rw[G (by rw[f];simpa using this)]
    ·have:c=1:=(by simpa using g);repeat' first|apply ab.t|apply ab.f
     exact E _ _ (.cS (.cS (.cS (.cS (.cS .nil))))) (by rw[f];simpa using this)
   ·have H:q≠k+1:=(by have:(q:Int)≠IntKind.i64.wrap ((k:Int)+1):=(by simpa using w);rw[u]at this;omega);repeat' first|apply ab.t|apply ab.f
    refine ab.mk (λN=>?_) (λN=>?_)
    ·have O:k=0:=(by have:(k:Int)=0:=(by simpa using N);omega);repeat' first|apply ab.t|apply ab.f
     refine aj.o ?_;refine aj.o ?_;refine ah.int (oV (bm (aw l) k) (bm (aw l) q)) (λc o=>?_);refine aj.n ?_;refine ab.mk (λz=>?_) (λz=>?_)
     ·have P:q=l.length-1:=(by have:(q:Int)=IntKind.i64.wrap ((l.length:Int)-1):=(by simpa using z);rw[a0]at this;omega);have r:hD l.length k q=true:=(by simp[hD,O,P]);have f:=F c o;rw[XG r]at f;repeat' first|refine ab.t ?_|refine ab.f ?_|refine ab.cP (by rw[z];rfl) ?_|fail
      refine ab.mk (λg=>?_) (λg=>?_)
      ·have:c≠1:=(by simpa using g);repeat' first|refine ab.t ?_|refine ab.f ?_|refine ab.cP (by rw[z];rfl) ?_|fail
       refine Fin.bool ?_;rw[G (by rw[f];simpa using this)]
      ·have:c=1:=(by simpa using g);repeat' first|refine ab.t ?_|refine ab.f ?_|refine ab.cP (by rw[z];rfl) ?_|fail
       exact E _ _ (.cS (.cS (.cS (.cS (.cS .nil))))) (by rw[f];simpa using this)
     ·have P:q≠l.length-1:=(by have:(q:Int)≠IntKind.i64.wrap ((l.length:Int)-1):=(by simpa using z);rw[a0]at this;omega);have r:hD l.length k q=false:=(by simp[hD,H,P]);have f:=F c o;rw[XD (by rw[r];simp)]at f;repeat' first|refine ab.t ?_|refine ab.f ?_|refine ab.dA (by rw[z];rfl) ?_|fail
      refine ab.mk (λg=>?_) (λg=>?_);have:c≠0:=(by simpa using g);refine Fin.bool ?_;rw[G (by rw[f];simpa using this)];have:c=0:=(by simpa using g);exact E _ _ (.cS (.cS (.cS (.cS (.cS .nil))))) (by rw[f];simpa using this)
    ·have O:k≠0:=(by have:(k:Int)≠0:=(by simpa using N);omega);repeat' first|apply ab.t|apply ab.f
     refine aj.o ?_;refine aj.o ?_;refine ah.int (oV (bm (aw l) k) (bm (aw l) q)) (λc o=>?_);refine aj.n ?_;have r:hD l.length k q=false:=(by simp[hD,H,O]);have f:=F c o;rw[XD (by rw[r];simp)]at f;repeat' first|apply ab.t|apply ab.f
     refine ab.mk (λg=>?_) (λg=>?_);have:c≠0:=(by simpa using g);refine Fin.bool ?_;rw[G (by rw[f];simpa using this)];have:c=0:=(by simpa using g);exact E _ _ (.cS (.cS (.cS (.cS (.cS .nil))))) (by rw[f];simpa using this)
  ·have C:q=l.length:=(by have:=XA h;omega);subst C;refine aH.back (x:=k) (k+1) ⟨by omega,λi p=>?_⟩ (by omega) .nil (.cS (.cS (.cS (.cons (ao.int u) .nil))));rcases YP.1 p with p|rfl;exact U i p;exact X
 ·have C:k=l.length:=(by have:=XA h;omega);subst C;refine ah.int (EX l I) (λa r=>?_);refine Fin.bool ?_;have:mg l=true:=aE.2 (λi p=>aE.2 (λj A=>U i p j A));rw[this,Zh,r]
theorem In.up {m m':Int} {v:V2} (h:In m v) (a:m<=m'):In m' v:=⟨by have:=h.x0;omega,by have:=h.x1;omega,by have:=h.y0;omega,by have:=h.y1;omega⟩
theorem cu {l:LV} (h:dJ l=true) (i:Nat):In 2000 (gt l i):=by
 by_cases a:i<l.length;have:=Zj.1 h (gt l i) (by simp[gt,List.getD,a]);exact In.of (by decide) (by decide) this;have:gt l i=⟨0,0⟩:=(by simp[gt,List.getD,YY (Xi a)]);rw[this];exact⟨by decide,by decide,by decide,by decide⟩
theorem cx {l:LV} (h:dJ l=true) (i:Nat):az (bN l i)=true:=jL ((cu h _).up (by decide)) ((cu h _).up (by decide))
theorem zY {l:LV} (h:dJ l=true) (i j k:Nat):cQ (gt l i) (gt l j) (gt l k)=iW (gt l i) (gt l j) (gt l k):=jt (m:=2000) (by decide) (by decide) (cu h i) (cu h j) (cu h k)
variable {i:Nat}
theorem LI {n:Nat} (hi:i<n):((i+1)%n+n-1)%n=i:=by
 by_cases h:i+1=n;rw[h,Zz,X6];rw[mOf];omega;rw[X3 (show i+1<n by omega),show i+1+n-1=i+n by omega,YE,X3 hi]
theorem C1 {n:Nat} (hi:i<n):((i+n-1)%n+1)%n=i:=by
 by_cases h:i=0;subst h;rw[X6,X3 (show n-1<n by omega),show n-1+1=n by omega,Zz];rw[show i+n-1=i-1+n by omega,YE,X3 (show i-1<n by omega),show i-1+1=i by omega,X3 hi]
theorem Pc {l:LV} (hi:i<l.length):iZ l ((i+1)%l.length)=gt l i:=by
 unfold iZ;rw[LI hi]
theorem G3 (l:LV) (i:Nat):bw l ((i+1)%l.length)=I9 l i:=by
 unfold bw I9;rw[Z2]
theorem OT {l:LV} (hi:i<l.length):bw l ((i+l.length-1)%l.length)=gt l i:=by
 unfold bw;rw[C1 hi]
theorem OU {l:LV} (hi:i<l.length):I9 l ((i+l.length-1)%l.length)=bw l i:=by
 rw[<-G3,C1 hi]
theorem yC {l:LV}:lq l=lZ l:=by
 rw[Zd];unfold lq lZ;rw[aE,aE];constructor;intro h i a;have:=h ((i+l.length-1)%l.length) (mLt);rw[OT a,OU a]at this;exact this;intro h i a;have:=h ((i+1)%l.length) (mLt);rw[Pc a,G3]at this;exact this
theorem Eg {a b c:V2} (u:In 2000 a) (l:In 2000 b) (w:In 2000 c) (h:iW a b c≠0):aI ⟨a,b⟩ ⟨b,c⟩=1/\aI ⟨b,c⟩ ⟨a,b⟩=1:=by
 have i:az ⟨a,b⟩=true:=jL (u.up (by decide)) (l.up (by decide));have j:az ⟨b,c⟩=true:=jL (l.up (by decide)) (w.up (by decide));have m:aa (af b a) (af c a)≠0:=λe=>h (by unfold iW;rw[e];rfl);have o:iY ⟨a,b⟩ c=false:=by
  cases k:iY ⟨a,b⟩ c with
  |false=>rfl
  |true=>exact absurd ((gE i).1 k).2 m
 have q:iY ⟨b,c⟩ a=false:=by
  cases k:iY ⟨b,c⟩ a with
  |false=>rfl
  |true=>refine absurd ((gE j).1 k).2 (λe=>m ?_);simp only[ck,aa,af]at e|-;grind
 have r:iY ⟨a,b⟩ b=true:=OR i;have t:iY ⟨b,c⟩ b=true:=Fk j;refine⟨(lN (p:=b) i j (lj (λe=>?_))).1,(lN (p:=b) j i (lj (λe=>?_))).1⟩
 ·rw[dt];constructor
  ·rintro⟨h1|h1|h1|h1,f,g⟩<;>subst h1
   ·rw[q]at g;cases g
   ·rfl
   ·rfl
   ·rw[o]at f;cases f
  ·rintro rfl;exact⟨.inr (.inl rfl),r,t⟩
 ·rw[dt];constructor
  ·rintro⟨h1|h1|h1|h1,f,g⟩<;>subst h1
   ·rfl
   ·rw[o]at g;cases g
   ·rw[q]at f;cases f
   ·rfl
  ·rintro rfl;exact⟨.inl rfl,t,r⟩
theorem JJ {n k:Nat} (h:hD n i k=true):k=i+1\/(i=0/\k=n-1):=by
 simpa[hD]using h
theorem JY (l:LV):kh l=bV l:=by
 unfold kh bV;cases p:hI l with
 |false=>simp
 |true=>
  have j:=p;simp only[hI,XH,XU]at j;obtain⟨⟨w,x⟩,c⟩:=j;rw[yC];simp only[Zh];cases m:lZ l with
  |false=>simp
  |true=>have q:mg l=xM l:=(by rw[Zd];unfold mg xM;simp only[aE];have o:∀i,i<l.length->iW (gt l i) (bw l i) (I9 l i)≠0:=(by intro i b;rw[<-yC]at m;have:=aE.1 m i b;rw[bw,I9,zY c]at this;exact XB this);have r:∀i k,i<l.length->k<l.length->¬k<=i->hD l.length i k=true->aI (bN l i) (bN l k)=1:=(by intro i k b f g a;rcases JJ a with rfl|⟨rfl,rfl⟩;have e:bN l (i+1)=⟨bw l i,I9 l i⟩:=(by unfold bN bw I9;rw[X3 f]);rw[e];exact(Eg (cu c _) (cu c _) (cu c _) (o i b)).1;have e:bN l (l.length-1)=⟨gt l (l.length-1),gt l 0⟩:=(by unfold bN bw;rw[show l.length-1+1=l.length by omega,Zz]);have t:bw l (l.length-1)=gt l 0:=(by unfold bw;rw[show l.length-1+1=l.length by omega,Zz]);have u:I9 l (l.length-1)=bw l 0:=(by unfold bw I9;rw[show l.length-1+2=1+l.length by omega,YE]);have:=o (l.length-1) f;rw[t,u]at this;rw[e];exact(Eg (cu c _) (cu c _) (cu c _) this).2);constructor;intro h i b k f;have:=h i b k f;simp only[jv,Zo,XU]at this|-;rcases this with this|this;exact .inl (.inl this);by_cases a:hD l.length i k=true;exact .inl (.inr a);rw[XD a,<-(fG _ _).1]at this;exact .inr this;intro h i b k f;have:=h i b k f;simp only[jv,Zo,XU]at this|-;by_cases g:k<=i;exact .inl g;right;by_cases a:hD l.length i k=true;rw[XG a];exact r i k b f g a;rw[XD a,<-(fG _ _).1];rcases this with(this|this)|this;exact absurd this g;exact absurd this a;exact this);rw[q,Zh,Bool.and_true,Bool.and_comm]
theorem tK (l:LV) (a:l.length<=40000):DP 72 [.one (aS l)] (aD (bV l)):=JY l▸Cr l a
def fu (p:P3) (v:V2):V2:=⟨p.x-v.x*p.d,p.y-v.y*p.d⟩
def kP (e:cc) (p:P3):Int:=aa (af e.b e.a) (fu p e.a)
def qA (e:cc) (p:P3):Bool:=decide (kP e p=0)&&decide (cK (fu p e.a).x (fu p e.b).x<=0)&&decide (0<=cG (fu p e.a).x (fu p e.b).x)&&decide (cK (fu p e.a).y (fu p e.b).y<=0)&&decide (0<=cG (fu p e.a).y (fu p e.b).y)
def gZ (e:cc) (p:P3):Bool:=(!(decide (0<=(fu p e.a).y)==decide (0<=(fu p e.b).y)))&&(decide (0<=(fu p e.a).y)==decide (0<kP e p))
def nO (l:LV) (p:P3):Nat->Bool
 |0=>false
 |k+1=>xor (nO l p k) (gZ (bN l k) p)
def fW (l:LV) (p:P3):Bool:=!bJ l.length λi=>!qA (bN l i) p
def cz (l:LV) (p:P3):Int:=if fW l p=true then 1 else if nO l p l.length=true then 2 else 0
def bL (l:LV) (p:P3):Int:=if bV l=true/\en p=true then cz l p else 0
structure QW (p:P3):Prop where
 d0:1<=p.d
 d1:p.d<=134217728
 x0: -(4000*p.d)<=p.x
 x1:p.x<=4000*p.d
 y0: -(4000*p.d)<=p.y
 y1:p.y<=4000*p.d
variable {p:P3}
theorem FI (h:en p=true):QW p:=by
 simp only[en,XH]at h;obtain⟨a,b,c,f,g,i⟩:=fJ.1 h.1;exact⟨a,b,c,f,g,i⟩
theorem CX {x d:Int} (h: -2000<=x/\x<=2000) (a:1<=d/\d<=134217728): -(2000*d)<=x*d/\x*d<=2000*d:=
 ⟨by rw[show-(2000*d)=(-2000)*d by omega];exact Yp h.1 (by omega),Yp h.2 (by omega)⟩
structure UR (v:V2):Prop where
 x0: -805306368000<=v.x
 x1:v.x<=805306368000
 y0: -805306368000<=v.y
 y1:v.y<=805306368000
theorem vM {v:V2} (a:QW p) (b:In 2000 v):UR (fu p v):=by
 obtain⟨c,f⟩:=CX ⟨b.x0,b.x1⟩ ⟨a.d0,a.d1⟩;obtain⟨g,h⟩:=CX ⟨b.y0,b.y1⟩ ⟨a.d0,a.d1⟩;obtain⟨i,j,k,l,m,o⟩:=a;constructor<;>simp only[fu]<;>omega
def UY (p:P3) (v:V2):V2:=⟨cp (p.x-cp (v.x*p.d)),cp (p.y-cp (v.y*p.d))⟩
theorem EM {v:V2} (a:QW p) (b:In 2000 v):UY p v=fu p v:=by
 obtain⟨l,m⟩:=CX ⟨b.x0,b.x1⟩ ⟨a.d0,a.d1⟩;obtain⟨o,q⟩:=CX ⟨b.y0,b.y1⟩ ⟨a.d0,a.d1⟩;have h:=vM a b;have r:=a.d1;have c:cp (v.x*p.d)=v.x*p.d:=fv (by omega) (by omega);have f:cp (v.y*p.d)=v.y*p.d:=fv (by omega) (by omega);unfold UY;rw[c,f];have g:=h.x0;have i:=h.x1;have j:=h.y0;have k:=h.y1;simp only[fu]at g i j k;rw[fv (by omega) (by omega),fv (by omega) (by omega)];rfl
theorem KL {u v:V2} (a:In 4000 u) (b:UR v):fI u v=aa u v:=by
 obtain⟨c,f,g,h⟩:=b;have i:=iq ⟨a.x0,a.x1⟩ (show-805306368000<=v.y/\v.y<=805306368000 from⟨g,h⟩);have j:=iq ⟨a.y0,a.y1⟩ (show-805306368000<=v.x/\v.x<=805306368000 from⟨c,f⟩);unfold fI aa;rw[fv (n:=u.x*v.y) (by omega) (by omega),fv (n:=u.y*v.x) (by omega) (by omega),fv (by omega) (by omega)]
theorem Kb (p:P3) (v:V2) (a:Nat->SV) (f:a 0=i64 p.x) (g:a 1=i64 p.y) (h2:a 2=i64 p.d):DP 222 [vD v,.one (.ad 3 a)] (.d (vD (UY p v))):=by
 have h:uD [vD v,.one (.ad 3 a)] [vD v,.one (.ad 3 λj=>(pL p).getD j (.v Go.undef))]:=by
  refine .cR (.cons (dV.one (λS w x r=>?_)) .nil);obtain⟨b,o,i,rfl,k,l,m⟩:=Rd.qJ r;refine .ad i k l (λj c=>?_);have:=m j c
  match j,c with
  |0,_=>rw[f]at this;exact this
  |1,_=>rw[g]at this;exact this
  |2,_=>rw[h2]at this;exact this
 refine kM.le h ?_;refine dg Tryz.func222 [] ?_;exact Fin.rfl'
theorem ao.bool {m m':Id->Mem} {b a:Bool} (h:b=a):ao m m' (aD b) (aD a):=h▸ao.same
theorem sa (l:LV) (p:P3) (P:l.length<=40000):DP 184 [.one (aS l),pD p] (an (bL l p)):=by
 refine dg Tryz.func184 [] ?_;refine ah.bool (jq l P) (λb r=>?_);refine ab.mk (λh=>?_) (λh=>?_)
 ·have D:bV l=false:=(by rw[<-r];simpa using h);repeat' first|apply ab.t|apply ab.f
  refine Fin.int ?_;simp[bL,D]
 have D:bV l=true:=by rw[<-r];simpa using h
 repeat' first|apply ab.t|apply ab.f
 refine ah.bool (EF p) (λc o=>?_);repeat' first|apply ab.t|apply ab.f
 refine ab.mk (λh=>?_) (λh=>?_);have E:en p=false:=(by rw[<-o];simpa using h);refine Fin.int ?_;simp[bL,E];have E:en p=true:=by rw[<-o];simpa using h
 have a0:bL l p=cz l p:=by simp[bL,D,E]
 rw[a0];have Q:=D;simp only[bV,hI,XH,XU]at Q;obtain⟨⟨⟨⟨⟨a8,a9⟩,R⟩,b0⟩,b1⟩,x⟩:=Q;have S:¬l.length<2:=by omega
 have b2:=gL S;have G:=FI E;refine ah.mk' (lI l P) ?_;refine Loop.by (α:=Nat) (λk=>[(5,.d (.one (.fn 222 1 λj=>[SV.ad 3 λj=>(pL p).getD j (.v Go.undef)].getD j (.v Go.undef)))),(6,aD (nO l p k)),(23,.d (.one (nh (aw l)))),(24,an (aw l).length),(25,an k)]) (λ_=>[]) (λk=>k<=l.length/\∀i,i<k->qA (bN l i) p=false) (λk=>l.length-k)
  (aH.at 0 ⟨XS _,λ_ h=>absurd h (XL _)⟩ .nil (.cS (.cS (.cS (.cS (.cS .nil)))))) (λk T=>?_)
 obtain⟨T,U⟩:=T;refine ab.mk (λh=>?_) (λh=>?_)
 ·have V:k<l.length:=(by have:=XB h;omega);refine aj.o ?_;refine ah.v (Kb p (bm (aw l) k).a _ rfl rfl rfl) (λa x=>?_);refine ah.v (Kb p (bm (aw l) k).b _ rfl rfl rfl) (λb r=>?_);refine aj.n ?_;refine ah.v (bY (bm (aw l) k).b (bm (aw l) k).a) (λu H=>?_);refine ah.int (dW u a) (λz I=>?_);refine aj.n ?_;rw[dB S k V]at x r H;have J:In 2000 (bN l k).a:=cu R _;have X:In 2000 (bN l k).b:=cu R _;rw[EM G J]at x;rw[EM G X]at r;obtain⟨a1,a2⟩:=gP (by decide) X J;rw[a1]at H;rw[H,x,KL a2 (vM G J)]at I;have A:qA (bN l k) p=(decide (z=0)&&decide (cK a.x b.x<=0)&&decide (0<=cG a.x b.x)&&decide (cK a.y b.y<=0)&&decide (0<=cG a.y b.y)):=(by rw[I,x,r];rfl);have K:gZ (bN l k) p=((!(decide (0<=a.y)==decide (0<=b.y)))&&(decide (0<=a.y)==decide (0<z))):=(by rw[I,x,r];rfl);have M:∀(t:Nat->TV) (m:Id->Mem),fk t m (aX []) [(5,.d (.one (.fn 222 1 λj=>[SV.ad 3 λj=>(pL p).getD j (.v Go.undef)].getD j (.v Go.undef)))),(6,aD (nO l p (k+1))),(23,.d (.one (nh (aw l)))),(24,an (aw l).length),(25,an (IntKind.i64.wrap ((k:Int)+1)))]->qA (bN l k) p=false->
    aH t m (λa3 a4=>∃y,Kept (λk=>[(5,.d (.one (.fn 222 1 λj=>[SV.ad 3 λj=>(pL p).getD j (.v Go.undef)].getD j (.v Go.undef)))),(6,aD (nO l p k)),(23,.d (.one (nh (aw l)))),(24,an (aw l).length),(25,an k)]) (λ_=>[]) (λk=>k<=l.length/\∀i,i<k->qA (bN l i) p=false) y a3 a4/\l.length-y<l.length-k):=by
   intro t m Y f;rw[show IntKind.i64.wrap ((k:Int)+1)=((k+1:Nat):Int) from qB k 1]at Y;exact aH.back (rank:=λk=>l.length-k) (k+1) ⟨by omega,λj N=>by
    rcases YP.1 N with N|rfl;exact U j N
    ·exact f⟩ (by omega) .nil Y
  refine ab.mk (λg=>?_) (λg=>?_)
  rotate_left
  have f:qA (bN l k) p=false:=by rw[A,show decide (z=0)=false from g];rfl
  rotate_right
  replace g:decide (z=0)=true:=g
  focus (repeat' first|refine ab.t ?_|fail)
  refine ab.mk (λq=>?_) (λq=>?_)
  rotate_left
  have f:qA (bN l k) p=false:=by rw[A,g,show decide (cK a.x b.x<=0)=false from q];rfl
  rotate_right
  replace q:decide (cK a.x b.x<=0)=true:=q
  focus (repeat' first|refine ab.t ?_|fail)
  refine ab.mk (λw=>?_) (λw=>?_)
  rotate_left
  have f:qA (bN l k) p=false:=by rw[A,g,q,show decide (0<=cG a.x b.x)=false from w];rfl
  rotate_right
  replace w:decide (0<=cG a.x b.x)=true:=w
  focus (repeat' first|refine ab.t ?_|fail)
  refine ab.mk (λB=>?_) (λB=>?_)
  rotate_left
  have f:qA (bN l k) p=false:=by rw[A,g,q,w,show decide (cK a.y b.y<=0)=false from B];rfl
  rotate_right
  replace B:decide (cK a.y b.y<=0)=true:=B
  focus (repeat' first|refine ab.t ?_|fail)
  refine ab.mk (λC=>?_) (λC=>?_)
  rotate_left
  have f:qA (bN l k) p=false:=by rw[A,g,q,w,B,show decide (0<=cG a.y b.y)=false from C];rfl
  rotate_right
  replace C:decide (0<=cG a.y b.y)=true:=C;have a5:qA (bN l k) p=true:=(by rw[A,g,q,w,B,C];rfl);refine Fin.int ?_;have:fW l p=true:=(by rw[fW,bS k V (by rw[a5];rfl)];rfl);rw[cz,XG this];all_goals repeat' first|apply ab.t|apply ab.f
  all_goals refine aj.mk rfl ?_
  all_goals
   refine ab.mk (λF=>?_) (λF=>?_)
   ·repeat' first|refine ab.t ?_|fail
    refine aj.mk rfl ?_;repeat' first|refine ab.t ?_|fail
    refine ab.mk (λO=>?_) (λO=>?_);have o:gZ (bN l k) p=true:=(by rw[K,show(!(decide (0<=a.y)==decide (0<=b.y)))=true from F,show(decide (0<=a.y)==decide (0<z))=true from O];rfl);exact M _ _ (.cS (.cons (ao.bool (by rw[nO,o,Xh])) (.cS (.cS (.cS .nil))))) f;have o:gZ (bN l k) p=false:=(by rw[K,show(!(decide (0<=a.y)==decide (0<=b.y)))=true from F,show(decide (0<=a.y)==decide (0<z))=false from O];rfl);exact M _ _ (.cS (.cons (ao.bool (by rw[nO,o,WU])) (.cS (.cS (.cS .nil))))) f
   ·have o:gZ (bN l k) p=false:=(by rw[K,show(!(decide (0<=a.y)==decide (0<=b.y)))=false from F];rfl);repeat' first|apply ab.t|apply ab.f
    exact M _ _ (.cS (.cons (ao.bool (by rw[nO,o,WU])) (.cS (.cS (.cS .nil))))) f
 ·have a6:k=l.length:=(by have:=XA h;omega);subst a6;have Z:fW l p=false:=(by rw[fW,aE.2 (λi a7=>by rw[U i a7];rfl)];rfl);refine ab.mk (λh=>?_) (λh=>?_);refine Fin.int ?_;rw[cz,Z,XD (by simp),XG h];refine Fin.int ?_;rw[cz,Z,XD (by simp),XD (by rw[h];simp)]
def dp (l:LV) (v:V2):Int:=if aP v 4000=true then bL l (cb v)else 0
theorem EC (l:LV) (v:V2) (c:l.length<=40000):DP 118 [.one (aS l),vD v] (an (dp l v)):=by
 refine dg Tryz.func118 [] ?_;refine ah.bool (cA v 4000) (λb a=>?_);refine ab.mk (λh=>?_) (λh=>?_);refine Fin.int ?_;have:aP v 4000=false:=(by rw[<-a];simpa using h);simp[dp,this];have:aP v 4000=true:=(by rw[<-a];simpa using h);refine ah.mk' (nN v) ?_;refine ah.int (sa l (cb v) c) (λn f=>?_);refine Fin.int ?_;simp[dp,this,f]
theorem qs (a b:V2) (p:P3) (f:QW p) (c:In 2000 a) (g:In 2000 b):DP 227 [vD a,vD b,pD p] (an (bM (kP ⟨a,b⟩ p))):=by
 refine dg Tryz.func227 [] ?_;refine ah.v (Ad b a) (λu h=>?_);refine ah.int (Cg (fI u (UY p a))) (λn i=>?_);refine Fin.int ?_;obtain⟨j,k⟩:=gP (by decide) g c;rw[i,h,j,EM f c,KL k (vM f c)];rfl
def QJ (e:cc) (p:P3):Bool:=decide (p.x>=cK e.a.x e.b.x*p.d)&&decide (p.x<=cG e.a.x e.b.x*p.d)&&decide (p.y>=cK e.a.y e.b.y*p.d)&&decide (p.y<=cG e.a.y e.b.y*p.d)
variable {a:Int}
theorem LO {b:Int} (c: -2000<=a/\a<=2000) (f: -2000<=b/\b<=2000): -2000<=cK a b/\cK a b<=2000:=by unfold cK;split<;>omega
theorem LX {b:Int} (c: -2000<=a/\a<=2000) (f: -2000<=b/\b<=2000): -2000<=cG a b/\cG a b<=2000:=by unfold cG;split<;>omega
variable {x:Int}
theorem DZ {b d:Int} (g:1<=d):(decide (cK (x-a*d) (x-b*d)<=0)=decide (x<=cG a b*d))/\(decide (0<=cG (x-a*d) (x-b*d))=decide (x>=cK a b*d)):=by
 have c:a<=b->a*d<=b*d:=λh=>Yp h (by omega);have f:b<=a->b*d<=a*d:=λh=>Yp h (by omega);constructor;(rw[Yj];unfold cK cG;split<;>split<;>constructor<;>intro h<;>first|omega|(have:=c (by omega);omega)|(have:=f (by omega);omega))
 ·rw[Yj];unfold cK cG;split<;>split<;>constructor<;>intro h<;>first|omega|(have:=c (by omega);omega)|(have:=f (by omega);omega)
theorem RM (e:cc) (p:P3) (c:QW p):qA e p=(QJ e p&&decide (kP e p=0)):=by
 obtain⟨f,g⟩:=DZ (a:=e.a.x) (b:=e.b.x) (x:=p.x) c.d0;obtain⟨h,i⟩:=DZ (a:=e.a.y) (b:=e.b.y) (x:=p.y) c.d0;have j:qA e p=(decide (kP e p=0)&&decide (cK (p.x-e.a.x*p.d) (p.x-e.b.x*p.d)<=0)&&decide (0<=cG (p.x-e.a.x*p.d) (p.x-e.b.x*p.d))&&decide (cK (p.y-e.a.y*p.d) (p.y-e.b.y*p.d)<=0)&&decide (0<=cG (p.y-e.a.y*p.d) (p.y-e.b.y*p.d))):=rfl;rw[j,f,g,h,i];unfold QJ;generalize decide (kP e p=0)=k;generalize decide (p.x<=_)=l;generalize decide (p.x>=_)=m;generalize decide (p.y<=_)=o;generalize decide (p.y>=_)=q;revert k l m o q;decide
theorem Iw {d:Int} (h: -2000<=x/\x<=2000) (a:1<=d/\d<=134217728):cp (x*d)=x*d:=by
 obtain⟨b,c⟩:=CX h a;exact fv (by omega) (by omega)
theorem K0 (e:cc) (p:P3) (a:QW p) (b:In 2000 e.a) (c:In 2000 e.b):DP 226 [sD e,pD p] (aD (qA e p)):=by
 rw[RM e p a];refine dg Tryz.func226 [] ?_;have l:=Iw (LO ⟨b.x0,b.x1⟩ ⟨c.x0,c.x1⟩) ⟨a.d0,a.d1⟩;have m:=Iw (LX ⟨b.x0,b.x1⟩ ⟨c.x0,c.x1⟩) ⟨a.d0,a.d1⟩;have o:=Iw (LO ⟨b.y0,b.y1⟩ ⟨c.y0,c.y1⟩) ⟨a.d0,a.d1⟩;have q:=Iw (LX ⟨b.y0,b.y1⟩ ⟨c.y0,c.y1⟩) ⟨a.d0,a.d1⟩;have i:QJ e p=(decide (p.x>=cp (cK e.a.x e.b.x*p.d))&&decide (p.x<=cp (cG e.a.x e.b.x*p.d))&&decide (p.y>=cp (cK e.a.y e.b.y*p.d))&&decide (p.y<=cp (cG e.a.y e.b.y*p.d))):=by rw[l,m,o,q];rfl
 refine ab.mk (λf=>?_) (λf=>?_)
 rotate_left
 have k:QJ e p=false:=by rw[i,show decide (p.x>=cp (cK e.a.x e.b.x*p.d))=false from f];rfl
 rotate_right
 replace f:decide (p.x>=cp (cK e.a.x e.b.x*p.d))=true:=f
 focus (repeat' first|refine ab.t ?_|fail)
 refine ab.mk (λg=>?_) (λg=>?_)
 rotate_left
 have k:QJ e p=false:=by rw[i,f,show decide (p.x<=cp (cG e.a.x e.b.x*p.d))=false from g];rfl
 rotate_right
 replace g:decide (p.x<=cp (cG e.a.x e.b.x*p.d))=true:=g
 focus (repeat' first|refine ab.t ?_|fail)
 refine ab.mk (λh=>?_) (λh=>?_)
 rotate_left
 have k:QJ e p=false:=by rw[i,f,g,show decide (p.y>=cp (cK e.a.y e.b.y*p.d))=false from h];rfl
 rotate_right
 replace h:decide (p.y>=cp (cK e.a.y e.b.y*p.d))=true:=h
 focus (repeat' first|refine ab.t ?_|fail)
 refine ab.mk (λj=>?_) (λj=>?_)
 rotate_left
 have k:QJ e p=false:=by rw[i,f,g,h,show decide (p.y<=cp (cG e.a.y e.b.y*p.d))=false from j];rfl
 rotate_right
 ·replace j:decide (p.y<=cp (cG e.a.y e.b.y*p.d))=true:=j;have r:QJ e p=true:=(by rw[i,f,g,h,j];rfl);repeat' first|refine ab.t ?_|fail
  refine ah.int (qs e.a e.b p a b c) (λn t=>?_);repeat' first|refine ab.t ?_|fail
  refine Fin.bool ?_;rw[r,t,Zh];show(bM (kP e p)==0)=decide (kP e p=0);rw[Zd];simp[q7]
 all_goals
  repeat' first|apply ab.t|apply ab.f
  refine Fin.bool ?_;rw[k,Zp]
def Tz (e:cc) (p:P3):Bool:=(decide (e.a.y*p.d<=p.y)&&decide (e.b.y*p.d>p.y)&&decide (0<kP e p))||(decide (e.b.y*p.d<=p.y)&&decide (e.a.y*p.d>p.y)&&decide (kP e p<0))
theorem DK (e:cc) (p:P3):aa (fu p e.a) (fu p e.b)=p.d*kP e p:=by
 simp only[kP,aa,fu,af];grind
theorem OH {e:cc} {p:P3} (Q:QW p) (h:qA e p=false):Tz e p=gZ e p:=by
 have g:=DK e p;simp only[aa]at g;unfold gZ Tz;have C:(fu p e.a).y=p.y-e.a.y*p.d:=rfl;have D:(fu p e.b).y=p.y-e.b.y*p.d:=rfl;by_cases i:kP e p=0
 ·
  have I:¬(0<=(fu p e.a).y/\(fu p e.b).y<0)/\¬(0<=(fu p e.b).y/\(fu p e.a).y<0):=by
   have E:¬(cK (fu p e.a).x (fu p e.b).x<=0/\0<=cG (fu p e.a).x (fu p e.b).x/\cK (fu p e.a).y (fu p e.b).y<=0/\0<=cG (fu p e.a).y (fu p e.b).y):=(by intro⟨J,K,M,N⟩;have:qA e p=true:=(by simp[qA,i,J,K,M,N]);rw[h]at this;cases this);rw[i,Yh]at g;generalize (fu p e.a).x=j at*;generalize (fu p e.a).y=c at*;generalize (fu p e.b).x=f at*;generalize (fu p e.b).y=k at*;have F:∀u v w z:Int,0<=v->z<0->u*z=v*w->¬(0<u/\0<w)/\¬(u<0/\w<0):=(by intro u v w z G H R;refine⟨λ⟨a,b⟩=>?_,λ⟨a,b⟩=>?_⟩;have:=Ya a H;have:=XM G (XO b);omega;have:=Zl a H;have:=XI G (XO b);omega);constructor;(rintro⟨a,b⟩;obtain⟨O,P⟩:=F j c f k a b (by rw[Yd c f];have:=g;rw[Yd c f]at this;omega);refine E ⟨?_,?_,?_,?_⟩<;>simp only[cK,cG]<;>split<;>omega)
   ·rintro⟨a,b⟩;obtain⟨O,P⟩:=F f k j c a b (by rw[Yd k j,Yd f c];omega);refine E ⟨?_,?_,?_,?_⟩<;>simp only[cK,cG]<;>split<;>omega
  rw[C,D]at I|-;rw[i];generalize e.a.y*p.d=A at*;generalize e.b.y*p.d=B at*;have l:decide (0<=p.y-A)=decide (A<=p.y):=Yj.2 ⟨λh=>by omega,λh=>by omega⟩;have m:decide (0<=p.y-B)=decide (A<=p.y):=Yj.2 ⟨λh=>by omega,λh=>by omega⟩;have o:decide (B>p.y)=!decide (A<=p.y):=(by rw[<-Xl];exact Yj.2 ⟨λh=>by omega,λh=>by omega⟩);have x:decide (A>p.y)=!decide (A<=p.y):=(by rw[<-Xl];exact Yj.2 ⟨λh=>by omega,λh=>by omega⟩);have y:decide (B<=p.y)=decide (A<=p.y):=Yj.2 ⟨λh=>by omega,λh=>by omega⟩;rw[l,m,o,x,y];generalize decide (A<=p.y)=q;revert q;decide
 ·rw[C,D];generalize e.a.y*p.d=A at*;generalize e.b.y*p.d=B at*;have l:decide (0<=p.y-A)=decide (A<=p.y):=Yj.2 ⟨λh=>by omega,λh=>by omega⟩;have m:decide (0<=p.y-B)=decide (B<=p.y):=Yj.2 ⟨λh=>by omega,λh=>by omega⟩;have o:decide (B>p.y)=!decide (B<=p.y):=(by rw[<-Xl];exact Yj.2 ⟨λh=>by omega,λh=>by omega⟩);have x:decide (A>p.y)=!decide (A<=p.y):=(by rw[<-Xl];exact Yj.2 ⟨λh=>by omega,λh=>by omega⟩);have y:decide (kP e p<0)=!decide (0<kP e p):=(by rw[<-Xl];exact Yj.2 ⟨λh=>by omega,λh=>by omega⟩);rw[l,m,o,x,y];generalize decide (A<=p.y)=q;generalize decide (B<=p.y)=r;generalize decide (0<kP e p)=t;revert q r t;decide
theorem Ts (x:Int):decide (bM x>0)=decide (0<x)/\decide (bM x<0)=decide (x<0):=by
 constructor<;>rw[Yj]<;>unfold bM<;>split<;>(try split)<;>omega
theorem E4 (l:LV) (p:P3) (N:l.length<=40000):DP 192 [.one (aS l),pD p] (an (bL l p)):=by
 refine dg Tryz.func192 [] ?_;refine ah.bool (tK l N) (λb O=>?_);refine ab.mk (λh=>?_) (λh=>?_)
 ·have H:bV l=false:=(by rw[<-O];simpa using h);repeat' first|apply ab.t|apply ab.f
  refine Fin.int ?_;simp[bL,H]
 have H:bV l=true:=by rw[<-O];simpa using h
 repeat' first|apply ab.t|apply ab.f
 refine ah.bool (Cq p) (λc P=>?_);repeat' first|apply ab.t|apply ab.f
 refine ab.mk (λh=>?_) (λh=>?_);have I:en p=false:=(by rw[<-P];simpa using h);refine Fin.int ?_;simp[bL,I];have I:en p=true:=by rw[<-P];simpa using h
 have Y:bL l p=cz l p:=by simp[bL,H,I]
 rw[Y];have Q:=H;simp only[bV,hI,XH,XU]at Q;obtain⟨⟨⟨⟨⟨a7,a8⟩,r⟩,a9⟩,b0⟩,b1⟩:=Q;have f:¬l.length<2:=by omega
 have b2:=gL f;have a:=FI I;refine ah.mk' (mf l N) ?_;refine Loop.by (α:=Nat) (λk=>[(3,.ptr 3 0),(5,.d (.one (nh (aw l)))),(6,aD (nO l p k)),(7,an k)]) (λ_=>[(3,.box (pL p))]) (λk=>k<=l.length/\∀i,i<k->qA (bN l i) p=false) (λk=>l.length-k)
  (aH.at 0 ⟨XS _,λ_ h=>absurd h (XL _)⟩ (.cons (.box (gO.of_eq rfl)) .nil) (.cB (.cS (.cS (.cS .nil))))) (λk R=>?_)
 obtain⟨R,S⟩:=R;refine ab.mk (λh=>?_) (λh=>?_)
 ·have q:k<l.length:=(by have:=XB h;omega);have A:In 2000 (bm (aw l) k).a:=(by rw[dB f k q];exact cu r _);have B:In 2000 (bm (aw l) k).b:=(by rw[dB f k q];exact cu r _);refine aj.o ?_;refine ah.bool (K0 (bm (aw l) k) p a A B) (λo T=>?_);refine aj.n ?_;refine ab.mk (λK=>?_) (λK=>?_);have Z:qA (bN l k) p=true:=(by rw[<-dB f k q,<-T,K]);refine Fin.int ?_;have:fW l p=true:=(by rw[fW,bS k q (by rw[Z];rfl)];rfl);rw[cz,XG this];have U:qA (bN l k) p=false:=(by rw[<-dB f k q,<-T,K]);have J:gZ (bm (aw l) k) p=((decide (cp ((bm (aw l) k).a.y*p.d)<=p.y)&&decide (cp ((bm (aw l) k).b.y*p.d)>p.y)&&decide (0<kP (bm (aw l) k) p))||(decide (cp ((bm (aw l) k).b.y*p.d)<=p.y)&&decide (cp ((bm (aw l) k).a.y*p.d)>p.y)&&decide (kP (bm (aw l) k) p<0))):=(by rw[<-OH a (by rw[dB f k q];exact U),Iw ⟨A.y0,A.y1⟩ ⟨a.d0,a.d1⟩,Iw ⟨B.y0,B.y1⟩ ⟨a.d0,a.d1⟩];rfl);have u:nO l p (k+1)=xor (nO l p k) (gZ (bm (aw l) k) p):=(by rw[dB f k q];rfl);refine aj.o ?_;refine aj.o ?_;refine aj.n ?_;have w:∀(t:Nat->TV) (m:Id->Mem),fm m (aX [(3,.box (pL p))]) [(3,.box (pL p))]->fk t m (aX [(3,.box (pL p))]) [(3,.ptr 3 0),(5,.d (.one (nh (aw l)))),(6,aD (nO l p (k+1))),(7,an (IntKind.i64.wrap ((k:Int)+1)))]->
    aH t m (λa0 a1=>∃y,Kept (λk=>[(3,.ptr 3 0),(5,.d (.one (nh (aw l)))),(6,aD (nO l p k)),(7,an k)]) (λ_=>[(3,.box (pL p))]) (λk=>k<=l.length/\∀i,i<k->qA (bN l i) p=false) y a0 a1/\l.length-y<l.length-k):=by
   intro t m a2 V;rw[show IntKind.i64.wrap ((k:Int)+1)=((k+1:Nat):Int) from qB k 1]at V;exact aH.back (rank:=λk=>l.length-k) (k+1) ⟨by omega,λj M=>by
    rcases YP.1 M with M|rfl;exact S j M
    ·exact U⟩ (by omega) a2 V
  obtain⟨a3,a4⟩:=Ts (kP (bm (aw l) k) p);refine ab.mk (λC=>?_) (λC=>?_);all_goals repeat' first|apply ab.t|apply ab.f
  all_goals refine ab.mk (λD=>?_) (λD=>?_)
  all_goals repeat' first|apply ab.t|apply ab.f
  all_goals refine aj.n ?_
  ·have E:decide (cp ((bm (aw l) k).b.y*p.d)>p.y)=false:=(by have:=XB (show decide (cp ((bm (aw l) k).b.y*p.d)<=p.y)=true from D);exact dF);have F:decide (cp ((bm (aw l) k).a.y*p.d)>p.y)=false:=(by have:=XB (show decide (cp ((bm (aw l) k).a.y*p.d)<=p.y)=true from C);exact dF);refine ab.cP E ?_;repeat' first|apply ab.t|apply ab.f
   refine ab.cP F ?_;repeat' first|apply ab.t|apply ab.f
   exact w _ _ (.cons (.box (gO.of_eq rfl)) .nil) (.cB (.cS (.cons (ao.bool (by rw[u,J,F,E];simp)) (.cS .nil))))
  ·have x:decide (cp ((bm (aw l) k).b.y*p.d)<=p.y)=false:=D;have z:decide (cp ((bm (aw l) k).a.y*p.d)<=p.y)=true:=C;have E:decide (cp ((bm (aw l) k).b.y*p.d)>p.y)=true:=(by have:=XA x;exact X8 (by omega));refine ab.dA E ?_;repeat' first|apply ab.t|apply ab.f
   refine ah.int (qs (bm (aw l) k).a (bm (aw l) k).b p a A B) (λn r=>?_);repeat' first|apply ab.t|apply ab.f
   have G:gZ (bm (aw l) k) p=decide (n>0):=(by rw[J,z,E,x,r,a3];simp);refine ab.mk (λg=>?_) (λg=>?_)
   ·repeat' first|apply ab.t|apply ab.f
    exact w _ _ (.cons (.box (gO.of_eq rfl)) .nil) (.cB (.cS (.cons (ao.bool (by rw[u,G,g,Xh])) (.cS .nil))))
   ·repeat' first|apply ab.t|apply ab.f
    exact w _ _ (.cons (.box (gO.of_eq rfl)) .nil) (.cB (.cS (.cons (ao.bool (by rw[u,G,g,WU])) (.cS .nil))))
  ·have x:decide (cp ((bm (aw l) k).b.y*p.d)<=p.y)=true:=D;have z:decide (cp ((bm (aw l) k).a.y*p.d)<=p.y)=false:=C;have F:decide (cp ((bm (aw l) k).a.y*p.d)>p.y)=true:=(by have:=XA z;exact X8 (by omega));repeat' first|apply ab.t|apply ab.f
   refine ab.dA F ?_;repeat' first|apply ab.t|apply ab.f
   refine ah.int (qs (bm (aw l) k).a (bm (aw l) k).b p a A B) (λn r=>?_);repeat' first|apply ab.t|apply ab.f
   have G:gZ (bm (aw l) k) p=decide (n<0):=(by rw[J,z,F,x,r,a4];simp);refine ab.mk (λg=>?_) (λg=>?_);exact w _ _ (.cons (.box (gO.of_eq rfl)) .nil) (.cB (.cS (.cons (ao.bool (by rw[u,G,g,Xh])) (.cS .nil))));exact w _ _ (.cons (.box (gO.of_eq rfl)) .nil) (.cB (.cS (.cons (ao.bool (by rw[u,G,g,WU])) (.cS .nil))))
  ·have x:decide (cp ((bm (aw l) k).b.y*p.d)<=p.y)=false:=D;have z:decide (cp ((bm (aw l) k).a.y*p.d)<=p.y)=false:=C;repeat' first|apply ab.t|apply ab.f
   exact w _ _ (.cons (.box (gO.of_eq rfl)) .nil) (.cB (.cS (.cons (ao.bool (by rw[u,J,z,x];simp)) (.cS .nil))))
 ·have a5:k=l.length:=(by have:=XA h;omega);subst a5;have X:fW l p=false:=(by rw[fW,aE.2 (λi a6=>by rw[S i a6];rfl)];rfl);refine ab.mk (λh=>?_) (λh=>?_);refine Fin.int ?_;rw[cz,X,XD (by simp),XG h];refine Fin.int ?_;rw[cz,X,XD (by simp),XD (by rw[h];simp)]
theorem Iz {v:V2} (h:en (cb v)=true):aP v 4000=true:=by
 have:=FI h;have a:=this.x0;have b:=this.x1;have c:=this.y0;have f:=this.y1;exact In.within (by decide) (by decide) ⟨by simp only[cb]at a;omega,by simp only[cb]at b;omega,by simp only[cb]at c;omega,by simp only[cb]at f;omega⟩
theorem Cp (l:LV) (v:V2) (g:l.length<=40000):DP 127 [.one (aS l),vD v] (an (dp l v)):=by
 refine dg Tryz.func127 [] ?_;refine ah.bool (eK v 8000) (λb i=>?_);have j:aP v 4000=false->bL l (cb v)=0:=by
  intro h;have:en (cb v)=false:=by
   cases a:en (cb v)with
   |false=>rfl
   |true=>rw[Iz a]at h;cases h
  simp[bL,this]
 refine ab.mk (λh=>?_) (λh=>?_)
 ·refine Fin.int ?_;have c:aP v 8000=false:=(by rw[<-i];simpa using h);have:aP v 4000=false:=by
   cases a:aP v 4000 with
   |false=>rfl
   |true=>rw[In.within (by decide) (by decide) ((In.of (by decide) (by decide) a).up (by decide))]at c;cases c
  simp[dp,this]
 ·refine ah.mk' (AD v) ?_;refine ah.int (E4 l (cb v) g) (λn f=>?_);refine Fin.int ?_;unfold dp;cases a:aP v 4000 with
  |true=>simp[f]
  |false=>simp[f,j a]
theorem SS (E:LV) (s:V2) (k i j:Nat) (hi:i<k+1) (a:j<2) (hs:s=E.getD k ⟨0,0⟩):aC (bif Nat.blt i k then vG E i j else(vL s).getD ((i-k)*2+j) (.v Go.undef)) (vG E i j):=by
 refine aC.bif (λ_=>aC.refl _) (λh=>?_);have e:i=k:=by omega
 subst e;subst hs;rw[YM,W6,X6]
 match j,a with
 |0,_=>exact aC.refl _
 |1,_=>exact aC.refl _
theorem kV (a b:V2):DP 75 [vD a,vD b] (.d (vD (kc a b))):=by
 refine dg Tryz.func75 [] ?_;exact Fin.rfl'
def ef (l:LV) (v:V2):LV:=l.map λu=>kc u v
theorem wU (l:LV) (v:V2):(ef l v).length=l.length:=by simp[ef]
theorem O7 (l:LV) (v:V2) (i:Nat) (hi:i<l.length):(ef l v).getD i ⟨0,0⟩=kc (gt l i) v:=by simp[ef,gt,List.getD,hi]
abbrev Qw (l:LV) (e:Int):TV:= .eG [.one (aS l),.one (i64 e)]
def A1 (l:LV) (v:V2):LV×Int:=if bV l=false then([],11)else if aP v 4000=false then([],2)else if dJ (ef l v)=false then([],2)else(ef l v,0)
theorem Fin.K4 {a:LV} {e b:Int} (h:[]=a) (k:e=b):Fin (.eG [.one (.v (.slice none 0 0)),.one (i64 e)]) (Sg.Qw a b):=by
 subst h k;exact Fin.eG (.cons (dV.one (aC.nil _ _)) (.cR .nil))
theorem CZ (l:LV) (v:V2) (g:l.length<=40000):DP 36 [.one (aS l),vD v] (Qw (A1 l v).1 (A1 l v).2):=by
 refine dg Tryz.func36 [] ?_;refine ah.bool (jq l g) (λb m=>?_);refine ab.mk (λh=>?_) (λh=>?_);(have a:bV l=false:=(by rw[<-m];simpa using h);refine Fin.K4 ?_ ?_<;>simp[A1,a])
 have a:bV l=true:=by rw[<-m];simpa using h
 refine ah.bool (cA v 4000) (λc o=>?_);refine ab.mk (λh=>?_) (λh=>?_);(have hw:aP v 4000=false:=(by rw[<-o];simpa using h);refine Fin.K4 ?_ ?_<;>simp[A1,a,hw])
 have p:aP v 4000=true:=by rw[<-o];simpa using h
 refine Loop.by (α:=Nat) (λk=>[(3,.ptr 3 0),(15,.d (.one (aS l))),(16,an l.length),(17,an k),(6,.aL 26 0)]) (λk=>[(3,.box (vL v)),(26,.aJ 0 k 2 50 (vG (ef l v)))]) (λk=>k<=l.length) (λk=>l.length-k)
  (aH.nil 6 26 2 50 (vG (ef l v)) rfl rfl (aH.at 0 (XS _) (.cons (.box (gO.of_eq rfl)) (.cons (.aJ (λ_ h=>absurd h (XL _))) .nil)) (.cB (.cS (.cS (.cS (.cH .nil))))))) (λk B=>?_)
 refine ab.mk (λh=>?_) (λh=>?_);have r:k<l.length:=(by have:=XB h;omega);refine aj.o ?_;refine ah.v (kV (gt l k) v) (λu t=>?_);refine aj.mk (aY) ?_;refine aH.back (x:=k) (k+1) (by omega) (by omega) (.cons (.box (gO.of_eq rfl)) (.cons (.aJ (λi w j y=>SS (ef l v) u k i j w y (by rw[O7 l v k r,t]))) .nil)) (.cB (.cS (.cS (.cons (ao.int ?_) (.cH .nil)))));rw[hw _];omega
 ·have z:k=l.length:=(by have:=XA h;omega);subst z;have A:uD [.one (.sl l.length 2 (vG (ef l v)))] [.one (aS (ef l v))]:= .cons (dV.one (aC.qo (wU l v).symm (λ_ _ _ _=>aC.refl _))) .nil;refine ah.bool ((yV (ef l v) (by rw[wU];exact g)).le A) (λd q=>?_);refine ab.mk (λh=>?_) (λh=>?_);(have f:dJ (ef l v)=false:=(by rw[<-q];simpa using h);refine Fin.K4 ?_ ?_<;>simp[A1,a,p,f])
  ·have f:dJ (ef l v)=true:=(by rw[<-q];simpa using h);have e:A1 l v=(ef l v,0):=(by simp[A1,a,p,f]);rw[e];exact Fin.eG (.cons (dV.one (aC.qo (wU l v).symm (λ_ _ _ _=>aC.refl _))) (.cR .nil))
def lk (l:LV):Nat->Nat
 |0=>0
 |i+1=>if bu (gt l i) (gt l (lk l i))=true then i else lk l i
def eR (l:LV):Nat:=lk l l.length
def Cx (l:LV) (k:Nat):LV:=l.drop k++l.take k
def aO (l:LV):LV:=Cx l (eR l)
theorem w4 (l:LV):∀i,0<i->lk l i<i
 |0,h=>absurd h (Zg _)
 |i+1,_=>by simp only[lk];split;omega;rcases Zv i with h|h;subst h;simp[lk];have:=w4 l i h;omega
theorem TL (l:LV) (i:Nat):lk l i<=i:=by
 rcases Zv i with h|h;subst h;exact XP _;exact ZN (w4 l i h)
theorem FB (l:LV):∀i,(∀j,j<lk l i->bu (gt l (lk l i)) (gt l j)=true)/\∀j,j<i->bu (gt l j) (gt l (lk l i))=false
 |0=>⟨λj h=>absurd h (XL _),λj h=>absurd h (XL _)⟩
 |i+1=>by
  obtain⟨f,c⟩:=FB l i;simp only[lk];split
  ·rename_i b;refine⟨λj a=>?_,λj a=>?_⟩;rcases nX (gt l i) (gt l j)with h|h|h;exact h;have:=c j a;rw[<-h,b]at this;cases this;have:=c j a;rw[mr h b]at this;cases this
   ·rcases YP.1 a with a|rfl
    ·cases g:bu (gt l j) (gt l i)with
     |false=>rfl
     |true=>have:=c j a;rw[mr g b]at this;cases this
    ·exact eT _
  ·rename_i b;refine⟨f,λj a=>?_⟩;rcases YP.1 a with a|rfl;exact c j a;simpa using b
theorem eh (l:LV) (k:Nat):(Cx l k).length=l.length:=by simp[Cx];omega
theorem oT (l:LV) (k i:Nat) (a:k<=l.length) (hi:i<l.length):(Cx l k).getD i ⟨0,0⟩=if i<l.length-k then gt l (k+i)else gt l (i-(l.length-k)):=by
 unfold Cx gt;simp only[List.getD,Yo,ZB,Zn,Y2];split;rfl;rw[iP]
def aZ (l:LV):LV:=if bV l=true then aO l else[]
theorem wV (l:LV) (m:l.length<=40000) (i:0<l.length):DP 91 [.one (aS l),.one (.fn 92 0 λ_=> .v Go.undef)] (.d (vD (gt l (eR l)))):=by
 refine dg Tryz.func91 [] ?_;refine ab.cP (dF) ?_;refine aj.o ?_;refine Loop.by (α:=Nat) (λk=>[(0,.d (.one (aS l))),(1,.d (.one (.fn 92 0 λ_=> .v Go.undef))),(4,.ptr 4 0),(5,.ptr 5 0),(6,an k)]) (λk=>[(4,.box [i64 0,i64 0]),(5,.box (vL (gt l (lk l k))))]) (λk=>1<=k/\k<=l.length) (λk=>l.length-k)
  (aH.at 1 ⟨XP _,i⟩ (.cons (.box (gO.of_eq rfl)) (.cons (.box (gO.of_eq (by simp[lk]))) .nil)) (.cS (.cS (.cB (.cB (.cS .nil)))))) (λk f=>?_)
 obtain⟨o,f⟩:=f;refine ab.mk (λh=>?_) (λh=>?_);have p:k<l.length:=(by have:=XB h;omega);refine aj.o ?_;refine ah.int (iw (gt l k) (gt l (lk l k))) (λc g=>?_);refine aj.n ?_;refine ab.mk (λa=>?_) (λa=>?_);have b:bu (gt l k) (gt l (lk l k))=true:=(by rw[<-rS,<-g];exact a);refine aj.o ?_;refine aH.back (x:=k) (k+1) ⟨by omega,by omega⟩ (by omega) (.cons (.box (gO.of_eq rfl)) (.cons (.box (gO.of_eq ?_)) .nil)) (.cS (.cS (.cB (.cB (.cons (ao.int ?_) .nil)))));rw[lk,XG b];rfl;rw[hw _];omega;have b:¬bu (gt l k) (gt l (lk l k))=true:=(by rw[<-rS,<-g];intro e;rw[show decide (c<0)=false from a]at e;cases e);refine aH.back (x:=k) (k+1) ⟨by omega,by omega⟩ (by omega) (.cons (.box (gO.of_eq rfl)) (.cons (.box (gO.of_eq ?_)) .nil)) (.cS (.cS (.cB (.cB (.cons (ao.int ?_) .nil)))));rw[lk,XD b];rw[hw _];omega;have j:k=l.length:=(by have:=XA h;omega);subst j;exact Fin.rfl'
theorem sZ (l:LV) (f:l.length<=40000) (c:0<l.length):DP 90 [.one (aS l),vD (gt l (eR l))] (an (eR l)):=by
 refine dg Tryz.func90 [] ?_;have g:eR l<l.length:=w4 l _ c;refine Loop.by (α:=Nat) (λk=>[(0,.d (.one (aS l))),(3,.ptr 3 0),(7,an l.length),(8,an k)]) (λ_=>[(3,.box (vL (gt l (eR l))))]) (λk=>k<=eR l) (λk=>l.length-k)
  (aH.at 0 (XS _) (.cons (.box (gO.of_eq rfl)) .nil) (.cS (.cB (.cS (.cS .nil))))) (λk i=>?_)
 refine ab.dA (X8 (by omega)) ?_;refine aj.o ?_;refine tB.v (gt l (eR l)) (gt l k) (λq b=>?_);refine aj.n ?_;refine ab.mk (λa=>?_) (λa=>?_);refine Fin.int ?_;have e:=b.1 a;rcases Wu k (eR l)with h|h;have:=(FB l l.length).1 k h;rw[show gt l (lk l l.length)=gt l k from e,eT]at this;cases this;omega
 ·have j:k≠eR l:=λe=>by have:q=true:=b.2 (by rw[e]);rw[this]at a;cases a
  refine aH.back (x:=k) (k+1) (by omega) (by omega) (.cons (.box (gO.of_eq rfl)) .nil) (.cS (.cB (.cS (.cons (ao.int ?_) .nil))));rw[hw _];omega
theorem Ju (n:Nat) (b:n<=40000) (c:0<n):oC Tryz.prog 216 [.d (.one (.v (.slice none 0 0))),an n] [] (.aL (.n 3000) 0) [] (.aJ 0 0 2 50 (vG [])):=by
 refine dC kL mixed Tryz.func216 rfl rfl [] (XJ rfl) (XJ rfl) (gQ rfl) ?_;refine ab.cP (dF) ?_;have e:IntKind.i64.wrap ((n:Int)-IntKind.i64.wrap (0-((0:Nat):Int)))=n:=by rw[show IntKind.i64.wrap (0-((0:Nat):Int))=0 from rfl,hw _];omega
 refine ab.dA (X8 (by rw[e];omega)) ?_;refine aj.mk (by decide) ?_;refine aj.mk (by rw[e];exact⟨by omega,(show(n:Int)*16<=140737488355328 by omega),by simp only[maxLen];omega,by decide⟩) ?_;refine aj.o ?_;refine kv.r ⟨rfl,?_⟩;exact lS.mk ⟨.n 22,.one (.aL rfl rfl rfl),.nil _,.inr ⟨.aJ (λh=>absurd h (by decide)) (λi a=>absurd a (XL i)),rfl⟩⟩
theorem xz (a b:Nat) (c f g:Nat->Nat->SV) (h:a+b<=40000) (p:0<a+b) (q:g 0 0= .sl a 2 c) (e1:g 1 0= .sl b 2 f):
  DP 177 [.one (.sl 2 1 g)] (.d (.one (.sl (a+b) 2 λi j=>bif Nat.blt i a then c i j else f (i-a) j))):=by
 refine kM.le (xL:=[.one (.sl 2 1 λi _=>match i with|0=> .sl a 2 c|_=> .sl b 2 f)]) (.cons (dV.one (aC.sl (λi k j r=>aC.of_eq ?_))) .nil) ?_
 ·obtain rfl:j=0:=by omega
  match i,k with
  |0,_=>exact q
  |1,_=>exact e1
 refine ic kL mixed Tryz.func177 rfl rfl [216+2000000] (XJ rfl) ?_;refine Loop.vC 3 ?_;refine ab.t ?_;refine aj.mk (by decide) ?_;have l:IntKind.i64.wrap (0+(a:Int))=a:=by rw[hw _];omega
 have m:IntKind.i64.wrap (IntKind.i64.wrap (0+(a:Int))+(b:Int))=((a+b:Nat):Int):=by rw[l,hw _];omega
 refine ab.cP (X1 (by rw[l];omega)) ?_;refine ab.t ?_;refine aj.mk (by decide) ?_;refine ab.cP (X1 (by rw[m];omega)) ?_;refine ab.f ?_;refine eu.mk' [] (Ju (a+b) h p) ⟨.nil,.cD (.cons (.d (dV.of_eq (by rw[m]))) .nil),rfl,rfl,λ_=>rfl⟩ ?_;refine Loop.vC 3 ?_;refine ab.t ?_;refine aj.mk (by decide) ?_;refine aj.mk (aY) ?_;refine ab.t ?_;refine aj.mk (by decide) ?_;refine aj.mk (aY) ?_;refine ab.f ?_;refine Fin.one ?_;refine aC.qo (by omega) (λi k j r=>aC.of_eq ?_);simp only[X6,aai];by_cases o:i<a;rw[iI o,ZG,ZG,hM (XL i),ZM];rw[hM o,ZM,ZM]
theorem zC (l:LV) (f:l.length<=40000):DP 198 [.one (aS l)] (.d (.one (aS (aZ l)))):=by
 refine dg Tryz.func198 [] ?_;refine ah.bool (jq l f) (λb k=>?_);refine ab.mk (λh=>?_) (λh=>?_);refine Fin.one ?_;rw[aZ,<-k,XD (by simpa using h)];exact aC.nil _ _;have a:bV l=true:=by rw[<-k];simpa using h
 have g:0<l.length:=by simp only[bV,hI,XH,XU]at a;omega
 have p:eR l<l.length:=w4 l _ g;refine ah.v (wV l f g) (λv a=>?_);subst a;refine ah.int (sZ l f g) (λn o=>?_);subst o;refine aj.o ?_;refine aj.o ?_;refine ah.mk' (xz (l.length-eR l) (eR l-0) _ _ _ (by omega) (by omega) rfl rfl) ?_;refine aj.n ?_;refine Fin.one ?_;rw[aZ,XG a];refine aC.qo (by simp only[aO,eh];omega) (λi q j r=>aC.of_eq ?_);have m:i<l.length:=by omega
 by_cases c:i<l.length-eR l;rw[iI c,ZG];refine kW ?_ j;rw[aO,oT _ _ _ (by omega) m,XG c];rfl;rw[hM c,ZM];refine kW ?_ j;rw[aO,oT _ _ _ (by omega) m,XD c,X6]
def R9 (l:LV) (i:Nat):Bool:=decide (gt l i=bw l i)||decide (cQ (iZ l i) (gt l i) (bw l i)=0)
def ex (l:LV):Option Nat:=(List.range l.length).find? (R9 l)
end Sg
end Go.Vm
namespace Go.Vm
namespace Sg
open Go Go.RowKit Go.Proofs
theorem xK:∀{l m:LV},JS l->JS m->(∀e,e∈l↔e∈m)->l=m
 |[],[],_,_,_=>rfl
 |[],y::m,_,_,h=>absurd ((h y).2 (by simp)) (by simp)
 |x::l,[],_,_,h=>absurd ((h x).1 (by simp)) (by simp)
 |x::l,y::m,g,i,h=>by have j:x=y:=(by have h1:=(h x).1 (by simp);have c:=(h y).2 (by simp);rcases XF.1 h1 with h1|h1;exact h1;rcases XF.1 c with c|c;exact c.symm;have a:=i.1 x h1;have b:=g.1 y c;rw[mu a]at b;cases b);subst j;congr 1;refine xK g.2 i.2 λe=>?_;constructor;intro f;rcases XF.1 ((h e).1 (XK _ f))with k|k;subst k;have:=g.1 e f;rw[eT]at this;cases this;exact k;intro f;rcases XF.1 ((h e).2 (XK _ f))with k|k;subst k;have:=i.1 e f;rw[eT]at this;cases this;exact k
theorem vY {l m:LV} (h:∀e,e∈l↔e∈m):ix l=ix m:=by
 obtain⟨a,b⟩:=eN l;obtain⟨c,f⟩:=eN m;exact xK a c λe=>(b e).trans ((h e).trans (f e).symm)
abbrev Xn (s t:cc):Int:=s.a.x*gl s t+(af s.b s.a).x*aa (af t.a s.a) (af t.b t.a)
abbrev Yn (s t:cc):Int:=s.a.y*gl s t+(af s.b s.a).y*aa (af t.a s.a) (af t.b t.a)
structure hE (s t s' t':cc):Prop where
 v:(az s=false\/az t=false)↔(az s'=false\/az t'=false)
 m:∀e,e∈(eV s' t').filter (fK s' t')↔e∈(eV s t).filter (fK s t)
 c:az s=true->az t=true->(dR s' t'=true↔dR s t=true)
 d:gl s' t'= -gl s t
 x:Xn s' t'= -Xn s t
 y:Yn s' t'= -Yn s t
theorem L0 {x y d:Int} (h:d≠0):Jg (-x) (-y) (-d)=Jg x y d:=by
 unfold Jg;by_cases a:d<0;rw[iN,XG a];rw[iP,XD a,Int.neg_neg,Int.neg_neg,Int.neg_neg]
variable {s:cc}
theorem hE.agree {t s' a:cc} (h:hE s t s' a):aI s' a=aI s t/\pK s' a=pK s t/\ey s' a=ey s t:=by
 have g:aN s' a=aN s t:=vY h.m;have i:aI s' a=aI s t:=by
  by_cases b:az s=false\/az t=false;rw[aI,aI,XG b,XG (h.v.1 b)]
  ·rw[aI,aI,XD b,XD (λk=>b (h.v.2 k)),g];have j:az s=true:=by
    cases q:az s with
    |true=>rfl
    |false=>exact absurd (.inl q) b
   have l:az t=true:=by
    cases q:az t with
    |true=>rfl
    |false=>exact absurd (.inr q) b
   have:=h.c j l;split;rfl;split;rfl;by_cases f:dR s t=true;rw[XG f,XG (this.2 f)];rw[XD f,XD (λk=>f (this.1 k))]
 refine⟨i,?_,?_⟩;rw[pK,pK,i,g];split;rfl;split;rename_i r;obtain⟨j,l,f⟩:=yQ r;have u:=zu j l f;have o:=h.x;have p:=h.y;have w:=h.d;simp only[Xn,Yn]at o p;rw[o,p,w,L0 u];rfl;rw[ey,ey,i,g]
theorem IL (s t:cc):hE s t t s:=by
 refine⟨⟨λh=>h.symm,λh=>h.symm⟩,λe=>?_,λf g=>?_,?_,?_,?_⟩
 ·rw[dt,dt];constructor;(rintro⟨a,b,c⟩;refine⟨?_,c,b⟩;rcases a with h|h|h|h<;>simp[h])
  ·rintro⟨a,b,c⟩;refine⟨?_,c,b⟩;rcases a with h|h|h|h<;>simp[h]
 ·simp only[dR,XH];exact⟨λh=>⟨h.2,h.1⟩,λh=>⟨h.2,h.1⟩⟩
 ·simp only[gl,aa];grind
 ·simp only[Xn,gl,aa,af];grind
 ·simp only[Yn,gl,aa,af];grind
def eF (a v:V2):V2:=⟨a.x+v.x,a.y+v.y⟩
def iQ (s:cc) (v:V2):cc:=⟨eF s.a v,eF s.b v⟩
theorem Il {a b v:V2}:eF a v=eF b v↔a=b:=by
 rw[V2.eq_iff,V2.eq_iff];simp only[eF];omega
theorem NB (a b v:V2):bu (eF a v) (eF b v)=bu a b:=by
 rw[Zd,cN,cN];simp only[eF];omega
theorem HE (v x:V2):∀l:LV,gH (l.map (eF · v)) (eF x v)=(gH l x).map (eF · v)
 |[]=>rfl
 |y::l=>by simp only[Yg,gH,NB,Il,HE v x l];split;rfl;(split<;>rfl)
theorem KB (v:V2) (l:LV):ix (l.map (eF · v))=(ix l).map (eF · v):=by
 have:∀(l o:LV),(l.map (eF · v)).foldl gH (o.map (eF · v))=(l.foldl gH o).map (eF · v):=by
  intro l;induction l with
  |nil=>intro o;rfl
  |cons x l a=>intro o;simp only[Yg,ZP];rw[HE,a]
 exact this l []
theorem A0 {v:V2} (hs:az s=true) (a:az (iQ s v)=true) (e:V2):iY (iQ s v) (eF e v)=iY s e:=by
 rw[Zd,gE hs,gE a,fO,fO];have b:ck (iQ s v) (eF e v)=ck s e:=by simp only[ck,aa,af,iQ,eF];grind
 rw[b];simp only[iQ,eF];omega
theorem Jf {t:cc} {v:V2} (hs:az s=true) (c:az t=true) (f:az (iQ s v)=true) (g:az (iQ t v)=true):
  aI (iQ s v) (iQ t v)=aI s t/\aN (iQ s v) (iQ t v)=(aN s t).map (eF · v):=by
 have o:aN (iQ s v) (iQ t v)=(aN s t).map (eF · v):=by
  rw[aN,aN,<-KB];refine vY λe=>?_;simp only[XQ,dt];constructor
  ·rintro⟨m,i,j⟩;have k:∀b,e=eF b v->(b=s.a\/b=s.b\/b=t.a\/b=t.b)->∃a,((a=s.a\/a=s.b\/a=t.a\/a=t.b)/\iY s a=true/\iY t a=true)/\eF a v=e:=λb p q=>by subst p;rw[A0 hs f]at i;rw[A0 c g]at j;exact⟨b,⟨q,i,j⟩,rfl⟩
   rcases m with h|h|h|h;exact k s.a h (by simp);exact k s.b h (by simp);exact k t.a h (by simp);exact k t.b h (by simp)
  ·rintro⟨a,⟨m,i,j⟩,rfl⟩;rw[A0 hs f,A0 c g];refine⟨?_,i,j⟩;simp only[iQ,Il];exact m
 refine⟨?_,o⟩;obtain⟨r,u⟩:=cF hs;obtain⟨w,x⟩:=cF c;obtain⟨y,z⟩:=cF f;obtain⟨A,B⟩:=cF g;have l:∀(s:cc) (e:V2),ck (iQ s v) (eF e v)=ck s e:=λs e=>by simp only[ck,aa,af,iQ,eF];grind
 have C:dR (iQ s v) (iQ t v)=dR s t:=by simp only[dR,dH hs w,dH hs x,dH c r,dH c u,dH f A,dH f B,dH g y,dH g z];rw[show(iQ t v).a=eF t.a v from rfl,show(iQ t v).b=eF t.b v from rfl,show(iQ s v).a=eF s.a v from rfl,show(iQ s v).b=eF s.b v from rfl,l,l,l,l]
 have D:¬(az (iQ s v)=false\/az (iQ t v)=false):=by simp[f,g]
 have E:¬(az s=false\/az t=false):=by simp[hs,c]
 rw[aI,XD D,o,C,X9,aI,XD E]
end Sg
end Go.Vm
namespace Go.Vm
open Go Go.RowKit Go.Proofs
namespace Sg
def aT:Nat->(Nat->Int)->Int
 |0,_=>0
 |n+1,f=>aT n f+f n
theorem gg (f:Nat->Int) (a:Nat):∀b,aT (a+b) f=aT a f+aT b (λi=>f (a+i))
 |0=>by simp[aT]
 |b+1=>by rw[<-YQ];simp only[aT];rw[gg f a b];omega
theorem bA {n:Nat} {f g:Nat->Int} (h:∀i,i<n->f i=g i):aT n f=aT n g:=by
 induction n with
 |zero=>rfl
 |succ n a=>simp only[aT];rw[a (λi b=>h i (by omega)),h n (by omega)]
def fp:Nat->(Nat->Bool)->Bool
 |0,_=>false
 |n+1,f=>xor (fp n f) (f n)
theorem wB (f:Nat->Bool) (a:Nat):∀b,fp (a+b) f=xor (fp a f) (fp b (λi=>f (a+i)))
 |0=>by simp[fp]
 |b+1=>by rw[<-YQ];simp only[fp];rw[wB f a b,Bool.xor_assoc]
variable {g:Nat->Bool}
theorem ib {n:Nat} {f:Nat->Bool} (h:∀i,i<n->f i=g i):fp n f=fp n g:=by
 induction n with
 |zero=>rfl
 |succ n a=>simp only[fp];rw[a (λi b=>h i (by omega)),h n (by omega)]
variable {k:Nat}
theorem B4 {n:Nat} (f:Nat->Int) (c:k<=n):aT n (λi=>f ((k+i)%n))=aT n f:=by
 have a:aT n (λi=>f ((k+i)%n))=aT (n-k) (λi=>f (k+i))+aT k f:=by
  conv=>lhs;rw[show n=(n-k)+k by omega]
  rw[gg];congr 1;refine bA (λi b=>?_);rw[show n-k+k=n by omega,mOf];refine bA (λi b=>?_);rw[show n-k+k=n by omega,show k+(n-k+i)=i+n by omega,YE,mOf]
 rw[a]
 conv=>rhs;rw[show n=k+(n-k) by omega]
 rw[gg];omega
theorem Lq {n:Nat} (f:Nat->Bool) (c:k<=n):fp n (λi=>f ((k+i)%n))=fp n f:=by
 have a:fp n (λi=>f ((k+i)%n))=xor (fp (n-k) (λi=>f (k+i))) (fp k f):=by
  conv=>lhs;rw[show n=(n-k)+k by omega]
  rw[wB];congr 1;refine ib (λi b=>?_);rw[show n-k+k=n by omega,mOf];refine ib (λi b=>?_);rw[show n-k+k=n by omega,show k+(n-k+i)=i+n by omega,YE,mOf]
 rw[a]
 conv=>rhs;rw[show n=k+(n-k) by omega]
 rw[wB,Bool.xor_comm]
def lM (l:LV):Int:=aT l.length λi=>aa (gt l i) (bw l i)
theorem Ea {l:LV} (a:dJ l=true):∀k,k<=40000->rZ l k=aT k (λi=>aa (gt l i) (bw l i))/\ -(8000000*(k:Int))<=rZ l k/\rZ l k<=8000000*k
 |0,_=>by simp[rZ,aT]
 |k+1,o=>by obtain⟨b,g,h⟩:=Ea a k (by omega);obtain⟨e,c,f⟩:=fR (m:=2000) (by decide) (by decide) (cu a k) (cu a ((k+1)%l.length));have j:fI (gt l k) (bw l k)=aa (gt l k) (bw l k):=e;replace c: -8000000<=aa (gt l k) (bw l k):=c;replace f:aa (gt l k) (bw l k)<=8000000:=f;simp only[rZ,aT];rw[j,fv (by omega) (by omega),b];rw[b]at g h;exact⟨rfl,by omega,by omega⟩
theorem Ik {l:LV} (a:dJ l=true) (b:l.length<=40000:=by omega):rY l=lM l:=(Ea a l.length b).1
def Sy (l:LV):Prop:=∀i,i<l.length->∀k,k<l.length->i≠k->k≠(i+1)%l.length->i≠(k+1)%l.length->aI (bN l i) (bN l k)=0
structure bk (l:LV):Prop where
 three:3<=l.length
 xd:l.length<=40
 fE:dJ l=true
 Eb:0<lM l
 turns:∀i,i<l.length->iW (iZ l i) (gt l i) (bw l i)≠0
 apart:Sy l
variable {i:Nat}
theorem BN {n:Nat} (hi:i<k) (c:k<n):hD n i k=true↔(k=(i+1)%n\/i=(k+1)%n):=by
 simp only[hD,Zo,XH,XU];rw[X3 (show i+1<n by omega)];constructor;rintro(h|⟨b,a⟩);exact .inl h;right;rw[a,show n-1+1=n by omega,Zz];exact b;rintro(h|h);exact .inl h;by_cases a:k+1=n;rw[a,Zz]at h;exact .inr ⟨h,by omega⟩;rw[mOf]at h;omega
theorem yB (s t:cc):aI t s=aI s t:=(IL s t).agree.1
theorem ez {l:LV}:bV l=true↔bk l:=by
 constructor
 ·intro h;simp only[bV,hI,XH,XU]at h;obtain⟨⟨⟨⟨⟨g,m⟩,c⟩,o⟩,p⟩,q⟩:=h;refine⟨g,m,c,by rw[<-Ik c];exact o,λi b=>?_,λi b k f x r g=>?_⟩
  ·have:=XB (aE.1 p i b)
   rwa [iZ,bw,zY c]at this
  ·have t:∀i k,i<k->k<l.length->hD l.length i k=false->aI (bN l i) (bN l k)=0:=(by intro i k a f w;have:=aE.1 (aE.1 q i (by omega)) k f;simp only[w,Zo,XU,Y4,WZ]at this;rw[<-(fG _ _).1];exact this.resolve_left (by omega));rcases Wu i k with a|a
   ·refine t i k a f ?_;cases j:hD l.length i k with
    |false=>rfl
    |true=>rcases(BN a f).1 j with h|h;exact absurd h r;exact absurd h g
   ·have a:k<i:=(by omega);rw[yB];refine t k i a b ?_;cases j:hD l.length k i with
    |false=>rfl
    |true=>rcases(BN a b).1 j with h|h;exact absurd h g;exact absurd h r
 ·rintro⟨g,m,c,o,p,q⟩;simp only[bV,hI,XH,XU];refine⟨⟨⟨⟨⟨g,m⟩,c⟩,by rw[Ik c];exact o⟩,aE.2 (λi b=>?_)⟩,aE.2 (λi b=>aE.2 (λk f=>?_))⟩
  ·have:=p i b;refine X8 ?_
   rwa [iZ,bw,zY c]
  ·by_cases a:k<=i;simp[a]
   ·cases j:hD l.length i k with
    |true=>simp
    |false=>
     have u:¬(k=(i+1)%l.length\/i=(k+1)%l.length):=λh=>by rw[(BN (by omega) f).2 h]at j;cases j
     have:=q i b k f (by omega) (λh=>u (.inl h)) (λh=>u (.inr h));rw[<-(fG _ _).1]at this;simp[this]
structure BQ (l l':LV) (k:Nat):Prop where
 len:l'.length=l.length
 le:k<=l.length
 at_:∀i,i<l.length->gt l' i=gt l ((k+i)%l.length)
theorem KX (l:LV) (k:Nat) (a:k<=l.length):BQ l (Cx l k) k:=by
 refine⟨eh l k,a,λi b=>?_⟩;show(Cx l k).getD i ⟨0,0⟩=_;rw[oT l k i a b];split;rw[mOf];rw[show k+i=(i-(l.length-k))+l.length by omega,YE,mOf]
section
variable {l l':LV} {k:Nat}
theorem BQ.bw (h:BQ l l' k) {i:Nat} (hi:i<l.length):bw l' i=bw l ((k+i)%l.length):=by
 unfold Sg.bw;rw[h.len,h.at_ _ (mLt),W0,Z2,YQ]
theorem BQ.iZ (h:BQ l l' k) {i:Nat} (hi:i<l.length):iZ l' i=iZ l ((k+i)%l.length):=by
 unfold Sg.iZ;rw[h.len,h.at_ _ (mLt),W0];congr 1;have a:=Nat.div_add_mod (k+i) l.length;have b:=ZJ (k+i) (show 0<l.length by omega);rw[show k+(i+l.length-1)=(k+i)+(l.length-1) by omega,show(k+i)%l.length+l.length-1=(k+i)%l.length+(l.length-1) by omega,Z2]
theorem BQ.bN (h:BQ l l' k) {i:Nat} (hi:i<l.length):bN l' i=bN l ((k+i)%l.length):=by
 unfold Sg.bN;rw[h.at_ i hi,h.bw hi]
theorem BQ.inj (h:BQ l l' k) {j:Nat} (hi:i<l.length) (f:j<l.length) (e:(k+i)%l.length=(k+j)%l.length):i=j:=by
 have g:=h.le;by_cases b:k+i<l.length<;>by_cases c:k+j<l.length
 ·rw[X3 b,X3 c]at e;omega
 ·rw[X3 b,Wt (by omega),mOf]at e;omega
 ·rw[X3 c,Wt (by omega),mOf]at e;omega
 ·rw[Wt (by omega),mOf,Wt (a:=k+j) (by omega),mOf]at e;omega
theorem BQ.fE (h:BQ l l' k) (a:dJ l=true):dJ l'=true:=lx (λi b=>by
 rw[h.at_ i (by rw[<-h.len];exact b)];exact(cu a _).within (by decide) (by decide))
theorem BQ.back (h:BQ l l' k):BQ l' l (l.length-k):=by
 refine⟨h.len.symm,by rw[h.len];omega,λi a=>?_⟩;rw[h.len]at a|-;have b:=h.le;rw[h.at_ _ (mLt),W0,show k+(l.length-k+i)=i+l.length by omega,YE,X3 a]
theorem BQ.Eb (h:BQ l l' k):lM l'=lM l:=by
 unfold lM;rw[h.len,<-B4 (λi=>aa (gt l i) (Sg.bw l i)) h.le];exact bA (λi a=>by rw[h.at_ i a,h.bw a])
theorem BQ.ok (h:BQ l l' k) (b:bk l):bk l':=by
 refine⟨by rw[h.len];exact b.three,by rw[h.len];exact b.xd,h.fE b.fE,by rw[h.Eb];exact b.Eb,λi a=>?_,λi a j c m f g=>?_⟩;rw[h.len]at a;rw[h.at_ i a,h.bw a,h.iZ a];exact b.turns _ (mLt);rw[h.len]at a c f g;rw[h.bN a,h.bN c];refine b.apart _ (mLt) _ (mLt) (λe=>m (h.inj a c e)) (λe=>f ?_) (λe=>g ?_);refine h.inj c (mLt) ?_;rw[e,Z2,W0,YQ];refine h.inj a (mLt) ?_;rw[e,Z2,W0,YQ]
theorem Gc {n:Nat} {f:Nat->Bool} (h:∀i,i<n->f i=g i):bJ n f=bJ n g:=by
 rw[Zd,aE,aE];exact⟨λk i a=>by rw[<-h i a];exact k i a,λk i a=>by rw[h i a];exact k i a⟩
theorem pc (l:LV) (p:P3):∀k,nO l p k=fp k λi=>gZ (Sg.bN l i) p
 |0=>rfl
 |k+1=>by simp only[nO,fp];rw[pc l p k]
end
theorem s5 {l:LV} (h:bk l) {i:Nat} (hi:i<l.length):gt l i≠bw l i:=by
 intro e;refine h.turns i hi ?_;rw[<-e];unfold iW;rw[show aa (af (gt l i) (iZ l i)) (af (gt l i) (iZ l i))=0 by simp only[aa];rw[Yd];omega];rfl
theorem zJ (l:LV):BQ l (aO l) (eR l):=KX l _ (TL l _)
theorem D4 {l:LV} (a:0<l.length):∀j,j<l.length->bu (gt (aO l) j) (gt (aO l) 0)=false:=by
 intro j c;have b:=zJ l;rw[b.at_ j c,b.at_ 0 a,YR,X3 (show eR l<l.length from w4 l _ a)];exact(FB l l.length).2 _ (ZJ _ a)
theorem I6 (u:Nat->Bool) {n:Nat} (f:0<n):fp n (λi=>xor (u i) (u ((i+1)%n)))=false:=by
 have g:∀m,fp m (λi=>xor (u i) (u ((i+1)%n)))=xor (fp m u) (fp m λi=>u ((i+1)%n)):=by
  intro m;induction m with
  |zero=>rfl
  |succ m h=>simp only[fp];rw[h];generalize fp m u=a;generalize (fp m λi=>u ((i+1)%n))=b;generalize u m=c;generalize u ((m+1)%n)=d;revert a b c d;decide
 rw[g];have j:fp n (λi=>u ((i+1)%n))=fp n u:=by rw[<-Lq u (show 1<=n from f)];exact ib (λi _=>by rw[Zm])
 rw[j,Bool.xor_self]
variable {a:Int}
theorem Hn {b:Int} (c:0<a) (f:0<b):decide (cK a b<=0)=false:=X1 (by unfold cK;split<;>omega)
theorem Hr {b:Int} (c:a<0) (f:b<0):decide (0<=cG a b)=false:=X1 (by unfold cG;split<;>omega)
theorem qx {n:Nat} {f:Nat->Bool} (h:∀i,i<n->f i=false):fp n f=false:=by
 rw[ib (g:=λ_=>false) h];clear h;induction n with
 |zero=>rfl
 |succ n a=>simp only[fp];rw[a];rfl
variable {p:P3}
theorem lT {l:LV} (a:∀i,i<l.length->qA (bN l i) p=false) (h2:fp l.length (λi=>gZ (bN l i) p)=false):cz l p=0:=by
 have b:fW l p=false:=by unfold fW;rw[aE.2 (λi c=>by rw[a i c];rfl)];rfl
 rw[cz,b,pc,h2];simp
theorem Ix {l:LV} (B:1<=p.d) (h:(∀i,(fu p (gt l i)).y<0)\/(∀i,0<(fu p (gt l i)).y)\/(∀i,0<(fu p (gt l i)).x)\/(∀i,(fu p (gt l i)).x<0)):cz l p=0:=by
 have c:∀i,fu p (bN l i).a=fu p (gt l i):=λ_=>rfl;have f:∀i,fu p (bN l i).b=fu p (gt l ((i+1)%l.length)):=λ_=>rfl;have x:∀i,(fu p (gt l i)).x*(fu p (gt l ((i+1)%l.length))).y-(fu p (gt l i)).y*(fu p (gt l ((i+1)%l.length))).x=p.d*kP (bN l i) p:=λi=>DK (bN l i) p;have sg:∀i,(0<p.d*kP (bN l i) p->0<kP (bN l i) p)/\(p.d*kP (bN l i) p<0->kP (bN l i) p<0):=by intro i;refine⟨λh=>?_,λh=>?_⟩;refine Y3.1 (λk=>?_);have:=XI (show 0<=p.d by omega) k;omega;refine Y3.1 (λk=>?_);have:=XM (show 0<=p.d by omega) k;omega
 rcases h with h|h|h|h;refine lT (λi _=>?_) (qx (λi _=>?_));unfold qA;rw[c,f,Hr (h i) (h _),WD];unfold gZ;rw[c,f,X1 (show¬0<=(fu p (gt l i)).y by have:=h i;omega),X1 (show¬0<=(fu p (gt l ((i+1)%l.length))).y by have:=h ((i+1)%l.length);omega)];rfl;refine lT (λi _=>?_) (qx (λi _=>?_));unfold qA;rw[c,f,Hn (h i) (h _),WD,Zp];unfold gZ;rw[c,f,X8 (show 0<=(fu p (gt l i)).y by have:=h i;omega),X8 (show 0<=(fu p (gt l ((i+1)%l.length))).y by have:=h ((i+1)%l.length);omega)];rfl
 ·refine lT (λi _=>?_) (qx (λi _=>?_));unfold qA;rw[c,f,Hn (h i) (h _),WD,Zp,Zp,Zp]
  ·have g:=h i;have j:=h ((i+1)%l.length);have y:=x i;obtain⟨m,o⟩:=sg i;unfold gZ;rw[c,f];generalize (fu p (gt l i)).x=z at*;generalize (fu p (gt l i)).y=q at*;generalize (fu p (gt l ((i+1)%l.length))).x=A at*;generalize (fu p (gt l ((i+1)%l.length))).y=r at*;by_cases a:0<=q<;>by_cases b:0<=r
   ·rw[X8 a,X8 b];rfl
   ·have t:=Ya g (Y3.1 b);have u:=XM a (XO j);have:=o (by omega);rw[X8 a,X1 b,X1 (show¬0<kP (bN l i) p by omega)];rfl
   ·have t:=XM (XO g) b;have u:=X2 (Y3.1 a) j;have:=m (by omega);rw[X1 a,X8 b,X8 this];rfl
   ·rw[X1 a,X1 b];rfl
 ·refine lT (λi _=>?_) ?_;unfold qA;rw[c,f,Hr (h i) (h _),WD,Zp,Zp]
  ·rcases Zv l.length with w|w;rw[w];rfl;rw[<-I6 (λi=>decide (0<=(fu p (gt l i)).y)) w];refine ib (λi _=>?_);have g:=h i;have j:=h ((i+1)%l.length);have y:=x i;obtain⟨m,o⟩:=sg i;unfold gZ;rw[c,f];generalize (fu p (gt l i)).x=z at*;generalize (fu p (gt l i)).y=q at*;generalize (fu p (gt l ((i+1)%l.length))).x=A at*;generalize (fu p (gt l ((i+1)%l.length))).y=r at*;by_cases a:0<=q<;>by_cases b:0<=r
   ·rw[X8 a,X8 b];rfl
   ·have t:=Zl g (Y3.1 b);have u:=XI a (XO j);have:=m (by omega);rw[X8 a,X1 b,X8 this];rfl
   ·have t:=YD (XO g) b;have u:=Zl (Y3.1 a) j;have:=o (by omega);rw[X1 a,X8 b,X1 (show¬0<kP (bN l i) p by omega)];rfl
   ·rw[X1 a,X1 b];rfl
structure ku (l l':LV) (v:V2):Prop where
 len:l'.length=l.length
 at_:∀i,i<l.length->gt l' i=eF (gt l i) v
section
variable {l l':LV} {v:V2}
theorem ku.bw (h:ku l l' v) {i:Nat} (hi:i<l.length):bw l' i=eF (bw l i) v:=by
 unfold Sg.bw;rw[h.len,h.at_ _ (mLt)]
theorem ku.iZ (h:ku l l' v) {i:Nat} (hi:i<l.length):iZ l' i=eF (iZ l i) v:=by
 unfold Sg.iZ;rw[h.len,h.at_ _ (mLt)]
theorem ku.bN (h:ku l l' v) {i:Nat} (hi:i<l.length):bN l' i=iQ (bN l i) v:=by
 unfold Sg.bN;rw[h.at_ i hi,h.bw hi];rfl
theorem J3 (a b c v:V2):iW (eF a v) (eF b v) (eF c v)=iW a b c:=by
 unfold iW;congr 1;simp only[aa,af,eF];grind
theorem Ab (f:Nat->Int) {n:Nat} (a:0<n):aT n (λi=>f ((i+1)%n)-f i)=0:=by
 have b:∀m,aT m (λi=>f ((i+1)%n)-f i)=aT m (λi=>f ((i+1)%n))-aT m f:=by
  intro m;induction m with
  |zero=>rfl
  |succ m c=>simp only[aT];rw[c];omega
 rw[b];have g:aT n (λi=>f ((i+1)%n))=aT n f:=by rw[<-B4 f (show 1<=n from a)];exact bA (λi _=>by rw[Zm])
 omega
theorem nv {n:Nat} (f g:Nat->Int):aT n (λi=>f i+g i)=aT n f+aT n g:=by
 induction n with
 |zero=>rfl
 |succ n a=>simp only[aT];rw[a];omega
theorem ku.Eb (h:ku l l' v):lM l'=lM l:=by
 rcases Zv l.length with a|a;unfold lM;rw[h.len,a];rfl;unfold lM;rw[h.len];have e:aT l.length (λi=>aa (gt l' i) (Sg.bw l' i))=aT l.length (λi=>aa (gt l i) (Sg.bw l i)+((λj=>aa v (gt l j)) ((i+1)%l.length)-(λj=>aa v (gt l j)) i)):=by refine bA (λi b=>?_);rw[h.at_ i b,h.bw b];show aa (eF (gt l i) v) (eF (Sg.bw l i) v)=aa (gt l i) (Sg.bw l i)+(aa v (Sg.bw l i)-aa v (gt l i));simp only[aa,eF];grind
 rw[e,nv,Ab (λj=>aa v (gt l j)) a];omega
theorem ku.ok (h:ku l l' v) (b:bk l) (f:dJ l'=true):bk l':=by
 refine⟨by rw[h.len];exact b.three,by rw[h.len];exact b.xd,f,by rw[h.Eb];exact b.Eb,λi a=>?_,λi a j c p g k=>?_⟩;rw[h.len]at a;rw[h.at_ i a,h.bw a,h.iZ a,J3];exact b.turns i a;have m:=cx f i;have o:=cx f j;rw[h.len]at a c g k;rw[h.bN a]at m;rw[h.bN c]at o;rw[h.bN a,h.bN c,(Jf (cx b.fE i) (cx b.fE j) m o).1];exact b.apart i a j c p g k
end
theorem Lm {v:V2} (h:In 4000 v):QW (cb v):=⟨by simp[cb],by simp[cb],by have:=h.x0;simp only[cb];omega,by have:=h.x1;simp only[cb];omega,by have:=h.y0;simp only[cb];omega,by have:=h.y1;simp only[cb];omega⟩
theorem GV {v:V2} (h:In 4000 v):en (cb v)=true:=by
 obtain⟨a,b,c,f,g,i⟩:=Lm h;unfold en;rw[fJ.2 ⟨a,b,c,f,g,i⟩,Zh];exact X8 (by simp[cb])
theorem PA {l:LV} (b:dJ l=true) {p:V2} (h:¬In 4000 p):cz l (cb p)=0:=by
 have a:=λi=>cu b i;have c:p.x< -4000\/4000<p.x\/p.y< -4000\/4000<p.y:=by refine Xz (λf=>h ⟨by omega,by omega,by omega,by omega⟩)
 refine Ix (by simp[cb]) ?_;simp only[fu,cb];rcases c with h|h|h|h;exact .inr (.inr (.inr (λi=>by have:=(a i).x0;omega)));exact .inr (.inr (.inl (λi=>by have:=(a i).x1;omega)));exact .inl (λi=>by have:=(a i).y0;omega);exact .inr (.inl (λi=>by have:=(a i).y1;omega))
theorem yw {l:LV} (a:bk l) (p:V2):dp l p=cz l (cb p):=by
 unfold dp bL;cases hw:aP p 4000 with
 |true=>rw[XG rfl,XG ⟨ez.2 a,GV (In.of (by decide) (by decide) hw)⟩]
 |false=>rw[XD (by simp),PA a.fE (λb=>by rw[b.within (by decide) (by decide)]at hw;cases hw)]
end Sg
end Go.Vm
namespace Go.Vm
open Go Go.RowKit
variable {ρ:Id->Option (Nat×Nat)} {m:Id->Mem} {w:World}
theorem Rel.Le {E:Env} {t:Nat->TV} {a:Act} (h:Rel E ρ t m a w) (o:Id) (j:List CV) (F:(m o).dw=true) (k:(m o).live)
  (G:∀f,(∃c∈j,c.refs f)->m f≠ .none) (H:iJ E m ρ w o (.obj j)):Rel E ρ t (bo m o (.obj j)) a w:=by
 have B:Shape (m o) (.obj j):= .dw F rfl;have r:Shape (m o) (bo m o (.obj j) o):=by rw[ar];exact B
 have u:bo ρ o (ρ o)=ρ:=fw ρ o;have y:bo ρ o (ρ o) o=ρ o:=ar _ _ _;have D:∀b,L E m ρ w b->L E (bo m o (.obj j)) (bo ρ o (ρ o)) w b/\w.heap[b]? =w.heap[b]?:=λb C=>⟨⟨C.1,λf z l q=>by
  rw[u]at q;by_cases p:f=o;subst p;exact C.2 f z k q
  ·rw[av _ _ _ p]at l;exact C.2 f z l q⟩,rfl⟩
 have I:m o≠ .none:=λe=>by rw[e]at k;exact k
 have:=h.one o (.obj j) (ρ o) (Bx.refl _ _ _) D (λ_ _ _ _ _ _=>rfl)
  (λ_ b c A=>⟨h.lo o b c k A,λf z J l q=>J (h.inj f o b z c l k q A)⟩)
  B.ne (λf A=> .inr (G f A)) (λK=>absurd K I) (λM=>by rw[<-B.gen];exact M) (by
   obtain⟨b,c,N,e,O,P,Q⟩:=H;refine⟨b,c,N,e,by rw[u];exact O,P,Q.mono D (λf _=>?_)⟩;by_cases p:f=o;subst p;exact r.carry y
   ·exact Carry.same (av _ _ _ p) (by rw[u])) (λ_=>r.carry y) (λx g i R _=>r.ep y x g i R) (λx g S n _=>r.sub y x g S n)
 rwa [u]at this
variable {J:(Nat->TV)->(Id->Mem)->Prop}
theorem aH.rp {t:Nat->TV} (o:Id) (i q k:Nat) (e:TypeId) (get:Nat->Nat->SV) (cs:List SV) (j:List CV) (l:m o= .box cs) (hi:cs[i]? =some (.v (.slice none 0 0))) (y:j=(cs.map CV.s).set i (.aL (.n q) 0)) (z:m (.n q)= .none)
  (h:aH t (bo (bo m (.n q) (.aJ 0 0 k e get)) o (.obj j)) J) (G:q<2000:=by decide):aH t m J:=by
 obtain⟨H,I,K,M⟩:=h;have N:o≠ .n q:=λO=>by rw[O,z]at l;cases l
 refine⟨H,I,λE ρ a w P=>?_,M⟩;obtain⟨A,Q⟩:=P.wJ (.n q) 0 k e get ⟨by omega,.inl ⟨z,E.Vv q G⟩⟩;have p:bo m (.n q) (.aJ 0 0 k e get) o= .box cs:=by rw[av _ _ _ N,l]
 refine K E _ a w (A.Le o j (by rw[p];rfl) (by rw[p];trivial) ?_ ?_);rintro Y ⟨c,r,B⟩;subst y;rcases aaM r with r|rfl;obtain⟨x,_,rfl⟩:=XQ.1 r;exact B.elim;cases B;rw[ar];simp
 ·have C:=A.mem o;rw[p]at C;obtain⟨b,c,xs,R,D,F,S⟩:=C;refine⟨b,c,xs,R,D,F,?_⟩;subst y;generalize bo m (.n q) (.aJ 0 0 k e get)=f at*;generalize bo ρ (.n q) none=g at*;clear D F;have T:∀(cs:List SV) (xs:List Value) (i:Nat),eJ (L E f g w) w xs cs->cs[i]? =some (.v (.slice none 0 0))->fU (L E f g w) f g w xs ((cs.map CV.s).set i (.aL (.n q) 0)):=by
   intro cs;induction cs with
   |nil=>intro xs i _ hi;simp at hi
   |cons c cs u=>
    intro xs i U hi;cases U with
    |@cons x _ xs _ a b=>
     cases i with
     |zero=>
      simp only[List.getElem?_cons_zero,Y9]at hi;subst hi;have V:=(Rd.cm a).1;subst V;have X:∀(cs:List SV) (xs:List Value),eJ (L E f g w) w xs cs->fU (L E f g w) f g w xs (cs.map CV.s):=by
       intro cs;induction cs with
       |nil=>intro xs h;cases h;exact .nil
       |cons c cs u=>intro xs h;cases h with|cons a b=>exact .cons a (u _ b)
      exact .cons Q (X _ _ b)
     |succ i=>exact .cons a (u xs i b (by simpa using hi))
  exact T cs xs i S hi
inductive N2 (r:Id) (g:Nat) (c0:SV):List CV->List CV->Prop where
 |nil:N2 r g c0 [] []
 |same {c:CV} {l l':List CV} (h:N2 r g c0 l l'):N2 r g c0 (c::l) (c::l')
 |shut {l l':List CV} (h:N2 r g c0 l l'):N2 r g c0 (.aL r g::l) (.s c0::l')
variable {g:Nat} {c0:SV} {l':List CV}
theorem N2.mem {r:Id} {l:List CV} (h:N2 r g c0 l l'):∀c∈l',c∈l\/c= .s c0:=by
 induction h with
 |nil=>simp
 |same _ b=>intro c a;rcases XF.1 a with rfl|a;exact .inl (by simp);exact(b c a).imp (λh=>by simp[h]) id
 |shut _ b=>intro c a;rcases XF.1 a with rfl|a;exact .inr rfl;exact(b c a).imp (λh=>by simp[h]) id
theorem N2.rd {r:Id} {S S':Nat->Prop} {m':Id->Mem} (key:∀x,bF m ρ x r g->Rd S' w x c0) {l:List CV} (h:N2 r g c0 l l'):∀{xs:List Value},fU S m ρ w xs l->fU S' m' ρ w xs l->fU S' m' ρ w xs l':=by
 induction h with
 |nil=>intro xs _ h;exact h
 |same _ f=>intro xs i j;cases i with|cons a b=>cases j with|cons c d=>exact .cons c (f b d)
 |shut _ f=>intro xs i j;cases i with|cons a b=>cases j with|cons c d=>exact .cons (key _ a) (f b d)
theorem aH.s8 {t:Nat->TV} (o r:Id) (cs K:List CV) (gr nr f:Nat) (a6:TypeId) (A:Nat->Nat->SV)
  (B:m o= .obj cs) (g:m r= .aJ gr nr f a6 A) (S:N2 r gr (.sl nr f A) cs K)
  (h:aH t (bo (bo m r .dead) o (.obj K)) J):aH t m J:=by
 obtain⟨a7,a8,a9,b0⟩:=h;have b1:o≠r:=λb2=>by rw[b2,g]at B;cases B
 refine⟨a7,a8,λE ρ a w u=>?_,b0⟩;have b3:∀b,L E m ρ w b->L E (bo m r .dead) ρ w b:=λb C=>⟨C.1,λD T l q=>by
  by_cases k:D=r;subst k;rw[ar]at l;exact l.elim
  ·rw[av _ _ _ k]at l;exact C.2 D T l q⟩
 have b4:∀x,bF m ρ x r gr->Rd (L E (bo m r .dead) ρ w) w x (.sl nr f A):=by intro x b5;have b6:(m r).bK=some (gr,nr,f):=(by rw[g];rfl);have F:=((bB b6).1 b5).2.2 rfl;have U:=u.mem r;rw[g]at U;rcases U with⟨z,b7⟩|⟨V,X,b8,z,b9,c9,c0,c1,Y⟩;simp only[cE,z]at F;rw[F,b7];exact Rd.nil f A;simp only[cE,z]at F;rw[F];obtain⟨M,c2⟩:=u.lo r V X (cU g) z;refine Rd.sl (λi j=>(b8[i*f+j]?).getD Go.undef) ⟨.inr (M.imp (λq=>q) (λM=>⟨M,c2⟩)),λZ c3 G c4=>?_⟩ c0 c1 (λi N j O=>?_) (λi N j O=>?_);by_cases k:Z=r;subst k;rw[ar]at G;exact G.elim;rw[av _ _ _ k]at G;exact k (u.inj Z r V c3 X G (cU g) c4 z);obtain⟨y,P,_⟩:=Y i N j O;simp[World.cell?,b9,P];obtain⟨y,P,H⟩:=Y i N j O;simp only[P,Yt];exact H.mono (λb C=>⟨b3 b C,rfl⟩)
 have Q:=u.Bp r (by rw[g];simp);have I:bo m r .dead o= .obj cs:=by rw[av _ _ _ b1,B]
 refine a9 E ρ a w (Q.Le o K (by rw[I];rfl) (by rw[I];trivial) ?_ ?_);rintro D ⟨c,R,H⟩;rcases S.mem c R with R|rfl;exact Q.cleanM o D (by rw[I];exact⟨c,R,H⟩);exact H.elim
 ·have a0:=u.mem o;have a1:=Q.mem o;rw[B]at a0;rw[I]at a1;obtain⟨b,c,a2,e,a3,a4,c5⟩:=a0;obtain⟨d0,T,c6,d1,a5,p,c7⟩:=a1;rw[a3]at a5;cases a5;rw[a4]at p;have c8:a2=c6:=by
   injection p with p
   injection p with p _ _
   simpa using p
  subst c8;exact⟨b,c,a2,e,a3,a4,S.rd b4 c5 c7⟩
theorem nC {W:List Nat}:∀{b:List (Nat×TV)},b.all (λq=>!(W.any (Nat.beq q.1)))=true->yf W (db b)
 |[],_=>λ_ _=>rfl
 |(k,x)::r,h=>λi a=>by
  simp only[List.all_cons,XH,YK]at h;have c:i≠k:=λe=>by rw[e,h.1]at a;cases a
  show bo (db r) k x i= .any;rw[av _ _ _ c];exact nC h.2 i a
theorem mQ.by {P:Program} {N:Nat} {f:Operand} {w:Array Tmp} {c j:Code} {y z:je->(Nat->TV)->(Id->Mem)->Prop} {Q:je} {t:Nat->TV} {n:Nat} {cap:Nat->SV} {xs:List DV} {p:Nat}
  (ks:Nat->List (Nat×TV)) (a:Nat->List (Id×Mem)) (l:Nat->Prop) (A:bG t f= .d (.one (.fn g n cap))) (B:Iter P g (cells n cap) xs) (C:w=#[p]) (D:p<N) (E:(fB c&&fB j)=true)
  (F:∀k,(ks k).all (λq=>!((p::(kO c++kO j)).any (Nat.beq q.1)))=true) (G:fm m (aX (a 0)) (a 0)) (H:fk t m (aX (a 0)) (ks 0)) (I:l 0)
  (J:∀k x,xs[k]? =some x->l k->y (λe K M=>match e with
   | .normal=>z (λe r u=>match e with
    | .normal=>aH r u λb o=>b=db (ks (k+1))/\o=aX (a (k+1))/\l (k+1)
    | .exit i=>aH r u λb o=>yf (p::(kO c++kO j)) b/\Q (.exit i) b o
    | .ret=>aH r u λb o=>yf (p::(kO c++kO j)) b/\Q .ret b o) K M
   |_=>False) (bo (db (ks k)) p (.d x)) (aX (a k)))
  (O:l xs.length->Q .normal (db (ks xs.length)) (aX (a xs.length))):mQ P N f w c j y z Q t m:=
 ⟨g,n,cap,xs,p,λk=>db (ks k),λk=>aX (a k),l,A,B,C,D,E,λk=>nC (F k),qS G H,I,J,O⟩
theorem aH.next {t:Nat->TV} {ks:List (Nat×TV)} {a:List (Id×Mem)} {b:Prop} (c:fm m (aX a) a) (f:fk t m (aX a) ks) (h:b):aH t m (λg i=>g=db ks/\i=aX a/\b):=
 ⟨_,_,qS c f,rfl,rfl,h⟩
end Go.Vm
namespace Go.Vm
open Go Go.RowKit Go.Proofs
namespace Sg
abbrev hF (o:LV) (h:List (LV)):DV:= .agg [aS o,hS h]
variable {cap:Nat->SV}
theorem aC.fn {f n:Nat} {a:Nat->SV} (h:∀j,j<n->aC (cap j) (a j)):aC (.fn f n cap) (.fn f n a):=λS w x r=>by
 obtain⟨c,rfl,g⟩:=Rd.od r;exact .fn c (λj b=>h j b _ _ _ (g j b))
theorem aC.ad {n:Nat} {a c:Nat->SV} (h:∀j,j<n->aC (a j) (c j)):aC (.ad n a) (.ad n c):=λS w x r=>by
 obtain⟨b,m,g,rfl,i,k,l⟩:=Rd.qJ r;exact .ad g i k (λj f=>h j f _ _ _ (l j f))
theorem sK (o:LV) (h:List (LV)):DP 59 [hF o h] (.d (.one (.fn 110 1 λ_=> .ad 2 (KF o h)))):=by
 refine dg Tryz.func59 [] ?_;refine Fin.one (aC.fn (λj a=>?_))
 match j,a with
 |0,_=>exact aC.ad (λi b=>match i,b with
  |0,_=>aC.refl _
  |1,_=>aC.refl _)
theorem mQ.V3 {P:Program} {N:Nat} {f:Operand} {w:Array Tmp} {c j:Code} {y z:je->(Nat->TV)->(Id->Mem)->Prop} {Q:je} {t:Nat->TV} {m:Id->Mem} {g n:Nat} {xs:List DV} {p:Nat}
  (ks:Nat->List (Nat×TV)) (l:Nat->List (Id×Mem)) (o:Nat->Prop) (A:bG t f= .d (.one (.fn g n cap))) (B:Iter P g (cells n cap) xs) (C:w=#[p]) (D:p<N) (E:(fB c&&fB j)=true)
  (F:∀k,(ks k).all (λq=>!((p::(kO c++kO j)).any (Nat.beq q.1)))=true) (G:aH t m (λa b=>a=db (ks 0)/\b=aX (l 0)/\o 0))
  (H:∀k x,xs[k]? =some x->o k->y (λe I J=>match e with
   | .normal=>z (λe r u=>match e with
    | .normal=>aH r u λa b=>a=db (ks (k+1))/\b=aX (l (k+1))/\o (k+1)
    | .exit i=>aH r u λa b=>yf (p::(kO c++kO j)) a/\Q (.exit i) a b
    | .ret=>aH r u λa b=>yf (p::(kO c++kO j)) a/\Q .ret a b) I J
   |_=>False) (bo (db (ks k)) p (.d x)) (aX (l k)))
  (K:o xs.length->Q .normal (db (ks xs.length)) (aX (l xs.length))):mQ P N f w c j y z Q t m:=by
 obtain⟨R,S,M,rfl,rfl,O⟩:=G;exact⟨g,n,cap,xs,p,λk=>db (ks k),λk=>aX (l k),o,A,B,C,D,E,λk=>nC (F k),M,O,H,K⟩
theorem FW (l:LV) (b:l.length<=40000):DP 93 [.one (aS l)] (.d (.one (aS l))):=by
 refine dg Tryz.func93 [] ?_;refine SF.mk ?_ (λa=>?_);refine aj.mk (aY) ?_;exact Fin.one (aC.qo (X6 _) (λi c j f=>aC.of_eq (by rw[hM (XL i)];rfl)));obtain rfl:l=[]:=Y1 a;exact Fin.one (aC.nil _ _)
variable {P:Program} {args:List DV}
theorem kM.vt {f:FuncId} {e:Bool} (h:kM P f args (aD e)) (b:Bool) (a:e=b):kM P f args (aD b):=a▸h
theorem kM.vi {f:FuncId} {e:Int} (h:kM P f args (an e)) (b:Int) (a:e=b):kM P f args (an b):=a▸h
def FF (n:Nat) (B:Nat->Bool):Int:=match (List.range n).find? B with
 |some k=>(k:Int)
 |none=> -1
variable {B:Nat->Bool}
theorem jN {n k:Nat} (a:k<n) (h:B k=true) (b:∀i,i<k->B i=false):FF n B=k:=by
 unfold FF;rw[Xf.2 ⟨h,X4.2 a,λj c=>by rw[b j c];rfl⟩]
theorem lF {n:Nat} (a:∀i,i<n->B i=false):FF n B= -1:=by
 unfold FF;rw[Xg.2 (λj b=>by rw[a j b];rfl)]
theorem rG (n:Nat) (B:Nat->Bool):decide (FF n B>=0)=!bJ n λk=>!B k:=by
 unfold FF;cases h:(List.range n).find? B with
 |none=>have:=Xg.1 h;rw[aE.2 this];rfl
 |some k=>
  obtain⟨a,b,_⟩:=Xf.1 h;have:bJ n (λk=>!B k)=false:=by
   cases c:bJ n (λk=>!B k)with
   |false=>rfl
   |true=>have:=aE.1 c k (X4.1 b);rw[a]at this;cases this
  rw[this];simp
theorem Mr (l:LV) (f n:Nat) (cap:Nat->SV) (B:Nat->Bool) (q:l.length<=40000) (o:∀k,k<l.length->DP f (vD (gt l k)::gn n cap) (aD (B k))):
  DP 183 [.one (aS l),.one (.fn f n cap)] (an (FF l.length B)):=by
 refine dg Tryz.func183 [] ?_;refine Loop.by (α:=Nat) (λk=>[(0,.d (.one (aS l))),(1,.d (.one (.fn f n cap))),(7,an l.length),(8,an k)]) (λ_=>[]) (λk=>k<=l.length/\∀i,i<k->B i=false) (λk=>l.length-k)
  (aH.at 0 ⟨XS _,λ_ h=>absurd h (XL _)⟩ .nil (.cS (.cS (.cS (.cS .nil))))) (λk g=>?_)
 obtain⟨g,a⟩:=g;refine ab.mk (λh=>?_) (λh=>?_);have j:k<l.length:=(by simpa using h);refine aj.o ?_;refine ah.bool (o k j) (λb m=>?_);refine ab.mk (λc=>?_) (λc=>?_);exact Fin.int (jN j (by rw[<-m,c]) a).symm;refine aH.back (x:=k) (k+1) ⟨by omega,λi r=>?_⟩ (by omega) .nil (.cS (.cS (.cS (.cons (ao.int ?_) .nil))));by_cases e:i=k;rw[e,<-m,c];exact a i (by omega);rw[hw _];omega;have p:k=l.length:=(by have:¬k<l.length:=(by simpa using h);omega);subst p;exact Fin.int (by rw[lF a])
theorem PX (l:LV) (f n:Nat) (cap:Nat->SV) (B:Nat->Bool) (a:l.length<=40000) (b:∀k,k<l.length->DP f (vD (gt l k)::gn n cap) (aD (B k))):
  DP 116 [.one (aS l),.one (.fn f n cap)] (aD (!bJ l.length λk=>!B k)):=by
 refine dg Tryz.func116 [] ?_;refine ah.int (Mr l f n cap B a b) (λm c=>?_);exact Fin.bool (by rw[<-rG l.length B,<-c])
theorem Mp (l:LV) (f n:Nat) (cap:Nat->SV) (B:Nat->Bool) (q:l.length<=40000) (o:∀k,k<l.length->DP f (vD (gt l k)::gn n cap) (aD (B k))):
  DP 194 [.one (aS l),.one (.fn f n cap)] (an (FF l.length B)):=by
 refine dg Tryz.func194 [] ?_;refine Loop.by (α:=Nat) (λk=>[(0,.d (.one (aS l))),(1,.d (.one (.fn f n cap))),(7,an l.length),(8,an k)]) (λ_=>[]) (λk=>k<=l.length/\∀i,i<k->B i=false) (λk=>l.length-k)
  (aH.at 0 ⟨XS _,λ_ h=>absurd h (XL _)⟩ .nil (.cS (.cS (.cS (.cS .nil))))) (λk g=>?_)
 obtain⟨g,a⟩:=g;refine ab.mk (λh=>?_) (λh=>?_);have j:k<l.length:=(by simpa using h);refine aj.o ?_;refine ah.bool (o k j) (λb m=>?_);refine ab.mk (λc=>?_) (λc=>?_);exact Fin.int (jN j (by rw[<-m,c]) a).symm;refine aH.back (x:=k) (k+1) ⟨by omega,λi r=>?_⟩ (by omega) .nil (.cS (.cS (.cS (.cons (ao.int ?_) .nil))));by_cases e:i=k;rw[e,<-m,c];exact a i (by omega);rw[hw _];omega;have p:k=l.length:=(by have:¬k<l.length:=(by simpa using h);omega);subst p;exact Fin.int (by rw[lF a])
theorem Ig (l:LV) (f n:Nat) (cap:Nat->SV) (B:Nat->Bool) (a:l.length<=40000) (b:∀k,k<l.length->DP f (vD (gt l k)::gn n cap) (aD (B k))):
  DP 128 [.one (aS l),.one (.fn f n cap)] (aD (!bJ l.length λk=>!B k)):=by
 refine dg Tryz.func128 [] ?_;refine ah.int (Mp l f n cap B a b) (λm c=>?_);exact Fin.bool (by rw[<-rG l.length B,<-c])
theorem Mq (l:List cc) (f n:Nat) (cap:Nat->SV) (B:Nat->Bool) (q:l.length<=40000) (o:∀k,k<l.length->DP f (sD (bm l k)::gn n cap) (aD (B k))):
  DP 214 [.one (nh l),.one (.fn f n cap)] (an (FF l.length B)):=by
 refine dg Tryz.func214 [] ?_;refine Loop.by (α:=Nat) (λk=>[(0,.d (.one (nh l))),(1,.d (.one (.fn f n cap))),(7,an l.length),(8,an k)]) (λ_=>[]) (λk=>k<=l.length/\∀i,i<k->B i=false) (λk=>l.length-k)
  (aH.at 0 ⟨XS _,λ_ h=>absurd h (XL _)⟩ .nil (.cS (.cS (.cS (.cS .nil))))) (λk g=>?_)
 obtain⟨g,a⟩:=g;refine ab.mk (λh=>?_) (λh=>?_);have j:k<l.length:=(by simpa using h);refine aj.o ?_;refine ah.bool (o k j) (λb m=>?_);refine ab.mk (λc=>?_) (λc=>?_);exact Fin.int (jN j (by rw[<-m,c]) a).symm;refine aH.back (x:=k) (k+1) ⟨by omega,λi r=>?_⟩ (by omega) .nil (.cS (.cS (.cS (.cons (ao.int ?_) .nil))));by_cases e:i=k;rw[e,<-m,c];exact a i (by omega);rw[hw _];omega;have p:k=l.length:=(by have:¬k<l.length:=(by simpa using h);omega);subst p;exact Fin.int (by rw[lF a])
theorem PW (l:List cc) (f n:Nat) (cap:Nat->SV) (B:Nat->Bool) (a:l.length<=40000) (b:∀k,k<l.length->DP f (sD (bm l k)::gn n cap) (aD (B k))):
  DP 172 [.one (nh l),.one (.fn f n cap)] (aD (!bJ l.length λk=>!B k)):=by
 refine dg Tryz.func172 [] ?_;refine ah.int (Mq l f n cap B a b) (λm c=>?_);exact Fin.bool (by rw[<-rG l.length B,<-c])
theorem Ms (l:List (LV)) (f n:Nat) (cap:Nat->SV) (B:Nat->Bool) (q:l.length<=40000) (o:∀k,k<l.length->DP f (.one (aS (l.getD k []))::gn n cap) (aD (B k))):
  DP 108 [.one (hS l),.one (.fn f n cap)] (an (FF l.length B)):=by
 refine dg Tryz.func108 [] ?_;refine Loop.by (α:=Nat) (λk=>[(0,.d (.one (hS l))),(1,.d (.one (.fn f n cap))),(7,an l.length),(8,an k)]) (λ_=>[]) (λk=>k<=l.length/\∀i,i<k->B i=false) (λk=>l.length-k)
  (aH.at 0 ⟨XS _,λ_ h=>absurd h (XL _)⟩ .nil (.cS (.cS (.cS (.cS .nil))))) (λk g=>?_)
 obtain⟨g,a⟩:=g;refine ab.mk (λh=>?_) (λh=>?_);have j:k<l.length:=(by simpa using h);refine aj.o ?_;refine ah.bool (o k j) (λb m=>?_);refine ab.mk (λc=>?_) (λc=>?_);exact Fin.int (jN j (by rw[<-m,c]) a).symm;refine aH.back (x:=k) (k+1) ⟨by omega,λi r=>?_⟩ (by omega) .nil (.cS (.cS (.cS (.cons (ao.int ?_) .nil))));by_cases e:i=k;rw[e,<-m,c];exact a i (by omega);rw[hw _];omega;have p:k=l.length:=(by have:¬k<l.length:=(by simpa using h);omega);subst p;exact Fin.int (by rw[lF a])
theorem PY (l:List (LV)) (f n:Nat) (cap:Nat->SV) (B:Nat->Bool) (a:l.length<=40000) (b:∀k,k<l.length->DP f (.one (aS (l.getD k []))::gn n cap) (aD (B k))):
  DP 56 [.one (hS l),.one (.fn f n cap)] (aD (!bJ l.length λk=>!B k)):=by
 refine dg Tryz.func56 [] ?_;refine ah.int (Ms l f n cap B a b) (λm c=>?_);exact Fin.bool (by rw[<-rG l.length B,<-c])
def BM (a b:LV):Prop:=∀i,i<(aw a).length->∀k,k<(aw b).length->(dz (bm (aw a) i) (bm (aw b) k)).kind=0
abbrev aF (L:List (LV)):Nat:=(L.map List.length).sum
def xO (r l:LV) (w:Int):Prop:=∀k,k<r.length->dp l (gt r k)=w
structure VS (o:LV) (hs:List (LV)):Prop where
 GD:hs.length<=6
 vo:bV o=true
 vh:∀i,i<hs.length->bV (hs.getD i [])=true
 er:aF (o::hs)<=80
 ins:∀i,i<hs.length->xO (hs.getD i []) o 2
 off:∀i,i<hs.length->BM (hs.getD i []) o
 pair:∀i j,j<i->i<hs.length->BM (hs.getD i []) (hs.getD j [])/\xO (hs.getD i []) (hs.getD j []) 0/\xO (hs.getD j []) (hs.getD i []) 0
theorem pw {l:LV} (h:l.length<=40000):(aw l).length<=40000:=by unfold aw;split<;>simp;omega
theorem fL {l:LV} (h:bV l=true):l.length<=40000:=by have:=(ez.1 h).xd;omega
theorem my {L:List (LV)} {r:LV} (h:r∈L):r.length<=aF L:=by
 induction L with
 |nil=>cases h
 |cons a L b=>simp only[aF,Yg,WG];rcases XF.1 h with rfl|h;omega;have:=b h;simp only[aF]at this;omega
variable {k:Nat}
theorem Jk {L:List (LV)} {r:LV} (h:L[k]? =some r):aF (L.take (k+1))=aF (L.take k)+r.length:=by
 rw[YC,h];simp[aF]
theorem eQ (L:List (LV)) (k:Nat):aF (L.take k)<=aF L:=by
 induction L generalizing k with
 |nil=>simp[aF]
 |cons a L b=>
  cases k with
  |zero=>simp[aF]
  |succ k=>have:=b k;simp only[aF,W1,Yg,WG]at this|-;omega
theorem K6 {o:LV} {hs:List (LV)} {x:DV} (h:(DV.one (aS o)::hs.map (λr=> .one (aS r)))[k]? =some x):∃r,(o::hs)[k]? =some r/\x= .one (aS r):=by
 have e:(DV.one (aS o)::hs.map (λr=> .one (aS r)))=(o::hs).map λr=> .one (aS r):=rfl;rw[e,Zt]at h;cases a:(o::hs)[k]? with
 |none=>rw[a]at h;cases h
 |some r=>rw[a]at h;cases h;exact⟨r,rfl,rfl⟩
theorem VS.ring {o:LV} {hs:List (LV)} (V:VS o hs) {r:LV} (h:r∈o::hs):bV r=true:=by
 rcases XF.1 h with rfl|h;exact V.vo;obtain⟨i,a,e⟩:=ZD h;have:=V.vh i a;simpa[List.getD,a,e]using this
theorem v8 (a b:LV) (f:a.length<=40000) (g:b.length<=40000) (h:BM a b):DP 62 [.one (aS a),.one (aS b)] (aD true):=by
 refine dg Tryz.func62 [] ?_;have m:=pw f;have o:=pw g;refine ah.mk' (lI a f) ?_;refine Loop.by (α:=Nat) (λi=>[(1,.d (.one (aS b))),(10,.d (.one (nh (aw a)))),(11,an (aw a).length),(12,an i)]) (λ_=>[]) (λi=>i<=(aw a).length) (λi=>(aw a).length-i)
  (aH.at 0 (XS _) .nil (.cS (.cS (.cS (.cS .nil))))) (λi p=>?_)
 refine ab.mk (λc=>?_) (λc=>?_)
 ·have j:i<(aw a).length:=(by have:=XB c;omega);refine aj.o ?_;refine ah.mk' (lI b g) ?_;refine Loop.by (α:=Nat) (λk=>[(1,.d (.one (aS b))),(6,.ptr 6 0),(10,.d (.one (nh (aw a)))),(11,an (aw a).length),(12,an i),(17,.d (.one (nh (aw b)))),(18,an (aw b).length),(19,an k)]) (λ_=>[(6,.box (sL (bm (aw a) i)))]) (λk=>k<=(aw b).length) (λk=>(aw b).length-k)
   (aH.at 0 (XS _) (.cX .nil) (.cS (.cB (.cS (.cS (.cS (.cS (.cS (.cS .nil))))))))) (λk q=>?_)
  refine ab.mk (λd=>?_) (λd=>?_);have l:k<(aw b).length:=(by have:=XB d;omega);refine aj.o ?_;refine ah.mk' (kM.vi (kS (bm (aw a) i) (bm (aw b) k)) 0 (h i j k l)) ?_;refine ab.f ?_;exact aH.back (x:=k) (k+1) (by show k+1<=_;omega) (by omega) (.cX .nil) (.cS (.cB (.cS (.cS (.cS (.cS (.cS (.cons (ao.int (by rw[hw _];omega)) .nil))))))));exact aH.back (x:=i) (i+1) (by show i+1<=_;omega) (by omega) .nil (.cS (.cS (.cS (.cons (ao.int (by rw[hw _];omega)) .nil))))
 ·exact Fin.bool rfl
theorem IM (v:V2) (l:LV) (w:Int) (a:l.length<=40000):DP 117 [vD v,.one (.ad 1 λj=>[aS l].getD j (.v Go.undef)),.one (.ad 1 λj=>[i64 w].getD j (.v Go.undef))] (aD (decide (dp l v≠w))):=by
 refine dg Tryz.func117 [] ?_;refine ah.int (EC l v a) (λn b=>?_);refine aj.n ?_;refine Fin.bool ?_;rw[<-b];by_cases e:n=w;subst e;simp[bne];simp[bne,e]
theorem wa (r l:LV) (w:Int) (b:r.length<=40000) (c:l.length<=40000) (h:xO r l w):DP 61 [.one (aS r),.one (aS l),.one (i64 w)] (aD true):=by
 refine dg Tryz.func61 [] ?_;refine ah.mk' (PX r _ 2 _ (λk=>decide (dp l (gt r k)≠w)) b (λk a=>IM (gt r k) l w c)) ?_;refine Fin.bool ?_;have:(bJ r.length λk=>!decide (dp l (gt r k)≠w))=true:=aE.2 (λk a=>by rw[h k a];simp);rw[this];rfl
theorem gp {o:LV} {hs:List (LV)} (V:VS o hs):DP 25 [hF o hs] (aD true):=by
 refine dg Tryz.func25 [] ?_;have C:=V.GD;have g:=fL V.vo;have a:∀i,i<hs.length->(hs.getD i []).length<=40000:=λi h=>fL (V.vh i h);refine ab.cP (dF) ?_;refine ah.mk' (sK o hs) ?_;refine mQ.by (λ_=>[(1,.ptr 1 0),(2,.ptr 2 0),(3,.ptr 3 0)]) (λk=>[(1,.box [aS o,hS hs]),(2,.box [.v (.bool false)]),(3,.box [i64 (aF ((o::hs).take k):Nat)])]) (λk=>True)
  rfl (qt o hs) rfl (by decide) (by kernel_rfl) (λ_=>rfl) (.cX (.cX (.cX .nil))) (.cB (.cB (.cB .nil))) trivial (λk x p _=>?_) (λD=>?_)
 ·obtain⟨r,l,rfl⟩:=K6 p;have m:=V.ring (Ze l);have q:=fL m;refine ah.mk' (kM.vt (jq r q) true m) ?_;refine ab.f ?_;refine aH.next (.cX (.cX (.cons (.box (.cons (aC.of_eq ?_) .nil)) .nil))) (.cB (.cB (.cB .nil))) trivial;have t:=Jk l;have u:=eQ (o::hs) k;have w:=V.er;show i64 (IntKind.i64.wrap ((aF ((o::hs).take k):Nat)+(r.length:Int)))=_;rw[wid,t];congr 3
 ·have u:=eQ (o::hs) (DV.one (aS o)::hs.map (λr=> .one (aS r))).length;have w:=V.er;refine ab.cP (dF) ?_;refine Loop.by (α:=Nat) (λi=>[(1,.ptr 1 0),(2,.ptr 2 0),(26,.d (.one (hS hs))),(27,an hs.length),(28,an i)]) (λi=>[(1,.box [aS o,hS hs]),(2,.box [.v (.bool false)])]) (λi=>i<=hs.length) (λi=>hs.length-i)
   (aH.at 0 (XS _) (.cX (.cX .nil)) (.cB (.cB (.cS (.cS (.cS .nil)))))) (λi h=>?_)
  refine ab.mk (λc=>?_) (λc=>?_)
  ·have b:i<hs.length:=(by have:=XB c;omega);refine aj.o ?_;refine ah.mk' (wa (hs.getD i []) o 2 (a i b) g (V.ins i b)) ?_;repeat' first|apply ab.t|apply ab.f
   refine ah.mk' (v8 (hs.getD i []) o (a i b) g (V.off i b)) ?_;repeat' first|apply ab.t|apply ab.f
   refine aj.o ?_;refine Loop.by (α:=Nat) (λk=>[(1,.ptr 1 0),(2,.ptr 2 0),(6,.d (.one (aS (hs.getD i [])))),(26,.d (.one (hS hs))),(27,an hs.length),(28,an i),(48,.d (.one (.sl i 1 λj _=>aS (hs.getD j [])))),(49,an i),(50,an k)]) (λi=>[(1,.box [aS o,hS hs]),(2,.box [.v (.bool false)])]) (λk=>k<=i) (λk=>i-k)
    (aH.at 0 (XS _) (.cX (.cX .nil)) (.cB (.cB (.cS (.cS (.cS (.cS (.cons (.data (dV.one (aC.qo (by simp) (λj _ _ _=>aC.of_eq (by simp))))) (.cons (ao.int (by simp)) (.cS .nil)))))))))) (λk E=>?_)
   refine ab.mk (λd=>?_) (λd=>?_)
   ·have y:k<i:=(by have:=XB d;omega);have f:k<hs.length:=(by omega);obtain⟨z,A,B⟩:=V.pair i k y b;refine aj.o ?_;refine ah.mk' (v8 (hs.getD i []) (hs.getD k []) (a i b) (a k f) z) ?_;repeat' first|apply ab.t|apply ab.f
    refine ah.mk' (wa (hs.getD i []) (hs.getD k []) 0 (a i b) (a k f) A) ?_;repeat' first|apply ab.t|apply ab.f
    refine ah.mk' (wa (hs.getD k []) (hs.getD i []) 0 (a k f) (a i b) B) ?_;repeat' first|apply ab.t|apply ab.f
    exact aH.back (x:=k) (k+1) (by show k+1<=i;omega) (by omega) (.cX (.cX .nil)) (.cB (.cB (.cS (.cS (.cS (.cS (.cS (.cS (.cons (ao.int (by rw[hw _];omega)) .nil)))))))))
   ·exact aH.back (x:=i) (i+1) (by show i+1<=_;omega) (by omega) (.cX (.cX .nil)) (.cB (.cB (.cS (.cS (.cons (ao.int (by rw[hw _];omega)) .nil)))))
  ·exact Fin.bool rfl
theorem VS.len {o:LV} {hs:List (LV)} (V:VS o hs) {r:LV} (h:r∈o::hs):r.length<=80:=Yf (my h) V.er
variable {k:Nat}
theorem Pw {α:Type} {L:List α} {r d:α} (h:L[k]? =some r):L.getD k d=r:=by simp[List.getD,h]
theorem iy (o:LV) (hs:List (LV)) (l:hs.length<=40000) (c:∀r∈o::hs,r.length<=40000):DP 140 [hF o hs] (.d (.one (hS (o::hs)))):=by
 refine dg Tryz.func140 [] ?_;refine ah.mk' (sK o hs) ?_;refine mQ.V3 (λ_=>[(3,.ptr 3 0)]) (λk=>[(3,.obj [.aL 500 0]),(500,.aJ 0 k 1 42 λi _=>aS ((o::hs).getD i []))]) (λ_=>True)
  rfl (qt o hs) rfl (by decide) (by kernel_rfl) (λ_=>rfl)
  (aH.rp 3 0 500 1 42 (λi _=>aS ((o::hs).getD i [])) _ _ rfl rfl rfl rfl (aH.next (.cons (.obj (.cons (.aL (by intro q;cases q) rfl rfl) .nil)) (.cons (.bj rfl (λi a _ _=>absurd a (XL _))) .nil)) (.cons (.ptr (by intro q;cases q)) .nil) trivial)) (λk x f _=>?_) (λ_=>?_)
 ·obtain⟨r,b,rfl⟩:=K6 f;have g:=(Ye.1 b).1;rw[XZ]at g;refine ah.mk' (FW r (c r (Ze b))) ?_;refine aj.mk (aY) ?_;refine aj.n ?_;refine aH.next (.cons (.obj (.cons (.aL (by intro q;cases q) rfl rfl) .nil)) (.cons (.bj rfl (λi a j h=>?_)) .nil)) (.cons (.ptr (by intro q;cases q)) .nil) trivial;obtain rfl:j=0:=(by omega);refine aC.bif (λ_=>aC.refl _) (λm=>?_);obtain rfl:i=k:=(by omega);rw[Pw b];rw[YM];exact aC.refl _
 ·refine Fin.one (aC.qo (by simp) (λi a j h=>aC.refl _))
theorem RD {a b:List cc} {i j:Nat}:aC (bif Nat.blt i a.length then sG a i j else sG b (i-a.length) j) (sG (a++b) i j):=by
 refine aC.bif (λh=>aC.of_eq (KQ ?_ j)) (λh=>aC.of_eq (KQ ?_ j));simp[bm,List.getD,Yo,h];simp[bm,List.getD,Yo,Xm.2 h]
def dE (L:List (LV)):List cc:=L.flatMap aw
theorem Jy {L:List (LV)} {r:LV} (h:L[k]? =some r):dE (L.take (k+1))=dE (L.take k)++aw r:=by
 unfold dE;rw[YC,h];simp
theorem rL (L:List (LV)):(dE L).length<=aF L:=by
 induction L with
 |nil=>simp[dE]
 |cons a L b=>have:(aw a).length<=a.length:=(by unfold aw;split<;>simp);simp only[dE,aF,WR,XR,Yg,WG]at b|-;omega
theorem nE (o:LV) (hs:List (LV)) (h:aF (o::hs)<=40000:=by omega):DP 130 [hF o hs] (.d (.one (nh (dE (o::hs))))):=by
 refine dg Tryz.func130 [] ?_;refine ah.mk' (sK o hs) ?_;refine mQ.V3 (λ_=>[(3,.ptr 3 0)]) (λk=>[(3,.obj [.aL 500 0]),(500,.aJ 0 (dE ((o::hs).take k)).length 4 163 (sG (dE ((o::hs).take k))))]) (λ_=>True)
  rfl (qt o hs) rfl (by decide) (by kernel_rfl) (λ_=>rfl)
  (aH.rp 3 0 500 4 163 (sG []) _ _ rfl rfl rfl rfl (aH.next (.cons (.obj (.cons (.aL (by intro q;cases q) rfl rfl) .nil)) (.cons (.bj rfl (λi a _ _=>absurd a (XL _))) .nil)) (.cons (.ptr (by intro q;cases q)) .nil) trivial)) (λk x f _=>?_) (λ_=>?_)
 ·obtain⟨r,b,rfl⟩:=K6 f;have c:=Jy b;have l:=rL ((o::hs).take k);have m:=eQ (o::hs) k;have p:=my (Ze b);have t:(aw r).length<=r.length:=(by unfold aw;split<;>simp);refine ah.mk' (lI r) ?_;refine aj.mk (aY) ?_;refine aj.n ?_;refine aH.next (.cons (.obj (.cons (.aL (by intro q;cases q) rfl rfl) .nil)) (.cons (.bj (by rw[c,XR]) (λi a j g=>by rw[c];exact RD)) .nil)) (.cons (.ptr (by intro q;cases q)) .nil) trivial
 ·have:(o::hs).take (DV.one (aS o)::hs.map (λr=> .one (aS r))).length=o::hs:=ZW (by simp);exact Fin.one (aC.qo (by rw[this]) (λi a j g=>by rw[this];exact aC.refl _))
def ED (p:P3):Int->List (LV)->Int
 |w,[]=>w
 |w,h::r=>if bL h p=2 then 0 else if bL h p=1 then 1 else ED p w r
def JN (o:LV) (hs:List (LV)) (p:P3):Int:=if bL o p≠2 then bL o p else ED p (bL o p) hs
theorem yI {o:LV} {hs:List (LV)} (V:VS o hs) (p:P3):DP 195 [hF o hs,pD p] (an (JN o hs p)):=by
 refine dg Tryz.func195 [] ?_;have l:=V.GD;refine ah.mk' (gp V) ?_;refine ab.f ?_;refine ah.int (sa o p (fL V.vo)) (λt h=>?_);unfold JN;rw[<-h];refine ab.mk (λb=>?_) (λb=>?_);exact Fin.int (by rw[XG (by simpa[bne]using b)])
 ·have b:¬t≠2:=(by simpa[bne]using b);rw[XD b];refine Loop.by (α:=Nat) (λi=>[(3,.ptr 3 0),(5,an t),(19,.d (.one (hS hs))),(20,an hs.length),(21,an i)]) (λi=>[(3,.box (pL p))]) (λi=>i<=hs.length/\ED p t (hs.drop i)=ED p t hs) (λi=>hs.length-i)
   (aH.at 0 ⟨XS _,rfl⟩ (.cX .nil) (.cB (.cS (.cS (.cS (.cS .nil)))))) (λi g=>?_)
  obtain⟨g,a⟩:=g;refine ab.mk (λc=>?_) (λc=>?_);have f:i<hs.length:=(by have:=XB c;omega);have j:hs.drop i=hs.getD i []::hs.drop (i+1):=(by rw[Y6 f];simp[List.getD,f]);rw[j]at a;simp only[ED]at a;refine aj.o ?_;refine ah.int (sa (hs.getD i []) p (fL (V.vh i f))) (λq k=>?_);rw[<-k]at a;refine ab.mk (λd=>?_) (λd=>?_);have d:q=2:=(by simpa using d);exact Fin.int (by rw[<-a,XG d]);have d:¬q=2:=(by simpa using d);rw[XD d]at a;refine ab.mk (λe=>?_) (λe=>?_);have e:q=1:=(by simpa using e);exact Fin.int (by rw[<-a,XG e]);have e:¬q=1:=(by simpa using e);rw[XD e]at a;exact aH.back (x:=i) (i+1) ⟨by omega,a⟩ (by omega) (.cX .nil) (.cB (.cS (.cS (.cS (.cons (ao.int (by rw[hw _];omega)) .nil)))));have:hs.length<=i:=(by have:=XA c;omega);rw[WS this]at a;exact Fin.int a
def eL (o:LV) (hs:List (LV)) (v:V2):Int:=if aP v 4000=true then JN o hs (cb v)else 0
theorem nD {o:LV} {hs:List (LV)} (V:VS o hs) (v:V2):DP 134 [hF o hs,vD v] (an (eL o hs v)):=by
 refine dg Tryz.func134 [] ?_;refine ah.bool (cA v 4000) (λb c=>?_);unfold eL;rw[<-c];refine ab.mk (λa=>?_) (λa=>?_);exact Fin.int (by rw[XD (by simpa using a)]);refine ah.mk' (nN v) ?_;refine ah.mk' (yI V (cb v)) ?_;refine aj.n ?_;exact Fin.int (by rw[XG (by simpa using a)])
def pN (X:Nat->Int):Nat->Int
 |0=>X 0
 |k+1=>cK (pN X k) (X k)
def pO (X:Nat->Int):Nat->Int
 |0=>X 0
 |k+1=>cG (pO X k) (X k)
abbrev ht (l:LV):V2:=⟨pN (λi=>(gt l i).x) l.length,pN (λi=>(gt l i).y) l.length⟩
abbrev hx (l:LV):V2:=⟨pO (λi=>(gt l i).x) l.length,pO (λi=>(gt l i).y) l.length⟩
abbrev Ue (a b:V2):DV:= .agg (JD a.x a.y b.x b.y)
theorem EE (l:LV) (f:l.length<=10000:=by omega) (b:0<l.length:=by omega):DP 138 [.one (aS l)] (.eG [Ue (ht l) (hx l),.one (.v (.bool true))]):=by
 refine dg Tryz.func138 [] ?_;refine ab.cP (by simp;intro q;rw[q]at b;exact absurd b (Zg _)) ?_;repeat' first|refine aj.n ?_|refine aj.o ?_|fail
 refine Loop.by (α:=Nat) (λk=>[(0,.d (.one (aS l))),(2,.ptr 2 0),(4,.ptr 4 0),(18,an l.length),(19,an k)]) (λk=>[(2,.box (JD 0 0 0 0)),(4,.box (JD (pN (λi=>(gt l i).x) k) (pN (λi=>(gt l i).y) k) (pO (λi=>(gt l i).x) k) (pO (λi=>(gt l i).y) k)))]) (λk=>k<=l.length) (λk=>l.length-k)
  (aH.at 0 (XS _) (.cons (.box (gO.of_eq rfl)) (.cons (.box (gO.of_eq rfl)) .nil)) (.cS (.cB (.cB (.cS (.cS .nil)))))) (λk g=>?_)
 refine ab.mk (λa=>?_) (λa=>?_)
 ·have c:k<l.length:=(by have:=XB a;omega);repeat' first|refine aj.n ?_|refine aj.o ?_|fail
  refine aH.back (x:=k) (k+1) c (by omega) (.cons (.box (gO.of_eq rfl)) (.cons (.box (gO.of_eq ?_)) .nil)) (.cS (.cB (.cB (.cS (.cons (ao.int ?_) .nil)))));rfl;rw[hw _];omega
 ·have e:k=l.length:=(by have:=XA a;omega);subst e;exact Fin.rfl'
theorem Cz (l:LV) (a:bV l=true):DP 84 [.one (aS l)] (.eG [Ue (ht l) (hx l),.one (.v (.bool true))]):=by
 have b:=(ez.1 a).three;have c:=(ez.1 a).xd;refine dg Tryz.func84 [] ?_;refine ah.mk' (kM.vt (jq l) true a) ?_;refine ab.f ?_;refine ah.mk' (EE l) ?_;exact Fin.rfl'
theorem yK {o:LV} {hs:List (LV)} (V:VS o hs):DP 40 [hF o hs] (.eG [Ue (ht o) (hx o),.one (.v (.bool true))]):=by
 refine dg Tryz.func40 [] ?_;refine ah.mk' (gp V) ?_;refine ab.f ?_;refine ah.mk' (Cz o V.vo) ?_;exact Fin.rfl'
abbrev U0 (lo hi:V2):LV:=[lo,⟨hi.x,lo.y⟩,hi,⟨lo.x,hi.y⟩]
theorem EY (lo hi:V2) (c:lo.x<hi.x) (f:lo.y<hi.y) (a:aP lo 2000=true) (h2:aP hi 2000=true):DP 85 [vD lo,vD hi] (.d (hF (U0 lo hi) [])):=by
 refine dg Tryz.func85 [] ?_;refine ab.cP (dF) ?_;repeat' first|apply ab.t|apply ab.f
 refine ab.cP (dF) ?_;repeat' first|apply ab.t|apply ab.f
 refine ah.mk' (kM.vt (cA lo 2000) true a) ?_;repeat' first|apply ab.t|apply ab.f
 refine ah.mk' (kM.vt (cA hi 2000) true h2) ?_;repeat' first|apply ab.t|apply ab.f
 refine Fin.agg (.cons (aC.qo rfl (λi hi j b=>?_)) (.cons (aC.nil _ _) .nil))
 match i,hi,j,b with
 |0,_,0,_=>exact aC.refl _
 |0,_,1,_=>exact aC.refl _
 |1,_,0,_=>exact aC.refl _
 |1,_,1,_=>exact aC.refl _
 |2,_,0,_=>exact aC.refl _
 |2,_,1,_=>exact aC.refl _
 |3,_,0,_=>exact aC.refl _
 |3,_,1,_=>exact aC.refl _
theorem E0 {o:LV} {hs:List (LV)} (V:VS o hs) (v:V2) (l:aP v 4000=true) (m:∀r∈o::hs,dJ (ef r v)=true):DP 14 [hF o hs,vD v] (.eG [hF (ef o v) (hs.map λh=>ef h v),.one (i64 0)]):=by
 refine dg Tryz.func14 [16] ?_;have u:=V.GD;have f:∀r∈o::hs,A1 r v=(ef r v,0):=λr g=>by unfold A1;rw[XD (by rw[V.ring g];simp),XD (by rw[l];simp),XD (by rw[m r g];simp)]
 refine ah.mk' (gp V) ?_;refine ab.f ?_;refine ah.mk' ((CZ o v (fL V.vo)).eq (by rw[f o (by simp)])) ?_;repeat' first|apply ab.t|apply ab.f
 refine Loop.by (α:=Nat) (λi=>[(2,.ptr 2 0),(3,.ptr 3 0),(4,.ptr 4 0),(8,.ptr 8 0),(31,.d (.one (hS hs))),(32,an hs.length),(33,an i)]) (λi=>[(2,.box [aS o,hS hs]),(3,.box (vL v)),(4,.box [.v AX,.v AX]),(8,.obj [.s (aS (ef o v)),.aL 500 0]),(500,.aJ 0 i 1 42 λi _=>aS ((hs.map λh=>ef h v).getD i []))]) (λi=>i<=hs.length) (λi=>hs.length-i)
  (aH.rp 8 1 500 1 42 (λi _=>aS ((hs.map λh=>ef h v).getD i [])) _ _ rfl rfl rfl rfl (aH.at 0 (XS _) (.cX (.cX (.cX (.cons (.obj (.cons (.s (aC.refl _)) (.cons (.aL (by intro q;cases q) rfl rfl) .nil))) (.cons (.bj rfl (λi a _ _=>absurd a (XL _))) .nil))))) (.cB (.cB (.cB (.cons (.ptr (by intro q;cases q)) (.cS (.cS (.cS .nil))))))))) (λi a=>?_)
 refine ab.mk (λc=>?_) (λc=>?_)
 ·have b:i<hs.length:=(by have:=XB c;omega);have p:hs.getD i []∈o::hs:=(by simp[List.getD,b]);refine aj.o ?_;refine ah.mk' ((CZ (hs.getD i []) v (fL (V.vh i b))).eq (by rw[f _ p])) ?_;repeat' first|apply ab.t|apply ab.f
  refine aj.mk (aY) ?_;refine aH.back (x:=i) (i+1) (by show i+1<=_;omega) (by omega) (.cX (.cX (.cX (.cons (.obj (.cons (.s (aC.refl _)) (.cons (.aL (by intro q;cases q) rfl rfl) .nil))) (.cons (.bj rfl (λk w j t=>?_)) .nil))))) (.cB (.cB (.cB (.cons (.ptr (by intro q;cases q)) (.cS (.cS (.cons (ao.int (by rw[hw _];omega)) .nil)))))));obtain rfl:j=0:=(by omega);refine aC.bif (λ_=>aC.refl _) (λy=>?_);obtain rfl:k=i:=(by omega);rw[YM];refine aC.of_eq ?_;show aS (ef (hs.getD k []) v)=_;simp[List.getD,b]
 ·obtain rfl:i=hs.length:=(by have:=XA c;omega);refine⟨aH.s8 8 500 _ [.s (aS (ef o v)),.s (.sl hs.length 1 λi _=>aS ((hs.map λh=>ef h v).getD i []))] 0 _ 1 42 _ rfl rfl (.same (.shut .nil)) (aH.id ?_)⟩;refine Fin.eG (.cons (dV.agg (.cons (aC.refl _) (.cons (aC.qo (by simp) (λi a j t=>aC.refl _)) .nil))) (.cR .nil))
def RU (a b:LV):Bool:=!bJ (aw a).length λi=>bJ (aw b).length λk=>!decide (aI (bm (aw a) i) (bm (aw b) k)≠0)
theorem wi (a b:LV) (f:a.length<=40000:=by omega) (g:b.length<=40000:=by omega):DP 73 [.one (aS a),.one (aS b)] (aD (RU a b)):=by
 refine dg Tryz.func73 [] ?_;have y:=pw f;have A:=pw g;refine ah.mk' (mf a f) ?_;refine ah.mk' (mf b g) ?_;unfold RU;generalize aw a=E at*;generalize aw b=F at*;refine Loop.by (α:=Nat) (λi=>[(5,.d (.one (nh E))),(6,.d (.one (nh F))),(7,an i)]) (λ_=>[]) (λi=>i<=E.length/\∀j,j<i->(bJ F.length λk=>!decide (aI (bm E j) (bm F k)≠0))=true) (λi=>E.length-i)
  (aH.at 0 ⟨XS _,λ_ h=>absurd h (XL _)⟩ .nil (.cS (.cS (.cS .nil)))) (λi l=>?_)
 obtain⟨l,m⟩:=l;refine ab.mk (λc=>?_) (λc=>?_)
 ·have u:i<E.length:=(by have:=XB c;omega);refine Loop.by (α:=Nat) (λk=>[(5,.d (.one (nh E))),(6,.d (.one (nh F))),(7,an i),(8,an k)]) (λ_=>[]) (λk=>k<=F.length/\∀j,j<k->(!decide (aI (bm E i) (bm F j)≠0))=true) (λk=>F.length-k)
   (aH.at 0 ⟨XS _,λ_ h=>absurd h (XL _)⟩ .nil (.cS (.cS (.cS (.cS .nil))))) (λk o=>?_)
  obtain⟨o,p⟩:=o;refine ab.mk (λd=>?_) (λd=>?_)
  ·have w:k<F.length:=(by have:=XB d;omega);refine aj.o ?_;refine aj.o ?_;refine ah.int (oV (bm E i) (bm F k)) (λx r=>?_);refine aj.n ?_;refine ab.mk (λe=>?_) (λe=>?_);have e:x≠0:=(by simpa[bne]using e);exact Fin.bool (by rw[bS i u (bS k w (by rw[<-r,X8 e];rfl))];rfl)
   ·have e:¬x≠0:=(by simpa[bne]using e);exact aH.back (x:=k) (k+1) ⟨by omega,λj t=>by
     by_cases q:j=k;rw[q,<-r,X1 e];rfl
     ·exact p j (by omega)⟩ (by omega) .nil (.cS (.cS (.cS (.cons (ao.int (by rw[hw _];omega)) .nil))))
  ·have:F.length<=k:=(by have:=XA d;omega);exact aH.back (x:=i) (i+1) ⟨by omega,λj t=>by
    by_cases q:j=i;subst q;exact aE.2 (λz B=>p z (by omega))
    ·exact m j (by omega)⟩ (by omega) .nil (.cS (.cS (.cons (ao.int (by rw[hw _];omega)) .nil)))
 ·have:E.length<=i:=(by have:=XA c;omega);exact Fin.bool (by rw[aE.2 (λj t=>m j (by omega))];rfl)
def Ez (a b:LV) (c:Bool):Bool:=if(bJ a.length λi=>decide (dp b (gt a i)=2)==c)=true then c else !c
theorem nI (a b:LV) (f:Bool) (w:a.length<=40000:=by omega) (m:b.length<=40000:=by omega):DP 74 [.one (aS a),.one (aS b),.one (.v (.bool f))] (aD (Ez a b f)):=by
 refine dg Tryz.func74 [] ?_;unfold Ez;refine Loop.by (α:=Nat) (λi=>[(0,.d (.one (aS a))),(1,.d (.one (aS b))),(2,.d (.one (.v (.bool f)))),(7,an i)]) (λ_=>[]) (λi=>i<=a.length/\∀j,j<i->(decide (dp b (gt a j)=2)==f)=true) (λi=>a.length-i)
  (aH.at 0 ⟨XS _,λ_ h=>absurd h (XL _)⟩ .nil (.cS (.cS (.cS (.cS .nil))))) (λi g=>?_)
 obtain⟨g,k⟩:=g;refine ab.mk (λc=>?_) (λc=>?_)
 ·have o:i<a.length:=(by have:=XB c;omega);refine aj.o ?_;refine ah.int (Cp b (gt a i) m) (λx l=>?_);refine aj.n ?_;refine ab.mk (λp=>?_) (λp=>?_);have r:(decide (dp b (gt a i)=2)==f)=false:=(by rw[<-l];by_cases e:x=2<;>cases f<;>simp_all);refine Fin.bool ?_;rw[XD (by rw[bS i o r];decide)]
  ·have t:(decide (dp b (gt a i)=2)==f)=true:=(by rw[<-l];by_cases e:x=2<;>cases f<;>simp_all);exact aH.back (x:=i) (i+1) ⟨by omega,λj u=>by
    by_cases q:j=i;rw[q];exact t
    ·exact k j (by omega)⟩ (by omega) .nil (.cS (.cS (.cS (.cons (ao.int (by rw[hw _];omega)) .nil))))
 ·have:a.length<=i:=(by have:=XA c;omega);exact Fin.bool (by rw[XG (aE.2 (λj u=>k j (by omega)))])
def NW (h k:LV):Bool:=!RU h k&&(!Ez h k false&&!Ez k h false)
def Mt (o:LV) (hs:List (LV)) (i:Nat):Bool:=(bV (hs.getD i [])&&(!RU (hs.getD i []) o&&Ez (hs.getD i []) o true))&&bJ i λk=>NW (hs.getD i []) (hs.getD k [])
def KT (o:LV) (hs:List (LV)):Bool:=decide (hs.length<=6)&&(bV o&&(bJ hs.length (Mt o hs)&&decide (aF (o::hs)<=80)))
theorem tL (l:LV):DP 72 [.one (aS l)] (aD (bV l)):=by
 by_cases q:l.length<=40000;exact tK l q;refine dg Tryz.func72 [] ?_;have e:bV l=false:=by simp[bV,hI,show¬l.length<=40 by omega]
 refine ab.cP (dF) ?_;repeat' first|apply ab.t|apply ab.f
 refine ab.dA (X8 (by omega)) ?_;repeat' first|apply ab.t|apply ab.f
 exact Fin.bool (by rw[e])
theorem vB {l:LV} (h:bV l=true):l.length<=40:=(ez.1 h).xd
set_option maxRecDepth 2000 in
theorem KU (o:LV) (hs:List (LV)):DP 35 [hF o hs] (aD (KT o hs)):=by
 refine dg Tryz.func35 [] ?_;unfold KT;refine ab.mk (λb=>?_) (λb=>?_)
 ·have t:¬hs.length<=6:=(by have:=XB b;omega);repeat' first|refine ab.dA b ?_|refine ab.t ?_|refine ab.f ?_|fail
  exact Fin.bool (by rw[X1 t];rfl)
 have t:hs.length<=6:=by have:=XA b;omega
 rw[X8 t,Zh];repeat' first|refine ab.cP b ?_|refine ab.t ?_|refine ab.f ?_|fail
 refine ah.bool (tL o) (λx E=>?_);rw[<-E];cases x with
 |false=>
  repeat' first|refine ab.cP b ?_|refine ab.t ?_|refine ab.f ?_|fail
  exact Fin.bool rfl
 |true=>
 repeat' first|refine ab.cP b ?_|refine ab.t ?_|refine ab.f ?_|fail
 rw[Zh];have a0:o.length<=40:=vB E.symm;have F:∀j,Mt o hs j=true->(hs.getD j []).length<=40:=λj h=>by unfold Mt at h;simp only[XH]at h;exact vB h.1.1
 have G:∀i,i<hs.length->aF (o::hs.take (i+1))=aF (o::hs.take i)+(hs.getD i []).length:=λi q=>by have e:hs.take (i+1)=hs.take i++[hs.getD i []]:=(by rw[YC];simp[List.getD,q]);rw[e];simp[aF];omega
 have S:∀i,i<=hs.length->(∀j,j<i->Mt o hs j=true)->aF (o::hs.take i)<=40+40*i:=λi=>by
  induction i with
  |zero=>intro _ _;simp[aF];omega
  |succ i T=>intro w H;have:=T (by omega) (λj I=>H j (by omega));have a1:=F i (H i (by omega));rw[G i (by omega)];omega
 refine Loop.by (α:=Nat) (λi=>[(1,.ptr 1 0),(3,an (aF (o::hs.take i):Nat)),(4,an i)]) (λ_=>[(1,.box [aS o,hS hs])]) (λi=>i<=hs.length/\∀j,j<i->Mt o hs j=true) (λi=>hs.length-i)
  (aH.at 0 ⟨XS _,λ_ h=>absurd h (XL _)⟩ (.cX .nil) (.cB (.cons (ao.int (by simp[aF])) (.cS .nil)))) (λi w=>?_)
 obtain⟨w,l⟩:=w;refine ab.mk (λA=>?_) (λA=>?_)
 ·have J:i<hs.length:=(by have:=XB A;omega);have m:Mt o hs i=false->(bJ hs.length (Mt o hs)&&decide (aF (o::hs)<=80))=false:=λh=>by rw[bS i J h];rfl
  obtain⟨h,c⟩:∃h,h=hs.getD (i:Int).toNat []:=⟨_,rfl⟩;have K:hs.getD i []=h:=c.symm;have a:Mt o hs i=((bV h&&(!RU h o&&Ez h o true))&&bJ i λk=>NW h (hs.getD k [])):=(by unfold Mt;rw[K]);have a2:=S i (by omega) l;have a3:(hs.getD (i:Int).toNat []).length=h.length:=(by rw[c]);have U:aF (o::hs.take (i+1))=aF (o::hs.take i)+h.length:=(by rw[G i J,K]);refine aj.o ?_;refine ah.bool ((tL h).le (.cons (dV.of_eq (by rw[c])) .nil)) (λy M=>?_);rw[<-M]at a;cases y with
  |false=>
   repeat' first|apply ab.t|apply ab.f
   exact Fin.bool (by rw[m a])
  |true=>
  have a4:h.length<=40:=vB M.symm;repeat' first|apply ab.t|apply ab.f
  refine ah.bool ((wi h o).le (.cons (dV.of_eq (by rw[c])) (.cR .nil))) (λz N=>?_);rw[<-N]at a;cases z with
  |true=>
   repeat' first|apply ab.t|apply ab.f
   exact Fin.bool (by rw[m a])
  |false=>
  repeat' first|apply ab.t|apply ab.f
  refine ah.bool ((nI h o true).le (.cons (dV.of_eq (by rw[c])) (.cR (.cR .nil)))) (λu V=>?_);rw[<-V]at a;cases u with
  |false=>
   repeat' first|apply ab.t|apply ab.f
   exact Fin.bool (by rw[m a])
  |true=>
  repeat' first|apply ab.t|apply ab.f
  refine Loop.by (α:=Nat) (λk=>[(1,.ptr 1 0),(3,an (aF (o::hs.take (i+1)):Nat)),(4,an i),(5,.d (.one (aS h))),(6,an k)]) (λ_=>[(1,.box [aS o,hS hs])]) (λk=>k<=i/\∀j,j<k->NW h (hs.getD j [])=true) (λk=>i-k)
   (aH.at 0 ⟨XS _,λ_ h=>absurd h (XL _)⟩ (.cX .nil) (.cB (.cons (ao.int (by rw[hw _,U];omega)) (.cS (.cons (.data (dV.of_eq (by rw[c]))) (.cS .nil)))))) (λk O=>?_)
  obtain⟨O,p⟩:=O;refine ab.mk (λB=>?_) (λB=>?_)
  ·have P:k<i:=(by have:=XB B;omega);obtain⟨g,f⟩:∃g,g=hs.getD (k:Int).toNat []:=⟨_,rfl⟩;have Q:hs.getD k []=g:=f.symm;have a5:g.length<=40:=(by rw[f];exact F k (l k P));have C:NW h g=false->(bJ hs.length (Mt o hs)&&decide (aF (o::hs)<=80))=false:=λq=>m (by rw[a,bS k P (by rw[Q];exact q)];rfl);refine aj.o ?_;refine ah.bool ((wi h g).le (.cR (.cons (dV.of_eq (by rw[f])) .nil))) (λX r=>?_);cases X with
   |true=>
    repeat' first|apply ab.t|apply ab.f
    exact Fin.bool (by rw[C (by unfold NW;rw[<-r];rfl)])
   |false=>
   repeat' first|apply ab.t|apply ab.f
   refine aj.o ?_;repeat' first|apply ab.t|apply ab.f
   refine ah.bool ((nI h g false).le (.cR (.cons (dV.of_eq (by rw[f])) (.cR .nil)))) (λY D=>?_);cases Y with
   |true=>
    repeat' first|apply ab.t|apply ab.f
    exact Fin.bool (by rw[C (by unfold NW;rw[<-r,<-D];rfl)])
   |false=>
   repeat' first|apply ab.t|apply ab.f
   refine aj.o ?_;repeat' first|apply ab.t|apply ab.f
   refine ah.bool ((nI g h false).le (.cons (dV.of_eq (by rw[f])) (.cR (.cR .nil)))) (λZ R=>?_);cases Z with
   |true=>
    repeat' first|apply ab.t|apply ab.f
    exact Fin.bool (by rw[C (by unfold NW;rw[<-r,<-D,<-R];rfl)])
   |false=>
   repeat' first|apply ab.t|apply ab.f
   exact aH.back (x:=k) (k+1) ⟨by omega,λj I=>by
    by_cases q:j=k;rw[q,Q];unfold NW;rw[<-r,<-D,<-R];rfl
    ·exact p j (by omega)⟩ (by omega) (.cX .nil) (.cB (.cS (.cS (.cS (.cons (ao.int (by rw[hw _];omega)) .nil)))))
  ·have a6:i<=k:=(by have:=XA B;omega);exact aH.back (x:=i) (i+1) ⟨by omega,λj I=>by
    by_cases q:j=i;rw[q,a,aE.2 (λz N=>p z (by omega))];rfl
    ·exact l j (by omega)⟩ (by omega) (.cX .nil) (.cB (.cS (.cons (ao.int (by rw[hw _];omega)) .nil)))
 ·have p:i=hs.length:=(by have:=XA A;omega);subst p;rw[YT];refine Fin.bool ?_;rw[aE.2 l,Zh];by_cases q:aF (o::hs)<=80;rw[X8 q];exact X8 (by omega);rw[X1 q];exact dF
theorem Ff (lo hi:V2) (c:lo.x<hi.x:=by decide) (f:lo.y<hi.y:=by decide) (a:aP lo 2000=true:=by decide) (h2:aP hi 2000=true:=by decide):DP 22 [vD lo,vD hi] (.d (hF (U0 lo hi) [])):=by
 refine dg Tryz.func22 [] ?_;refine ab.cP (dF) ?_;repeat' first|apply ab.t|apply ab.f
 refine ab.cP (dF) ?_;repeat' first|apply ab.t|apply ab.f
 refine ah.mk' (kM.vt (eK lo 2000) true a) ?_;repeat' first|apply ab.t|apply ab.f
 refine ah.mk' (kM.vt (eK hi 2000) true h2) ?_;repeat' first|apply ab.t|apply ab.f
 refine Fin.agg (.cons (aC.qo rfl (λi hi j b=>?_)) (.cons (aC.nil _ _) .nil))
 match i,hi,j,b with
 |0,_,0,_=>exact aC.refl _
 |0,_,1,_=>exact aC.refl _
 |1,_,0,_=>exact aC.refl _
 |1,_,1,_=>exact aC.refl _
 |2,_,0,_=>exact aC.refl _
 |2,_,1,_=>exact aC.refl _
 |3,_,0,_=>exact aC.refl _
 |3,_,1,_=>exact aC.refl _
def Ap (o:LV) (hs:List (LV)) (m:Int):Bool:=(bJ o.length λi=>aP (gt o i) m)&&(decide (aF (o::hs)<=14)&&KT o hs)
theorem Ph (o:LV) (hs:List (LV)) (i:Nat):aF (o::hs.take i)<=aF (o::hs):=by
 have t:=X5 List.sum (ZH i (hs.map List.length));rw[List.sum_append]at t;simp[aF];omega
theorem su (o:LV) (hs:List (LV)) (m:Int) (G:hs.length<=maxLen) (H:o.length<=maxLen):DP 12 [hF o hs,.one (i64 m)] (aD (Ap o hs m)):=by
 refine dg Tryz.func12 [] ?_;have I:maxLen<9223372036854775808:=by decide
 have w:∀i,i<hs.length->aF (o::hs.take (i+1))=aF (o::hs.take i)+(hs.getD i []).length:=λi q=>by have e:hs.take (i+1)=hs.take i++[hs.getD i []]:=(by rw[YC];simp[List.getD,q]);rw[e];simp[aF];omega
 have z:KT o hs=true->∀i,aF (o::hs.take i)<=80:=λh i=>by have:=Ph o hs i;unfold KT at h;simp only[XH,XU]at h;omega
 refine Loop.by (α:=Nat×Int) (λq=>[(1,.d (.one (i64 m))),(2,.ptr 2 0),(5,an q.2),(6,an (q.1:Nat))]) (λ_=>[(2,.box [aS o,hS hs])]) (λq=>q.1<=hs.length/\(KT o hs=true->q.2=aF (o::hs.take q.1))) (λq=>hs.length-q.1)
  (aH.at (0,(o.length:Int)) ⟨XS _,λ_=>by simp[aF]⟩ (.cX .nil) (.cS (.cB (.cS (.cS .nil))))) (λq A=>?_)
 obtain⟨i,n⟩:=q;obtain⟨f,a⟩:=A;have f:i<=hs.length:=f;have a:KT o hs=true->n=aF (o::hs.take i):=a;refine ab.mk (λc=>?_) (λc=>?_);have g:i<hs.length:=(by have:=XB c;omega);refine aj.mk (by show _/\_;omega) ?_;exact aH.back (x:=(i,n)) (i+1,IntKind.i64.wrap (n+((hs.getD i []).length:Int))) ⟨g,λk=>by show IntKind.i64.wrap (n+((hs.getD i []).length:Int))=((aF (o::hs.take (i+1)):Nat):Int);have J:=w i g;have K:=z k (i+1);rw[a k,hw _];omega⟩ (by show hs.length-(i+1)<hs.length-i;omega) (.cX .nil) (.cS (.cB (.cons (.data (dV.refl _)) (.cons (ao.int (by rw[wid (by show _<=(i:Int)+1;omega) (by show(i:Int)+1<_;omega)];rfl)) .nil))))
 ·have B:i=hs.length:=(by have:=XA c;omega);subst B;rw[YT]at a;refine Loop.by (α:=Nat) (λk=>[(1,.d (.one (i64 m))),(2,.ptr 2 0),(5,an n),(7,an k)]) (λ_=>[(2,.box [aS o,hS hs])]) (λk=>k<=o.length/\∀j,j<k->aP (gt o j) m=true) (λk=>o.length-k)
   (aH.at 0 ⟨XS _,λ_ h=>absurd h (XL _)⟩ (.cX .nil) (.cS (.cB (.cS (.cS .nil))))) (λk l=>?_)
  obtain⟨l,p⟩:=l;refine ab.mk (λd=>?_) (λd=>?_)
  ·have C:k<o.length:=(by have:=XB d;omega);refine aj.o ?_;refine ah.bool (eK (gt o k) m) (λx r=>?_);cases x with
   |false=>
    repeat' first|apply ab.t|apply ab.f
    exact Fin.bool (by unfold Ap;rw[bS k C r.symm];rfl)
   |true=>
    repeat' first|apply ab.t|apply ab.f
    exact aH.back (x:=k) (k+1) ⟨by omega,λj M=>by
     by_cases q:j=k;rw[q,<-r]
     ·exact p j (by omega)⟩ (by omega) (.cX .nil) (.cS (.cB (.cS (.cons (ao.int (by rw[wid];omega)) .nil))))
  ·have D:k=o.length:=(by have:=XA d;omega);subst D;have t:(bJ o.length λi=>aP (gt o i) m)=true:=aE.2 p;refine ab.mk (λe=>?_) (λe=>?_)
   ·have E:n<=14:=XB e;repeat' first|refine ab.dA e ?_|refine ab.t ?_|refine ab.f ?_|fail
    refine ah.bool (KU o hs) (λy b=>?_);have F:∀y,y=KT o hs->y=Ap o hs m:=λy b=>by
     unfold Ap;rw[t,Zh,<-b];cases y with
     |false=>simp
     |true=>have:=a b.symm;rw[X8 (show aF (o::hs)<=14 by omega)];rfl
    have u:=F y b;cases y with
    |false=>
     repeat' first|apply ab.t|apply ab.f
     exact Fin.bool u
    |true=>
     repeat' first|apply ab.t|apply ab.f
     exact Fin.bool u
   ·have E:¬n<=14:=XA e;repeat' first|refine ab.cP e ?_|refine ab.t ?_|refine ab.f ?_|fail
    refine Fin.bool ?_;unfold Ap;rw[t,Zh];cases b:KT o hs with
    |false=>simp
    |true=>have:=a b;rw[X1 (show¬aF (o::hs)<=14 by omega)];rfl
theorem Pg {n:Nat} {get:Nat->Nat->SV} (c:∀i,i<n->jU Tryz.prog 50 (cells 2 (get i))):∃l:LV,l.length=n/\dV (.one (.sl n 2 get)) (.one (aS l)):=by
 have f:∀i,∃p:V2,i<n->cells 2 (get i)=vL p:=λi=>by by_cases a:i<n;obtain⟨g,k,e,_⟩:=Ql (c i a);exact⟨⟨g,k⟩,λ_=>e⟩;exact⟨⟨0,0⟩,λh=>absurd h a⟩
 obtain⟨R,m⟩:=Wq f;refine⟨(List.range n).map R,by simp,dV.one (aC.qo (by simp) (λi a j o=>?_))⟩;have e:[get i 0,get i 1]=vL (R i):=m i a;simp only[Xr]at e;obtain⟨q,r,_⟩:=e;have b:((List.range n).map R).getD i ⟨0,0⟩=R i:=by simp[List.getD,a]
 match j,o with
 |0,_=>exact aC.of_eq (by rw[q];show _=vG _ i 0;rw[<-b];rfl)
 |1,_=>exact aC.of_eq (by rw[r];show _=vG _ i 1;rw[<-b];rfl)
def VP (l:LV) (p:V2) (k:Nat):Bool:=!bJ k λi=>!iY (bN l i) p
theorem SR {v:DV} (h:Eh Tryz.prog 50 v):∃p:V2,v=vD p/\SD p.x/\SD p.y:=by
 obtain⟨g,rfl,k⟩:=Eh.agg (by kernel_rfl) h;obtain⟨a,b,rfl,c,f⟩:=Ql k;exact⟨⟨a,b⟩,rfl,c,f⟩
theorem oq {s t:cc} (hs:az s=true) (f:az t=true) {p:V2} (b:p=s.a\/p=s.b) (h2:iY t p=true):aI s t≠0:=by
 intro a;have g:iY s p=true:=by rcases b with rfl|rfl;exact Fk hs;exact OR hs
 have h:p∈aN s t:=by unfold aN;rw[(eN _).2];refine Wx.2 ⟨?_,by rw[fK,g,h2];rfl⟩;unfold eV;rcases b with rfl|rfl<;>simp
 have i:=List.length_pos_of_mem h;unfold aI at a;rw[XD (by rw[hs,f];simp)]at a;by_cases c:(aN s t).length>1;rw[XG c]at a;cases a;rw[XD c,iP]at a;cases a
theorem H4 {l:LV} (a:bk l) {i j:Nat} (hi:i<l.length) (b:j<l.length) (e:gt l i=gt l j):i=j:=by
 refine Xz (λg=>?_);by_cases c:j=(i+1)%l.length;refine s5 a hi ?_;rw[bw,<-c];exact e;by_cases f:i=(j+1)%l.length;refine s5 a b ?_;rw[bw,<-f];exact e.symm;refine oq (cx a.fE i) (cx a.fE j) (p:=gt l i) (.inl rfl) ?_ (a.apart i hi j b g c f);rw[e];exact Fk (cx a.fE j)
structure Rev (l l':LV):Prop where
 len:l'.length=l.length
 at_:∀i,i<l.length->gt l' i=gt l (l.length-1-i)
section
variable {l l':LV}
theorem B5 (f:Nat->Int):∀n,aT n (λi=>f (n-1-i))=aT n f
 |0=>rfl
 |n+1=>by have a:aT (n+1) (λi=>f (n+1-1-i))=aT (1+n) (λi=>f (n+1-1-i)):=(by rw[Zm]);rw[a,gg];have b:aT n (λi=>f (n+1-1-(1+i)))=aT n (λi=>f (n-1-i)):=bA (λi c=>by congr 1;omega);rw[b,B5 f n];simp only[aT];rw[show n+1-1-0=n by omega];omega
theorem On (x:Int):bM (-x)= -bM x:=by
 unfold bM;by_cases a:x<0
 ·simp only[a,show¬(-x)<0 by omega,show-x>0 by omega,show¬x>0 by omega,WH,Z3];try omega
 ·by_cases b:x>0
  ·simp only[a,b,show(-x)<0 by omega,show¬-x>0 by omega,WH,Z3];try omega
  ·obtain rfl:x=0:=(by omega);rfl
end
end Sg
end Go.Vm
