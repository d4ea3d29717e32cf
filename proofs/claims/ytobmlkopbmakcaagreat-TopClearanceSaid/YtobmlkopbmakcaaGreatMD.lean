import Derived.Test.YtobmlkopbmakcaaGreatMC
import Derived.Shelf.SlSortCmp.NoneTotal
import Derived.Shelf.SlLaysF
set_option linter.unusedVariables false
set_option linter.unusedSimpArgs false
set_option maxRecDepth 20000
namespace Go.Vm
namespace Sg
open Go Go.RowKit Go.Proofs
theorem zx {u v w:V2} (h:aa u v=0) (k:aa v w=0) (a:v≠v0):aa u w=0:=by
 have c:v.x*aa u w=u.x*aa v w+w.x*aa u v:=by simp only[aa];grind
 have f:v.y*aa u w=u.y*aa v w+w.y*aa u v:=by simp only[aa];grind
 rw[h,k]at c f;rw[Ne,V2.eq_iff]at a;by_cases b:v.x=0;have g:v.y≠0:=λh=>a ⟨b,h⟩;rcases YY.1 (show v.y*aa u w=0 by omega)with h|h;exact absurd h g;exact h;rcases YY.1 (show v.x*aa u w=0 by omega)with h|h;exact absurd h b;exact h
theorem Kv {a b:V2} (h:a≠b):ag b a≠v0:=by
 rw[Ne,V2.eq_iff]at*;simp only[ag];omega
variable {p:V2}
section
variable {s t:cp}
theorem FC (hs:aB s=true) (a:aB t=true) (g:gk s t=0):eh s t=false:=by
 obtain⟨b,c⟩:=du a;rw[YQ];intro h;simp only[eh,XJ,X0]at h;have f:=h.1;rw[gm hs b,gm hs c,uU]at f;have:=su s t;omega
theorem xR (hs:aB s=true) (b:aB t=true) (c:gk s t=0) (h:aT s t=[]):aH s t=0/\pC s t=p0/\en s t=s0:=by
 have f:=FC hs b c;have a:aH s t=0:=by rw[aH,h,f,hs,b];rfl
 exact⟨a,by rw[pC,a];rfl,by rw[en,a];rfl⟩
theorem lP (hs:aB s=true) (b:aB t=true) (h:aT s t=[p]):aH s t=1/\pC s t=cm p/\en s t=s0:=by
 have a:aH s t=1:=by rw[aH,h,hs,b];rfl
 exact⟨a,by rw[pC,a,h];rfl,by rw[en,a];rfl⟩
theorem JQ (hs:aB s=true) (b:aB t=true) {q:V2} (h:(aT s t).length>1) (c:(aT s t).getD 0 v0=p) (f:(aT s t).getD ((aT s t).length-1) v0=q):aH s t=3/\pC s t=p0/\en s t=⟨p,q⟩:=by
 have a:aH s t=3:=by rw[aH,XG (by simp[hs,b]),XL h]
 exact⟨a,by rw[pC,a];rfl,by rw[en,a,c,f];rfl⟩
theorem q6 (hs:aB s=true) (h:s.a=s.b):ka s p=true↔p=s.a:=by
 rw[ia hs,ie,<-h,V2.eq_iff];constructor;rintro⟨a,_⟩;omega;rintro⟨a,b⟩;refine⟨by omega,?_⟩;simp only[cL,aa,ag,a,b];grind
theorem C9 (s:cp):(gp s=s.a/\gd s=s.b/\bt s.b s.a=false)\/(gp s=s.b/\gd s=s.a/\bt s.b s.a=true):=by
 unfold gp gd;cases h:bt s.b s.a with
 |true=>exact .inr ⟨rfl,rfl,rfl⟩
 |false=>exact .inl ⟨rfl,rfl,rfl⟩
theorem wH (hs:aB s=true) (h:s.a≠s.b) (o:cL s p=0):ka s p=true↔bt p (gp s)=false/\bt (gd s) p=false:=by
 rw[ia hs];have a:(s.b.x-s.a.x)*(p.y-s.a.y)=(s.b.y-s.a.y)*(p.x-s.a.x):=by simp only[cL,aa,ag]at o;omega
 have t:jP s p=true↔bt p (gp s)=false/\bt (gd s) p=false:=by
  rw[ie];rw[Ne,V2.eq_iff]at h;have q:s.b.y-s.a.y≠0->((p.y-s.a.y=0->p.x-s.a.x=0)/\(p.y=s.b.y->p.x=s.b.x)/\((0<=p.y-s.a.y\/s.b.y-s.a.y<=p.y-s.a.y)/\(p.y-s.a.y<=0\/p.y-s.a.y<=s.b.y-s.a.y)->(0<=p.x-s.a.x\/s.b.x-s.a.x<=p.x-s.a.x)/\(p.x-s.a.x<=0\/p.x-s.a.x<=s.b.x-s.a.x))):=λb=>by
   refine⟨λf=>?_,λf=>?_,λx=>?_⟩;rw[f,X8]at a;rcases YY.1 a.symm with h|h;exact absurd h b;exact h;rw[f,X9]at a;have:=Y9 b a;omega
   ·
    rcases Yh b with y|u;by_cases g:s.b.x-s.a.x=0;rw[g,Yd]at a;rcases YY.1 a.symm with h|h;exact absurd h b;omega;have c:=(H3 (D:= -(s.b.y-s.a.y)) (k:= -(p.y-s.a.y)) (e:=p.x-s.a.x) (v:=s.b.x-s.a.x) (by omega) (by rw[Zc,Zc,<-a,X9])).1 g;exact c.2 (by omega);by_cases g:s.b.x-s.a.x=0;rw[g,Yd]at a;rcases YY.1 a.symm with h|h;exact absurd h b;omega;have c:=(H3 (D:=s.b.y-s.a.y) (k:=p.y-s.a.y) (e:=p.x-s.a.x) (v:=s.b.x-s.a.x) u (by rw[<-a,X9])).1 g;exact c.2 (by omega)
  have r:s.b.y-s.a.y=0->p.y=s.a.y:=λf=>by rw[f,Yd]at a;rcases YY.1 a with w|w;exact absurd ⟨by omega,by omega⟩ h;omega
  rw[YQ,YQ,Ne,Ne,di,di];rcases C9 s with⟨j,l,m⟩|⟨j,l,m⟩;rw[j,l];rw[YQ,Ne,di]at m;by_cases i:s.b.y-s.a.y=0;have:=r i;omega;have:=q i;omega;rw[j,l];rw[di]at m;by_cases i:s.b.y-s.a.y=0;have:=r i;omega;have:=q i;omega
 rw[t];exact⟨λh=>h.1,λh=>⟨h,o⟩⟩
end
variable {a e:V2}
theorem Mf {b:V2}:bt e (lC a b)=false↔bt e a=false/\bt e b=false:=by
 unfold lC;cases h:bt a b with
 |true=>simp only[aaD];rw[di]at h;simp only[YQ,Ne,di];omega
 |false=>simp only[Y6,aaa];rw[YQ,Ne,di]at h;simp only[YQ,Ne,di];omega
theorem Me {b:V2}:bt (jG a b) e=false↔bt a e=false/\bt b e=false:=by
 unfold jG;cases h:bt b a with
 |true=>simp only[aaD];rw[di]at h;simp only[YQ,Ne,di];omega
 |false=>simp only[Y6,aaa];rw[YQ,Ne,di]at h;simp only[YQ,Ne,di];omega
theorem SE (a b:V2):lC a b=a\/lC a b=b:=by
 unfold lC;split;exact .inr rfl;exact .inl rfl
theorem SB (a b:V2):jG a b=a\/jG a b=b:=by
 unfold jG;split;exact .inr rfl;exact .inl rfl
theorem FH {b:V2} (h:bt a b=false) (k:bt b a=false):a=b:=by
 rcases nQ a b with l|l|l;rw[h]at l;cases l;exact l;rw[k]at l;cases l
section
variable {s t:cp}
theorem E0 (hs:aB s=true) (y:aB t=true) (D:gk s t=0) (A:s.a≠s.b) (E:t.a≠t.b) (F:cL s t.a=0):
  (kn s t).kind=aH s t/\(kn s t).p=pC s t/\(kn s t).s=en s t:=by
 have M:cL s t.b=0:=by have:=su s t;omega
 have G:aa (ag t.b t.a) (ag s.b s.a)=0:=by have:aa (ag t.b t.a) (ag s.b s.a)= -gk s t:=(by simp only[gk,aa];grind);omega
 have N:cL t s.a=0:=by have:=zx G (w:=ag t.a s.a) F (Kv A);have e:cL t s.a= -aa (ag t.b t.a) (ag t.a s.a):=(by simp only[cL,aa,ag];grind);omega
 have O:cL t s.b=0:=by have e:cL t s.b=cL t s.a+aa (ag t.b t.a) (ag s.b s.a):=(by simp only[cL,aa,ag];grind);omega
 have P:cL s s.a=0:=by simp only[cL,aa,ag];grind
 have Q:cL s s.b=0:=by simp only[cL,aa,ag];grind
 have R:cL t t.a=0:=by simp only[cL,aa,ag];grind
 have S:cL t t.b=0:=by simp only[cL,aa,ag];grind
 have B:∀e,(e=s.a\/e=s.b\/e=t.a\/e=t.b)->(ka s e=true/\ka t e=true↔bt e (lC (gp s) (gp t))=false/\bt (jG (gd s) (gd t)) e=false):=λe i=>by have z:cL s e=0:=(by rcases i with rfl|rfl|rfl|rfl<;>assumption);have j:cL t e=0:=(by rcases i with rfl|rfl|rfl|rfl<;>assumption);rw[wH hs A z,wH y E j,Mf,Me];exact⟨λ⟨⟨a,b⟩,c,d⟩=>⟨⟨a,c⟩,b,d⟩,λ⟨⟨a,c⟩,b,d⟩=>⟨⟨a,b⟩,c,d⟩⟩
 have C:lC (gp s) (gp t)=s.a\/lC (gp s) (gp t)=s.b\/lC (gp s) (gp t)=t.a\/lC (gp s) (gp t)=t.b:=by
  rcases SE (gp s) (gp t)with e|e<;>rw[e]
  ·rcases C9 s with⟨f,_⟩|⟨f,_⟩<;>rw[f]<;>simp
  ·rcases C9 t with⟨f,_⟩|⟨f,_⟩<;>rw[f]<;>simp
 have H:jG (gd s) (gd t)=s.a\/jG (gd s) (gd t)=s.b\/jG (gd s) (gd t)=t.a\/jG (gd s) (gd t)=t.b:=by
  rcases SB (gd s) (gd t)with e|e<;>rw[e]
  ·rcases C9 s with⟨_,f,_⟩|⟨_,f,_⟩<;>rw[f]<;>simp
  ·rcases C9 t with⟨_,f,_⟩|⟨_,f,_⟩<;>rw[f]<;>simp
 unfold kn;generalize lC (gp s) (gp t)=g at*;generalize jG (gd s) (gd t)=m at*;have o:∀e,e∈(eN s t).filter (fI s t)↔(e=s.a\/e=s.b\/e=t.a\/e=t.b)/\bt e g=false/\bt m e=false:=λe=>by rw[dJ];exact⟨λh=>⟨h.1,(B e h.1).1 h.2⟩,λh=>⟨h.1,(B e h.1).2 h.2⟩⟩
 rcases nQ g m with k|k|k;have p:gl g m= -1:=(by rw[gl,XL k]);obtain⟨q,I,J⟩:=KD (l:=(eN s t).filter (fI s t)) ((o g).2 ⟨C,eL _,my k⟩) ((o m).2 ⟨H,my k,eL _⟩) k (λe i=>((o e).1 i).2);obtain⟨r,u,x⟩:=JQ hs y q I J;rw[p,r,u,x];exact⟨rfl,rfl,rfl⟩
 ·subst k;have p:gl g g=0:=(by rw[gl,eL,XG (by decide),XL rfl]);have q:aT s t=[g]:=lg λe=>by rw[o];exact⟨λh=>FH h.2.1 h.2.2,λh=>by rw[h];exact⟨C,eL _,eL _⟩⟩
  obtain⟨r,u,x⟩:=lP hs y q;rw[p,r,u,x];exact⟨rfl,rfl,rfl⟩
 ·have K:g≠m:=λe=>by rw[e,eL]at k;cases k
  have p:gl g m=1:=(by rw[gl,my k,XG (by decide),XG K]);have q:aT s t=[]:=lh λe i=>by obtain⟨_,z,j⟩:=(o e).1 i;rcases nQ e g with l|l|l;rw[z]at l;cases l;rw[l,k]at j;cases j;rw[mw k l]at j;cases j
  obtain⟨r,u,x⟩:=xR hs y D q;rw[p,r,u,x];exact⟨rfl,rfl,rfl⟩
theorem FD (hs:aB s=true) (a:aB t=true) (q:gk s t=0):(ev s t).kind=aH s t/\(ev s t).p=pC s t/\(ev s t).s=en s t:=by
 have D:=E5 hs;have E:=E5 a;by_cases b:s.a=s.b/\ka t s.a=true
 ·have c:ev s t=iq s.a:=(by rw[ev,XL b]);have i:aT s t=[s.a]:=lg λe=>by rw[dJ,q6 hs b.1];exact⟨λh=>h.2.1,λh=>by rw[h];exact⟨.inl rfl,rfl,b.2⟩⟩
  obtain⟨j,k,l⟩:=lP hs a i;rw[c,j,k,l];exact⟨rfl,rfl,rfl⟩
 by_cases f:t.a=t.b/\ka s t.a=true
 ·have c:ev s t=iq t.a:=(by rw[ev,XG b,XL f]);have i:aT s t=[t.a]:=lg λe=>by rw[dJ,q6 a f.1];exact⟨λh=>h.2.2,λh=>by rw[h];exact⟨.inr (.inr (.inl rfl)),f.2,rfl⟩⟩
  obtain⟨j,k,l⟩:=lP hs a i;rw[c,j,k,l];exact⟨rfl,rfl,rfl⟩
 by_cases g:s.a=s.b\/t.a=t.b\/ct s.a s.b t.a≠0
 ·have c:ev s t=hG:=(by rw[ev,XG b,XG f,XL g]);have i:aT s t=[]:=lh λe x=>by obtain⟨x,m,o⟩:=dJ.1 x;by_cases r:s.a=s.b;rw[q6 hs r]at m;subst m;exact b ⟨r,o⟩;by_cases p:t.a=t.b;rw[q6 a p]at o;subst o;exact f ⟨p,m⟩;have y:ct s.a s.b t.a≠0:=(by rcases g with h|h|h;exact absurd h r;exact absurd h p;exact h);rw[oA hs (du a).1,Ne,qS]at y;have F:=(ia hs).1 m;have z:=(ia a).1 o;have:=zx (u:=ag s.b s.a) (v:=ag t.b t.a) (w:=ag e t.a) q z.2 (Kv p);have G:cL s t.a=cL s e-aa (ag s.b s.a) (ag e t.a):=(by simp only[cL,aa,ag];grind);omega
  obtain⟨j,k,l⟩:=xR hs a q i;rw[c,j,k,l];exact⟨rfl,rfl,rfl⟩
 ·have c:ev s t=kn s t:=(by rw[ev,XG b,XG f,XG g]);have A:s.a≠s.b:=λh=>g (.inl h);have B:t.a≠t.b:=λh=>g (.inr (.inl h));have C:cL s t.a=0:=(by refine Xz λh=>g (.inr (.inr ?_));rw[oA hs (du a).1,Ne,qS];exact h);rw[c];exact E0 hs a q A B C
end
theorem eH (s t:cp):(cU s t).kind=aH s t/\(cU s t).p=pC s t/\(cU s t).s=en s t:=by
 by_cases i:aB s=false\/aB t=false;have j:cU s t=hG:=(by rw[cU,XL i]);have l:aH s t=0:=(by rw[aH,XL i]);rw[j];exact⟨l.symm,by rw[pC,l];rfl,by rw[en,l];rfl⟩;have m:aB s=true:=by
  cases h:aB s with
  |true=>rfl
  |false=>exact absurd (.inl h) i
 have o:aB t=true:=by
  cases h:aB t with
  |true=>rfl
  |false=>exact absurd (.inr h) i
 by_cases k:gk s t=0;have j:cU s t=ev s t:=(by rw[cU,XG i,XG (by simpa using k)]);rw[j];exact FD m o k
 ·have j:cU s t=eY s t:=(by rw[cU,XG i,XL k]);rw[j];have C:∀A B D,(eK s (ag s.b s.a) A B D).s=s0:=λA B D=>by unfold eK;split<;>rfl
  rcases Yh k with p|E
  ·have q:eY s t=eK s (ag s.b s.a) (-aa (ag t.a s.a) (ag t.b t.a)) (-aa (ag t.a s.a) (ag s.b s.a)) (-gk s t):=(by rw[eY,XL p]);obtain⟨r,u,w,x,c⟩:=tT (ze p) m o;rw[q];refine⟨r,?_,by rw[C,en,XG c]⟩;unfold pC;by_cases b:aH s t=1;rw[XL b];exact u b
   ·rw[XG b];by_cases a:aH s t=2;(rw[XL a,w a,Jj,XL p];congr 1<;>grind)
    ·rw[XG a];refine x ?_;unfold aH at b a c|-;split;rfl;rename_i y;rw[XG y]at b a c;split;rename_i f;rw[XL f]at c;exact absurd rfl c;rename_i f;rw[XG f]at b a;split;rename_i g;rw[XL g]at b;exact absurd rfl b;rename_i g;rw[XG g]at a;split;rename_i z;rw[XL z]at a;exact absurd rfl a;rfl
  ·have q:eY s t=eK s (ag s.b s.a) (aa (ag t.a s.a) (ag t.b t.a)) (aa (ag t.a s.a) (ag s.b s.a)) (gk s t):=(by rw[eY,XG (by simp only[gk]at E;omega)]);obtain⟨r,u,w,x,c⟩:=tT (zd E) m o;rw[q];refine⟨r,?_,by rw[C,en,XG c]⟩;unfold pC;by_cases b:aH s t=1;rw[XL b];exact u b
   ·rw[XG b];by_cases a:aH s t=2;(rw[XL a,w a,Jj,iN];congr 1<;>grind)
    ·rw[XG a];refine x ?_;unfold aH at b a c|-;split;rfl;rename_i y;rw[XG y]at b a c;split;rename_i f;rw[XL f]at c;exact absurd rfl c;rename_i f;rw[XG f]at b a;split;rename_i g;rw[XL g]at b;exact absurd rfl b;rename_i g;rw[XG g]at a;split;rename_i z;rw[XL z]at a;exact absurd rfl a;rfl
end Sg
end Go.Vm
namespace Go.Vm
open Go Go.RowKit Go.Proofs
namespace Sg
variable {j:Nat}
theorem aD.put {i q n:Nat} {x y z:SV} (b:j<n) (a:i=q->aD x z) (h2:i≠q->aD y z):aD (bif Nat.beq i q&&Nat.ble 0 j&&Nat.blt j (0+n)then x else y) z:=by
 by_cases e:i=q;have:(Nat.beq i q&&Nat.ble 0 j&&Nat.blt j (0+n))=true:=(by rw[e,ZE,D2 (XR j),hp];rfl);rw[this];exact a e;rw[pX e];exact h2 e
theorem aD.Rv {v:V2} {l:LV} {p:Nat} (a:j<2) (h:v=l.getD p ⟨0,0⟩):aD ([i64 v.x,i64 v.y].getD (j-0) (.v Go.undef)) (vG l p j):=by
 subst h
 match j,a with
 |0,_=>exact aD.refl _
 |1,_=>exact aD.refl _
def Sd (l:LV) (k:Nat):LV:=(List.range l.length).map λp=>if p<k\/l.length-k<=p then l.getD (l.length-1-p) ⟨0,0⟩else l.getD p ⟨0,0⟩
theorem km (l:LV) (k p:Nat) (h:p<l.length:=by omega):(Sd l k).getD p ⟨0,0⟩=if p<k\/l.length-k<=p then l.getD (l.length-1-p) ⟨0,0⟩else l.getD p ⟨0,0⟩:=by
 simp[Sd,List.getD,h]
theorem rB (l:LV) (p:Nat) (h:p<l.length:=by omega):l.reverse.getD p ⟨0,0⟩=l.getD (l.length-1-p) ⟨0,0⟩:=by
 have a:l.length-1-p<l.length:=by omega
 simp[List.getD,List.getElem?_reverse h]
theorem DS (l:LV) (c:l.length<=100000):lT Tryz.prog 93 [.d (.one (aN l))] [] (.aJ (.n 3000) 0) [] (.aL 0 l.length 2 50 (vG l)):=by
 refine cF je mixed Tryz.func93 rfl rfl [0] (XI rfl) (XI rfl) (fe rfl) ?_;refine Cut.id ?_;refine Tw.mk ?_ (λb=>?_);refine ak.mk (aS) ?_;refine Cut.id ?_;exact ke.mk ⟨.n 5,.one (.aJ rfl rfl rfl),.nil _,.inr ⟨.aR (Ya _) (λh=>absurd h (by decide)) (λi a j f=>aD.of_eq (by rw[ht (XO i)];rfl)),rfl⟩⟩;obtain rfl:l=[]:=Y0 b;refine Cut.mk (aG.nil 2 7 2 50 (vG []) rfl rfl (aG.id ?_));exact ke.mk ⟨.n 7,.one (.aJ rfl rfl rfl),.nil _,.inr ⟨.aL (λh=>absurd h (by decide)) (λi a=>absurd a (XO i)),rfl⟩⟩
abbrev gt (l:LV) (i:Nat):V2:=l.getD i ⟨0,0⟩
def bA (l:LV) (i:Nat):V2:=gt l ((i+1)%l.length)
def I7 (l:LV) (i:Nat):V2:=gt l ((i+2)%l.length)
def lV (l:LV) (i:Nat):V2:=gt l ((i+l.length-1)%l.length)
def rT (l:LV):Nat->Int
 |0=>0
 |k+1=>bW (rT l k+eJ (gt l k) (bA l k))
def rS (l:LV):Int:=rT l l.length
def fD (l:LV):Bool:=l.all (aY · 2000)
def bY (l:LV) (i:Nat):cp:=⟨gt l i,bA l i⟩
def ay (l:LV):List cp:=if l.length<2 then[]else(List.range l.length).map (bY l)
abbrev bh (l:List cp) (i:Nat):cp:=l.getD i ⟨⟨0,0⟩,⟨0,0⟩⟩
abbrev sG (l:List cp):Nat->Nat->SV:=λi j=>match j with
 |0=>i64 (bh l i).a.x
 |1=>i64 (bh l i).a.y
 |2=>i64 (bh l i).b.x
 |_=>i64 (bh l i).b.y
abbrev mX (l:List cp):SV:= .sl l.length 4 (sG l)
theorem KW {l a:List cp} {i b:Nat} (h:bh l i=bh a b) (j:Nat):sG l i j=sG a b j:=by
 unfold sG;rw[h]
theorem hw (n:Int) (a: -1000000<=n:=by omega) (h2:n<=1000000:=by omega):IntKind.i64.wrap n=n:=wid
theorem kf (a n:Nat):((a:Int).tmod n).toNat=a%n:=by
 rw[<-abt];exact Yi _
theorem kg (a n:Nat) (h:0<n:=by omega):0<=(a:Int).tmod n/\(a:Int).tmod n<n:=by
 rw[<-abt];have:=ZC a h;omega
theorem nN (a b:Nat) (h:a<=100000:=by omega) (c:b<=100000:=by omega):IntKind.i64.wrap ((a:Int)+b)=((a+b:Nat):Int):=by rw[hw _];omega
theorem wR (l:LV) (i:Nat) (hi:i<l.length) (b:l.length<=40000):DP 113 [.one (aN l),.one (i64 i)] (.d (vD (bA l i))):=by
 refine dg Tryz.func113 [] ?_;have e:=nN i 1;have a:=kg (i+1) l.length;refine ak.o ?_;refine ak.mk (by rw[show(1:Int)=(1:Nat) from rfl,e];exact a) ?_;refine Fin.eq ?_;show TV.d (vD (gt l (Int.toNat ((IntKind.i64.wrap ((i:Int)+(1:Nat))).tmod l.length))))=_;rw[e,kf];rfl
theorem Mj (l:LV) (i:Nat) (hi:i<l.length) (b:l.length<=40000):DP 112 [.one (aN l),.one (i64 i)] (.d (vD (lV l i))):=by
 refine dg Tryz.func112 [] ?_;have e:IntKind.i64.wrap (IntKind.i64.wrap ((i:Int)+l.length)-1)=((i+l.length-1:Nat):Int):=by rw[hw ((i:Int)+l.length),hw _];omega
 have a:=kg (i+l.length-1) l.length;refine ak.o ?_;refine ak.mk (by rw[e];exact a) ?_;refine Fin.eq ?_;show TV.d (vD (gt l (Int.toNat ((IntKind.i64.wrap (IntKind.i64.wrap ((i:Int)+l.length)-1)).tmod l.length))))=_;rw[e,kf];rfl
theorem NC (l:LV) (a:l.length<=40000):DP 111 [.one (aN l)] (au (rS l)):=by
 refine dg Tryz.func111 [] ?_;refine Loop.by (α:=Nat) (λk=>[(0,.d (.one (aN l))),(6,.d (.one (aN l))),(7,au l.length),(8,au k),(3,au (rT l k))]) (λ_=>[]) (λk=>k<=l.length) (λk=>l.length-k)
  (aG.at 0 (XR _) .nil (.cS (.cS (.cS (.cS (.cS .nil)))))) (λk j=>?_)
 apply af.mk<;>intro h
 ·have b:k<l.length:=(by simpa using h);refine ak.o ?_;refine ai.v (wR l k b a) (λv f=>?_);refine ai.int (dH (gt l k) v) (λc g=>?_);refine ak.n ?_;refine aG.back (x:=k) (k+1) (by omega) (by omega) .nil (.cS (.cS (.cS (.cons (ar.int ?_) (.cons (ar.int ?_) .nil)))));rw[hw _];omega;rw[g,f];rfl
 ·have i:k=l.length:=(by have:¬k<l.length:=(by simpa using h);omega);refine Fin.int ?_;rw[i];rfl
theorem EM (l:LV) (g:l.length<=40000):DP 126 [.one (aN l)] (au (rS l)):=by
 refine dg Tryz.func126 [] ?_;refine Loop.by (α:=Nat) (λk=>[(0,.d (.one (aN l))),(4,au k),(3,au (rT l k))]) (λ_=>[]) (λk=>k<=l.length) (λk=>l.length-k)
  (aG.at 0 (XR _) .nil (.cS (.cS (.cS .nil)))) (λk i=>?_)
 apply af.mk<;>intro h
 ·have j:k<l.length:=(by simpa using h);have e:=nN k 1;have a:=kg (k+1) l.length;refine ak.o ?_;refine ak.o ?_;refine ak.mk (by rw[show(1:Int)=(1:Nat) from rfl,e];exact a) ?_;refine ai.int (zA (gt l k) (gt l (Int.toNat ((IntKind.i64.wrap ((k:Int)+(1:Nat))).tmod l.length)))) (λc b=>?_);refine ak.n ?_;refine aG.back (x:=k) (k+1) (by omega) (by omega) .nil (.cS (.cons (ar.int ?_) (.cons (ar.int ?_) .nil)));rw[hw _];omega;rw[b,e,kf];rfl
 ·have f:k=l.length:=(by have:¬k<l.length:=(by simpa using h);omega);refine Fin.int ?_;rw[f];rfl
theorem wW {l:LV} {k:Nat} (a:k<l.length) (h:aY (gt l k) 2000=false):fD l=false:=by
 cases b:fD l with
 |false=>rfl
 |true=>have:=Zz.1 b (gt l k) (by simp[gt,List.getD,a]);rw[h]at this;cases this
theorem sT {l:LV} (h:∀i,i<l.length->aY (gt l i) 2000=true):fD l=true:=by
 refine Zz.2 (λv b=>?_);obtain⟨i,a⟩:=ZZ b;have c:=(Ye.1 a).1;have:=h i c;simpa[gt,List.getD,a]using this
theorem CN (v:V2):DP 129 [vD v] (aE (!aY v 2000)):=by
 refine dg Tryz.func129 [] ?_;refine ai.bool (ea v 2000) (λb a=>?_);refine Fin.bool (by rw[a])
theorem CO (l:LV) (t:l.length<=40000):DP 194 [.one (aN l),.one (.fn 129 0 λ_=> .v Go.undef)] (au (if fD l=true then-1 else((l.findIdx λv=>!aY v 2000):Nat))):=by
 refine dg Tryz.func194 [] ?_;refine Loop.by (α:=Nat) (λk=>[(0,.d (.one (aN l))),(1,.d (.one (.fn 129 0 λ_=> .v Go.undef))),(7,au l.length),(8,au k)]) (λ_=>[]) (λk=>k<=l.length/\∀i,i<k->aY (gt l i) 2000=true) (λk=>l.length-k)
  (aG.at 0 ⟨XR _,λ_ h=>absurd h (XO _)⟩ .nil (.cS (.cS (.cS (.cS .nil))))) (λk m=>?_)
 obtain⟨m,c⟩:=m;apply af.mk<;>intro h
 ·have f:k<l.length:=(by simpa using h);refine ak.o ?_;refine ai.bool (CN (gt l k)) (λb a=>?_);apply af.mk<;>intro o
  ·refine Fin.int ?_;rw[o]at a;have p:aY (gt l k) 2000=false:=(by simpa using a.symm);rw[XG (by rw[wW f p];simp)];have:l.findIdx (λv=>!aY v 2000)=k:=(by rw[List.findIdx_eq f];have e:l[k]=gt l k:=(by simp[gt,List.getD,f]);refine⟨by rw[e,p];rfl,λj q=>?_⟩;have e:l[j]=gt l j:=(by simp[gt,List.getD,show j<l.length by omega]);rw[e,c j q];rfl);rw[this]
  ·refine aG.back (x:=k) (k+1) ⟨by omega,λi g=>?_⟩ (by omega) .nil (.cS (.cS (.cS (.cons (ar.int ?_) .nil))));rcases YP.1 g with g|rfl;exact c i g;rw[o]at a;simpa using a;rw[hw _];omega
 ·have r:k=l.length:=(by have:¬k<l.length:=(by simpa using h);omega);subst r;refine Fin.int ?_;rw[XL (sT c)]
theorem Fg (l:LV) (a:l.length<=40000):DP 128 [.one (aN l),.one (.fn 129 0 λ_=> .v Go.undef)] (aE (!fD l)):=by
 refine dg Tryz.func128 [] ?_;refine ai.int (CO l a) (λn b=>?_);refine Fin.bool ?_;subst b;cases fD l with
 |true=>simp
 |false=>simp
theorem Jb (l:LV) (a:l.length<=40000):DP 76 [.one (aN l)] (aE (fD l)):=by
 refine dg Tryz.func76 [] ?_;refine ai.bool (Fg l a) (λb c=>?_);refine Fin.bool ?_;rw[c];simp
theorem Cl (l:LV) (q:l.length<=40000):DP 122 [.one (aN l)] (aE (fD l)):=by
 refine dg Tryz.func122 [] ?_;refine Loop.by (α:=Nat) (λk=>[(0,.d (.one (aN l))),(3,au k)]) (λ_=>[]) (λk=>k<=l.length/\∀i,i<k->aY (gt l i) 2000=true) (λk=>l.length-k)
  (aG.at 0 ⟨XR _,λ_ h=>absurd h (XO _)⟩ .nil (.cS (.cS .nil))) (λk f=>?_)
 obtain⟨f,g⟩:=f;apply af.mk<;>intro h
 ·have o:k<l.length:=(by simpa using h);refine ak.o ?_;refine ai.bool (fz (gt l k) 2000) (λb j=>?_);apply af.mk<;>intro m
  ·refine Fin.bool ?_;have a:b=false:=(by simpa using m);rw[wW o (by rw[<-j,a])]
  ·refine aG.back (x:=k) (k+1) ⟨by omega,λi c=>?_⟩ (by omega) .nil (.cS (.cons (ar.int ?_) .nil));rcases YP.1 c with c|rfl;exact g i c;have a:b=true:=(by simpa using m);rw[<-j,a];rw[hw _];omega
 ·have p:k=l.length:=(by have:¬k<l.length:=(by simpa using h);omega);subst p;refine Fin.bool ?_;rw[sT g]
theorem dz {l:LV} (h:¬l.length<2) (i:Nat) (hi:i<l.length):bh (ay l) i=bY l i:=by
 simp[ay,h,bh,List.getD,hi]
theorem gJ {l:LV} (h:¬l.length<2):(ay l).length=l.length:=by simp[ay,h]
theorem KX (E:List cp) (s:cp) (k i j:Nat) (hi:i<k+1) (a:j<4) (hs:s=bh E k):aD (bif Nat.blt i k then sG E i j else(sL s).getD ((i-k)*4+j) (.v Go.undef)) (sG E i j):=by
 refine aD.bif (λ_=>aD.refl _) (λh=>?_);have e:i=k:=by omega
 subst e;subst hs;rw[Zb,aaV,Ya]
 match j,a with
 |0,_=>exact aD.refl _
 |1,_=>exact aD.refl _
 |2,_=>exact aD.refl _
 |3,_=>exact aD.refl _
theorem lI (l:LV) (g:l.length<=40000:=by omega):DP 114 [.one (aN l)] (.d (.one (mX (ay l)))):=by
 refine dg Tryz.func114 [] ?_;apply af.mk<;>intro h
 ·have a:l.length<2:=(by have:=XA h;omega);refine Fin.one ?_;rw[show ay l=[] by simp[ay,a]];exact aD.nil _ _
 have b:¬l.length<2:=by have:=XB h;omega
 refine Loop.by (α:=Nat) (λk=>[(0,.d (.one (aN l))),(9,.d (.one (aN l))),(10,au l.length),(11,au k),(3,.aJ 23 0)]) (λk=>[(23,.aL 0 k 4 163 (sG (ay l)))]) (λk=>k<=l.length) (λk=>l.length-k)
  (aG.nil 3 23 4 163 (sG (ay l)) rfl rfl (aG.at 0 (XR _) (.cons (.aL (λ_ h=>absurd h (XO _))) .nil) (.cS (.cS (.cS (.cS (.cH .nil))))))) (λk p=>?_)
 apply af.mk<;>intro h
 ·have a:k<l.length:=(by simpa using h);refine ak.o ?_;refine ai.v (wR l k a g) (λv m=>?_);refine ak.mk (aS) ?_;refine ak.n ?_;refine aG.back (x:=k) (k+1) (by omega) (by omega) (.cons (.aL (λi c j f=>KX (ay l) ⟨gt l k,v⟩ k i j c f ?_)) .nil) (.cS (.cS (.cS (.cons (ar.int ?_) (.cH .nil)))));rw[dz b k a,m];rfl;rw[hw _];omega
 ·have o:k=l.length:=(by have:¬k<l.length:=(by simpa using h);omega);refine Fin.one ?_;refine aD.pQ (by rw[gJ b,o]) (λi c j f=>aD.refl _)
theorem mm (l:LV) (o:l.length<=40000):DP 124 [.one (aN l)] (.d (.one (mX (ay l)))):=by
 refine dg Tryz.func124 [] ?_;apply af.mk<;>intro h
 ·have a:l.length<2:=(by have:=XA h;omega);refine Fin.one ?_;rw[show ay l=[] by simp[ay,a]];exact aD.nil _ _
 have b:¬l.length<2:=by have:=XB h;omega
 refine Loop.by (α:=Nat) (λk=>[(0,.d (.one (aN l))),(4,au k),(3,.aJ 29 0)]) (λk=>[(29,.aL 0 k 4 163 (sG (ay l)))]) (λk=>k<=l.length) (λk=>l.length-k)
  (aG.nil 3 29 4 163 (sG (ay l)) rfl rfl (aG.at 0 (XR _) (.cons (.aL (λ_ h=>absurd h (XO _))) .nil) (.cS (.cS (.cH .nil))))) (λk p=>?_)
 apply af.mk<;>intro h
 ·have a:k<l.length:=(by simpa using h);have e:=nN k 1;have g:=kg (k+1) l.length;refine ak.o ?_;refine ak.o ?_;refine ak.mk (by rw[show(1:Int)=(1:Nat) from rfl,e];exact g) ?_;refine ak.mk (aS) ?_;refine ak.n ?_;refine aG.back (x:=k) (k+1) (by omega) (by omega) (.cons (.aL (λi c j f=>KX (ay l) ⟨gt l k,gt l (Int.toNat ((IntKind.i64.wrap ((k:Int)+(1:Nat))).tmod l.length))⟩ k i j c f ?_)) .nil) (.cS (.cons (ar.int ?_) (.cH .nil)));rw[dz b k a,e,kf];rfl;rw[hw _];omega
 ·have m:k=l.length:=(by have:¬k<l.length:=(by simpa using h);omega);refine Fin.one ?_;refine aD.pQ (by rw[gJ b,m]) (λi c j f=>aD.refl _)
def bn (n:Nat) (f:Nat->Bool):Bool:=(List.range n).all f
theorem aF {n:Nat} {f:Nat->Bool}:bn n f=true↔∀i,i<n->f i=true:=by simp[bn]
theorem bD {n:Nat} {f:Nat->Bool} (i:Nat) (hi:i<n) (h:f i=false):bn n f=false:=by
 cases a:bn n f with
 |false=>rfl
 |true=>rw[aF.1 a i hi]at h;cases h
def hF (n i k:Nat):Bool:=decide (k=i+1)||(decide (i=0)&&decide (k=n-1))
def mf (l:LV):Bool:=bn l.length λi=>decide (ct (lV l i) (gt l i) (bA l i)≠0)
def xP (l:LV):Bool:=bn l.length λi=>bn l.length λk=>decide (k<=i)||hF l.length i k||decide ((cU (bY l i) (bY l k)).kind=0)
def hI (l:LV):Bool:=decide (3<=l.length)&&decide (l.length<=40)&&fD l
def cj (l:LV):Bool:=hI l&&decide (0<rS l)&&mf l&&xP l
def pR (l:LV) (i k:Nat):Bool:=decide (k<=i)||hF l.length i k||decide ((cU (bY l i) (bY l k)).kind=0)
theorem qc (l:LV) (w:l.length<=40000):DP 60 [.one (aN l)] (aE (cj l)):=by
 refine dg Tryz.func60 [] ?_;apply af.mk<;>intro h
 ·have g:l.length<3:=(by have:=XA h;omega);repeat' first|apply af.t|apply af.f
  refine Fin.bool ?_;simp[cj,hI,show¬3<=l.length by omega]
 have g:3<=l.length:=by have:=XB h;omega
 repeat' first|apply af.t|apply af.f
 apply af.mk<;>intro h
 ·have H:¬l.length<=40:=(by have:=XA h;omega);repeat' first|apply af.t|apply af.f
  refine Fin.bool ?_;simp[cj,hI,H]
 have H:l.length<=40:=by have:=XB h;omega
 repeat' first|apply af.t|apply af.f
 refine ai.bool (Jb l w) (λb O=>?_);repeat' first|apply af.t|apply af.f
 apply af.mk<;>intro h
 ·have I:fD l=false:=(by rw[<-O];simpa using h);repeat' first|apply af.t|apply af.f
  refine Fin.bool ?_;simp[cj,hI,I]
 have I:fD l=true:=by rw[<-O];simpa using h
 repeat' first|apply af.t|apply af.f
 refine ai.int (NC l w) (λa P=>?_);repeat' first|apply af.t|apply af.f
 apply af.mk<;>intro h
 ·have J:¬0<rS l:=(by have:=XA h;omega);refine Fin.bool ?_;simp[cj,J]
 have J:0<rS l:=by have:=XB h;omega
 have D:cj l=(mf l&&xP l):=by simp[cj,hI,g,H,I,J]
 rw[D];refine Loop.by (α:=Nat) (λk=>[(0,.d (.one (aN l))),(3,au l.length),(27,.d (.one (aN l))),(28,au l.length),(29,au k)]) (λ_=>[]) (λk=>k<=l.length/\∀i,i<k->ct (lV l i) (gt l i) (bA l i)≠0) (λk=>l.length-k)
  (aG.at 0 ⟨XR _,λ_ h=>absurd h (XO _)⟩ .nil (.cS (.cS (.cS (.cS (.cS .nil)))))) (λk z=>?_)
 obtain⟨z,Q⟩:=z;apply af.mk<;>intro h
 ·have p:k<l.length:=(by have:=XA h;omega);refine ak.o ?_;refine ai.v (Mj l k p w) (λu R=>?_);refine ai.v (wR l k p w) (λv D=>?_);refine ai.int (eW u (gt l k) v) (λc o=>?_);refine ak.n ?_;apply af.mk<;>intro A
  ·refine Fin.bool ?_;have a3:ct (lV l k) (gt l k) (bA l k)=0:=(by rw[<-R,<-D,<-o];simpa using A);rw[mf,bD k p (by rw[a3];rfl),YN]
  ·refine aG.back (x:=k) (k+1) ⟨by omega,λi f=>?_⟩ (by omega) .nil (.cS (.cS (.cS (.cS (.cons (ar.int ?_) .nil)))));rcases YP.1 f with f|rfl;exact Q i f;rw[<-R,<-D,<-o];simpa using A;rw[hw _];omega
 have B:k=l.length:=by have:=XB h;omega
 subst B;have a4:mf l=true:=aF.2 (λi f=>by simpa using Q i f);rw[a4,Zd];refine ai.mk' (lI l w) ?_;have K:¬l.length<2:=by omega
 have a8:=gJ K;refine Loop.by (α:=Nat) (λk=>[(3,au l.length),(6,.d (.one (mX (ay l)))),(46,au l.length),(47,au k)]) (λ_=>[]) (λk=>k<=l.length/\∀i,i<k->∀j,j<l.length->pR l i j=true) (λk=>l.length-k)
  (aG.at 0 ⟨XR _,λ_ h=>absurd h (XO _)⟩ .nil (.cS (.cS (.cS (.cS .nil))))) (λk z=>?_)
 obtain⟨z,S⟩:=z;apply af.mk<;>intro h
 ·have p:k<l.length:=(by have:=XA h;omega);have E:IntKind.i64.wrap ((k:Int)+1)=((k+1:Nat):Int):=nN k 1;refine Loop.by (α:=Nat) (λq=>[(3,au l.length),(6,.d (.one (mX (ay l)))),(46,au l.length),(47,au k),(7,au k),(8,au q)]) (λ_=>[]) (λq=>k<q/\q<=l.length/\∀j,j<q->pR l k j=true) (λq=>l.length-q)
   (aG.at (k+1) ⟨by omega,by omega,λj r=>by simp[pR,show j<=k by omega]⟩ .nil (.cS (.cS (.cS (.cS (.cS (.cons (ar.int E) .nil))))))) (λq T=>?_)
  obtain⟨a9,T,U⟩:=T;apply af.mk<;>intro h
  ·have V:q<l.length:=(by have:=XA h;omega);have F:∀(t:Nat->TV) (m:Id->Mem),fj t m (aQ []) [(3,au l.length),(6,.d (.one (mX (ay l)))),(46,au l.length),(47,au k),(7,au k),(8,au (IntKind.i64.wrap ((q:Int)+1)))]->pR l k q=true->
     aG t m (λa5 a6=>∃y,Kept (λq=>[(3,au l.length),(6,.d (.one (mX (ay l)))),(46,au l.length),(47,au k),(7,au k),(8,au ((q:Nat):Int))]) (λ_=>[]) (λq=>k<q/\q<=l.length/\∀j,j<q->pR l k j=true) y a5 a6/\l.length-y<l.length-q):=by
    intro t m X a7;rw[show IntKind.i64.wrap ((q:Int)+1)=((q+1:Nat):Int) from nN q 1]at X;exact aG.back (rank:=λq=>l.length-q) (q+1) ⟨by omega,by omega,λj r=>by
     rcases YP.1 r with r|rfl;exact U j r
     ·exact a7⟩ (by omega) .nil X
   have Y:∀c,c=(cU (bh (ay l) k) (bh (ay l) q)).kind->hF l.length k q=false->pR l k q=decide (c=0):=(by intro c o P;rw[o,dz K k p,dz K q V];simp[pR,P,show¬q<=k by omega]);have Z:pR l k q=false->xP l=false:=λh=>bD k p (bD q V h);apply af.mk<;>intro A
   ·have G:q≠k+1:=(by have:(q:Int)≠IntKind.i64.wrap ((k:Int)+1):=(by simpa using A);rw[E]at this;omega);repeat' first|apply af.t|apply af.f
    apply af.mk<;>intro a0
    ·have M:k≠0:=(by have:(k:Int)≠0:=(by simpa using a0);omega);repeat' first|apply af.t|apply af.f
     refine ak.o ?_;repeat' first|apply af.t|apply af.f
     refine ak.o ?_;repeat' first|apply af.t|apply af.f
     refine ai.int (kV (bh (ay l) k) (bh (ay l) q)) (λc o=>?_);repeat' first|apply af.t|apply af.f
     refine ak.n ?_;have C:=Y c o (by simp[hF,G,M]);apply af.mk<;>intro g
     ·have:c≠0:=(by simpa using g);refine Fin.bool ?_;rw[Z (by rw[C];simpa using this)]
     ·have:c=0:=(by simpa using g);exact F _ _ (.cS (.cS (.cS (.cS (.cS (.cS .nil)))))) (by rw[C];simpa using this)
    ·have M:k=0:=(by have:(k:Int)=0:=(by simpa using a0);omega);have a1:IntKind.i64.wrap ((l.length:Int)-1)=((l.length-1:Nat):Int):=(by rw[hw _];omega);repeat' first|apply af.t|apply af.f
     apply af.mk<;>intro a2
     ·have N:q≠l.length-1:=(by have:(q:Int)≠IntKind.i64.wrap ((l.length:Int)-1):=(by simpa using a2);rw[a1]at this;omega);repeat' first|apply af.t|apply af.f
      refine ak.o ?_;repeat' first|apply af.t|apply af.f
      refine ak.o ?_;repeat' first|apply af.t|apply af.f
      refine ai.int (kV (bh (ay l) k) (bh (ay l) q)) (λc o=>?_);repeat' first|apply af.t|apply af.f
      refine ak.n ?_;have C:=Y c o (by simp[hF,G,N]);apply af.mk<;>intro g
      ·have:c≠0:=(by simpa using g);refine Fin.bool ?_;rw[Z (by rw[C];simpa using this)]
      ·have:c=0:=(by simpa using g);exact F _ _ (.cS (.cS (.cS (.cS (.cS (.cS .nil)))))) (by rw[C];simpa using this)
     ·have N:q=l.length-1:=(by have:(q:Int)=IntKind.i64.wrap ((l.length:Int)-1):=(by simpa using a2);rw[a1]at this;omega);repeat' first|apply af.t|apply af.f
      refine ak.n ?_;repeat' first|apply af.t|apply af.f
      exact F _ _ (.cS (.cS (.cS (.cS (.cS (.cS .nil)))))) (by simp[pR,hF,M,N])
   ·have G:q=k+1:=(by have:(q:Int)=IntKind.i64.wrap ((k:Int)+1):=(by simpa using A);rw[E]at this;omega);repeat' first|apply af.t|apply af.f
    refine ak.n ?_;repeat' first|apply af.t|apply af.f
    exact F _ _ (.cS (.cS (.cS (.cS (.cS (.cS .nil)))))) (by simp[pR,hF,G])
  ·have B:q=l.length:=(by have:=XB h;omega);subst B;refine aG.back (x:=k) (k+1) ⟨by omega,λi f=>?_⟩ (by omega) .nil (.cS (.cS (.cS (.cons (ar.int E) .nil))));rcases YP.1 f with f|rfl;exact S i f;exact U
 ·have B:k=l.length:=(by have:=XB h;omega);subst B;refine Fin.bool ?_;exact(aF.2 (λi f=>aF.2 (λj r=>S i f j r))).symm
def ln (l:LV):Bool:=bn l.length λi=>decide (ct (gt l i) (bA l i) (I7 l i)≠0)
def jA (l:LV) (i k:Nat):Bool:=decide (k<=i)||decide (aH (bY l i) (bY l k)=if hF l.length i k=true then 1 else 0)
def mn (l:LV):Bool:=bn l.length λi=>bn l.length λk=>jA l i k
def kk (l:LV):Bool:=hI l&&ln l&&mn l&&decide (0<rS l)
theorem Cp (l:LV) (I:l.length<=40000):DP 72 [.one (aN l)] (aE (kk l)):=by
 refine dg Tryz.func72 [] ?_;apply af.mk<;>intro h
 ·have P:l.length<3:=(by have:=XA h;omega);repeat' first|apply af.t|apply af.f
  refine Fin.bool ?_;simp[kk,hI,show¬3<=l.length by omega]
 have P:3<=l.length:=by have:=XB h;omega
 repeat' first|apply af.t|apply af.f
 apply af.mk<;>intro h
 ·have J:¬l.length<=40:=(by have:=XA h;omega);repeat' first|apply af.t|apply af.f
  refine Fin.bool ?_;simp[kk,hI,J]
 have J:l.length<=40:=by have:=XB h;omega
 repeat' first|apply af.t|apply af.f
 refine ai.bool (Cl l I) (λb Q=>?_);repeat' first|apply af.t|apply af.f
 apply af.mk<;>intro h
 ·have K:fD l=false:=(by rw[<-Q];simpa using h);repeat' first|apply af.t|apply af.f
  refine Fin.bool ?_;simp[kk,hI,K]
 have K:fD l=true:=by rw[<-Q];simpa using h
 repeat' first|apply af.t|apply af.f
 have a1:kk l=(ln l&&mn l&&decide (0<rS l)):=by simp[kk,hI,P,J,K]
 rw[a1];refine Loop.by (α:=Nat) (λk=>[(0,.d (.one (aN l))),(3,au l.length),(4,au k)]) (λ_=>[]) (λk=>k<=l.length/\∀i,i<k->ct (gt l i) (bA l i) (I7 l i)≠0) (λk=>l.length-k)
  (aG.at 0 ⟨XR _,λ_ h=>absurd h (XO _)⟩ .nil (.cS (.cS (.cS .nil)))) (λk A=>?_)
 obtain⟨A,R⟩:=A;apply af.mk<;>intro h
 ·have D:k<l.length:=(by have:=XA h;omega);have u:=nN k 1;have S:=nN k 2;have a2:=kg (k+1) l.length;have a3:=kg (k+2) l.length;refine ak.o ?_;refine ak.o ?_;refine ak.mk (by rw[show(1:Int)=(1:Nat) from rfl,u];exact a2) ?_;refine ak.o ?_;refine ak.mk (by rw[show(2:Int)=(2:Nat) from rfl,S];exact a3) ?_;refine ai.int (vJ (gt l k) (gt l (Int.toNat ((IntKind.i64.wrap ((k:Int)+(1:Nat))).tmod l.length))) (gt l (Int.toNat ((IntKind.i64.wrap ((k:Int)+(2:Nat))).tmod l.length)))) (λc g=>?_);rw[u,S,kf,kf]at g;replace g:c=ct (gt l k) (bA l k) (I7 l k):=g;refine ak.n ?_;apply af.mk<;>intro B
  ·refine Fin.bool ?_;have a4:ct (gt l k) (bA l k) (I7 l k)=0:=(by rw[<-g];simpa using B);rw[ln,bD k D (by rw[a4];rfl),YN,YN]
  ·refine aG.back (x:=k) (k+1) ⟨by omega,λi o=>?_⟩ (by omega) .nil (.cS (.cS (.cons (ar.int ?_) .nil)));rcases YP.1 o with o|rfl;exact R i o;rw[<-g];simpa using B;rw[hw _];omega
 have C:k=l.length:=by have:=XB h;omega
 subst C;have a5:ln l=true:=aF.2 (λi o=>by simpa using R i o);rw[a5,Zd];refine ai.mk' (mm l I) ?_;have M:¬l.length<2:=by omega
 have a9:=gJ M;refine Loop.by (α:=Nat) (λk=>[(0,.d (.one (aN l))),(3,au l.length),(5,.d (.one (mX (ay l)))),(6,au k)]) (λ_=>[]) (λk=>k<=l.length/\∀i,i<k->∀j,j<l.length->jA l i j=true) (λk=>l.length-k)
  (aG.at 0 ⟨XR _,λ_ h=>absurd h (XO _)⟩ .nil (.cS (.cS (.cS (.cS .nil))))) (λk A=>?_)
 obtain⟨A,T⟩:=A;apply af.mk<;>intro h
 ·have D:k<l.length:=(by have:=XA h;omega);have u:IntKind.i64.wrap ((k:Int)+1)=((k+1:Nat):Int):=nN k 1;refine Loop.by (α:=Nat) (λq=>[(0,.d (.one (aN l))),(3,au l.length),(5,.d (.one (mX (ay l)))),(6,au k),(7,au q)]) (λ_=>[]) (λq=>k<q/\q<=l.length/\∀j,j<q->jA l k j=true) (λq=>l.length-q)
   (aG.at (k+1) ⟨by omega,by omega,λj w=>by simp[jA,show j<=k by omega]⟩ .nil (.cS (.cS (.cS (.cS (.cons (ar.int u) .nil)))))) (λq U=>?_)
  obtain⟨b0,U,V⟩:=U;apply af.mk<;>intro h
  ·have X:q<l.length:=(by have:=XA h;omega);have E:∀(t:Nat->TV) (m:Id->Mem),fj t m (aQ []) [(0,.d (.one (aN l))),(3,au l.length),(5,.d (.one (mX (ay l)))),(6,au k),(7,au (IntKind.i64.wrap ((q:Int)+1)))]->jA l k q=true->
     aG t m (λa6 a7=>∃y,Kept (λq=>[(0,.d (.one (aN l))),(3,au l.length),(5,.d (.one (mX (ay l)))),(6,au k),(7,au ((q:Nat):Int))]) (λ_=>[]) (λq=>k<q/\q<=l.length/\∀j,j<q->jA l k j=true) y a6 a7/\l.length-y<l.length-q):=by
    intro t m Y a8;rw[show IntKind.i64.wrap ((q:Int)+1)=((q+1:Nat):Int) from nN q 1]at Y;exact aG.back (rank:=λq=>l.length-q) (q+1) ⟨by omega,by omega,λj w=>by
     rcases YP.1 w with w|rfl;exact V j w
     ·exact a8⟩ (by omega) .nil Y
   have F:∀c,c=aH (bh (ay l) k) (bh (ay l) q)->jA l k q=decide (c=if hF l.length k q=true then 1 else 0):=(by intro c g;rw[g,dz M k D,dz M q X];simp[jA,show¬q<=k by omega]);have G:jA l k q=false->(mn l&&decide (0<rS l))=false:=λh=>by rw[mn,bD k D (bD q X h),YN]
   have Z:IntKind.i64.wrap ((l.length:Int)-1)=((l.length-1:Nat):Int):=(by rw[hw _];omega);apply af.mk<;>intro B
   ·have H:q=k+1:=(by have:(q:Int)=IntKind.i64.wrap ((k:Int)+1):=(by simpa using B);rw[u]at this;omega);have r:hF l.length k q=true:=(by simp[hF,H]);repeat' first|apply af.t|apply af.f
    refine ak.o ?_;refine ak.o ?_;refine ai.int (oJ (bh (ay l) k) (bh (ay l) q)) (λc g=>?_);refine ak.n ?_;have f:=F c g;rw[XL r]at f;repeat' first|apply af.t|apply af.f
    apply af.mk<;>intro p
    ·have:c≠1:=(by simpa using p);repeat' first|apply af.t|apply af.f
     refine Fin.bool ?_;rw[G (by rw[f];simpa using this)]
    ·have:c=1:=(by simpa using p);repeat' first|apply af.t|apply af.f
     exact E _ _ (.cS (.cS (.cS (.cS (.cS .nil))))) (by rw[f];simpa using this)
   ·have H:q≠k+1:=(by have:(q:Int)≠IntKind.i64.wrap ((k:Int)+1):=(by simpa using B);rw[u]at this;omega);repeat' first|apply af.t|apply af.f
    apply af.mk<;>intro a0
    ·have N:k=0:=(by have:(k:Int)=0:=(by simpa using a0);omega);repeat' first|apply af.t|apply af.f
     refine ak.o ?_;refine ak.o ?_;refine ai.int (oJ (bh (ay l) k) (bh (ay l) q)) (λc g=>?_);refine ak.n ?_;apply af.mk<;>intro z
     ·have O:q=l.length-1:=(by have:(q:Int)=IntKind.i64.wrap ((l.length:Int)-1):=(by simpa using z);rw[Z]at this;omega);have r:hF l.length k q=true:=(by simp[hF,N,O]);have f:=F c g;rw[XL r]at f;repeat' first|apply af.t|apply af.f|apply af.fh (by rw[z];rfl)|fail
      apply af.mk<;>intro p
      ·have:c≠1:=(by simpa using p);repeat' first|apply af.t|apply af.f|apply af.fh (by rw[z];rfl)|fail
       refine Fin.bool ?_;rw[G (by rw[f];simpa using this)]
      ·have:c=1:=(by simpa using p);repeat' first|apply af.t|apply af.f|apply af.fh (by rw[z];rfl)|fail
       exact E _ _ (.cS (.cS (.cS (.cS (.cS .nil))))) (by rw[f];simpa using this)
     ·have O:q≠l.length-1:=(by have:(q:Int)≠IntKind.i64.wrap ((l.length:Int)-1):=(by simpa using z);rw[Z]at this;omega);have r:hF l.length k q=false:=(by simp[hF,H,O]);have f:=F c g;rw[XG (by rw[r];simp)]at f;repeat' first|apply af.t|apply af.f|apply af.gF (by rw[z];rfl)|fail
      apply af.mk<;>intro p
      ·have:c≠0:=(by simpa using p);refine Fin.bool ?_;rw[G (by rw[f];simpa using this)]
      ·have:c=0:=(by simpa using p);exact E _ _ (.cS (.cS (.cS (.cS (.cS .nil))))) (by rw[f];simpa using this)
    ·have N:k≠0:=(by have:(k:Int)≠0:=(by simpa using a0);omega);repeat' first|apply af.t|apply af.f
     refine ak.o ?_;refine ak.o ?_;refine ai.int (oJ (bh (ay l) k) (bh (ay l) q)) (λc g=>?_);refine ak.n ?_;have r:hF l.length k q=false:=(by simp[hF,H,N]);have f:=F c g;rw[XG (by rw[r];simp)]at f;repeat' first|apply af.t|apply af.f
     apply af.mk<;>intro p
     ·have:c≠0:=(by simpa using p);refine Fin.bool ?_;rw[G (by rw[f];simpa using this)]
     ·have:c=0:=(by simpa using p);exact E _ _ (.cS (.cS (.cS (.cS (.cS .nil))))) (by rw[f];simpa using this)
  ·have C:q=l.length:=(by have:=XB h;omega);subst C;refine aG.back (x:=k) (k+1) ⟨by omega,λi o=>?_⟩ (by omega) .nil (.cS (.cS (.cS (.cons (ar.int u) .nil))));rcases YP.1 o with o|rfl;exact T i o;exact V
 ·have C:k=l.length:=(by have:=XB h;omega);subst C;refine ai.int (EM l I) (λa r=>?_);refine Fin.bool ?_;have:mn l=true:=aF.2 (λi o=>aF.2 (λj w=>T i o j w));rw[this,Zd,r]
theorem In.up {m m':Int} {v:V2} (h:In m v) (a:m<=m'):In m' v:=⟨by have:=h.x0;omega,by have:=h.x1;omega,by have:=h.y0;omega,by have:=h.y1;omega⟩
theorem cz {l:LV} (h:fD l=true) (i:Nat):In 2000 (gt l i):=by
 by_cases a:i<l.length;have:=Zz.1 h (gt l i) (by simp[gt,List.getD,a]);exact In.of (by decide) (by decide) this;have:gt l i=⟨0,0⟩:=(by simp[gt,List.getD,YU (aa8 a)]);rw[this];exact⟨by decide,by decide,by decide,by decide⟩
theorem ef {l:LV} (h:fD l=true) (i:Nat):aB (bY l i)=true:=jO ((cz h _).up (by decide)) ((cz h _).up (by decide))
theorem Ab {l:LV} (h:fD l=true) (i j k:Nat):ct (gt l i) (gt l j) (gt l k)=mW (gt l i) (gt l j) (gt l k):=jw (m:=2000) (by decide) (by decide) (cz h i) (cz h j) (cz h k)
variable {i:Nat}
theorem LR {n:Nat} (hi:i<n):((i+1)%n+n-1)%n=i:=by
 by_cases h:i+1=n;rw[h,Zt,Ya];rw[mOf];omega;rw[X5 (show i+1<n by omega),show i+1+n-1=i+n by omega,YI,X5 hi]
theorem CX {n:Nat} (hi:i<n):((i+n-1)%n+1)%n=i:=by
 by_cases h:i=0;subst h;rw[Ya,X5 (show n-1<n by omega),show n-1+1=n by omega,Zt];rw[show i+n-1=i-1+n by omega,YI,X5 (show i-1<n by omega),show i-1+1=i by omega,X5 hi]
theorem Pp {l:LV} (hi:i<l.length):lV l ((i+1)%l.length)=gt l i:=by
 unfold lV;rw[LR hi]
theorem GY (l:LV) (i:Nat):bA l ((i+1)%l.length)=I7 l i:=by
 unfold bA I7;rw[ZU]
theorem O1 {l:LV} (hi:i<l.length):bA l ((i+l.length-1)%l.length)=gt l i:=by
 unfold bA;rw[CX hi]
theorem O2 {l:LV} (hi:i<l.length):I7 l ((i+l.length-1)%l.length)=bA l i:=by
 rw[<-GY,CX hi]
theorem yG {l:LV}:ln l=mf l:=by
 rw[Zw];unfold ln mf;rw[aF,aF];constructor;intro h i a;have:=h ((i+l.length-1)%l.length) (mLt);rw[O1 a,O2 a]at this;exact this;intro h i a;have:=h ((i+1)%l.length) (mLt);rw[Pp a,GY]at this;exact this
theorem Eb {a b c:V2} (u:In 2000 a) (l:In 2000 b) (w:In 2000 c) (h:mW a b c≠0):aH ⟨a,b⟩ ⟨b,c⟩=1/\aH ⟨b,c⟩ ⟨a,b⟩=1:=by
 have i:aB ⟨a,b⟩=true:=jO (u.up (by decide)) (l.up (by decide));have j:aB ⟨b,c⟩=true:=jO (l.up (by decide)) (w.up (by decide));have m:aa (ag b a) (ag c a)≠0:=λe=>h (by unfold mW;rw[e];rfl);have o:ka ⟨a,b⟩ c=false:=by
  cases k:ka ⟨a,b⟩ c with
  |false=>rfl
  |true=>exact absurd ((ia i).1 k).2 m
 have q:ka ⟨b,c⟩ a=false:=by
  cases k:ka ⟨b,c⟩ a with
  |false=>rfl
  |true=>refine absurd ((ia j).1 k).2 (λe=>m ?_);simp only[cL,aa,ag]at e|-;grind
 have r:ka ⟨a,b⟩ b=true:=OY i;have t:ka ⟨b,c⟩ b=true:=E5 j;refine⟨(lP (p:=b) i j (lg (λe=>?_))).1,(lP (p:=b) j i (lg (λe=>?_))).1⟩
 ·rw[dJ];constructor
  ·rintro⟨h1|h1|h1|h1,f,g⟩<;>subst h1
   ·rw[q]at g;cases g
   ·rfl
   ·rfl
   ·rw[o]at f;cases f
  ·rintro rfl;exact⟨.inr (.inl rfl),r,t⟩
 ·rw[dJ];constructor
  ·rintro⟨h1|h1|h1|h1,f,g⟩<;>subst h1
   ·rfl
   ·rw[o]at g;cases g
   ·rw[q]at f;cases f
   ·rfl
  ·rintro rfl;exact⟨.inl rfl,t,r⟩
theorem JR {n k:Nat} (h:hF n i k=true):k=i+1\/(i=0/\k=n-1):=by
 simpa[hF]using h
theorem J9 (l:LV):kk l=cj l:=by
 unfold kk cj;cases p:hI l with
 |false=>simp
 |true=>
  have j:=p;simp only[hI,XJ,X0]at j;obtain⟨⟨w,x⟩,c⟩:=j;rw[yG];simp only[Zd];cases m:mf l with
  |false=>simp
  |true=>have q:mn l=xP l:=(by rw[Zw];unfold mn xP;simp only[aF];have o:∀i,i<l.length->mW (gt l i) (bA l i) (I7 l i)≠0:=(by intro i b;rw[<-yG]at m;have:=aF.1 m i b;rw[bA,I7,Ab c]at this;exact XA this);have r:∀i k,i<l.length->k<l.length->¬k<=i->hF l.length i k=true->aH (bY l i) (bY l k)=1:=(by intro i k b f g a;rcases JR a with rfl|⟨rfl,rfl⟩;have e:bY l (i+1)=⟨bA l i,I7 l i⟩:=(by unfold bY bA I7;rw[X5 f]);rw[e];exact(Eb (cz c _) (cz c _) (cz c _) (o i b)).1;have e:bY l (l.length-1)=⟨gt l (l.length-1),gt l 0⟩:=(by unfold bY bA;rw[show l.length-1+1=l.length by omega,Zt]);have t:bA l (l.length-1)=gt l 0:=(by unfold bA;rw[show l.length-1+1=l.length by omega,Zt]);have u:I7 l (l.length-1)=bA l 0:=(by unfold bA I7;rw[show l.length-1+2=1+l.length by omega,YI]);have:=o (l.length-1) f;rw[t,u]at this;rw[e];exact(Eb (cz c _) (cz c _) (cz c _) this).2);constructor;intro h i b k f;have:=h i b k f;simp only[jA,Zl,X0]at this|-;rcases this with this|this;exact .inl (.inl this);by_cases a:hF l.length i k=true;exact .inl (.inr a);rw[XG a,<-(eH _ _).1]at this;exact .inr this;intro h i b k f;have:=h i b k f;simp only[jA,Zl,X0]at this|-;by_cases g:k<=i;exact .inl g;right;by_cases a:hF l.length i k=true;rw[XL a];exact r i k b f g a;rw[XG a,<-(eH _ _).1];rcases this with(this|this)|this;exact absurd this g;exact absurd this a;exact this);rw[q,Zd,Bool.and_true,Bool.and_comm]
theorem tK (l:LV) (a:l.length<=40000):DP 72 [.one (aN l)] (aE (cj l)):=J9 l▸Cp l a
def fw (p:P3) (v:V2):V2:=⟨p.x-v.x*p.d,p.y-v.y*p.d⟩
def kS (e:cp) (p:P3):Int:=aa (ag e.b e.a) (fw p e.a)
def qo (e:cp) (p:P3):Bool:=decide (kS e p=0)&&decide (cQ (fw p e.a).x (fw p e.b).x<=0)&&decide (0<=bU (fw p e.a).x (fw p e.b).x)&&decide (cQ (fw p e.a).y (fw p e.b).y<=0)&&decide (0<=bU (fw p e.a).y (fw p e.b).y)
def gZ (e:cp) (p:P3):Bool:=(!(decide (0<=(fw p e.a).y)==decide (0<=(fw p e.b).y)))&&(decide (0<=(fw p e.a).y)==decide (0<kS e p))
def nJ (l:LV) (p:P3):Nat->Bool
 |0=>false
 |k+1=>xor (nJ l p k) (gZ (bY l k) p)
def fX (l:LV) (p:P3):Bool:=!bn l.length λi=>!qo (bY l i) p
def cA (l:LV) (p:P3):Int:=if fX l p=true then 1 else if nJ l p l.length=true then 2 else 0
def bH (l:LV) (p:P3):Int:=if cj l=true/\ed p=true then cA l p else 0
structure Rt (p:P3):Prop where
 d0:1<=p.d
 d1:p.d<=134217728
 x0: -(4000*p.d)<=p.x
 x1:p.x<=4000*p.d
 y0: -(4000*p.d)<=p.y
 y1:p.y<=4000*p.d
variable {p:P3}
theorem FE (h:ed p=true):Rt p:=by
 simp only[ed,XJ]at h;obtain⟨a,b,c,f,g,i⟩:=fH.1 h.1;exact⟨a,b,c,f,g,i⟩
theorem CW {x d:Int} (h: -2000<=x/\x<=2000) (a:1<=d/\d<=134217728): -(2000*d)<=x*d/\x*d<=2000*d:=
 ⟨by rw[show-(2000*d)=(-2000)*d by omega];exact Yo h.1 (by omega),Yo h.2 (by omega)⟩
structure V1 (v:V2):Prop where
 x0: -805306368000<=v.x
 x1:v.x<=805306368000
 y0: -805306368000<=v.y
 y1:v.y<=805306368000
theorem vP {v:V2} (a:Rt p) (b:In 2000 v):V1 (fw p v):=by
 obtain⟨c,f⟩:=CW ⟨b.x0,b.x1⟩ ⟨a.d0,a.d1⟩;obtain⟨g,h⟩:=CW ⟨b.y0,b.y1⟩ ⟨a.d0,a.d1⟩;obtain⟨i,j,k,l,m,o⟩:=a;constructor<;>simp only[fw]<;>omega
def Wa (p:P3) (v:V2):V2:=⟨bW (p.x-bW (v.x*p.d)),bW (p.y-bW (v.y*p.d))⟩
theorem EA {v:V2} (a:Rt p) (b:In 2000 v):Wa p v=fw p v:=by
 obtain⟨l,m⟩:=CW ⟨b.x0,b.x1⟩ ⟨a.d0,a.d1⟩;obtain⟨o,q⟩:=CW ⟨b.y0,b.y1⟩ ⟨a.d0,a.d1⟩;have h:=vP a b;have r:=a.d1;have c:bW (v.x*p.d)=v.x*p.d:=fq (by omega) (by omega);have f:bW (v.y*p.d)=v.y*p.d:=fq (by omega) (by omega);unfold Wa;rw[c,f];have g:=h.x0;have i:=h.x1;have j:=h.y0;have k:=h.y1;simp only[fw]at g i j k;rw[fq (by omega) (by omega),fq (by omega) (by omega)];rfl
theorem KR {u v:V2} (a:In 4000 u) (b:V1 v):eJ u v=aa u v:=by
 obtain⟨c,f,g,h⟩:=b;have i:=ir ⟨a.x0,a.x1⟩ (show-805306368000<=v.y/\v.y<=805306368000 from⟨g,h⟩);have j:=ir ⟨a.y0,a.y1⟩ (show-805306368000<=v.x/\v.x<=805306368000 from⟨c,f⟩);unfold eJ aa;rw[fq (n:=u.x*v.y) (by omega) (by omega),fq (n:=u.y*v.x) (by omega) (by omega),fq (by omega) (by omega)]
theorem Kj (p:P3) (v:V2) (a:Nat->SV) (f:a 0=i64 p.x) (g:a 1=i64 p.y) (h2:a 2=i64 p.d):DP 222 [vD v,.one (.ad 3 a)] (.d (vD (Wa p v))):=by
 have h:xX [vD v,.one (.ad 3 a)] [vD v,.one (.ad 3 λj=>(pL p).getD j (.v Go.undef))]:=by
  refine .cR (.cons (dX.one (λS w x r=>?_)) .nil);obtain⟨b,o,i,rfl,k,l,m⟩:=Rd.mD r;refine .ad i k l (λj c=>?_);have:=m j c
  match j,c with
  |0,_=>rw[f]at this;exact this
  |1,_=>rw[g]at this;exact this
  |2,_=>rw[h2]at this;exact this
 refine lY.le h ?_;refine dg Tryz.func222 [] ?_;exact Fin.rfl'
theorem ar.bool {m m':Id->Mem} {b a:Bool} (h:b=a):ar m m' (aE b) (aE a):=h▸ar.same
theorem r7 (l:LV) (p:P3) (O:l.length<=40000):DP 184 [.one (aN l),pD p] (au (bH l p)):=by
 refine dg Tryz.func184 [] ?_;refine ai.bool (qc l O) (λb q=>?_);apply af.mk<;>intro h
 ·have C:cj l=false:=(by rw[<-q];simpa using h);repeat' first|apply af.t|apply af.f
  refine Fin.int ?_;simp[bH,C]
 have C:cj l=true:=by rw[<-q];simpa using h
 repeat' first|apply af.t|apply af.f
 refine ai.bool (Et p) (λc g=>?_);repeat' first|apply af.t|apply af.f
 apply af.mk<;>intro h
 ·have D:ed p=false:=(by rw[<-g];simpa using h);refine Fin.int ?_;simp[bH,D]
 have D:ed p=true:=by rw[<-g];simpa using h
 have a0:bH l p=cA l p:=by simp[bH,C,D]
 rw[a0];have P:=C;simp only[cj,hI,XJ,X0]at P;obtain⟨⟨⟨⟨⟨a8,a9⟩,Q⟩,b0⟩,b1⟩,w⟩:=P;have R:¬l.length<2:=by omega
 have b2:=gJ R;have F:=FE D;refine ai.mk' (lI l O) ?_;refine Loop.by (α:=Nat) (λk=>[(5,.d (.one (.fn 222 1 λj=>[SV.ad 3 λj=>(pL p).getD j (.v Go.undef)].getD j (.v Go.undef)))),(6,aE (nJ l p k)),(23,.d (.one (mX (ay l)))),(24,au (ay l).length),(25,au k)]) (λ_=>[]) (λk=>k<=l.length/\∀i,i<k->qo (bY l i) p=false) (λk=>l.length-k)
  (aG.at 0 ⟨XR _,λ_ h=>absurd h (XO _)⟩ .nil (.cS (.cS (.cS (.cS (.cS .nil)))))) (λk S=>?_)
 obtain⟨S,T⟩:=S;apply af.mk<;>intro h
 ·have U:k<l.length:=(by have:=XA h;omega);refine ak.o ?_;refine ai.v (Kj p (bh (ay l) k).a _ rfl rfl rfl) (λa w=>?_);refine ai.v (Kj p (bh (ay l) k).b _ rfl rfl rfl) (λb q=>?_);refine ak.n ?_;refine ai.v (ca (bh (ay l) k).b (bh (ay l) k).a) (λu G=>?_);refine ai.int (dH u a) (λx H=>?_);refine ak.n ?_;rw[dz R k U]at w q G;have I:In 2000 (bY l k).a:=cz Q _;have V:In 2000 (bY l k).b:=cz Q _;rw[EA F I]at w;rw[EA F V]at q;obtain⟨a1,a2⟩:=fJ (by decide) V I;rw[a1]at G;rw[G,w,KR a2 (vP F I)]at H;have z:qo (bY l k) p=(decide (x=0)&&decide (cQ a.x b.x<=0)&&decide (0<=bU a.x b.x)&&decide (cQ a.y b.y<=0)&&decide (0<=bU a.y b.y)):=(by rw[H,w,q];rfl);have J:gZ (bY l k) p=((!(decide (0<=a.y)==decide (0<=b.y)))&&(decide (0<=a.y)==decide (0<x))):=(by rw[H,w,q];rfl);have K:∀(t:Nat->TV) (m:Id->Mem),fj t m (aQ []) [(5,.d (.one (.fn 222 1 λj=>[SV.ad 3 λj=>(pL p).getD j (.v Go.undef)].getD j (.v Go.undef)))),(6,aE (nJ l p (k+1))),(23,.d (.one (mX (ay l)))),(24,au (ay l).length),(25,au (IntKind.i64.wrap ((k:Int)+1)))]->qo (bY l k) p=false->
    aG t m (λa3 a4=>∃y,Kept (λk=>[(5,.d (.one (.fn 222 1 λj=>[SV.ad 3 λj=>(pL p).getD j (.v Go.undef)].getD j (.v Go.undef)))),(6,aE (nJ l p k)),(23,.d (.one (mX (ay l)))),(24,au (ay l).length),(25,au k)]) (λ_=>[]) (λk=>k<=l.length/\∀i,i<k->qo (bY l i) p=false) y a3 a4/\l.length-y<l.length-k):=by
   intro t m X f;rw[show IntKind.i64.wrap ((k:Int)+1)=((k+1:Nat):Int) from nN k 1]at X;exact aG.back (rank:=λk=>l.length-k) (k+1) ⟨by omega,λj M=>by
    rcases YP.1 M with M|rfl;exact T j M
    ·exact f⟩ (by omega) .nil X
  apply af.mk<;>intro o
  rotate_left
  have f:qo (bY l k) p=false:=by rw[z,show decide (x=0)=false from o];rfl
  rotate_right
  replace o:decide (x=0)=true:=o
  focus (repeat' apply af.t)
  apply af.mk<;>intro r
  rotate_left
  have f:qo (bY l k) p=false:=by rw[z,o,show decide (cQ a.x b.x<=0)=false from r];rfl
  rotate_right
  replace r:decide (cQ a.x b.x<=0)=true:=r
  focus (repeat' apply af.t)
  apply af.mk<;>intro A
  rotate_left
  have f:qo (bY l k) p=false:=by rw[z,o,r,show decide (0<=bU a.x b.x)=false from A];rfl
  rotate_right
  replace A:decide (0<=bU a.x b.x)=true:=A
  focus (repeat' apply af.t)
  apply af.mk<;>intro B
  rotate_left
  have f:qo (bY l k) p=false:=by rw[z,o,r,A,show decide (cQ a.y b.y<=0)=false from B];rfl
  rotate_right
  replace B:decide (cQ a.y b.y<=0)=true:=B
  focus (repeat' apply af.t)
  apply af.mk<;>intro E
  rotate_left
  have f:qo (bY l k) p=false:=by rw[z,o,r,A,B,show decide (0<=bU a.y b.y)=false from E];rfl
  rotate_right
  replace E:decide (0<=bU a.y b.y)=true:=E;have a5:qo (bY l k) p=true:=(by rw[z,o,r,A,B,E];rfl);refine Fin.int ?_;have:fX l p=true:=(by rw[fX,bD k U (by rw[a5];rfl)];rfl);rw[cA,XL this];all_goals repeat' first|apply af.t|apply af.f
  all_goals refine ak.mk rfl ?_
  all_goals
   apply af.mk<;>intro N
   ·repeat' apply af.t
    refine ak.mk rfl ?_;repeat' apply af.t
    apply af.mk<;>intro Y
    ·have g:gZ (bY l k) p=true:=(by rw[J,show(!(decide (0<=a.y)==decide (0<=b.y)))=true from N,show(decide (0<=a.y)==decide (0<x))=true from Y];rfl);exact K _ _ (.cS (.cons (ar.bool (by rw[nJ,g,aa7])) (.cS (.cS (.cS .nil))))) f
    ·have g:gZ (bY l k) p=false:=(by rw[J,show(!(decide (0<=a.y)==decide (0<=b.y)))=true from N,show(decide (0<=a.y)==decide (0<x))=false from Y];rfl);exact K _ _ (.cS (.cons (ar.bool (by rw[nJ,g,aaH])) (.cS (.cS (.cS .nil))))) f
   ·have g:gZ (bY l k) p=false:=(by rw[J,show(!(decide (0<=a.y)==decide (0<=b.y)))=false from N];rfl);repeat' first|apply af.t|apply af.f
    exact K _ _ (.cS (.cons (ar.bool (by rw[nJ,g,aaH])) (.cS (.cS (.cS .nil))))) f
 ·have a6:k=l.length:=(by have:=XB h;omega);subst a6;have Z:fX l p=false:=(by rw[fX,aF.2 (λi a7=>by rw[T i a7];rfl)];rfl);apply af.mk<;>intro h
  ·refine Fin.int ?_;rw[cA,Z,XG (by simp),XL h]
  ·refine Fin.int ?_;rw[cA,Z,XG (by simp),XG (by rw[h];simp)]
def er (l:LV) (v:V2):Int:=if aY v 4000=true then bH l (cm v)else 0
theorem Er (l:LV) (v:V2) (c:l.length<=40000):DP 118 [.one (aN l),vD v] (au (er l v)):=by
 refine dg Tryz.func118 [] ?_;refine ai.bool (ea v 4000) (λb a=>?_);apply af.mk<;>intro h
 ·refine Fin.int ?_;have:aY v 4000=false:=(by rw[<-a];simpa using h);simp[er,this]
 ·have:aY v 4000=true:=(by rw[<-a];simpa using h);refine ai.mk' (nH v) ?_;refine ai.int (r7 l (cm v) c) (λn f=>?_);refine Fin.int ?_;simp[er,this,f]
theorem qi (a b:V2) (p:P3) (f:Rt p) (c:In 2000 a) (g:In 2000 b):DP 227 [vD a,vD b,pD p] (au (bN (kS ⟨a,b⟩ p))):=by
 refine dg Tryz.func227 [] ?_;refine ai.v (Ag b a) (λu h=>?_);refine ai.int (Cg (eJ u (Wa p a))) (λn i=>?_);refine Fin.int ?_;obtain⟨j,k⟩:=fJ (by decide) g c;rw[i,h,j,EA f c,KR k (vP f c)];rfl
def Rc (e:cp) (p:P3):Bool:=decide (p.x>=cQ e.a.x e.b.x*p.d)&&decide (p.x<=bU e.a.x e.b.x*p.d)&&decide (p.y>=cQ e.a.y e.b.y*p.d)&&decide (p.y<=bU e.a.y e.b.y*p.d)
variable {a:Int}
theorem LZ {b:Int} (c: -2000<=a/\a<=2000) (f: -2000<=b/\b<=2000): -2000<=cQ a b/\cQ a b<=2000:=by unfold cQ;split<;>omega
theorem L7 {b:Int} (c: -2000<=a/\a<=2000) (f: -2000<=b/\b<=2000): -2000<=bU a b/\bU a b<=2000:=by unfold bU;split<;>omega
variable {x:Int}
theorem DZ {b d:Int} (g:1<=d):(decide (cQ (x-a*d) (x-b*d)<=0)=decide (x<=bU a b*d))/\(decide (0<=bU (x-a*d) (x-b*d))=decide (x>=cQ a b*d)):=by
 have c:a<=b->a*d<=b*d:=λh=>Yo h (by omega);have f:b<=a->b*d<=a*d:=λh=>Yo h (by omega);constructor;(rw[Ym];unfold cQ bU;split<;>split<;>constructor<;>intro h<;>first|omega|(have:=c (by omega);omega)|(have:=f (by omega);omega))
 ·rw[Ym];unfold cQ bU;split<;>split<;>constructor<;>intro h<;>first|omega|(have:=c (by omega);omega)|(have:=f (by omega);omega)
theorem Sq (e:cp) (p:P3) (c:Rt p):qo e p=(Rc e p&&decide (kS e p=0)):=by
 obtain⟨f,g⟩:=DZ (a:=e.a.x) (b:=e.b.x) (x:=p.x) c.d0;obtain⟨h,i⟩:=DZ (a:=e.a.y) (b:=e.b.y) (x:=p.y) c.d0;have j:qo e p=(decide (kS e p=0)&&decide (cQ (p.x-e.a.x*p.d) (p.x-e.b.x*p.d)<=0)&&decide (0<=bU (p.x-e.a.x*p.d) (p.x-e.b.x*p.d))&&decide (cQ (p.y-e.a.y*p.d) (p.y-e.b.y*p.d)<=0)&&decide (0<=bU (p.y-e.a.y*p.d) (p.y-e.b.y*p.d))):=rfl;rw[j,f,g,h,i];unfold Rc;generalize decide (kS e p=0)=k;generalize decide (p.x<=_)=l;generalize decide (p.x>=_)=m;generalize decide (p.y<=_)=o;generalize decide (p.y>=_)=q;revert k l m o q;decide
theorem Iq {d:Int} (h: -2000<=x/\x<=2000) (a:1<=d/\d<=134217728):bW (x*d)=x*d:=by
 obtain⟨b,c⟩:=CW h a;exact fq (by omega) (by omega)
theorem K6 (e:cp) (p:P3) (a:Rt p) (b:In 2000 e.a) (c:In 2000 e.b):DP 226 [sD e,pD p] (aE (qo e p)):=by
 rw[Sq e p a];refine dg Tryz.func226 [] ?_;have l:=Iq (LZ ⟨b.x0,b.x1⟩ ⟨c.x0,c.x1⟩) ⟨a.d0,a.d1⟩;have m:=Iq (L7 ⟨b.x0,b.x1⟩ ⟨c.x0,c.x1⟩) ⟨a.d0,a.d1⟩;have o:=Iq (LZ ⟨b.y0,b.y1⟩ ⟨c.y0,c.y1⟩) ⟨a.d0,a.d1⟩;have q:=Iq (L7 ⟨b.y0,b.y1⟩ ⟨c.y0,c.y1⟩) ⟨a.d0,a.d1⟩;have h:Rc e p=(decide (p.x>=bW (cQ e.a.x e.b.x*p.d))&&decide (p.x<=bW (bU e.a.x e.b.x*p.d))&&decide (p.y>=bW (cQ e.a.y e.b.y*p.d))&&decide (p.y<=bW (bU e.a.y e.b.y*p.d))):=by rw[l,m,o,q];rfl
 apply af.mk<;>intro f
 rotate_left
 have j:Rc e p=false:=by rw[h,show decide (p.x>=bW (cQ e.a.x e.b.x*p.d))=false from f];rfl
 rotate_right
 replace f:decide (p.x>=bW (cQ e.a.x e.b.x*p.d))=true:=f
 focus (repeat' apply af.t)
 apply af.mk<;>intro g
 rotate_left
 have j:Rc e p=false:=by rw[h,f,show decide (p.x<=bW (bU e.a.x e.b.x*p.d))=false from g];rfl
 rotate_right
 replace g:decide (p.x<=bW (bU e.a.x e.b.x*p.d))=true:=g
 focus (repeat' apply af.t)
 apply af.mk<;>intro i
 rotate_left
 have j:Rc e p=false:=by rw[h,f,g,show decide (p.y>=bW (cQ e.a.y e.b.y*p.d))=false from i];rfl
 rotate_right
 replace i:decide (p.y>=bW (cQ e.a.y e.b.y*p.d))=true:=i
 focus (repeat' apply af.t)
 apply af.mk<;>intro k
 rotate_left
 have j:Rc e p=false:=by rw[h,f,g,i,show decide (p.y<=bW (bU e.a.y e.b.y*p.d))=false from k];rfl
 rotate_right
 ·replace k:decide (p.y<=bW (bU e.a.y e.b.y*p.d))=true:=k;have r:Rc e p=true:=(by rw[h,f,g,i,k];rfl);repeat' apply af.t
  refine ai.int (qi e.a e.b p a b c) (λn t=>?_);repeat' apply af.t
  refine Fin.bool ?_;rw[r,t,Zd];show(bN (kS e p)==0)=decide (kS e p=0);rw[Zw];simp[qS]
 all_goals
  repeat' first|apply af.t|apply af.f
  refine Fin.bool ?_;rw[j,YN]
def UB (e:cp) (p:P3):Bool:=(decide (e.a.y*p.d<=p.y)&&decide (e.b.y*p.d>p.y)&&decide (0<kS e p))||(decide (e.b.y*p.d<=p.y)&&decide (e.a.y*p.d>p.y)&&decide (kS e p<0))
theorem DH (e:cp) (p:P3):aa (fw p e.a) (fw p e.b)=p.d*kS e p:=by
 simp only[kS,aa,fw,ag];grind
theorem ON {e:cp} {p:P3} (Q:Rt p) (h:qo e p=false):UB e p=gZ e p:=by
 have g:=DH e p;simp only[aa]at g;unfold gZ UB;have C:(fw p e.a).y=p.y-e.a.y*p.d:=rfl;have D:(fw p e.b).y=p.y-e.b.y*p.d:=rfl;by_cases i:kS e p=0
 ·
  have I:¬(0<=(fw p e.a).y/\(fw p e.b).y<0)/\¬(0<=(fw p e.b).y/\(fw p e.a).y<0):=by
   have E:¬(cQ (fw p e.a).x (fw p e.b).x<=0/\0<=bU (fw p e.a).x (fw p e.b).x/\cQ (fw p e.a).y (fw p e.b).y<=0/\0<=bU (fw p e.a).y (fw p e.b).y):=(by intro⟨J,K,M,N⟩;have:qo e p=true:=(by simp[qo,i,J,K,M,N]);rw[h]at this;cases this);rw[i,X8]at g;generalize (fw p e.a).x=j at*;generalize (fw p e.a).y=c at*;generalize (fw p e.b).x=f at*;generalize (fw p e.b).y=k at*;have F:∀u v w z:Int,0<=v->z<0->u*z=v*w->¬(0<u/\0<w)/\¬(u<0/\w<0):=(by intro u v w z G H R;refine⟨λ⟨a,b⟩=>?_,λ⟨a,b⟩=>?_⟩;have:=Yb a H;have:=XF G (XN b);omega;have:=Zr a H;have:=XM G (XN b);omega);constructor;(rintro⟨a,b⟩;obtain⟨O,P⟩:=F j c f k a b (by rw[X9 c f];have:=g;rw[X9 c f]at this;omega);refine E ⟨?_,?_,?_,?_⟩<;>simp only[cQ,bU]<;>split<;>omega)
   ·rintro⟨a,b⟩;obtain⟨O,P⟩:=F f k j c a b (by rw[X9 k j,X9 f c];omega);refine E ⟨?_,?_,?_,?_⟩<;>simp only[cQ,bU]<;>split<;>omega
  rw[C,D]at I|-;rw[i];generalize e.a.y*p.d=A at*;generalize e.b.y*p.d=B at*;have l:decide (0<=p.y-A)=decide (A<=p.y):=Ym.2 ⟨λh=>by omega,λh=>by omega⟩;have m:decide (0<=p.y-B)=decide (A<=p.y):=Ym.2 ⟨λh=>by omega,λh=>by omega⟩;have o:decide (B>p.y)=!decide (A<=p.y):=(by rw[<-abe];exact Ym.2 ⟨λh=>by omega,λh=>by omega⟩);have x:decide (A>p.y)=!decide (A<=p.y):=(by rw[<-abe];exact Ym.2 ⟨λh=>by omega,λh=>by omega⟩);have y:decide (B<=p.y)=decide (A<=p.y):=Ym.2 ⟨λh=>by omega,λh=>by omega⟩;rw[l,m,o,x,y];generalize decide (A<=p.y)=q;revert q;decide
 ·rw[C,D];generalize e.a.y*p.d=A at*;generalize e.b.y*p.d=B at*;have l:decide (0<=p.y-A)=decide (A<=p.y):=Ym.2 ⟨λh=>by omega,λh=>by omega⟩;have m:decide (0<=p.y-B)=decide (B<=p.y):=Ym.2 ⟨λh=>by omega,λh=>by omega⟩;have o:decide (B>p.y)=!decide (B<=p.y):=(by rw[<-abe];exact Ym.2 ⟨λh=>by omega,λh=>by omega⟩);have x:decide (A>p.y)=!decide (A<=p.y):=(by rw[<-abe];exact Ym.2 ⟨λh=>by omega,λh=>by omega⟩);have y:decide (kS e p<0)=!decide (0<kS e p):=(by rw[<-abe];exact Ym.2 ⟨λh=>by omega,λh=>by omega⟩);rw[l,m,o,x,y];generalize decide (A<=p.y)=q;generalize decide (B<=p.y)=r;generalize decide (0<kS e p)=t;revert q r t;decide
theorem Ut (x:Int):decide (bN x>0)=decide (0<x)/\decide (bN x<0)=decide (x<0):=by
 constructor<;>rw[Ym]<;>unfold bN<;>split<;>(try split)<;>omega
theorem ER (l:LV) (p:P3) (M:l.length<=40000):DP 192 [.one (aN l),pD p] (au (bH l p)):=by
 refine dg Tryz.func192 [] ?_;refine ai.bool (tK l M) (λb N=>?_);apply af.mk<;>intro h
 ·have F:cj l=false:=(by rw[<-N];simpa using h);repeat' first|apply af.t|apply af.f
  refine Fin.int ?_;simp[bH,F]
 have F:cj l=true:=by rw[<-N];simpa using h
 repeat' first|apply af.t|apply af.f
 refine ai.bool (Co p) (λc O=>?_);repeat' first|apply af.t|apply af.f
 apply af.mk<;>intro h
 ·have G:ed p=false:=(by rw[<-O];simpa using h);refine Fin.int ?_;simp[bH,G]
 have G:ed p=true:=by rw[<-O];simpa using h
 have Y:bH l p=cA l p:=by simp[bH,F,G]
 rw[Y];have P:=F;simp only[cj,hI,XJ,X0]at P;obtain⟨⟨⟨⟨⟨a7,a8⟩,r⟩,a9⟩,b0⟩,b1⟩:=P;have f:¬l.length<2:=by omega
 have b2:=gJ f;have a:=FE G;refine ai.mk' (mm l M) ?_;refine Loop.by (α:=Nat) (λk=>[(3,.ptr 3 0),(5,.d (.one (mX (ay l)))),(6,aE (nJ l p k)),(7,au k)]) (λ_=>[(3,.box (pL p))]) (λk=>k<=l.length/\∀i,i<k->qo (bY l i) p=false) (λk=>l.length-k)
  (aG.at 0 ⟨XR _,λ_ h=>absurd h (XO _)⟩ (.cons (.box (iy.of_eq rfl)) .nil) (.cB (.cS (.cS (.cS .nil))))) (λk Q=>?_)
 obtain⟨Q,R⟩:=Q;apply af.mk<;>intro h
 ·have q:k<l.length:=(by have:=XA h;omega);have A:In 2000 (bh (ay l) k).a:=(by rw[dz f k q];exact cz r _);have B:In 2000 (bh (ay l) k).b:=(by rw[dz f k q];exact cz r _);refine ak.o ?_;refine ai.bool (K6 (bh (ay l) k) p a A B) (λo S=>?_);refine ak.n ?_;apply af.mk<;>intro T
  ·have Z:qo (bY l k) p=true:=(by rw[<-dz f k q,<-S,T]);refine Fin.int ?_;have:fX l p=true:=(by rw[fX,bD k q (by rw[Z];rfl)];rfl);rw[cA,XL this]
  have U:qo (bY l k) p=false:=(by rw[<-dz f k q,<-S,T]);have H:gZ (bh (ay l) k) p=((decide (bW ((bh (ay l) k).a.y*p.d)<=p.y)&&decide (bW ((bh (ay l) k).b.y*p.d)>p.y)&&decide (0<kS (bh (ay l) k) p))||(decide (bW ((bh (ay l) k).b.y*p.d)<=p.y)&&decide (bW ((bh (ay l) k).a.y*p.d)>p.y)&&decide (kS (bh (ay l) k) p<0))):=(by rw[<-ON a (by rw[dz f k q];exact U),Iq ⟨A.y0,A.y1⟩ ⟨a.d0,a.d1⟩,Iq ⟨B.y0,B.y1⟩ ⟨a.d0,a.d1⟩];rfl);have u:nJ l p (k+1)=xor (nJ l p k) (gZ (bh (ay l) k) p):=(by rw[dz f k q];rfl);refine ak.o ?_;refine ak.o ?_;refine ak.n ?_;have w:∀(t:Nat->TV) (m:Id->Mem),fk m (aQ [(3,.box (pL p))]) [(3,.box (pL p))]->fj t m (aQ [(3,.box (pL p))]) [(3,.ptr 3 0),(5,.d (.one (mX (ay l)))),(6,aE (nJ l p (k+1))),(7,au (IntKind.i64.wrap ((k:Int)+1)))]->
    aG t m (λa0 a1=>∃y,Kept (λk=>[(3,.ptr 3 0),(5,.d (.one (mX (ay l)))),(6,aE (nJ l p k)),(7,au k)]) (λ_=>[(3,.box (pL p))]) (λk=>k<=l.length/\∀i,i<k->qo (bY l i) p=false) y a0 a1/\l.length-y<l.length-k):=by
   intro t m a2 V;rw[show IntKind.i64.wrap ((k:Int)+1)=((k+1:Nat):Int) from nN k 1]at V;exact aG.back (rank:=λk=>l.length-k) (k+1) ⟨by omega,λj K=>by
    rcases YP.1 K with K|rfl;exact R j K
    ·exact U⟩ (by omega) a2 V
  obtain⟨a3,a4⟩:=Ut (kS (bh (ay l) k) p);apply af.mk<;>intro I
  all_goals repeat' first|apply af.t|apply af.f
  all_goals apply af.mk<;>intro J
  all_goals repeat' first|apply af.t|apply af.f
  all_goals refine ak.n ?_
  ·have C:decide (bW ((bh (ay l) k).b.y*p.d)>p.y)=false:=(by have:=XA (show decide (bW ((bh (ay l) k).b.y*p.d)<=p.y)=true from J);exact dF);have D:decide (bW ((bh (ay l) k).a.y*p.d)>p.y)=false:=(by have:=XA (show decide (bW ((bh (ay l) k).a.y*p.d)<=p.y)=true from I);exact dF);refine af.fh C ?_;repeat' first|apply af.t|apply af.f
   refine af.fh D ?_;repeat' first|apply af.t|apply af.f
   exact w _ _ (.cons (.box (iy.of_eq rfl)) .nil) (.cB (.cS (.cons (ar.bool (by rw[u,H,D,C];simp)) (.cS .nil))))
  ·have x:decide (bW ((bh (ay l) k).b.y*p.d)<=p.y)=false:=J;have z:decide (bW ((bh (ay l) k).a.y*p.d)<=p.y)=true:=I;have C:decide (bW ((bh (ay l) k).b.y*p.d)>p.y)=true:=(by have:=XB x;exact X4 (by omega));refine af.gF C ?_;repeat' first|apply af.t|apply af.f
   refine ai.int (qi (bh (ay l) k).a (bh (ay l) k).b p a A B) (λn r=>?_);repeat' first|apply af.t|apply af.f
   have E:gZ (bh (ay l) k) p=decide (n>0):=(by rw[H,z,C,x,r,a3];simp);apply af.mk<;>intro g
   ·repeat' first|apply af.t|apply af.f
    exact w _ _ (.cons (.box (iy.of_eq rfl)) .nil) (.cB (.cS (.cons (ar.bool (by rw[u,E,g,aa7])) (.cS .nil))))
   ·repeat' first|apply af.t|apply af.f
    exact w _ _ (.cons (.box (iy.of_eq rfl)) .nil) (.cB (.cS (.cons (ar.bool (by rw[u,E,g,aaH])) (.cS .nil))))
  ·have x:decide (bW ((bh (ay l) k).b.y*p.d)<=p.y)=true:=J;have z:decide (bW ((bh (ay l) k).a.y*p.d)<=p.y)=false:=I;have D:decide (bW ((bh (ay l) k).a.y*p.d)>p.y)=true:=(by have:=XB z;exact X4 (by omega));repeat' first|apply af.t|apply af.f
   refine af.gF D ?_;repeat' first|apply af.t|apply af.f
   refine ai.int (qi (bh (ay l) k).a (bh (ay l) k).b p a A B) (λn r=>?_);repeat' first|apply af.t|apply af.f
   have E:gZ (bh (ay l) k) p=decide (n<0):=(by rw[H,z,D,x,r,a4];simp);apply af.mk<;>intro g
   ·exact w _ _ (.cons (.box (iy.of_eq rfl)) .nil) (.cB (.cS (.cons (ar.bool (by rw[u,E,g,aa7])) (.cS .nil))))
   ·exact w _ _ (.cons (.box (iy.of_eq rfl)) .nil) (.cB (.cS (.cons (ar.bool (by rw[u,E,g,aaH])) (.cS .nil))))
  ·have x:decide (bW ((bh (ay l) k).b.y*p.d)<=p.y)=false:=J;have z:decide (bW ((bh (ay l) k).a.y*p.d)<=p.y)=false:=I;repeat' first|apply af.t|apply af.f
   exact w _ _ (.cons (.box (iy.of_eq rfl)) .nil) (.cB (.cS (.cons (ar.bool (by rw[u,H,z,x];simp)) (.cS .nil))))
 ·have a5:k=l.length:=(by have:=XB h;omega);subst a5;have X:fX l p=false:=(by rw[fX,aF.2 (λi a6=>by rw[R i a6];rfl)];rfl);apply af.mk<;>intro h
  ·refine Fin.int ?_;rw[cA,X,XG (by simp),XL h]
  ·refine Fin.int ?_;rw[cA,X,XG (by simp),XG (by rw[h];simp)]
theorem Iv {v:V2} (h:ed (cm v)=true):aY v 4000=true:=by
 have:=FE h;have a:=this.x0;have b:=this.x1;have c:=this.y0;have f:=this.y1;exact In.within (by decide) (by decide) ⟨by simp only[cm]at a;omega,by simp only[cm]at b;omega,by simp only[cm]at c;omega,by simp only[cm]at f;omega⟩
theorem Cm (l:LV) (v:V2) (g:l.length<=40000):DP 127 [.one (aN l),vD v] (au (er l v)):=by
 refine dg Tryz.func127 [] ?_;refine ai.bool (fz v 8000) (λb i=>?_);have j:aY v 4000=false->bH l (cm v)=0:=by
  intro h;have:ed (cm v)=false:=by
   cases a:ed (cm v)with
   |false=>rfl
   |true=>rw[Iv a]at h;cases h
  simp[bH,this]
 apply af.mk<;>intro h
 ·refine Fin.int ?_;have c:aY v 8000=false:=(by rw[<-i];simpa using h);have:aY v 4000=false:=by
   cases a:aY v 4000 with
   |false=>rfl
   |true=>rw[In.within (by decide) (by decide) ((In.of (by decide) (by decide) a).up (by decide))]at c;cases c
  simp[er,this]
 ·refine ai.mk' (AB v) ?_;refine ai.int (ER l (cm v) g) (λn f=>?_);refine Fin.int ?_;unfold er;cases a:aY v 4000 with
  |true=>simp[f]
  |false=>simp[f,j a]
theorem nn (a b:V2):DP 75 [vD a,vD b] (.d (vD (mO a b))):=by
 refine dg Tryz.func75 [] ?_;exact Fin.rfl'
def lk (l:LV):Nat->Nat
 |0=>0
 |i+1=>if bt (gt l i) (gt l (lk l i))=true then i else lk l i
def eb (l:LV):Nat:=lk l l.length
def Cu (l:LV) (k:Nat):LV:=l.drop k++l.take k
def bC (l:LV):LV:=Cu l (eb l)
theorem w6 (l:LV):∀i,0<i->lk l i<i
 |0,h=>absurd h (ZO _)
 |i+1,_=>by simp only[lk];split;omega;rcases ZM i with h|h;subst h;simp[lk];have:=w6 l i h;omega
theorem Ra (l:LV) (i:Nat):lk l i<=i:=by
 rcases ZM i with h|h;subst h;exact XU _;exact ZQ (w6 l i h)
theorem Mc (l:LV):∀i,(∀j,j<lk l i->bt (gt l (lk l i)) (gt l j)=true)/\∀j,j<i->bt (gt l j) (gt l (lk l i))=false
 |0=>⟨λj h=>absurd h (XO _),λj h=>absurd h (XO _)⟩
 |i+1=>by
  obtain⟨f,c⟩:=Mc l i;simp only[lk];split
  ·rename_i b;refine⟨λj a=>?_,λj a=>?_⟩;rcases nQ (gt l i) (gt l j)with h|h|h;exact h;have:=c j a;rw[<-h,b]at this;cases this;have:=c j a;rw[mw h b]at this;cases this
   ·rcases YP.1 a with a|rfl
    ·cases g:bt (gt l j) (gt l i)with
     |false=>rfl
     |true=>have:=c j a;rw[mw g b]at this;cases this
    ·exact eL _
  ·rename_i b;refine⟨f,λj a=>?_⟩;rcases YP.1 a with a|rfl;exact c j a;simpa using b
theorem gS (l:LV) (k:Nat):(Cu l k).length=l.length:=by simp[Cu];omega
theorem kl (l:LV) (k i:Nat) (a:k<=l.length) (hi:i<l.length):(Cu l k).getD i ⟨0,0⟩=if i<l.length-k then gt l (k+i)else gt l (i-(l.length-k)):=by
 unfold Cu gt;simp only[List.getD,Yl,ZF,Zv,Y3];split;rfl;rw[iP]
def aX (l:LV):LV:=if cj l=true then bC l else[]
theorem wX (l:LV) (m:l.length<=40000) (i:0<l.length):DP 91 [.one (aN l),.one (.fn 92 0 λ_=> .v Go.undef)] (.d (vD (gt l (eb l)))):=by
 refine dg Tryz.func91 [] ?_;refine af.fh (dF) ?_;refine ak.o ?_;refine Loop.by (α:=Nat) (λk=>[(0,.d (.one (aN l))),(1,.d (.one (.fn 92 0 λ_=> .v Go.undef))),(4,.ptr 4 0),(5,.ptr 5 0),(6,au k)]) (λk=>[(4,.box [i64 0,i64 0]),(5,.box (vL (gt l (lk l k))))]) (λk=>1<=k/\k<=l.length) (λk=>l.length-k)
  (aG.at 1 ⟨XU _,i⟩ (.cons (.box (iy.of_eq rfl)) (.cons (.box (iy.of_eq (by simp[lk]))) .nil)) (.cS (.cS (.cB (.cB (.cS .nil)))))) (λk b=>?_)
 obtain⟨o,b⟩:=b;apply af.mk<;>intro h
 ·have p:k<l.length:=(by have:=XA h;omega);refine ak.o ?_;refine ai.int (iz (gt l k) (gt l (lk l k))) (λc f=>?_);refine ak.n ?_;apply af.mk<;>intro g
  ·have a:bt (gt l k) (gt l (lk l k))=true:=(by rw[<-rM,<-f];exact g);refine ak.o ?_;refine aG.back (x:=k) (k+1) ⟨by omega,by omega⟩ (by omega) (.cons (.box (iy.of_eq rfl)) (.cons (.box (iy.of_eq ?_)) .nil)) (.cS (.cS (.cB (.cB (.cons (ar.int ?_) .nil)))));rw[lk,XL a];rfl;rw[hw _];omega
  ·have a:¬bt (gt l k) (gt l (lk l k))=true:=(by rw[<-rM,<-f];intro e;rw[show decide (c<0)=false from g]at e;cases e);refine aG.back (x:=k) (k+1) ⟨by omega,by omega⟩ (by omega) (.cons (.box (iy.of_eq rfl)) (.cons (.box (iy.of_eq ?_)) .nil)) (.cS (.cS (.cB (.cB (.cons (ar.int ?_) .nil)))));rw[lk,XG a];rw[hw _];omega
 ·have j:k=l.length:=(by have:=XB h;omega);subst j;exact Fin.rfl'
theorem s4 (l:LV) (f:l.length<=40000) (c:0<l.length):DP 90 [.one (aN l),vD (gt l (eb l))] (au (eb l)):=by
 refine dg Tryz.func90 [] ?_;have g:eb l<l.length:=w6 l _ c;refine Loop.by (α:=Nat) (λk=>[(0,.d (.one (aN l))),(3,.ptr 3 0),(7,au l.length),(8,au k)]) (λ_=>[(3,.box (vL (gt l (eb l))))]) (λk=>k<=eb l) (λk=>l.length-k)
  (aG.at 0 (XR _) (.cons (.box (iy.of_eq rfl)) .nil) (.cS (.cB (.cS (.cS .nil))))) (λk i=>?_)
 refine af.gF (X4 (by omega)) ?_;refine ak.o ?_;refine rY.v (gt l (eb l)) (gt l k) (λq b=>?_);refine ak.n ?_;apply af.mk<;>intro a
 ·refine Fin.int ?_;have e:=b.1 a;rcases aam k (eb l)with h|h;have:=(Mc l l.length).1 k h;rw[show gt l (lk l l.length)=gt l k from e,eL]at this;cases this;omega
 ·have j:k≠eb l:=λe=>by have:q=true:=b.2 (by rw[e]);rw[this]at a;cases a
  refine aG.back (x:=k) (k+1) (by omega) (by omega) (.cons (.box (iy.of_eq rfl)) .nil) (.cS (.cB (.cS (.cons (ar.int ?_) .nil))));rw[hw _];omega
theorem JA (n:Nat) (b:n<=40000) (c:0<n):lT Tryz.prog 216 [.d (.one (.v (.slice none 0 0))),au n] [] (.aJ (.n 3000) 0) [] (.aL 0 0 2 50 (vG [])):=by
 refine cF je mixed Tryz.func216 rfl rfl [] (XI rfl) (XI rfl) (fe rfl) ?_;refine af.fh (dF) ?_;have e:IntKind.i64.wrap ((n:Int)-IntKind.i64.wrap (0-((0:Nat):Int)))=n:=by rw[show IntKind.i64.wrap (0-((0:Nat):Int))=0 from rfl,hw _];omega
 refine af.gF (X4 (by rw[e];omega)) ?_;refine ak.mk (by decide) ?_;refine ak.mk (by rw[e];exact⟨by omega,(show(n:Int)*16<=140737488355328 by omega),by simp only[maxLen];omega,by decide⟩) ?_;refine ak.o ?_;refine fm.r ⟨rfl,?_⟩;exact ke.mk ⟨.n 22,.one (.aJ rfl rfl rfl),.nil _,.inr ⟨.aL (λh=>absurd h (by decide)) (λi a=>absurd a (XO i)),rfl⟩⟩
theorem qC (a b:Nat) (c f g:Nat->Nat->SV) (h:a+b<=40000) (p:0<a+b) (q:g 0 0= .sl a 2 c) (e1:g 1 0= .sl b 2 f):
  DP 177 [.one (.sl 2 1 g)] (.d (.one (.sl (a+b) 2 λi j=>bif Nat.blt i a then c i j else f (i-a) j))):=by
 refine lY.le (uh:=[.one (.sl 2 1 λi _=>match i with|0=> .sl a 2 c|_=> .sl b 2 f)]) (.cons (dX.one (aD.sl (λi k j r=>aD.of_eq ?_))) .nil) ?_
 ·obtain rfl:j=0:=by omega
  match i,k with
  |0,_=>exact q
  |1,_=>exact e1
 refine ig je mixed Tryz.func177 rfl rfl [216+2000000] (XI rfl) ?_;refine Loop.vH 3 ?_;refine af.t ?_;refine ak.mk (by decide) ?_;have l:IntKind.i64.wrap (0+(a:Int))=a:=by rw[hw _];omega
 have m:IntKind.i64.wrap (IntKind.i64.wrap (0+(a:Int))+(b:Int))=((a+b:Nat):Int):=by rw[l,hw _];omega
 refine af.fh (XZ (by rw[l];omega)) ?_;refine af.t ?_;refine ak.mk (by decide) ?_;refine af.fh (XZ (by rw[m];omega)) ?_;refine af.f ?_;refine fp.mk' [] (JA (a+b) h p) ⟨.nil,.cD (.cons (.d (dX.of_eq (by rw[m]))) .nil),rfl,rfl,λ_=>rfl⟩ ?_;refine Loop.vH 3 ?_;refine af.t ?_;refine ak.mk (by decide) ?_;refine ak.mk (aS) ?_;refine af.t ?_;refine ak.mk (by decide) ?_;refine ak.mk (aS) ?_;refine af.f ?_;refine Fin.one ?_;refine aD.pQ (by omega) (λi k j r=>aD.of_eq ?_);simp only[Ya,abf];by_cases o:i<a;rw[hp o,ZD,ZD,ht (XO i),ZG];rw[ht o,ZG,ZG]
theorem zH (l:LV) (f:l.length<=40000):DP 198 [.one (aN l)] (.d (.one (aN (aX l)))):=by
 refine dg Tryz.func198 [] ?_;refine ai.bool (qc l f) (λb k=>?_);apply af.mk<;>intro h
 ·refine Fin.one ?_;rw[aX,<-k,XG (by simpa using h)];exact aD.nil _ _
 have a:cj l=true:=by rw[<-k];simpa using h
 have g:0<l.length:=by simp only[cj,hI,XJ,X0]at a;omega
 have p:eb l<l.length:=w6 l _ g;refine ai.v (wX l f g) (λv a=>?_);subst a;refine ai.int (s4 l f g) (λn o=>?_);subst o;refine ak.o ?_;refine ak.o ?_;refine ai.mk' (qC (l.length-eb l) (eb l-0) _ _ _ (by omega) (by omega) rfl rfl) ?_;refine ak.n ?_;refine Fin.one ?_;rw[aX,XL a];refine aD.pQ (by simp only[bC,gS];omega) (λi q j r=>aD.of_eq ?_);have m:i<l.length:=by omega
 by_cases c:i<l.length-eb l;rw[hp c,ZD];refine fb ?_ j;rw[bC,kl _ _ _ (by omega) m,XL c];rfl;rw[ht c,ZG];refine fb ?_ j;rw[bC,kl _ _ _ (by omega) m,XG c,Ya]
def SZ (l:LV) (i:Nat):Bool:=decide (gt l i=bA l i)||decide (ct (lV l i) (gt l i) (bA l i)=0)
def ex (l:LV):Option Nat:=(List.range l.length).find? (SZ l)
end Sg
end Go.Vm
namespace Go.Vm
namespace Sg
open Go Go.RowKit Go.Proofs
theorem xM:∀{l m:LV},J2 l->J2 m->(∀e,e∈l↔e∈m)->l=m
 |[],[],_,_,_=>rfl
 |[],y::m,_,_,h=>absurd ((h y).2 (by simp)) (by simp)
 |x::l,[],_,_,h=>absurd ((h x).1 (by simp)) (by simp)
 |x::l,y::m,g,i,h=>by have j:x=y:=(by have h1:=(h x).1 (by simp);have c:=(h y).2 (by simp);rcases XD.1 h1 with h1|h1;exact h1;rcases XD.1 c with c|c;exact c.symm;have a:=i.1 x h1;have b:=g.1 y c;rw[my a]at b;cases b);subst j;congr 1;refine xM g.2 i.2 λe=>?_;constructor;intro f;rcases XD.1 ((h e).1 (XK _ f))with k|k;subst k;have:=g.1 e f;rw[eL]at this;cases this;exact k;intro f;rcases XD.1 ((h e).2 (XK _ f))with k|k;subst k;have:=i.1 e f;rw[eL]at this;cases this;exact k
theorem EJ {l m:LV} (h:∀e,e∈l↔e∈m):jx l=jx m:=by
 obtain⟨a,b⟩:=eF l;obtain⟨c,f⟩:=eF m;exact xM a c λe=>(b e).trans ((h e).trans (f e).symm)
abbrev Xn (s t:cp):Int:=s.a.x*gk s t+(ag s.b s.a).x*aa (ag t.a s.a) (ag t.b t.a)
abbrev Yn (s t:cp):Int:=s.a.y*gk s t+(ag s.b s.a).y*aa (ag t.a s.a) (ag t.b t.a)
structure gO (s t s' t':cp):Prop where
 v:(aB s=false\/aB t=false)↔(aB s'=false\/aB t'=false)
 m:∀e,e∈(eN s' t').filter (fI s' t')↔e∈(eN s t).filter (fI s t)
 c:aB s=true->aB t=true->(eh s' t'=true↔eh s t=true)
 d:gk s' t'= -gk s t
 x:Xn s' t'= -Xn s t
 y:Yn s' t'= -Yn s t
theorem L9 {x y d:Int} (h:d≠0):Jj (-x) (-y) (-d)=Jj x y d:=by
 unfold Jj;by_cases a:d<0;rw[iN,XL a];rw[iP,XG a,abu,abu,abu]
theorem gO.agree {s t s' a:cp} (h:gO s t s' a):aH s' a=aH s t/\pC s' a=pC s t/\en s' a=en s t:=by
 have g:aT s' a=aT s t:=EJ h.m;have i:aH s' a=aH s t:=by
  by_cases b:aB s=false\/aB t=false;rw[aH,aH,XL b,XL (h.v.1 b)]
  ·rw[aH,aH,XG b,XG (λk=>b (h.v.2 k)),g];have j:aB s=true:=by
    cases q:aB s with
    |true=>rfl
    |false=>exact absurd (.inl q) b
   have l:aB t=true:=by
    cases q:aB t with
    |true=>rfl
    |false=>exact absurd (.inr q) b
   have:=h.c j l;split;rfl;split;rfl;by_cases f:eh s t=true;rw[XL f,XL (this.2 f)];rw[XG f,XG (λk=>f (this.1 k))]
 refine⟨i,?_,?_⟩;rw[pC,pC,i,g];split;rfl;split;rename_i r;obtain⟨j,l,f⟩:=yW r;have u:=zy j l f;have o:=h.x;have p:=h.y;have w:=h.d;simp only[Xn,Yn]at o p;rw[o,p,w,L9 u];rfl;rw[en,en,i,g]
theorem IJ (s t:cp):gO s t t s:=by
 refine⟨⟨λh=>h.symm,λh=>h.symm⟩,λe=>?_,λf g=>?_,?_,?_,?_⟩
 ·rw[dJ,dJ];constructor;(rintro⟨a,b,c⟩;refine⟨?_,c,b⟩;rcases a with h|h|h|h<;>simp[h])
  ·rintro⟨a,b,c⟩;refine⟨?_,c,b⟩;rcases a with h|h|h|h<;>simp[h]
 ·simp only[eh,XJ];exact⟨λh=>⟨h.2,h.1⟩,λh=>⟨h.2,h.1⟩⟩
 ·simp only[gk,aa];grind
 ·simp only[Xn,gk,aa,ag];grind
 ·simp only[Yn,gk,aa,ag];grind
def Tt (a v:V2):V2:=⟨a.x+v.x,a.y+v.y⟩
end Sg
end Go.Vm
namespace Go.Vm
open Go Go.RowKit Go.Proofs
namespace Sg
def bz:Nat->(Nat->Int)->Int
 |0,_=>0
 |n+1,f=>bz n f+f n
theorem gQ (f:Nat->Int) (a:Nat):∀b,bz (a+b) f=bz a f+bz b (λi=>f (a+i))
 |0=>by simp[bz]
 |b+1=>by rw[<-YE];simp only[bz];rw[gQ f a b];omega
theorem ck {n:Nat} {f g:Nat->Int} (h:∀i,i<n->f i=g i):bz n f=bz n g:=by
 induction n with
 |zero=>rfl
 |succ n a=>simp only[bz];rw[a (λi b=>h i (by omega)),h n (by omega)]
def fu:Nat->(Nat->Bool)->Bool
 |0,_=>false
 |n+1,f=>xor (fu n f) (f n)
theorem wF (f:Nat->Bool) (a:Nat):∀b,fu (a+b) f=xor (fu a f) (fu b (λi=>f (a+i)))
 |0=>by simp[fu]
 |b+1=>by rw[<-YE];simp only[fu];rw[wF f a b,Bool.xor_assoc]
variable {g:Nat->Bool}
theorem hZ {n:Nat} {f:Nat->Bool} (h:∀i,i<n->f i=g i):fu n f=fu n g:=by
 induction n with
 |zero=>rfl
 |succ n a=>simp only[fu];rw[a (λi b=>h i (by omega)),h n (by omega)]
variable {k:Nat}
theorem B5 {n:Nat} (f:Nat->Int) (c:k<=n):bz n (λi=>f ((k+i)%n))=bz n f:=by
 have a:bz n (λi=>f ((k+i)%n))=bz (n-k) (λi=>f (k+i))+bz k f:=by
  conv=>lhs;rw[show n=(n-k)+k by omega]
  rw[gQ];congr 1;refine ck (λi b=>?_);rw[show n-k+k=n by omega,mOf];refine ck (λi b=>?_);rw[show n-k+k=n by omega,show k+(n-k+i)=i+n by omega,YI,mOf]
 rw[a]
 conv=>rhs;rw[show n=k+(n-k) by omega]
 rw[gQ];omega
theorem Lw {n:Nat} (f:Nat->Bool) (c:k<=n):fu n (λi=>f ((k+i)%n))=fu n f:=by
 have a:fu n (λi=>f ((k+i)%n))=xor (fu (n-k) (λi=>f (k+i))) (fu k f):=by
  conv=>lhs;rw[show n=(n-k)+k by omega]
  rw[wF];congr 1;refine hZ (λi b=>?_);rw[show n-k+k=n by omega,mOf];refine hZ (λi b=>?_);rw[show n-k+k=n by omega,show k+(n-k+i)=i+n by omega,YI,mOf]
 rw[a]
 conv=>rhs;rw[show n=k+(n-k) by omega]
 rw[wF,Bool.xor_comm]
def xO (l:LV):Int:=bz l.length λi=>aa (gt l i) (bA l i)
theorem D7 {l:LV} (a:fD l=true):∀k,k<=40000->rT l k=bz k (λi=>aa (gt l i) (bA l i))/\ -(8000000*(k:Int))<=rT l k/\rT l k<=8000000*k
 |0,_=>by simp[rT,bz]
 |k+1,o=>by obtain⟨b,g,h⟩:=D7 a k (by omega);obtain⟨e,c,f⟩:=fS (m:=2000) (by decide) (by decide) (cz a k) (cz a ((k+1)%l.length));have j:eJ (gt l k) (bA l k)=aa (gt l k) (bA l k):=e;replace c: -8000000<=aa (gt l k) (bA l k):=c;replace f:aa (gt l k) (bA l k)<=8000000:=f;simp only[rT,bz];rw[j,fq (by omega) (by omega),b];rw[b]at g h;exact⟨rfl,by omega,by omega⟩
theorem Ib {l:LV} (a:fD l=true) (b:l.length<=40000:=by omega):rS l=xO l:=(D7 a l.length b).1
def Tm (l:LV):Prop:=∀i,i<l.length->∀k,k<l.length->i≠k->k≠(i+1)%l.length->i≠(k+1)%l.length->aH (bY l i) (bY l k)=0
structure bo (l:LV):Prop where
 three:3<=l.length
 Dw:l.length<=40
 eX:fD l=true
 Ql:0<xO l
 turns:∀i,i<l.length->mW (lV l i) (gt l i) (bA l i)≠0
 apart:Tm l
variable {i:Nat}
theorem BJ {n:Nat} (hi:i<k) (c:k<n):hF n i k=true↔(k=(i+1)%n\/i=(k+1)%n):=by
 simp only[hF,Zl,XJ,X0];rw[X5 (show i+1<n by omega)];constructor;rintro(h|⟨b,a⟩);exact .inl h;right;rw[a,show n-1+1=n by omega,Zt];exact b;rintro(h|h);exact .inl h;by_cases a:k+1=n;rw[a,Zt]at h;exact .inr ⟨h,by omega⟩;rw[mOf]at h;omega
theorem yD (s t:cp):aH t s=aH s t:=(IJ s t).agree.1
theorem fg {l:LV}:cj l=true↔bo l:=by
 constructor
 ·intro h;simp only[cj,hI,XJ,X0]at h;obtain⟨⟨⟨⟨⟨g,m⟩,c⟩,o⟩,p⟩,q⟩:=h;refine⟨g,m,c,by rw[<-Ib c];exact o,λi b=>?_,λi b k f x r g=>?_⟩
  ·have:=XA (aF.1 p i b)
   rwa [lV,bA,Ab c]at this
  ·have t:∀i k,i<k->k<l.length->hF l.length i k=false->aH (bY l i) (bY l k)=0:=(by intro i k a f w;have:=aF.1 (aF.1 q i (by omega)) k f;simp only[w,Zl,X0,Y6,ZY]at this;rw[<-(eH _ _).1];exact this.resolve_left (by omega));rcases aam i k with a|a
   ·refine t i k a f ?_;cases j:hF l.length i k with
    |false=>rfl
    |true=>rcases(BJ a f).1 j with h|h;exact absurd h r;exact absurd h g
   ·have a:k<i:=(by omega);rw[yD];refine t k i a b ?_;cases j:hF l.length k i with
    |false=>rfl
    |true=>rcases(BJ a b).1 j with h|h;exact absurd h g;exact absurd h r
 ·rintro⟨g,m,c,o,p,q⟩;simp only[cj,hI,XJ,X0];refine⟨⟨⟨⟨⟨g,m⟩,c⟩,by rw[Ib c];exact o⟩,aF.2 (λi b=>?_)⟩,aF.2 (λi b=>aF.2 (λk f=>?_))⟩
  ·have:=p i b;refine X4 ?_
   rwa [lV,bA,Ab c]
  ·by_cases a:k<=i;simp[a]
   ·cases j:hF l.length i k with
    |true=>simp
    |false=>
     have u:¬(k=(i+1)%l.length\/i=(k+1)%l.length):=λh=>by rw[(BJ (by omega) f).2 h]at j;cases j
     have:=q i b k f (by omega) (λh=>u (.inl h)) (λh=>u (.inr h));rw[<-(eH _ _).1]at this;simp[this]
structure BM (l l':LV) (k:Nat):Prop where
 len:l'.length=l.length
 le:k<=l.length
 at_:∀i,i<l.length->gt l' i=gt l ((k+i)%l.length)
theorem K4 (l:LV) (k:Nat) (a:k<=l.length):BM l (Cu l k) k:=by
 refine⟨gS l k,a,λi b=>?_⟩;show(Cu l k).getD i ⟨0,0⟩=_;rw[kl l k i a b];split;rw[mOf];rw[show k+i=(i-(l.length-k))+l.length by omega,YI,mOf]
section
variable {l l':LV} {k:Nat}
theorem BM.bA (h:BM l l' k) {i:Nat} (hi:i<l.length):bA l' i=bA l ((k+i)%l.length):=by
 unfold Sg.bA;rw[h.len,h.at_ _ (mLt),aaR,ZU,YE]
theorem BM.lV (h:BM l l' k) {i:Nat} (hi:i<l.length):lV l' i=lV l ((k+i)%l.length):=by
 unfold Sg.lV;rw[h.len,h.at_ _ (mLt),aaR];congr 1;have a:=abj (k+i) l.length;have b:=ZC (k+i) (show 0<l.length by omega);rw[show k+(i+l.length-1)=(k+i)+(l.length-1) by omega,show(k+i)%l.length+l.length-1=(k+i)%l.length+(l.length-1) by omega,ZU]
theorem BM.bY (h:BM l l' k) {i:Nat} (hi:i<l.length):bY l' i=bY l ((k+i)%l.length):=by
 unfold Sg.bY;rw[h.at_ i hi,h.bA hi]
theorem BM.inj (h:BM l l' k) {j:Nat} (hi:i<l.length) (f:j<l.length) (e:(k+i)%l.length=(k+j)%l.length):i=j:=by
 have g:=h.le;by_cases b:k+i<l.length<;>by_cases c:k+j<l.length
 ·rw[X5 b,X5 c]at e;omega
 ·rw[X5 b,aal (by omega),mOf]at e;omega
 ·rw[X5 c,aal (by omega),mOf]at e;omega
 ·rw[aal (by omega),mOf,aal (a:=k+j) (by omega),mOf]at e;omega
theorem BM.eX (h:BM l l' k) (a:fD l=true):fD l'=true:=sT (λi hi=>by
 rw[h.at_ i (by rw[<-h.len];exact hi)];exact(cz a _).within (by decide) (by decide))
theorem BM.back (h:BM l l' k):BM l' l (l.length-k):=by
 refine⟨h.len.symm,by rw[h.len];omega,λi hi=>?_⟩;rw[h.len]at hi|-;have a:=h.le;rw[h.at_ _ (mLt),aaR,show k+(l.length-k+i)=i+l.length by omega,YI,X5 hi]
theorem BM.Ql (h:BM l l' k):xO l'=xO l:=by
 unfold xO;rw[h.len,<-B5 (λi=>aa (gt l i) (Sg.bA l i)) h.le];exact ck (λi hi=>by rw[h.at_ i hi,h.bA hi])
theorem BM.ok (h:BM l l' k) (a:bo l):bo l':=by
 refine⟨by rw[h.len];exact a.three,by rw[h.len];exact a.Dw,h.eX a.eX,by rw[h.Ql];exact a.Ql,λi hi=>?_,λi hi j b g c f=>?_⟩;rw[h.len]at hi;rw[h.at_ i hi,h.bA hi,h.lV hi];exact a.turns _ (mLt);rw[h.len]at hi b c f;rw[h.bY hi,h.bY b];refine a.apart _ (mLt) _ (mLt) (λe=>g (h.inj hi b e)) (λe=>c ?_) (λe=>f ?_);refine h.inj b (mLt) ?_;rw[e,ZU,aaR,YE];refine h.inj hi (mLt) ?_;rw[e,ZU,aaR,YE]
theorem F5 {n:Nat} {f:Nat->Bool} (h:∀i,i<n->f i=g i):bn n f=bn n g:=by
 rw[Zw,aF,aF];exact⟨λk i a=>by rw[<-h i a];exact k i a,λk i a=>by rw[h i a];exact k i a⟩
theorem oR (l:LV) (p:P3):∀k,nJ l p k=fu k λi=>gZ (Sg.bY l i) p
 |0=>rfl
 |k+1=>by simp only[nJ,fu];rw[oR l p k]
end
theorem pc {l:LV} (h:bo l) {i:Nat} (hi:i<l.length):gt l i≠bA l i:=by
 intro e;refine h.turns i hi ?_;rw[<-e];unfold mW;rw[show aa (ag (gt l i) (lV l i)) (ag (gt l i) (lV l i))=0 by simp only[aa];rw[X9];omega];rfl
theorem JL (l:LV):BM l (bC l) (eb l):=K4 l _ (Ra l _)
theorem I4 (u:Nat->Bool) {n:Nat} (f:0<n):fu n (λi=>xor (u i) (u ((i+1)%n)))=false:=by
 have g:∀m,fu m (λi=>xor (u i) (u ((i+1)%n)))=xor (fu m u) (fu m λi=>u ((i+1)%n)):=by
  intro m;induction m with
  |zero=>rfl
  |succ m h=>simp only[fu];rw[h];generalize fu m u=a;generalize (fu m λi=>u ((i+1)%n))=b;generalize u m=c;generalize u ((m+1)%n)=d;revert a b c d;decide
 rw[g];have j:fu n (λi=>u ((i+1)%n))=fu n u:=by rw[<-Lw u (show 1<=n from f)];exact hZ (λi _=>by rw[Zu])
 rw[j,Bool.xor_self]
variable {a:Int}
theorem Hg {b:Int} (c:0<a) (f:0<b):decide (cQ a b<=0)=false:=XZ (by unfold cQ;split<;>omega)
theorem Hl {b:Int} (c:a<0) (f:b<0):decide (0<=bU a b)=false:=XZ (by unfold bU;split<;>omega)
theorem qk {n:Nat} {f:Nat->Bool} (h:∀i,i<n->f i=false):fu n f=false:=by
 rw[hZ (g:=λ_=>false) h];clear h;induction n with
 |zero=>rfl
 |succ n a=>simp only[fu];rw[a];rfl
variable {p:P3}
theorem lZ {l:LV} (a:∀i,i<l.length->qo (bY l i) p=false) (h2:fu l.length (λi=>gZ (bY l i) p)=false):cA l p=0:=by
 have b:fX l p=false:=by unfold fX;rw[aF.2 (λi c=>by rw[a i c];rfl)];rfl
 rw[cA,b,oR,h2];simp
theorem Is {l:LV} (B:1<=p.d) (h:(∀i,(fw p (gt l i)).y<0)\/(∀i,0<(fw p (gt l i)).y)\/(∀i,0<(fw p (gt l i)).x)\/(∀i,(fw p (gt l i)).x<0)):cA l p=0:=by
 have c:∀i,fw p (bY l i).a=fw p (gt l i):=λ_=>rfl;have f:∀i,fw p (bY l i).b=fw p (gt l ((i+1)%l.length)):=λ_=>rfl;have x:∀i,(fw p (gt l i)).x*(fw p (gt l ((i+1)%l.length))).y-(fw p (gt l i)).y*(fw p (gt l ((i+1)%l.length))).x=p.d*kS (bY l i) p:=λi=>DH (bY l i) p;have sg:∀i,(0<p.d*kS (bY l i) p->0<kS (bY l i) p)/\(p.d*kS (bY l i) p<0->kS (bY l i) p<0):=by intro i;refine⟨λh=>?_,λh=>?_⟩;refine Y5.1 (λk=>?_);have:=XM (show 0<=p.d by omega) k;omega;refine Y5.1 (λk=>?_);have:=XF (show 0<=p.d by omega) k;omega
 rcases h with h|h|h|h;refine lZ (λi _=>?_) (qk (λi _=>?_));unfold qo;rw[c,f,Hl (h i) (h _),aaw];unfold gZ;rw[c,f,XZ (show¬0<=(fw p (gt l i)).y by have:=h i;omega),XZ (show¬0<=(fw p (gt l ((i+1)%l.length))).y by have:=h ((i+1)%l.length);omega)];rfl;refine lZ (λi _=>?_) (qk (λi _=>?_));unfold qo;rw[c,f,Hg (h i) (h _),aaw,YN];unfold gZ;rw[c,f,X4 (show 0<=(fw p (gt l i)).y by have:=h i;omega),X4 (show 0<=(fw p (gt l ((i+1)%l.length))).y by have:=h ((i+1)%l.length);omega)];rfl
 ·refine lZ (λi _=>?_) (qk (λi _=>?_));unfold qo;rw[c,f,Hg (h i) (h _),aaw,YN,YN,YN]
  ·have g:=h i;have j:=h ((i+1)%l.length);have y:=x i;obtain⟨m,o⟩:=sg i;unfold gZ;rw[c,f];generalize (fw p (gt l i)).x=z at*;generalize (fw p (gt l i)).y=q at*;generalize (fw p (gt l ((i+1)%l.length))).x=A at*;generalize (fw p (gt l ((i+1)%l.length))).y=r at*;by_cases a:0<=q<;>by_cases b:0<=r
   ·rw[X4 a,X4 b];rfl
   ·have t:=Yb g (Y5.1 b);have u:=XF a (XN j);have:=o (by omega);rw[X4 a,XZ b,XZ (show¬0<kS (bY l i) p by omega)];rfl
   ·have t:=XF (XN g) b;have u:=X3 (Y5.1 a) j;have:=m (by omega);rw[XZ a,X4 b,X4 this];rfl
   ·rw[XZ a,XZ b];rfl
 ·refine lZ (λi _=>?_) ?_;unfold qo;rw[c,f,Hl (h i) (h _),aaw,YN,YN]
  ·rcases ZM l.length with w|w;rw[w];rfl;rw[<-I4 (λi=>decide (0<=(fw p (gt l i)).y)) w];refine hZ (λi _=>?_);have g:=h i;have j:=h ((i+1)%l.length);have y:=x i;obtain⟨m,o⟩:=sg i;unfold gZ;rw[c,f];generalize (fw p (gt l i)).x=z at*;generalize (fw p (gt l i)).y=q at*;generalize (fw p (gt l ((i+1)%l.length))).x=A at*;generalize (fw p (gt l ((i+1)%l.length))).y=r at*;by_cases a:0<=q<;>by_cases b:0<=r
   ·rw[X4 a,X4 b];rfl
   ·have t:=Zr g (Y5.1 b);have u:=XM a (XN j);have:=m (by omega);rw[X4 a,XZ b,X4 this];rfl
   ·have t:=YH (XN g) b;have u:=Zr (Y5.1 a) j;have:=o (by omega);rw[XZ a,X4 b,XZ (show¬0<kS (bY l i) p by omega)];rfl
   ·rw[XZ a,XZ b];rfl
theorem Qt {a v:V2} (b:In 1000000 a) (c:In 1000000 v):mO a v=Tt a v:=by
 obtain⟨f,g,h,i⟩:=b;obtain⟨v0,j,k,l⟩:=c;unfold mO Tt;rw[fq (by omega) (by omega),fq (by omega) (by omega)]
structure Moved (l l':LV) (v:V2):Prop where
 len:l'.length=l.length
 at_:∀i,i<l.length->gt l' i=Tt (gt l i) v
section
variable {l l':LV} {v:V2}
theorem Gn (f:Nat->Int) {n:Nat} (a:0<n):bz n (λi=>f ((i+1)%n)-f i)=0:=by
 have b:∀m,bz m (λi=>f ((i+1)%n)-f i)=bz m (λi=>f ((i+1)%n))-bz m f:=by
  intro m;induction m with
  |zero=>rfl
  |succ m c=>simp only[bz];rw[c];omega
 rw[b];have g:bz n (λi=>f ((i+1)%n))=bz n f:=by rw[<-B5 f (show 1<=n from a)];exact ck (λi _=>by rw[Zu])
 omega
theorem vR {n:Nat} (f g:Nat->Int):bz n (λi=>f i+g i)=bz n f+bz n g:=by
 induction n with
 |zero=>rfl
 |succ n a=>simp only[bz];rw[a];omega
end
theorem Ls {v:V2} (h:In 4000 v):Rt (cm v):=⟨by simp[cm],by simp[cm],by have:=h.x0;simp only[cm];omega,by have:=h.x1;simp only[cm];omega,by have:=h.y0;simp only[cm];omega,by have:=h.y1;simp only[cm];omega⟩
theorem GN {v:V2} (h:In 4000 v):ed (cm v)=true:=by
 obtain⟨a,b,c,f,g,i⟩:=Ls h;unfold ed;rw[fH.2 ⟨a,b,c,f,g,i⟩,Zd];exact X4 (by simp[cm])
theorem PQ {l:LV} (b:fD l=true) {p:V2} (h:¬In 4000 p):cA l (cm p)=0:=by
 have a:=λi=>cz b i;have c:p.x< -4000\/4000<p.x\/p.y< -4000\/4000<p.y:=by refine Xz (λf=>h ⟨by omega,by omega,by omega,by omega⟩)
 refine Is (by simp[cm]) ?_;simp only[fw,cm];rcases c with h|h|h|h;exact .inr (.inr (.inr (λi=>by have:=(a i).x0;omega)));exact .inr (.inr (.inl (λi=>by have:=(a i).x1;omega)));exact .inl (λi=>by have:=(a i).y0;omega);exact .inr (.inl (λi=>by have:=(a i).y1;omega))
theorem yx {l:LV} (a:bo l) (p:V2):er l p=cA l (cm p):=by
 unfold er bH;cases hw:aY p 4000 with
 |true=>rw[XL rfl,XL ⟨fg.2 a,GN (In.of (by decide) (by decide) hw)⟩]
 |false=>rw[XG (by simp),PQ a.eX (λb=>by rw[b.within (by decide) (by decide)]at hw;cases hw)]
end Sg
end Go.Vm
namespace Go.Vm
open Go Go.RowKit
variable {ρ:Id->Option (Nat×Nat)} {m:Id->Mem} {w:World}
theorem Rel.Li {E:Env} {t:Nat->TV} {a:Act} (h:Rel E ρ t m a w) (o:Id) (j:List CV) (F:(m o).dr=true) (k:(m o).live)
  (G:∀f,(∃c∈j,c.refs f)->m f≠ .none) (H:iL E m ρ w o (.obj j)):Rel E ρ t (bj m o (.obj j)) a w:=by
 have B:Shape (m o) (.obj j):= .dr F rfl;have r:Shape (m o) (bj m o (.obj j) o):=by rw[aq];exact B
 have u:bj ρ o (ρ o)=ρ:=et ρ o;have y:bj ρ o (ρ o) o=ρ o:=aq _ _ _;have D:∀b,L E m ρ w b->L E (bj m o (.obj j)) (bj ρ o (ρ o)) w b/\w.heap[b]? =w.heap[b]?:=λb C=>⟨⟨C.1,λf z l q=>by
  rw[u]at q;by_cases p:f=o;subst p;exact C.2 f z k q
  ·rw[aw _ _ _ p]at l;exact C.2 f z l q⟩,rfl⟩
 have I:m o≠ .none:=λe=>by rw[e]at k;exact k
 have:=h.one o (.obj j) (ρ o) (Bx.refl _ _ _) D (λ_ _ _ _ _ _=>rfl)
  (λ_ b c A=>⟨h.lo o b c k A,λf z J l q=>J (h.inj f o b z c l k q A)⟩)
  B.ne (λf A=> .inr (G f A)) (λK=>absurd K I) (λM=>by rw[<-B.gen];exact M) (by
   obtain⟨b,c,N,e,O,P,Q⟩:=H;refine⟨b,c,N,e,by rw[u];exact O,P,Q.mono D (λf _=>?_)⟩;by_cases p:f=o;subst p;exact r.carry y
   ·exact Carry.same (aw _ _ _ p) (by rw[u])) (λ_=>r.carry y) (λx g i R _=>r.ep y x g i R) (λx g S n _=>r.sub y x g S n)
 rwa [u]at this
variable {J:(Nat->TV)->(Id->Mem)->Prop}
theorem aG.q8 {t:Nat->TV} (o:Id) (i q k:Nat) (e:TypeId) (get:Nat->Nat->SV) (cs:List SV) (j:List CV) (l:m o= .box cs) (hi:cs[i]? =some (.v (.slice none 0 0))) (u:j=(cs.map CV.s).set i (.aJ (.n q) 0)) (y:m (.n q)= .none)
  (h:aG t (bj (bj m (.n q) (.aL 0 0 k e get)) o (.obj j)) J) (F:q<2000:=by decide):aG t m J:=by
 obtain⟨G,H,I,K⟩:=h;have M:o≠ .n q:=λN=>by rw[N,y]at l;cases l
 refine⟨G,H,λE ρ a w O=>?_,K⟩;obtain⟨z,P⟩:=O.wP (.n q) 0 k e get ⟨by omega,.inl ⟨y,E.PG q F⟩⟩;have PG:bj m (.n q) (.aL 0 0 k e get) o= .box cs:=by rw[aw _ _ _ M,l]
 refine I E _ a w (z.Li o j (by rw[PG];rfl) (by rw[PG];trivial) ?_ ?_);rintro V ⟨c,p,A⟩;subst u;rcases ab1 p with p|rfl;obtain⟨x,_,rfl⟩:=XS.1 p;exact A.elim;cases A;rw[aq];simp
 ·have B:=z.mem o;rw[PG]at B;obtain⟨b,c,xs,Q,C,D,R⟩:=B;refine⟨b,c,xs,Q,C,D,?_⟩;subst u;generalize bj m (.n q) (.aL 0 0 k e get)=f at*;generalize bj ρ (.n q) none=g at*;clear C D;have key:∀(cs:List SV) (xs:List Value) (i:Nat),eA (L E f g w) w xs cs->cs[i]? =some (.v (.slice none 0 0))->fV (L E f g w) f g w xs ((cs.map CV.s).set i (.aJ (.n q) 0)):=by
   intro cs;induction cs with
   |nil=>intro xs i _ hi;simp at hi
   |cons c cs r=>
    intro xs i S hi;cases S with
    |@cons x _ xs _ a b=>
     cases i with
     |zero=>
      simp only[List.getElem?_cons_zero,Ze]at hi;subst hi;have T:=(Rd.bT a).1;subst T;have U:∀(cs:List SV) (xs:List Value),eA (L E f g w) w xs cs->fV (L E f g w) f g w xs (cs.map CV.s):=by
       intro cs;induction cs with
       |nil=>intro xs h;cases h;exact .nil
       |cons c cs r=>intro xs h;cases h with|cons a b=>exact .cons a (r _ b)
      exact .cons P (U _ _ b)
     |succ i=>exact .cons a (r xs i b (by simpa using hi))
  exact key cs xs i R hi
inductive Oe (r:Id) (g:Nat) (c0:SV):List CV->List CV->Prop where
 |nil:Oe r g c0 [] []
 |same {c:CV} {l l':List CV} (h:Oe r g c0 l l'):Oe r g c0 (c::l) (c::l')
 |shut {l l':List CV} (h:Oe r g c0 l l'):Oe r g c0 (.aJ r g::l) (.s c0::l')
variable {g:Nat} {c0:SV} {l':List CV}
theorem Oe.mem {r:Id} {l:List CV} (h:Oe r g c0 l l'):∀c∈l',c∈l\/c= .s c0:=by
 induction h with
 |nil=>simp
 |same _ b=>intro c a;rcases XD.1 a with rfl|a;exact .inl (by simp);exact(b c a).imp (λh=>by simp[h]) id
 |shut _ b=>intro c a;rcases XD.1 a with rfl|a;exact .inr rfl;exact(b c a).imp (λh=>by simp[h]) id
theorem Oe.rd {r:Id} {S S':Nat->Prop} {m':Id->Mem} (key:∀x,bB m ρ x r g->Rd S' w x c0) {l:List CV} (h:Oe r g c0 l l'):∀{xs:List Value},fV S m ρ w xs l->fV S' m' ρ w xs l->fV S' m' ρ w xs l':=by
 induction h with
 |nil=>intro xs _ h;exact h
 |same _ f=>intro xs i j;cases i with|cons a b=>cases j with|cons c d=>exact .cons c (f b d)
 |shut _ f=>intro xs i j;cases i with|cons a b=>cases j with|cons c d=>exact .cons (key _ a) (f b d)
theorem aG.JB {t:Nat->TV} (o r:Id) (cs K:List CV) (gr nr f:Nat) (a5:TypeId) (A:Nat->Nat->SV)
  (B:m o= .obj cs) (g:m r= .aL gr nr f a5 A) (R:Oe r gr (.sl nr f A) cs K)
  (h:aG t (bj (bj m r .dead) o (.obj K)) J):aG t m J:=by
 obtain⟨a6,a7,a8,a9⟩:=h;have b0:o≠r:=λb1=>by rw[b1,g]at B;cases B
 refine⟨a6,a7,λE ρ a w u=>?_,a9⟩;have b2:∀b,L E m ρ w b->L E (bj m r .dead) ρ w b:=λb C=>⟨C.1,λD S l q=>by
  by_cases k:D=r;subst k;rw[aq]at l;exact l.elim
  ·rw[aw _ _ _ k]at l;exact C.2 D S l q⟩
 have key:∀x,bB m ρ x r gr->Rd (L E (bj m r .dead) ρ w) w x (.sl nr f A):=by intro x b3;have b4:(m r).bF=some (gr,nr,f):=(by rw[g];rfl);have F:=((br b4).1 b3).2.2 rfl;have T:=u.mem r;rw[g]at T;rcases T with⟨z,b5⟩|⟨U,V,arr,z,b6,c6,b7,b8,X⟩;simp only[cu,z]at F;rw[F,b5];exact Rd.nil f A;simp only[cu,z]at F;rw[F];obtain⟨M,b9⟩:=u.lo r U V (cT g) z;refine Rd.sl (λi j=>(arr[i*f+j]?).getD Go.undef) ⟨.inr (M.imp (λq=>q) (λM=>⟨M,b9⟩)),λY c0 G c1=>?_⟩ b7 b8 (λi hi j N=>?_) (λi hi j N=>?_);by_cases k:Y=r;subst k;rw[aq]at G;exact G.elim;rw[aw _ _ _ k]at G;exact k (u.inj Y r U c0 V G (cT g) c1 z);obtain⟨y,O,_⟩:=X i hi j N;simp[World.cell?,b6,O];obtain⟨y,O,H⟩:=X i hi j N;simp only[O,Yt];exact H.mono (λb C=>⟨b2 b C,rfl⟩)
 have P:=u.Be r (by rw[g];simp);have I:bj m r .dead o= .obj cs:=by rw[aw _ _ _ b0,B]
 refine a8 E ρ a w (P.Li o K (by rw[I];rfl) (by rw[I];trivial) ?_ ?_);rintro D ⟨c,Q,H⟩;rcases R.mem c Q with Q|rfl;exact P.cleanM o D (by rw[I];exact⟨c,Q,H⟩);exact H.elim
 ·have Z:=u.mem o;have a0:=P.mem o;rw[B]at Z;rw[I]at a0;obtain⟨b,c,a1,e,a2,a3,c2⟩:=Z;obtain⟨c7,S,c3,c8,a4,p,c4⟩:=a0;rw[a2]at a4;cases a4;rw[a3]at p;have c5:a1=c3:=by
   injection p with p
   injection p with p _ _
   simpa using p
  subst c5;exact⟨b,c,a1,e,a2,a3,R.rd key c2 c4⟩
theorem nv {W:List Nat}:∀{b:List (Nat×TV)},b.all (λq=>!(W.any (Nat.beq q.1)))=true->uF W (cE b)
 |[],_=>λ_ _=>rfl
 |(k,x)::r,h=>λi a=>by
  simp only[List.all_cons,XJ,Yx]at h;have c:i≠k:=λe=>by rw[e,h.1]at a;cases a
  show bj (cE r) k x i= .any;rw[aw _ _ _ c];exact nv h.2 i a
theorem hD.by {P:Program} {N:Nat} {f:Operand} {ps:Array Tmp} {c j:Code} {u w:iW->(Nat->TV)->(Id->Mem)->Prop} {Q:iW} {t:Nat->TV} {n:Nat} {cap:Nat->SV} {xs:List DV} {p:Nat}
  (ks:Nat->List (Nat×TV)) (a:Nat->List (Id×Mem)) (inv:Nat->Prop) (y:bE t f= .d (.one (.fn g n cap))) (z:Iter P g (cells n cap) xs) (A:ps=#[p]) (B:p<N) (C:(eG c&&eG j)=true)
  (D:∀k,(ks k).all (λq=>!((p::(jg c++jg j)).any (Nat.beq q.1)))=true) (E:fk m (aQ (a 0)) (a 0)) (F:fj t m (aQ (a 0)) (ks 0)) (G:inv 0)
  (H:∀k x,xs[k]? =some x->inv k->u (λe I J=>match e with
   | .normal=>w (λe o r=>match e with
    | .normal=>aG o r λb l=>b=cE (ks (k+1))/\l=aQ (a (k+1))/\inv (k+1)
    | .exit i=>aG o r λb l=>uF (p::(jg c++jg j)) b/\Q (.exit i) b l
    | .ret=>aG o r λb l=>uF (p::(jg c++jg j)) b/\Q .ret b l) I J
   |_=>False) (bj (cE (ks k)) p (.d x)) (aQ (a k)))
  (K:inv xs.length->Q .normal (cE (ks xs.length)) (aQ (a xs.length))):hD P N f ps c j u w Q t m:=
 ⟨g,n,cap,xs,p,λk=>cE (ks k),λk=>aQ (a k),inv,y,z.up,A,B,C,λk=>nv (D k),qJ E F,G,H,K⟩
theorem aG.next {t:Nat->TV} {ks:List (Nat×TV)} {a:List (Id×Mem)} {inv:Prop} (b:fk m (aQ a) a) (c:fj t m (aQ a) ks) (h:inv):aG t m (λf g=>f=cE ks/\g=aQ a/\inv):=
 ⟨_,_,qJ b c,rfl,rfl,h⟩
end Go.Vm
namespace Go.Vm
open Go Go.RowKit Go.Proofs
namespace Sg
abbrev iO (o:LV) (h:List (LV)):DV:= .agg [aN o,hS h]
variable {cap:Nat->SV}
theorem aD.fn {f n:Nat} {a:Nat->SV} (h:∀j,j<n->aD (cap j) (a j)):aD (.fn f n cap) (.fn f n a):=λS w x r=>by
 obtain⟨xs,rfl,c⟩:=Rd.jN r;exact .fn xs (λj b=>h j b _ _ _ (c j b))
theorem aD.ad {n:Nat} {cell a:Nat->SV} (h:∀j,j<n->aD (cell j) (a j)):aD (.ad n cell) (.ad n a):=λS w x r=>by
 obtain⟨b,k,xs,rfl,f,g,i⟩:=Rd.mD r;exact .ad xs f g (λj c=>h j c _ _ _ (i j c))
theorem sK (o:LV) (h:List (LV)):DP 59 [iO o h] (.d (.one (.fn 110 1 λ_=> .ad 2 (KL o h)))):=by
 refine dg Tryz.func59 [] ?_;refine Fin.one (aD.fn (λj a=>?_))
 match j,a with
 |0,_=>exact aD.ad (λi b=>match i,b with
  |0,_=>aD.refl _
  |1,_=>aD.refl _)
variable {P:Program} {N g p:Nat} {bd sa:Code} {Q:iW} {m:Id->Mem} {xs:List DV}
theorem hD.Tq {f:Operand} {ps:Array Tmp} {o r:iW->(Nat->TV)->(Id->Mem)->Prop} {t:Nat->TV} {n:Nat}
  (ks:Nat->List (Nat×TV)) (c:Nat->List (Id×Mem)) (inv:Nat->Prop) (u:bE t f= .d (.one (.fn g n cap))) (w:zX P g (cells n cap) xs) (y:ps=#[p]) (z:p<N) (A:(eG sa&&eG bd)=true)
  (B:∀k,(ks k).all (λq=>!((p::(jg sa++jg bd)).any (Nat.beq q.1)))=true) (C:aG t m (λa b=>a=cE (ks 0)/\b=aQ (c 0)/\inv 0))
  (D:∀k x,xs[k]? =some x->inv k->o (λe E F=>match e with
   | .normal=>r (λe j l=>match e with
    | .normal=>aG j l λa b=>a=cE (ks (k+1))/\b=aQ (c (k+1))/\inv (k+1)
    | .exit i=>aG j l λa b=>uF (p::(jg sa++jg bd)) a/\Q (.exit i) a b
    | .ret=>aG j l λa b=>uF (p::(jg sa++jg bd)) a/\Q .ret a b) E F
   |_=>False) (bj (cE (ks k)) p (.d x)) (aQ (c k)))
  (G:inv xs.length->Q .normal (cE (ks xs.length)) (aQ (c xs.length))):hD P N f ps sa bd o r Q t m:=by
 obtain⟨I,J,H,rfl,rfl,hi⟩:=C;exact⟨g,n,cap,xs,p,λk=>cE (ks k),λk=>aQ (c k),inv,u,w,y,z,A,λk=>nv (B k),H,hi,D,G⟩
theorem hD.adj {f:Operand} {ps:Array Tmp} {o r:iW->(Nat->TV)->(Id->Mem)->Prop} {t:Nat->TV} {n:Nat}
  (ks:Nat->List (Nat×TV)) (c:Nat->List (Id×Mem)) (inv:Nat->Prop) (u:bE t f= .d (.one (.fn g n cap))) (w:Iter P g (cells n cap) xs) (y:ps=#[p]) (z:p<N) (A:(eG sa&&eG bd)=true)
  (B:∀k,(ks k).all (λq=>!((p::(jg sa++jg bd)).any (Nat.beq q.1)))=true) (C:aG t m (λa b=>a=cE (ks 0)/\b=aQ (c 0)/\inv 0))
  (D:∀k x,xs[k]? =some x->inv k->o (λe E F=>match e with
   | .normal=>r (λe j l=>match e with
    | .normal=>aG j l λa b=>a=cE (ks (k+1))/\b=aQ (c (k+1))/\inv (k+1)
    | .exit i=>aG j l λa b=>uF (p::(jg sa++jg bd)) a/\Q (.exit i) a b
    | .ret=>aG j l λa b=>uF (p::(jg sa++jg bd)) a/\Q .ret a b) E F
   |_=>False) (bj (cE (ks k)) p (.d x)) (aQ (c k)))
  (G:inv xs.length->Q .normal (cE (ks xs.length)) (aQ (c xs.length))):hD P N f ps sa bd o r Q t m:=hD.Tq ks c inv u w.up y z A B C D G
theorem FU (l:LV) (b:l.length<=40000):DP 93 [.one (aN l)] (.d (.one (aN l))):=by
 refine dg Tryz.func93 [] ?_;refine Tw.mk ?_ (λa=>?_);refine ak.mk (aS) ?_;exact Fin.one (aD.pQ (Ya _) (λi c j f=>aD.of_eq (by rw[ht (XO i)];rfl)));obtain rfl:l=[]:=Y0 a;exact Fin.one (aD.nil _ _)
variable {P:Program} {args:List DV}
theorem lY.vt {f:FuncId} {e:Bool} (h:lY P f args (aE e)) (b:Bool) (a:e=b):lY P f args (aE b):=a▸h
theorem lY.vi {f:FuncId} {e:Int} (h:lY P f args (au e)) (b:Int) (a:e=b):lY P f args (au b):=a▸h
def FB (n:Nat) (B:Nat->Bool):Int:=match (List.range n).find? B with
 |some k=>(k:Int)
 |none=> -1
variable {B:Nat->Bool}
theorem jQ {n k:Nat} (a:k<n) (h:B k=true) (b:∀i,i<k->B i=false):FB n B=k:=by
 unfold FB;rw[aa5.2 ⟨h,X6.2 a,λj c=>by rw[b j c];rfl⟩]
theorem lF {n:Nat} (a:∀i,i<n->B i=false):FB n B= -1:=by
 unfold FB;rw[aa6.2 (λj b=>by rw[a j b];rfl)]
theorem rC (n:Nat) (B:Nat->Bool):decide (FB n B>=0)=!bn n λk=>!B k:=by
 unfold FB;cases h:(List.range n).find? B with
 |none=>have:=aa6.1 h;rw[aF.2 this];rfl
 |some k=>
  obtain⟨a,b,_⟩:=aa5.1 h;have:bn n (λk=>!B k)=false:=by
   cases c:bn n (λk=>!B k)with
   |false=>rfl
   |true=>have:=aF.1 c k (X6.1 b);rw[a]at this;cases this
  rw[this];simp
theorem Mw (l:LV) (f n:Nat) (cap:Nat->SV) (B:Nat->Bool) (q:l.length<=40000) (o:∀k,k<l.length->DP f (vD (gt l k)::fG n cap) (aE (B k))):
  DP 183 [.one (aN l),.one (.fn f n cap)] (au (FB l.length B)):=by
 refine dg Tryz.func183 [] ?_;refine Loop.by (α:=Nat) (λk=>[(0,.d (.one (aN l))),(1,.d (.one (.fn f n cap))),(7,au l.length),(8,au k)]) (λ_=>[]) (λk=>k<=l.length/\∀i,i<k->B i=false) (λk=>l.length-k)
  (aG.at 0 ⟨XR _,λ_ h=>absurd h (XO _)⟩ .nil (.cS (.cS (.cS (.cS .nil))))) (λk c=>?_)
 obtain⟨c,a⟩:=c;apply af.mk<;>intro h
 ·have g:k<l.length:=(by simpa using h);refine ak.o ?_;refine ai.bool (o k g) (λb j=>?_);apply af.mk<;>intro m
  ·exact Fin.int (jQ g (by rw[<-j,m]) a).symm
  ·refine aG.back (x:=k) (k+1) ⟨by omega,λi r=>?_⟩ (by omega) .nil (.cS (.cS (.cS (.cons (ar.int ?_) .nil))));by_cases e:i=k;rw[e,<-j,m];exact a i (by omega);rw[hw _];omega
 ·have p:k=l.length:=(by have:¬k<l.length:=(by simpa using h);omega);subst p;exact Fin.int (by rw[lF a])
theorem Qe (l:LV) (f n:Nat) (cap:Nat->SV) (B:Nat->Bool) (a:l.length<=40000) (b:∀k,k<l.length->DP f (vD (gt l k)::fG n cap) (aE (B k))):
  DP 116 [.one (aN l),.one (.fn f n cap)] (aE (!bn l.length λk=>!B k)):=by
 refine dg Tryz.func116 [] ?_;refine ai.int (Mw l f n cap B a b) (λm c=>?_);exact Fin.bool (by rw[<-rC l.length B,<-c])
theorem Mu (l:LV) (f n:Nat) (cap:Nat->SV) (B:Nat->Bool) (q:l.length<=40000) (o:∀k,k<l.length->DP f (vD (gt l k)::fG n cap) (aE (B k))):
  DP 194 [.one (aN l),.one (.fn f n cap)] (au (FB l.length B)):=by
 refine dg Tryz.func194 [] ?_;refine Loop.by (α:=Nat) (λk=>[(0,.d (.one (aN l))),(1,.d (.one (.fn f n cap))),(7,au l.length),(8,au k)]) (λ_=>[]) (λk=>k<=l.length/\∀i,i<k->B i=false) (λk=>l.length-k)
  (aG.at 0 ⟨XR _,λ_ h=>absurd h (XO _)⟩ .nil (.cS (.cS (.cS (.cS .nil))))) (λk c=>?_)
 obtain⟨c,a⟩:=c;apply af.mk<;>intro h
 ·have g:k<l.length:=(by simpa using h);refine ak.o ?_;refine ai.bool (o k g) (λb j=>?_);apply af.mk<;>intro m
  ·exact Fin.int (jQ g (by rw[<-j,m]) a).symm
  ·refine aG.back (x:=k) (k+1) ⟨by omega,λi r=>?_⟩ (by omega) .nil (.cS (.cS (.cS (.cons (ar.int ?_) .nil))));by_cases e:i=k;rw[e,<-j,m];exact a i (by omega);rw[hw _];omega
 ·have p:k=l.length:=(by have:¬k<l.length:=(by simpa using h);omega);subst p;exact Fin.int (by rw[lF a])
theorem vu (l:LV) (f n:Nat) (cap:Nat->SV) (B:Nat->Bool) (a:l.length<=40000) (b:∀k,k<l.length->DP f (vD (gt l k)::fG n cap) (aE (B k))):
  DP 128 [.one (aN l),.one (.fn f n cap)] (aE (!bn l.length λk=>!B k)):=by
 refine dg Tryz.func128 [] ?_;refine ai.int (Mu l f n cap B a b) (λm c=>?_);exact Fin.bool (by rw[<-rC l.length B,<-c])
theorem Mv (l:List cp) (f n:Nat) (cap:Nat->SV) (B:Nat->Bool) (q:l.length<=40000) (o:∀k,k<l.length->DP f (sD (bh l k)::fG n cap) (aE (B k))):
  DP 214 [.one (mX l),.one (.fn f n cap)] (au (FB l.length B)):=by
 refine dg Tryz.func214 [] ?_;refine Loop.by (α:=Nat) (λk=>[(0,.d (.one (mX l))),(1,.d (.one (.fn f n cap))),(7,au l.length),(8,au k)]) (λ_=>[]) (λk=>k<=l.length/\∀i,i<k->B i=false) (λk=>l.length-k)
  (aG.at 0 ⟨XR _,λ_ h=>absurd h (XO _)⟩ .nil (.cS (.cS (.cS (.cS .nil))))) (λk c=>?_)
 obtain⟨c,a⟩:=c;apply af.mk<;>intro h
 ·have g:k<l.length:=(by simpa using h);refine ak.o ?_;refine ai.bool (o k g) (λb j=>?_);apply af.mk<;>intro m
  ·exact Fin.int (jQ g (by rw[<-j,m]) a).symm
  ·refine aG.back (x:=k) (k+1) ⟨by omega,λi r=>?_⟩ (by omega) .nil (.cS (.cS (.cS (.cons (ar.int ?_) .nil))));by_cases e:i=k;rw[e,<-j,m];exact a i (by omega);rw[hw _];omega
 ·have p:k=l.length:=(by have:¬k<l.length:=(by simpa using h);omega);subst p;exact Fin.int (by rw[lF a])
theorem H8 (l:List cp) (f n:Nat) (cap:Nat->SV) (B:Nat->Bool) (a:l.length<=40000) (b:∀k,k<l.length->DP f (sD (bh l k)::fG n cap) (aE (B k))):
  DP 172 [.one (mX l),.one (.fn f n cap)] (aE (!bn l.length λk=>!B k)):=by
 refine dg Tryz.func172 [] ?_;refine ai.int (Mv l f n cap B a b) (λm c=>?_);exact Fin.bool (by rw[<-rC l.length B,<-c])
theorem Mx (l:List (LV)) (f n:Nat) (cap:Nat->SV) (B:Nat->Bool) (q:l.length<=40000) (o:∀k,k<l.length->DP f (.one (aN (l.getD k []))::fG n cap) (aE (B k))):
  DP 108 [.one (hS l),.one (.fn f n cap)] (au (FB l.length B)):=by
 refine dg Tryz.func108 [] ?_;refine Loop.by (α:=Nat) (λk=>[(0,.d (.one (hS l))),(1,.d (.one (.fn f n cap))),(7,au l.length),(8,au k)]) (λ_=>[]) (λk=>k<=l.length/\∀i,i<k->B i=false) (λk=>l.length-k)
  (aG.at 0 ⟨XR _,λ_ h=>absurd h (XO _)⟩ .nil (.cS (.cS (.cS (.cS .nil))))) (λk c=>?_)
 obtain⟨c,a⟩:=c;apply af.mk<;>intro h
 ·have g:k<l.length:=(by simpa using h);refine ak.o ?_;refine ai.bool (o k g) (λb j=>?_);apply af.mk<;>intro m
  ·exact Fin.int (jQ g (by rw[<-j,m]) a).symm
  ·refine aG.back (x:=k) (k+1) ⟨by omega,λi r=>?_⟩ (by omega) .nil (.cS (.cS (.cS (.cons (ar.int ?_) .nil))));by_cases e:i=k;rw[e,<-j,m];exact a i (by omega);rw[hw _];omega
 ·have p:k=l.length:=(by have:¬k<l.length:=(by simpa using h);omega);subst p;exact Fin.int (by rw[lF a])
theorem Qf (l:List (LV)) (f n:Nat) (cap:Nat->SV) (B:Nat->Bool) (a:l.length<=40000) (b:∀k,k<l.length->DP f (.one (aN (l.getD k []))::fG n cap) (aE (B k))):
  DP 56 [.one (hS l),.one (.fn f n cap)] (aE (!bn l.length λk=>!B k)):=by
 refine dg Tryz.func56 [] ?_;refine ai.int (Mx l f n cap B a b) (λm c=>?_);exact Fin.bool (by rw[<-rC l.length B,<-c])
def BI (a b:LV):Prop:=∀i,i<(ay a).length->∀k,k<(ay b).length->(cU (bh (ay a) i) (bh (ay b) k)).kind=0
abbrev aP (L:List (LV)):Nat:=(L.map List.length).sum
def xQ (r l:LV) (w:Int):Prop:=∀k,k<r.length->er l (gt r k)=w
structure VS (o:LV) (hs:List (LV)):Prop where
 KI:hs.length<=6
 vo:cj o=true
 vh:∀i,i<hs.length->cj (hs.getD i [])=true
 eZ:aP (o::hs)<=80
 ins:∀i,i<hs.length->xQ (hs.getD i []) o 2
 off:∀i,i<hs.length->BI (hs.getD i []) o
 pair:∀i j,j<i->i<hs.length->BI (hs.getD i []) (hs.getD j [])/\xQ (hs.getD i []) (hs.getD j []) 0/\xQ (hs.getD j []) (hs.getD i []) 0
theorem ph {l:LV} (h:l.length<=40000):(ay l).length<=40000:=by unfold ay;split<;>simp;omega
theorem hN {l:LV} (h:cj l=true):l.length<=40000:=by have:=(fg.1 h).Dw;omega
theorem oX {L:List (LV)} {r:LV} (h:r∈L):r.length<=aP L:=by
 induction L with
 |nil=>cases h
 |cons a L b=>simp only[aP,Yz,List.sum_cons];rcases XD.1 h with rfl|h;omega;have:=b h;simp only[aP]at this;omega
variable {k:Nat}
theorem Jn {L:List (LV)} {r:LV} (h:L[k]? =some r):aP (L.take (k+1))=aP (L.take k)+r.length:=by
 rw[YL,h];simp[aP]
theorem eI (L:List (LV)) (k:Nat):aP (L.take k)<=aP L:=by
 induction L generalizing k with
 |nil=>simp[aP]
 |cons a L b=>
  cases k with
  |zero=>simp[aP]
  |succ k=>have:=b k;simp only[aP,abz,Yz,List.sum_cons]at this|-;omega
theorem Lb {o:LV} {hs:List (LV)} {x:DV} (h:(DV.one (aN o)::hs.map (λr=> .one (aN r)))[k]? =some x):∃r,(o::hs)[k]? =some r/\x= .one (aN r):=by
 have e:(DV.one (aN o)::hs.map (λr=> .one (aN r)))=(o::hs).map λr=> .one (aN r):=rfl;rw[e,ZA]at h;cases a:(o::hs)[k]? with
 |none=>rw[a]at h;cases h
 |some r=>rw[a]at h;cases h;exact⟨r,rfl,rfl⟩
theorem VS.ring {o:LV} {hs:List (LV)} (V:VS o hs) {r:LV} (h:r∈o::hs):cj r=true:=by
 rcases XD.1 h with rfl|h;exact V.vo;obtain⟨i,hi,e⟩:=ZI h;have:=V.vh i hi;simpa[List.getD,hi,e]using this
theorem we (a b:LV) (f:a.length<=40000) (g:b.length<=40000) (h:BI a b):DP 62 [.one (aN a),.one (aN b)] (aE true):=by
 refine dg Tryz.func62 [] ?_;have m:=ph f;have o:=ph g;refine ai.mk' (lI a f) ?_;refine Loop.by (α:=Nat) (λi=>[(1,.d (.one (aN b))),(10,.d (.one (mX (ay a)))),(11,au (ay a).length),(12,au i)]) (λ_=>[]) (λi=>i<=(ay a).length) (λi=>(ay a).length-i)
  (aG.at 0 (XR _) .nil (.cS (.cS (.cS (.cS .nil))))) (λi p=>?_)
 apply af.mk<;>intro c
 ·have j:i<(ay a).length:=(by have:=XA c;omega);refine ak.o ?_;refine ai.mk' (lI b g) ?_;refine Loop.by (α:=Nat) (λk=>[(1,.d (.one (aN b))),(6,.ptr 6 0),(10,.d (.one (mX (ay a)))),(11,au (ay a).length),(12,au i),(17,.d (.one (mX (ay b)))),(18,au (ay b).length),(19,au k)]) (λ_=>[(6,.box (sL (bh (ay a) i)))]) (λk=>k<=(ay b).length) (λk=>(ay b).length-k)
   (aG.at 0 (XR _) (.cX .nil) (.cS (.cB (.cS (.cS (.cS (.cS (.cS (.cS .nil))))))))) (λk q=>?_)
  apply af.mk<;>intro d
  ·have l:k<(ay b).length:=(by have:=XA d;omega);refine ak.o ?_;refine ai.mk' (lY.vi (kV (bh (ay a) i) (bh (ay b) k)) 0 (h i j k l)) ?_;refine af.f ?_;exact aG.back (x:=k) (k+1) (by show k+1<=_;omega) (by omega) (.cX .nil) (.cS (.cB (.cS (.cS (.cS (.cS (.cS (.cons (ar.int (by rw[hw _];omega)) .nil))))))))
  ·exact aG.back (x:=i) (i+1) (by show i+1<=_;omega) (by omega) .nil (.cS (.cS (.cS (.cons (ar.int (by rw[hw _];omega)) .nil))))
 ·exact Fin.bool rfl
theorem IK (v:V2) (l:LV) (w:Int) (a:l.length<=40000):DP 117 [vD v,.one (.ad 1 λj=>[aN l].getD j (.v Go.undef)),.one (.ad 1 λj=>[i64 w].getD j (.v Go.undef))] (aE (decide (er l v≠w))):=by
 refine dg Tryz.func117 [] ?_;refine ai.int (Er l v a) (λn b=>?_);refine ak.n ?_;refine Fin.bool ?_;rw[<-b];by_cases e:n=w;subst e;simp[bne];simp[bne,e]
theorem wg (r l:LV) (w:Int) (b:r.length<=40000) (c:l.length<=40000) (h:xQ r l w):DP 61 [.one (aN r),.one (aN l),.one (i64 w)] (aE true):=by
 refine dg Tryz.func61 [] ?_;refine ai.mk' (Qe r _ 2 _ (λk=>decide (er l (gt r k)≠w)) b (λk a=>IK (gt r k) l w c)) ?_;refine Fin.bool ?_;have:(bn r.length λk=>!decide (er l (gt r k)≠w))=true:=aF.2 (λk a=>by rw[h k a];simp);rw[this];rfl
theorem iZ {o:LV} {hs:List (LV)} (V:VS o hs):DP 25 [iO o hs] (aE true):=by
 refine dg Tryz.func25 [] ?_;have C:=V.KI;have g:=hN V.vo;have a:∀i,i<hs.length->(hs.getD i []).length<=40000:=λi h=>hN (V.vh i h);refine af.fh (dF) ?_;refine ai.mk' (sK o hs) ?_;refine hD.by (λ_=>[(1,.ptr 1 0),(2,.ptr 2 0),(3,.ptr 3 0)]) (λk=>[(1,.box [aN o,hS hs]),(2,.box [.v (.bool false)]),(3,.box [i64 (aP ((o::hs).take k):Nat)])]) (λk=>True)
  rfl (qj o hs) rfl (by decide) (by kernel_rfl) (λ_=>rfl) (.cX (.cX (.cX .nil))) (.cB (.cB (.cB .nil))) trivial (λk x p _=>?_) (λD=>?_)
 ·obtain⟨r,l,rfl⟩:=Lb p;have m:=V.ring (Zj l);have q:=hN m;refine ai.mk' (lY.vt (qc r q) true m) ?_;refine af.f ?_;refine aG.next (.cX (.cX (.cons (.box (.cons (aD.of_eq ?_) .nil)) .nil))) (.cB (.cB (.cB .nil))) trivial;have t:=Jn l;have u:=eI (o::hs) k;have w:=V.eZ;show i64 (IntKind.i64.wrap ((aP ((o::hs).take k):Nat)+(r.length:Int)))=_;rw[wid,t];congr 3
 ·have u:=eI (o::hs) (DV.one (aN o)::hs.map (λr=> .one (aN r))).length;have w:=V.eZ;refine af.fh (dF) ?_;refine Loop.by (α:=Nat) (λi=>[(1,.ptr 1 0),(2,.ptr 2 0),(26,.d (.one (hS hs))),(27,au hs.length),(28,au i)]) (λi=>[(1,.box [aN o,hS hs]),(2,.box [.v (.bool false)])]) (λi=>i<=hs.length) (λi=>hs.length-i)
   (aG.at 0 (XR _) (.cX (.cX .nil)) (.cB (.cB (.cS (.cS (.cS .nil)))))) (λi h=>?_)
  apply af.mk<;>intro c
  ·have b:i<hs.length:=(by have:=XA c;omega);refine ak.o ?_;refine ai.mk' (wg (hs.getD i []) o 2 (a i b) g (V.ins i b)) ?_;repeat' first|apply af.t|apply af.f
   refine ai.mk' (we (hs.getD i []) o (a i b) g (V.off i b)) ?_;repeat' first|apply af.t|apply af.f
   refine ak.o ?_;refine Loop.by (α:=Nat) (λk=>[(1,.ptr 1 0),(2,.ptr 2 0),(6,.d (.one (aN (hs.getD i [])))),(26,.d (.one (hS hs))),(27,au hs.length),(28,au i),(48,.d (.one (.sl i 1 λj _=>aN (hs.getD j [])))),(49,au i),(50,au k)]) (λi=>[(1,.box [aN o,hS hs]),(2,.box [.v (.bool false)])]) (λk=>k<=i) (λk=>i-k)
    (aG.at 0 (XR _) (.cX (.cX .nil)) (.cB (.cB (.cS (.cS (.cS (.cS (.cons (.data (dX.one (aD.pQ (by simp) (λj _ _ _=>aD.of_eq (by simp))))) (.cons (ar.int (by simp)) (.cS .nil)))))))))) (λk E=>?_)
   apply af.mk<;>intro d
   ·have y:k<i:=(by have:=XA d;omega);have f:k<hs.length:=(by omega);obtain⟨z,A,B⟩:=V.pair i k y b;refine ak.o ?_;refine ai.mk' (we (hs.getD i []) (hs.getD k []) (a i b) (a k f) z) ?_;repeat' first|apply af.t|apply af.f
    refine ai.mk' (wg (hs.getD i []) (hs.getD k []) 0 (a i b) (a k f) A) ?_;repeat' first|apply af.t|apply af.f
    refine ai.mk' (wg (hs.getD k []) (hs.getD i []) 0 (a k f) (a i b) B) ?_;repeat' first|apply af.t|apply af.f
    exact aG.back (x:=k) (k+1) (by show k+1<=i;omega) (by omega) (.cX (.cX .nil)) (.cB (.cB (.cS (.cS (.cS (.cS (.cS (.cS (.cons (ar.int (by rw[hw _];omega)) .nil)))))))))
   ·exact aG.back (x:=i) (i+1) (by show i+1<=_;omega) (by omega) (.cX (.cX .nil)) (.cB (.cB (.cS (.cS (.cons (ar.int (by rw[hw _];omega)) .nil)))))
  ·exact Fin.bool rfl
theorem VS.len {o:LV} {hs:List (LV)} (V:VS o hs) {r:LV} (h:r∈o::hs):r.length<=80:=Yg (oX h) V.eZ
variable {k:Nat}
theorem PM {α:Type} {L:List α} {r d:α} (h:L[k]? =some r):L.getD k d=r:=by simp[List.getD,h]
theorem iA (o:LV) (hs:List (LV)) (l:hs.length<=40000) (c:∀r∈o::hs,r.length<=40000):DP 140 [iO o hs] (.d (.one (hS (o::hs)))):=by
 refine dg Tryz.func140 [] ?_;refine ai.mk' (sK o hs) ?_;refine hD.adj (λ_=>[(3,.ptr 3 0)]) (λk=>[(3,.obj [.aJ 500 0]),(500,.aL 0 k 1 42 λi _=>aN ((o::hs).getD i []))]) (λ_=>True)
  rfl (qj o hs) rfl (by decide) (by kernel_rfl) (λ_=>rfl)
  (aG.q8 3 0 500 1 42 (λi _=>aN ((o::hs).getD i [])) _ _ rfl rfl rfl rfl (aG.next (.cons (.obj (.cons (.aJ (by intro q;cases q) rfl rfl) .nil)) (.cons (.aR rfl (λi a _ _=>absurd a (XO _))) .nil)) (.cons (.ptr (by intro q;cases q)) .nil) trivial)) (λk x f _=>?_) (λ_=>?_)
 ·obtain⟨r,b,rfl⟩:=Lb f;have g:=(Ye.1 b).1;rw[XV]at g;refine ai.mk' (FU r (c r (Zj b))) ?_;refine ak.mk (aS) ?_;refine ak.n ?_;refine aG.next (.cons (.obj (.cons (.aJ (by intro q;cases q) rfl rfl) .nil)) (.cons (.aR rfl (λi a j h=>?_)) .nil)) (.cons (.ptr (by intro q;cases q)) .nil) trivial;obtain rfl:j=0:=(by omega);refine aD.bif (λ_=>aD.refl _) (λm=>?_);obtain rfl:i=k:=(by omega);rw[PM b];rw[Zb];exact aD.refl _
 ·refine Fin.one (aD.pQ (by simp) (λi a j h=>aD.refl _))
theorem Sb {a b:List cp} {i j:Nat}:aD (bif Nat.blt i a.length then sG a i j else sG b (i-a.length) j) (sG (a++b) i j):=by
 refine aD.bif (λh=>aD.of_eq (KW ?_ j)) (λh=>aD.of_eq (KW ?_ j));simp[bh,List.getD,Yl,h];simp[bh,List.getD,Yl,abg.2 h]
def cI (L:List (LV)):List cp:=L.flatMap ay
theorem JC {L:List (LV)} {r:LV} (h:L[k]? =some r):cI (L.take (k+1))=cI (L.take k)++ay r:=by
 unfold cI;rw[YL,h];simp
theorem oh (L:List (LV)):(cI L).length<=aP L:=by
 induction L with
 |nil=>simp[cI]
 |cons a L b=>have:(ay a).length<=a.length:=(by unfold ay;split<;>simp);simp only[cI,aP,aar,XQ,Yz,List.sum_cons]at b|-;omega
theorem kh (o:LV) (hs:List (LV)) (h:aP (o::hs)<=40000:=by omega):DP 130 [iO o hs] (.d (.one (mX (cI (o::hs))))):=by
 refine dg Tryz.func130 [] ?_;refine ai.mk' (sK o hs) ?_;refine hD.adj (λ_=>[(3,.ptr 3 0)]) (λk=>[(3,.obj [.aJ 500 0]),(500,.aL 0 (cI ((o::hs).take k)).length 4 163 (sG (cI ((o::hs).take k))))]) (λ_=>True)
  rfl (qj o hs) rfl (by decide) (by kernel_rfl) (λ_=>rfl)
  (aG.q8 3 0 500 4 163 (sG []) _ _ rfl rfl rfl rfl (aG.next (.cons (.obj (.cons (.aJ (by intro q;cases q) rfl rfl) .nil)) (.cons (.aR rfl (λi a _ _=>absurd a (XO _))) .nil)) (.cons (.ptr (by intro q;cases q)) .nil) trivial)) (λk x f _=>?_) (λ_=>?_)
 ·obtain⟨r,b,rfl⟩:=Lb f;have c:=JC b;have l:=oh ((o::hs).take k);have m:=eI (o::hs) k;have p:=oX (Zj b);have t:(ay r).length<=r.length:=(by unfold ay;split<;>simp);refine ai.mk' (lI r) ?_;refine ak.mk (aS) ?_;refine ak.n ?_;refine aG.next (.cons (.obj (.cons (.aJ (by intro q;cases q) rfl rfl) .nil)) (.cons (.aR (by rw[c,XQ]) (λi a j g=>by rw[c];exact Sb)) .nil)) (.cons (.ptr (by intro q;cases q)) .nil) trivial
 ·have:(o::hs).take (DV.one (aN o)::hs.map (λr=> .one (aN r))).length=o::hs:=Zi (by simp);exact Fin.one (aD.pQ (by rw[this]) (λi a j g=>by rw[this];exact aD.refl _))
def J6 (p:P3):Int->List (LV)->Int
 |w,[]=>w
 |w,h::r=>if bH h p=2 then 0 else if bH h p=1 then 1 else J6 p w r
def J5 (o:LV) (hs:List (LV)) (p:P3):Int:=if bH o p≠2 then bH o p else J6 p (bH o p) hs
theorem yP {o:LV} {hs:List (LV)} (V:VS o hs) (p:P3):DP 195 [iO o hs,pD p] (au (J5 o hs p)):=by
 refine dg Tryz.func195 [] ?_;have l:=V.KI;refine ai.mk' (iZ V) ?_;refine af.f ?_;refine ai.int (r7 o p (hN V.vo)) (λt h=>?_);unfold J5;rw[<-h];apply af.mk<;>intro b
 ·exact Fin.int (by rw[XL (by simpa[bne]using b)])
 ·have b:¬t≠2:=(by simpa[bne]using b);rw[XG b];refine Loop.by (α:=Nat) (λi=>[(3,.ptr 3 0),(5,au t),(19,.d (.one (hS hs))),(20,au hs.length),(21,au i)]) (λi=>[(3,.box (pL p))]) (λi=>i<=hs.length/\J6 p t (hs.drop i)=J6 p t hs) (λi=>hs.length-i)
   (aG.at 0 ⟨XR _,rfl⟩ (.cX .nil) (.cB (.cS (.cS (.cS (.cS .nil)))))) (λi g=>?_)
  obtain⟨g,a⟩:=g;apply af.mk<;>intro c
  ·have f:i<hs.length:=(by have:=XA c;omega);have j:hs.drop i=hs.getD i []::hs.drop (i+1):=(by rw[Y8 f];simp[List.getD,f]);rw[j]at a;simp only[J6]at a;refine ak.o ?_;refine ai.int (r7 (hs.getD i []) p (hN (V.vh i f))) (λq k=>?_);rw[<-k]at a;apply af.mk<;>intro d
   ·have d:q=2:=(by simpa using d);exact Fin.int (by rw[<-a,XL d])
   ·have d:¬q=2:=(by simpa using d);rw[XG d]at a;apply af.mk<;>intro e
    ·have e:q=1:=(by simpa using e);exact Fin.int (by rw[<-a,XL e])
    ·have e:¬q=1:=(by simpa using e);rw[XG e]at a;exact aG.back (x:=i) (i+1) ⟨by omega,a⟩ (by omega) (.cX .nil) (.cB (.cS (.cS (.cS (.cons (ar.int (by rw[hw _];omega)) .nil)))))
  ·have:hs.length<=i:=(by have:=XB c;omega);rw[aaG this]at a;exact Fin.int a
def kc (o:LV) (hs:List (LV)) (v:V2):Int:=if aY v 4000=true then J5 o hs (cm v)else 0
theorem wa {o:LV} {hs:List (LV)} (V:VS o hs) (v:V2):DP 134 [iO o hs,vD v] (au (kc o hs v)):=by
 refine dg Tryz.func134 [] ?_;refine ai.bool (ea v 4000) (λb c=>?_);unfold kc;rw[<-c];apply af.mk<;>intro a
 ·exact Fin.int (by rw[XG (by simpa using a)])
 ·refine ai.mk' (nH v) ?_;refine ai.mk' (yP V (cm v)) ?_;refine ak.n ?_;exact Fin.int (by rw[XL (by simpa using a)])
def SC (X:Nat->Int):Nat->Int
 |0=>X 0
 |k+1=>cQ (SC X k) (X k)
def SF (X:Nat->Int):Nat->Int
 |0=>X 0
 |k+1=>bU (SF X k) (X k)
abbrev Vj (l:LV):V2:=⟨SC (λi=>(gt l i).x) l.length,SC (λi=>(gt l i).y) l.length⟩
abbrev Vk (l:LV):V2:=⟨SF (λi=>(gt l i).x) l.length,SF (λi=>(gt l i).y) l.length⟩
abbrev WG (lo hi:V2):LV:=[lo,⟨hi.x,lo.y⟩,hi,⟨lo.x,hi.y⟩]
def pI (a b:V2):Int:=bW (bW (a.x*b.x)+bW (a.y*b.y))
theorem dt (a b:V2):DP 197 [vD a,vD b] (au (pI a b)):=by
 refine dg Tryz.func197 [] ?_;repeat' first|refine ak.n ?_|fail
 exact Fin.int rfl
def N6 (f d:V2):Int:=if 0<eJ f d then 0 else if eJ f d<0 then 2 else if pI f d<0 then 1 else 3
theorem wz (f d:V2):DP 136 [vD f,vD d] (au (N6 f d)):=by
 refine dg Tryz.func136 [] ?_;refine ai.int (dH f d) (λn a=>?_);unfold N6;rw[<-a];apply af.mk<;>intro c
 ·exact Fin.int (by rw[XL (XA c)])
 ·rw[XG (XB c)];apply af.mk<;>intro c
  ·exact Fin.int (by rw[XL (XA c)])
  ·rw[XG (XB c)];refine ai.int (dt f d) (λk b=>?_);rw[<-b];apply af.mk<;>intro c
   ·exact Fin.int (by rw[XL (XA c)])
   ·exact Fin.int (by rw[XG (XB c)])
def TI (f g d:V2):Bool:=decide (N6 f d<N6 f g)||(decide (N6 f d=N6 f g)&&(decide (N6 f d≠3)&&decide (0<eJ d g)))
theorem zk (f g d:V2):DP 137 [sD ⟨f,g⟩,vD d] (aE (TI f g d)):=by
 refine dg Tryz.func137 [] ?_;refine ai.int (wz f d) (λx j=>?_);refine ai.int (wz f g) (λy k=>?_);refine ak.n ?_;unfold TI;rw[<-j,<-k];apply af.mk<;>intro c
 ·repeat' first|apply af.is c|apply af.t|apply af.f
  exact Fin.bool (by rw[show decide (x<y)=true from c];rfl)
 ·repeat' first|apply af.is c|apply af.t|apply af.f
  rw[show decide (x<y)=false from c];apply af.mk<;>intro a
  ·have h:x=y:=(by simpa using a);repeat' first|apply af.is a|apply af.is c|apply af.t|apply af.f
   rw[X4 h];apply af.mk<;>intro b
   ·have i:x≠3:=(by simpa[bne]using b);repeat' first|apply af.is b|apply af.is a|apply af.is c|apply af.t|apply af.f
    refine ai.int (dH d g) (λz l=>?_);repeat' first|apply af.is b|apply af.is a|apply af.is c|apply af.t|apply af.f
    rw[<-l,X4 i];exact Fin.bool rfl
   ·have i:¬x≠3:=(by simpa[bne]using b);repeat' first|apply af.is b|apply af.is a|apply af.is c|apply af.t|apply af.f
    rw[XZ i];exact Fin.bool rfl
  ·have h:¬x=y:=(by simpa using a);repeat' first|apply af.is a|apply af.is c|apply af.t|apply af.f
   rw[XZ h];exact Fin.bool rfl
def SA (s t:cp):Bool:=decide (N6 s.a t.a=3)||(TI s.a s.b t.a||TI t.a t.b s.a)
theorem Je (s t:cp):DP 81 [sD s,sD t] (aE (SA s t)):=by
 refine dg Tryz.func81 [] ?_;refine ai.int (wz s.a t.a) (λx b=>?_);unfold SA;rw[<-b];apply af.mk<;>intro c
 ·have a:x=3:=(by simpa using c);repeat' first|apply af.is c|apply af.t|apply af.f
  exact Fin.bool (by rw[X4 a];rfl)
 ·have a:¬x=3:=(by simpa using c);repeat' first|apply af.is c|apply af.t|apply af.f
  rw[XZ a];refine ai.bool (zk s.a s.b t.a) (λu f=>?_);rw[<-f];cases u with
  |true=>
   repeat' first|apply af.is c|apply af.t|apply af.f
   exact Fin.bool rfl
  |false=>
   repeat' first|apply af.is c|apply af.t|apply af.f
   refine ai.bool (zk t.a t.b s.a) (λv g=>?_);rw[<-g];repeat' first|apply af.is c|apply af.t|apply af.f
   exact Fin.bool rfl
theorem M5 (s t:cp):DP 83 [sD s,sD t] (aE (!SA s t)):=by
 refine dg Tryz.func83 [] ?_;refine ai.bool (Je s t) (λu a=>?_);exact Fin.bool (by rw[a])
theorem vF {a b:LV} {i j:Nat}:aD (bif Nat.blt i a.length then vG a i j else vG b (i-a.length) j) (vG (a++b) i j):=by
 refine aD.bif (λh=>aD.of_eq (fb ?_ j)) (λh=>aD.of_eq (fb ?_ j));simp[List.getD,Yl,h];simp[List.getD,Yl,abg.2 h]
variable {k:Nat}
theorem s8 {L:List (LV)} (h:k<L.length):(L.take (k+1)).flatten=(L.take k).flatten++L.getD k []:=by
 rw[<-List.take_append_getElem h,List.flatten_append];simp[List.getD,h]
theorem gX (L:List (LV)):L.flatten.length=aP L:=by simp[aP,List.length_flatten]
theorem yy (o:LV) (hs:List (LV)) (c:aP (o::hs)<=40000:=by omega) (h:hs.length<=40000:=by omega):DP 132 [iO o hs] (.d (.one (aN (o::hs).flatten))):=by
 refine dg Tryz.func132 [] ?_;refine ai.mk' (iA o hs h (λr k=>Yg (oX k) c)) ?_;generalize l:o::hs=L at*;have q:L.length<=40001:=by rw[<-l];simp;omega
 refine Loop.by (α:=Nat) (λi=>[(3,.aJ 501 0),(7,.d (.one (hS L))),(8,au L.length),(9,au i)]) (λi=>[(501,.aL 0 (L.take i).flatten.length 2 50 (vG (L.take i).flatten))]) (λi=>i<=L.length) (λi=>L.length-i)
  (aG.nil 3 501 2 50 (vG []) rfl rfl (aG.at 0 (XR _) (.cons (.aR (by simp) (λi a=>absurd a (XO i))) .nil) (.cH (.cS (.cS (.cS .nil))))))
  (λi a=>?_)
 apply af.mk<;>intro f
 ·have m:i<L.length:=(by have:=XA f;omega);have b:=s8 m;have g:(L.take (i+1)).flatten.length<=40000:=(by rw[gX];exact Yg (eI L (i+1)) c);rw[b,XQ]at g;have t:(L.take i).flatten.length+(L.getD (i:Int).toNat []).length<=40000:=g;refine ak.o ?_;refine ak.mk (aS) ?_;refine aG.back (x:=i) (i+1) (by show i+1<=_;omega) (by omega) (.cons (.aR (by rw[b,XQ];rfl) (λi a j p=>by rw[b];exact vF)) .nil) (.cH (.cS (.cS (.cons (ar.int (by rw[hw _];omega)) .nil))))
 ·have:L.take i=L:=Zi (by have:=XB f;omega);exact Fin.one (aD.pQ (by rw[this]) (λi a j p=>by rw[this];exact aD.refl _))
theorem Dj (n:Nat) (b:Nat->Int) (x:Int) (l:n<=40000):DP 94 [.one (.sl n 1 λi _=>i64 (b i)),.one (i64 x)] (au (FB n λi=>decide (b i=x))):=by
 refine dg Tryz.func94 [] ?_;refine Loop.by (α:=Nat) (λk=>[(0,.d (.one (.sl n 1 λi _=>i64 (b i)))),(1,au x),(7,au n),(8,au k)]) (λ_=>[]) (λk=>k<=n/\∀i,i<k->decide (b i=x)=false) (λk=>n-k)
  (aG.at 0 ⟨XR _,λ_ h=>absurd h (XO _)⟩ .nil (.cS (.cS (.cS (.cS .nil))))) (λk f=>?_)
 obtain⟨f,c⟩:=f;apply af.mk<;>intro h
 ·have g:k<n:=(by simpa using h);refine ak.o ?_;apply af.mk<;>intro a
  ·have a:b k=x:=(by have a:x=b k:=(by simpa using a);exact a.symm);exact Fin.int (jQ g (X4 a) c).symm
  ·have a:¬b k=x:=λq=>by have a:¬x=b k:=(by simpa using a);exact a q.symm
   refine aG.back (x:=k) (k+1) ⟨by omega,λi m=>?_⟩ (by omega) .nil (.cS (.cS (.cS (.cons (ar.int ?_) .nil))));by_cases e:i=k;rw[e];exact XZ a;exact c i (by omega);rw[hw _];omega
 ·have j:k=n:=(by have:¬k<n:=(by simpa using h);omega);subst j;exact Fin.int (by rw[lF c])
theorem JE (n:Nat) (a:Nat->Int) (x:Int) (b:n<=40000:=by omega):DP 131 [.one (.sl n 1 λi _=>i64 (a i)),.one (i64 x)] (aE (!bn n λi=>!decide (a i=x))):=by
 refine dg Tryz.func131 [] ?_;refine ai.int (Dj n a x b) (λm c=>?_);exact Fin.bool (by rw[<-rC n (λi=>decide (a i=x)),<-c])
def yi (E F:List cp) (w:Int->Bool):Bool:=!bn E.length λi=>bn F.length λk=>!w (cU (bh E i) (bh F k)).kind
theorem tQ (o1:LV) (g:List (LV)) (o2:LV) (h2:List (LV)) (A:aP (o1::g)<=40000) (B:aP (o2::h2)<=40000) (n:Nat) (f:Nat->Int) (I:n<=100:=by decide):
  DP 77 [iO o1 g,iO o2 h2,.one (.sl n 1 λi _=>i64 (f i))] (aE (yi (cI (o1::g)) (cI (o2::h2)) λx=>!bn n λi=>!decide (f i=x))):=by
 refine dg Tryz.func77 [] ?_;have J:=oh (o1::g);have K:=oh (o2::h2);refine ai.mk' (kh o2 h2 B) ?_;refine ai.mk' (kh o1 g A) ?_;generalize cI (o1::g)=E at*;generalize cI (o2::h2)=F at*;generalize C:(λx=>!bn n λi=>!decide (f i=x))=w at*;have hw:∀x,DP 131 [.one (.sl n 1 λi _=>i64 (f i)),.one (i64 x)] (aE (w x)):=λx=>by rw[<-C];exact JE n f x
 have l:∀n:Int,-1000000<=n->n<=1000000->IntKind.i64.wrap n=n:=λn a b=>wid;refine Loop.by (α:=Nat) (λi=>[(2,.d (.one (.sl n 1 λi _=>i64 (f i)))),(7,aE false),(8,.d (.one (mX F))),(16,.d (.one (mX E))),(17,au E.length),(18,au i)]) (λ_=>[]) (λi=>i<=E.length/\∀j,j<i->(bn F.length λk=>!w (cU (bh E j) (bh F k)).kind)=true) (λi=>E.length-i)
  (aG.at 0 ⟨XR _,λ_ h=>absurd h (XO _)⟩ .nil (.cS (.cS (.cS (.cS (.cS (.cS .nil))))))) (λi m=>?_)
 obtain⟨m,o⟩:=m;apply af.mk<;>intro c
 ·have D:i<E.length:=(by have:=XA c;omega);refine ak.o ?_;refine Loop.by (α:=Nat) (λk=>[(2,.d (.one (.sl n 1 λi _=>i64 (f i)))),(7,aE false),(8,.d (.one (mX F))),(10,.ptr 10 0),(16,.d (.one (mX E))),(17,au E.length),(18,au i),(22,.d (.one (mX F))),(23,au F.length),(24,au k)]) (λ_=>[(10,.box (sL (bh E i)))]) (λk=>k<=F.length/\∀j,j<k->(!w (cU (bh E i) (bh F j)).kind)=true) (λk=>F.length-k)
   (aG.at 0 ⟨XR _,λ_ h=>absurd h (XO _)⟩ (.cX .nil) (.cS (.cS (.cS (.cB (.cS (.cS (.cS (.cS (.cS (.cS .nil))))))))))) (λk p=>?_)
  obtain⟨p,r⟩:=p;apply af.mk<;>intro d
  ·have G:k<F.length:=(by have:=XA d;omega);refine ak.o ?_;refine ai.int (kV (bh E i) (bh F k)) (λx t=>?_);refine ai.bool (hw x) (λb u=>?_);apply af.mk<;>intro e
   ·have e:b=true:=e;have:bn E.length (λi=>bn F.length λk=>!w (cU (bh E i) (bh F k)).kind)=false:=by
     cases H:bn E.length (λi=>bn F.length λk=>!w (cU (bh E i) (bh F k)).kind)with
     |false=>rfl
     |true=>have:=aF.1 (aF.1 H i D) k G;rw[<-t,<-u,e]at this;cases this
    exact Fin.bool (by unfold yi;rw[this];rfl)
   ·have e:b=false:=e;exact aG.back (x:=k) (k+1) ⟨by omega,λj y=>by
     by_cases q:j=k;rw[q,<-t,<-u,e];rfl
     ·exact r j (by omega)⟩ (by omega) (.cX .nil) (.cS (.cS (.cS (.cB (.cS (.cS (.cS (.cS (.cS (.cons (ar.int (by rw[l _ (by omega) (by omega)];omega)) .nil))))))))))
  ·have:F.length<=k:=(by have:=XB d;omega);exact aG.back (x:=i) (i+1) ⟨by omega,λj y=>by
    by_cases q:j=i;subst q;exact aF.2 (λz M=>r z (by omega))
    ·exact o j (by omega)⟩ (by omega) .nil (.cS (.cS (.cS (.cS (.cS (.cons (ar.int (by rw[l _ (by omega) (by omega)];omega)) .nil))))))
 ·have:E.length<=i:=(by have:=XB c;omega);have:bn E.length (λi=>bn F.length λk=>!w (cU (bh E i) (bh F k)).kind)=true:=aF.2 (λj y=>o j (by omega));exact Fin.bool (by unfold yi;rw[this];rfl)
def yv (i:Nat) (r:LV) (p:V2) (k:Nat):Option cp:=
 if gt r k=p then some ⟨cW (if i=0 then bA r k else lV r k) p,cW (if i=0 then lV r k else bA r k) p⟩
 else if(if i=0 then bA r k else lV r k)≠p/\ka ⟨gt r k,if i=0 then bA r k else lV r k⟩ p=true then some ⟨cW (if i=0 then bA r k else lV r k) p,cW (gt r k) p⟩
 else none
def Oc (p:V2):Nat->List (LV)->Option cp
 |_,[]=>none
 |i,r::L=>match (List.range r.length).findSome? (yv i r p)with
  |some s=>some s
  |none=>Oc p (i+1) L
def yu (L:List (LV)) (p:V2):cp:=(Oc p 0 L).getD ⟨⟨0,0⟩,⟨0,0⟩⟩
theorem Dy {n:Nat} {f:Nat->Option cp} {s:cp} (i:k<n) (a:∀j,j<k->f j=none) (h:f k=some s):(List.range n).findSome? f=some s:=by
 have e:List.range n=List.range k++(List.range (n-k)).map (k+·):=by rw[<-List.range_add];congr 1;omega
 rw[e,List.findSome?_append];have b:(List.range k).findSome? f=none:=aaX.2 (λj c=>a j (X6.1 c));rw[b];obtain⟨d,g⟩:∃d,n-k=d+1:=⟨n-k-1,by omega⟩;rw[g,ZS];simp[h]
theorem xN {o:LV} {hs:List (LV)} (V:VS o hs) (p:V2):DP 135 [iO o hs,vD p] (.d (sD (yu (o::hs) p))):=by
 refine dg Tryz.func135 [9] ?_;have a2:=V.KI;refine ai.mk' (iA o hs (by omega) (λr l=>Yg (V.len l) (by decide))) ?_;have R:∀r∈o::hs,r.length<=80:=λr l=>V.len l;have a3:(o::hs).length<=7:=by simp;omega
 generalize o::hs=L at*;refine Loop.by (α:=Nat) (λi=>[(2,.ptr 2 0),(3,.ptr 3 0),(4,.ptr 4 0),(13,.d (.one (hS L))),(14,au L.length),(15,au i)]) (λ_=>[(2,.box [aN o,hS hs]),(3,.box (vL p)),(4,.box [i64 0,i64 0,i64 0,i64 0])]) (λi=>i<=L.length/\Oc p i (L.drop i)=Oc p 0 L) (λi=>L.length-i)
  (aG.at 0 ⟨XR _,rfl⟩ (.cX (.cX (.cX .nil))) (.cB (.cB (.cB (.cS (.cS (.cS .nil))))))) (λi K=>?_)
 obtain⟨K,m⟩:=K;apply af.mk<;>intro c
 ·have D:i<L.length:=(by have:=XA c;omega);have S:L.drop i=L.getD i []::L.drop (i+1):=(by rw[Y8 D];simp[List.getD,D]);have T:(L.getD i []).length<=80:=R _ (by simp[List.getD,D]);rw[S]at m;simp only[Oc]at m;refine ak.o ?_;obtain⟨r,l⟩:∃r,r=L.getD (i:Int).toNat []:=⟨_,rfl⟩;have U:L.getD i []=r:=l.symm;rw[U]at T m;refine Loop.by (α:=Nat) (λk=>[(2,.ptr 2 0),(3,.ptr 3 0),(4,.ptr 4 0),(5,au i),(6,.d (.one (aN r))),(13,.d (.one (hS L))),(14,au L.length),(15,au i),(20,.d (.one (aN r))),(21,au r.length),(22,au k)]) (λ_=>[(2,.box [aN o,hS hs]),(3,.box (vL p)),(4,.box [i64 0,i64 0,i64 0,i64 0])]) (λk=>k<=r.length/\∀j,j<k->yv i r p j=none) (λk=>r.length-k)
   (aG.at 0 ⟨XR _,λ_ h=>absurd h (XO _)⟩ (.cX (.cX (.cX .nil))) (.cB (.cB (.cB (.cS (.cons (.data (dX.of_eq (by rw[l]))) (.cS (.cS (.cS (.cons (.data (dX.of_eq (by rw[l]))) (.cons (ar.int (by rw[l])) (.cS .nil)))))))))))) (λk M=>?_)
  obtain⟨M,E⟩:=M;apply af.mk<;>intro d
  ·have X:k<r.length:=(by have:=XA d;omega);have F:IntKind.i64.wrap ((k:Int)+1)=((k+1:Nat):Int):=(by rw[hw _];omega);have F:=nN k 1;have N:IntKind.i64.wrap (IntKind.i64.wrap ((k:Int)+r.length)-1)=((k+r.length-1:Nat):Int):=(by rw[hw ((k:Int)+r.length),hw _];omega);have Y:=kg (k+1) r.length;have Z:=kg (k+r.length-1) r.length;have B:∀s,yv i r p k=some s->yu L p=s:=λs a0=>by unfold yu;rw[<-m,Dy X E a0];rfl
   have C:yv i r p k=none->∀j,j<k+1->yv i r p j=none:=λh j O=>by by_cases q:j=k;rw[q];exact h;exact E j (by omega)
   refine ak.o ?_;refine ak.o ?_;refine ak.mk (by rw[show(1:Int)=(1:Nat) from rfl,F];exact Y) ?_;refine ak.o ?_;refine ak.mk (by rw[N];exact Z) ?_;refine ak.n ?_;have G:bA r k=gt r (Int.toNat ((IntKind.i64.wrap ((k:Int)+(1:Nat))).tmod r.length)):=(by rw[F,kf];rfl);have H:lV r k=gt r (Int.toNat ((IntKind.i64.wrap (IntKind.i64.wrap ((k:Int)+r.length)-1)).tmod r.length)):=(by rw[N,kf];rfl);obtain⟨nx,P⟩:∃v,v=gt r (Int.toNat ((IntKind.i64.wrap ((k:Int)+(1:Nat))).tmod r.length)):=⟨_,rfl⟩;obtain⟨b,Q⟩:∃v,v=gt r (Int.toNat ((IntKind.i64.wrap (IntKind.i64.wrap ((k:Int)+r.length)-1)).tmod r.length)):=⟨_,rfl⟩;refine Cut.mk (aG.ic [(2,.ptr 2 0),(3,.ptr 3 0),(4,.ptr 4 0),(5,au i),(6,.d (.one (aN r))),(7,au k),(8,.ptr 8 0),(9,.ptr 9 0),(10,.ptr 10 0),(13,.d (.one (hS L))),(14,au L.length),(15,au i),(20,.d (.one (aN r))),(21,au r.length),(22,au k)] [(2,.box [aN o,hS hs]),(3,.box (vL p)),(4,.box [i64 0,i64 0,i64 0,i64 0]),(8,.box (vL (gt r k))),(9,.box (vL nx)),(10,.box (vL b))]
    (.cX (.cX (.cX (.cX (.cons (.box (by rw[P];exact iy.refl _)) (.cons (.box (by rw[Q];exact iy.refl _)) .nil))))))
    (.cB (.cB (.cB (.cS (.cS (.cS (.cB (.cB (.cB (.cS (.cS (.cS (.cS (.cS (.cS .nil))))))))))))))) ?_)
   rw[<-P]at G;rw[<-Q]at H;apply af.mk<;>intro t
   ·have t:¬i=0:=(by have:=XA t;omega);have g:(if i=0 then bA r k else lV r k)=b:=(by rw[XG t];exact H);have I:(if i=0 then lV r k else bA r k)=nx:=(by rw[XG t];exact G);refine rY.v (gt r k) p (λq y=>?_);apply af.mk<;>intro a
    ·have a:gt r k=p:=y.1 a;refine ai.mk' (ca b p) ?_;refine ai.mk' (ca nx p) ?_;refine ak.n ?_;refine Fin.d (dX.of_eq ?_);rw[B ⟨cW b p,cW nx p⟩ (by unfold yv;rw[XL a,g,I])];rfl
    ·have a:¬gt r k=p:=λe=>by rw[y.2 e]at a;exact absurd a (by decide)
     refine rY.v b p (λJ z=>?_);cases J with
     |true=>
      have w:b=p:=z.1 rfl;repeat' first|apply af.t|apply af.f
      exact aG.back (x:=k) (k+1) ⟨by omega,C (by unfold yv;rw[XG a,g,XG (λh=>h.1 w)])⟩ (by omega) (.cX (.cX (.cX .nil))) (.cB (.cB (.cB (.cS (.cS (.cS (.cS (.cS (.cS (.cS (.cons (ar.int (by rw[hw _];omega)) .nil)))))))))))
     |false=>
      have w:¬b=p:=λe=>by have:=z.2 e;cases this
      repeat' first|apply af.t|apply af.f
      refine ai.bool (wG ⟨gt r k,b⟩ p) (λu A=>?_);repeat' first|apply af.t|apply af.f
      apply af.mk<;>intro f
      ·have f:u=true:=f;refine ai.mk' (ca b p) ?_;refine ai.mk' (ca (gt r k) p) ?_;refine ak.n ?_;refine Fin.d (dX.of_eq ?_);rw[B ⟨cW b p,cW (gt r k) p⟩ (by unfold yv;rw[XG a,g,XL ⟨w,by rw[<-A];exact f⟩])];rfl
      ·have f:u=false:=f;exact aG.back (x:=k) (k+1) ⟨by omega,C (by unfold yv;rw[XG a,g,XG (λh=>by rw[<-A,f]at h;exact absurd h.2 (by decide))])⟩ (by omega) (.cX (.cX (.cX .nil))) (.cB (.cB (.cB (.cS (.cS (.cS (.cS (.cS (.cS (.cS (.cons (ar.int (by rw[hw _];omega)) .nil)))))))))))
   ·have t:i=0:=(by have:=XB t;omega);have g:(if i=0 then bA r k else lV r k)=nx:=(by rw[XL t];exact G);have I:(if i=0 then lV r k else bA r k)=b:=(by rw[XL t];exact H);refine rY.v (gt r k) p (λq y=>?_);apply af.mk<;>intro a
    ·have a:gt r k=p:=y.1 a;refine ai.mk' (ca nx p) ?_;refine ai.mk' (ca b p) ?_;refine ak.n ?_;refine Fin.d (dX.of_eq ?_);rw[B ⟨cW nx p,cW b p⟩ (by unfold yv;rw[XL a,g,I])];rfl
    ·have a:¬gt r k=p:=λe=>by rw[y.2 e]at a;exact absurd a (by decide)
     refine rY.v nx p (λJ z=>?_);cases J with
     |true=>
      have w:nx=p:=z.1 rfl;repeat' first|apply af.t|apply af.f
      exact aG.back (x:=k) (k+1) ⟨by omega,C (by unfold yv;rw[XG a,g,XG (λh=>h.1 w)])⟩ (by omega) (.cX (.cX (.cX .nil))) (.cB (.cB (.cB (.cS (.cS (.cS (.cS (.cS (.cS (.cS (.cons (ar.int (by rw[hw _];omega)) .nil)))))))))))
     |false=>
      have w:¬nx=p:=λe=>by have:=z.2 e;cases this
      repeat' first|apply af.t|apply af.f
      refine ai.bool (wG ⟨gt r k,nx⟩ p) (λu A=>?_);repeat' first|apply af.t|apply af.f
      apply af.mk<;>intro f
      ·have f:u=true:=f;refine ai.mk' (ca nx p) ?_;refine ai.mk' (ca (gt r k) p) ?_;refine ak.n ?_;refine Fin.d (dX.of_eq ?_);rw[B ⟨cW nx p,cW (gt r k) p⟩ (by unfold yv;rw[XG a,g,XL ⟨w,by rw[<-A];exact f⟩])];rfl
      ·have f:u=false:=f;exact aG.back (x:=k) (k+1) ⟨by omega,C (by unfold yv;rw[XG a,g,XG (λh=>by rw[<-A,f]at h;exact absurd h.2 (by decide))])⟩ (by omega) (.cX (.cX (.cX .nil))) (.cB (.cB (.cB (.cS (.cS (.cS (.cS (.cS (.cS (.cS (.cons (ar.int (by rw[hw _];omega)) .nil)))))))))))
  ·have a1:(List.range r.length).findSome? (yv i r p)=none:=aaX.2 (λj O=>E j (by have:=X6.1 O;have:=XB d;omega));rw[a1]at m;exact aG.back (x:=i) (i+1) ⟨by omega,m⟩ (by omega) (.cX (.cX (.cX .nil))) (.cB (.cB (.cB (.cS (.cS (.cons (ar.int (by rw[hw _];omega)) .nil))))))
 ·have:L.drop i=[]:=aaG (by have:=XB c;omega);rw[this]at m;refine Fin.d (dX.of_eq ?_);unfold yu;rw[<-m];rfl
theorem vC (o:LV) (hs:List (LV)) (c:aP (o::hs)<=40000:=by omega) (k:hs.length<=40000:=by omega):lT Tryz.prog 132 [.d (iO o hs)] [] (.aJ (.n 3000) 0) [] (.aL 0 (o::hs).flatten.length 2 50 (vG (o::hs).flatten)):=by
 refine cF je mixed Tryz.func132 rfl rfl [] (XI rfl) (XI rfl) (fe rfl) ?_;refine ai.mk' (iA o hs k (λr l=>Yg (oX l) c)) ?_;generalize m:o::hs=L at*;have t:L.length<=40001:=by rw[<-m];simp;omega
 refine Loop.by (α:=Nat) (λi=>[(3,.aJ 501 0),(7,.d (.one (hS L))),(8,au L.length),(9,au i)]) (λi=>[(501,.aL 0 (L.take i).flatten.length 2 50 (vG (L.take i).flatten))]) (λi=>i<=L.length) (λi=>L.length-i)
  (aG.nil 3 501 2 50 (vG []) rfl rfl (aG.at 0 (XR _) (.cons (.aR (by simp) (λi a=>absurd a (XO i))) .nil) (.cH (.cS (.cS (.cS .nil))))))
  (λi a=>?_)
 apply af.mk<;>intro f
 ·have p:i<L.length:=(by have:=XA f;omega);have b:=s8 p;have g:(L.take (i+1)).flatten.length<=40000:=(by rw[gX];exact Yg (eI L (i+1)) c);rw[b,XQ]at g;have u:(L.take i).flatten.length+(L.getD (i:Int).toNat []).length<=40000:=g;refine ak.o ?_;refine ak.mk (aS) ?_;refine aG.back (x:=i) (i+1) (by show i+1<=_;omega) (by omega) (.cons (.aR (by rw[b,XQ];rfl) (λi a j q=>by rw[b];exact vF)) .nil) (.cH (.cS (.cS (.cons (ar.int (by rw[hw _];omega)) .nil))))
 ·have:L.take i=L:=Zi (by have:=XB f;omega);exact ke.mk ⟨.n 501,.one (.aJ rfl rfl rfl),.nil _,.inr ⟨.aR (by rw[this]) (λh=>absurd h (by decide)) (λi a j q=>by rw[this];exact aD.refl _),rfl⟩⟩
theorem ai.Uw {P:Program} {f:FuncId} {args:List DV} {K:TV->Prop} {e:cp} (h:lY P f args (.d (sD e))) (a:∀c,c=e->K (.d (sD c))):ai P f args K:=⟨_,h,a e rfl⟩
def Ul (o1:LV) (a:List (LV)) (o2:LV) (h2:List (LV)) (g:cp->cp->Bool):Bool:=
 (λl:LV=>bn l.length λi=>!(decide (kc o1 a (gt l i)=1)&&(decide (kc o2 h2 (gt l i)=1)&&!g (yu (o1::a) (gt l i)) (yu (o2::h2) (gt l i))))) ((o1::a).flatten++(o2::h2).flatten)
variable {o1 o2:LV}
theorem Ey {a:List (LV)} (k:VS o1 a) {h2:List (LV)} (V2:VS o2 h2) (cap:Nat->SV) (g:cp->cp->Bool) (E:∀s t,DP 83 [sD s,sD t] (aE (g s t))):
  DP 79 [iO o1 a,iO o2 h2,.one (.fn 83 0 cap)] (aE (Ul o1 a o2 h2 g)):=by
 refine ig je mixed Tryz.func79 rfl rfl [132+2000000] (XI rfl) ?_;have Q:=k.KI;have R:=V2.KI;have S:=k.eZ;have T:=V2.eZ;refine fp.mk' [] (vC o1 a) ⟨.nil,.cD .nil,rfl,rfl,λ_=>rfl⟩ ?_;refine fp.mk' [] (vC o2 h2) ⟨.nil,.cD .nil,rfl,rfl,λ_=>rfl⟩ ?_;have U:=gX (o1::a);have V:=gX (o2::h2);refine ak.mk (aS) ?_;refine ak.n ?_;obtain⟨l,m⟩:∃l,l=(o1::a).flatten++(o2::h2).flatten:=⟨_,rfl⟩;have w:l.length=(o1::a).flatten.length+(o2::h2).flatten.length:=by rw[m,XQ]
 have F:Ul o1 a o2 h2 g=bn l.length λi=>!(decide (kc o1 a (gt l i)=1)&&(decide (kc o2 h2 (gt l i)=1)&&!g (yu (o1::a) (gt l i)) (yu (o2::h2) (gt l i)))):=by rw[m];rfl
 rw[F];obtain⟨B,z⟩:∃B:Nat->Bool,B=λi=>!(decide (kc o1 a (gt l i)=1)&&(decide (kc o2 h2 (gt l i)=1)&&!g (yu (o1::a) (gt l i)) (yu (o2::h2) (gt l i)))):=⟨_,rfl⟩;rw[<-z];refine Loop.by (α:=Nat) (λi=>[(2,.d (.one (.fn 83 0 cap))),(3,.ptr 3 0),(4,.ptr 4 0),(13,.aJ 10 0),(14,au l.length),(15,au i)]) (λi=>[(3,.box [aN o1,hS a]),(4,.box [aN o2,hS h2]),(10,.aL 0 l.length 2 50 (vG l))]) (λi=>i<=l.length/\∀j,j<i->B j=true) (λi=>l.length-i)
  (aG.at 0 ⟨XR _,λ_ h=>absurd h (XO _)⟩ (.cX (.cX (.cons (.aR w.symm (λi o j A=>by rw[m];exact vF)) .nil))) (.cS (.cB (.cB (.cH (.cons (ar.int (by rw[w])) (.cS .nil)))))))
  (λi o=>?_)
 obtain⟨o,C⟩:=o;apply af.mk<;>intro D
 ·have G:i<l.length:=(by have:=XA D;omega);refine ak.o ?_;have H:B i=false->bn l.length B=false:=λh=>bD i G h;have next:B i=true->∀j,j<i+1->B j=true:=λh j A=>by by_cases q:j=i;rw[q];exact h;exact C j (by omega)
  have c:B i=!(decide (kc o1 a (gt l i)=1)&&(decide (kc o2 h2 (gt l i)=1)&&!g (yu (o1::a) (gt l i)) (yu (o2::h2) (gt l i)))):=(by rw[z]);refine ai.int (wa k (gt l i)) (λx I=>?_);rw[<-I]at c;apply af.mk<;>intro b
  ·have p:decide (x=1)=true:=b;rw[p]at c;repeat' first|apply af.is b|apply af.t|apply af.f
   refine ai.int (wa V2 (gt l i)) (λy J=>?_);rw[<-J]at c;repeat' first|apply af.is b|apply af.t|apply af.f
   apply af.mk<;>intro f
   ·have r:decide (y=1)=true:=f;rw[r]at c;repeat' first|apply af.is f|apply af.is b|apply af.t|apply af.f
    refine ai.Uw (xN k (gt l i)) (λK M=>?_);repeat' first|apply af.is f|apply af.is b|apply af.t|apply af.f
    refine ai.Uw (xN V2 (gt l i)) (λN O=>?_);repeat' first|apply af.is f|apply af.is b|apply af.t|apply af.f
    rw[<-M,<-O]at c;refine ai.bool (E K N) (λu P=>?_);rw[<-P]at c;repeat' first|apply af.is f|apply af.is b|apply af.t|apply af.f
    refine ak.n ?_;cases u with
    |true=>
     repeat' first|apply af.is f|apply af.is b|apply af.t|apply af.f
     exact aG.back (x:=i) (i+1) ⟨by omega,next c⟩ (by omega) (.cX (.cX (.cons (.aR rfl (λ_ _ _ _=>aD.refl _)) .nil))) (.cS (.cB (.cB (.cH (.cS (.cons (ar.int (by rw[hw _];omega)) .nil))))))
    |false=>
     repeat' first|apply af.is f|apply af.is b|apply af.t|apply af.f
     exact Fin.bool (by rw[H c])
   ·have r:decide (y=1)=false:=f;rw[r]at c;repeat' first|apply af.is f|apply af.is b|apply af.t|apply af.f
    refine ak.n ?_;repeat' first|apply af.is f|apply af.is b|apply af.t|apply af.f
    exact aG.back (x:=i) (i+1) ⟨by omega,next c⟩ (by omega) (.cX (.cX (.cons (.aR rfl (λ_ _ _ _=>aD.refl _)) .nil))) (.cS (.cB (.cB (.cH (.cS (.cons (ar.int (by rw[hw _];omega)) .nil))))))
  ·have p:decide (x=1)=false:=b;rw[p]at c;repeat' first|apply af.is b|apply af.t|apply af.f
   refine ak.n ?_;repeat' first|apply af.is b|apply af.t|apply af.f
   exact aG.back (x:=i) (i+1) ⟨by omega,next c⟩ (by omega) (.cX (.cX (.cons (.aR rfl (λ_ _ _ _=>aD.refl _)) .nil))) (.cS (.cB (.cB (.cH (.cS (.cons (ar.int (by rw[hw _];omega)) .nil))))))
 ·have:bn l.length B=true:=aF.2 (λj A=>C j (by have:=XB D;omega));exact Fin.bool (by rw[this])
theorem KH {o:LV} {hs:List (LV)} (V:VS o hs) (v:V2) (w:Int):DP 133 [vD v,.one (.ad 2 λj=>[aN o,hS hs].getD j (.v Go.undef)),.one (.ad 1 λj=>[i64 w].getD j (.v Go.undef))] (aE (decide (kc o hs v=w))):=by
 refine dg Tryz.func133 [] ?_;refine ai.int (wa V v) (λn a=>?_);refine ak.n ?_;exact Fin.bool (by rw[<-a];rfl)
def Ur (o1:LV) (a:List (LV)) (o2:LV) (h2:List (LV)) (w:Int):Bool:=(λl:LV=>!bn l.length λi=>!decide (kc o2 h2 (gt l i)=w)) (o1::a).flatten
theorem Cf {a:List (LV)} (b:VS o1 a) {h2:List (LV)} (V2:VS o2 h2) (w:Int):
  DP 78 [iO o1 a,iO o2 h2,.one (i64 w)] (aE (Ur o1 a o2 h2 w)):=by
 refine dg Tryz.func78 [] ?_;have c:=b.KI;have f:=b.eZ;refine ai.mk' (yy o1 a) ?_;refine ai.mk' (vu (o1::a).flatten _ 2 _ (λk=>decide (kc o2 h2 (gt (o1::a).flatten k)=w)) (by rw[gX];omega) (λk g=>KH V2 _ w)) ?_;exact Fin.bool rfl
def Bo (o1:LV) (a:List (LV)) (o2:LV) (h2:List (LV)):Bool:=
 !yi (cI (o1::a)) (cI (o2::h2)) (λx=>!bn 1 λ_=>!decide ((2:Int)=x))&&(!Ur o1 a o2 h2 2&&(!Ur o2 h2 o1 a 2&&Ul o1 a o2 h2 λs t=>!SA s t))
theorem Jg (o1:LV) (a:List (LV)) (o2:LV) (h2:List (LV)) (b:aP (o1::a)<=40000:=by omega) (c:aP (o2::h2)<=40000:=by omega):
  DP 77 [iO o1 a,iO o2 h2,.one (.sl 1 1 λi j=>[i64 2].getD (i*1+j) (.v Go.undef))] (aE (yi (cI (o1::a)) (cI (o2::h2)) λx=>!bn 1 λ_=>!decide ((2:Int)=x))):=by
 refine lY.le (uh:=[iO o1 a,iO o2 h2,.one (.sl 1 1 λ_ _=>i64 2)]) (.cR (.cR (.cons (.one (aD.pQ rfl (λi f j g=>?_))) .nil))) (tQ o1 a o2 h2 b c 1 (λ_=>2));obtain rfl:i=0:=by omega
 obtain rfl:j=0:=by omega
 exact aD.refl _
theorem H0 {a:List (LV)} (b:VS o1 a) {h2:List (LV)} (V2:VS o2 h2):
  DP 38 [iO o1 a,iO o2 h2] (aE (Bo o1 a o2 h2)):=by
 refine dg Tryz.func38 [] ?_;have i:=b.eZ;have j:=V2.eZ;refine ai.bool (Jg o1 a o2 h2) (λx c=>?_);unfold Bo;rw[<-c];cases x with
 |true=>
  repeat' first|apply af.t|apply af.f
  exact Fin.bool rfl
 |false=>
 repeat' first|apply af.t|apply af.f
 refine ai.bool (Cf b V2 2) (λy f=>?_);rw[<-f];cases y with
 |true=>
  repeat' first|apply af.t|apply af.f
  exact Fin.bool rfl
 |false=>
 repeat' first|apply af.t|apply af.f
 refine ai.bool (Cf V2 b 2) (λz g=>?_);rw[<-g];cases z with
 |true=>
  repeat' first|apply af.t|apply af.f
  exact Fin.bool rfl
 |false=>
 repeat' first|apply af.t|apply af.f
 refine ai.bool (Ey b V2 _ _ M5) (λu h=>?_);repeat' first|apply af.t|apply af.f
 exact Fin.bool (by rw[<-h];rfl)
theorem M6 {a:List (LV)} (b:VS o1 a) {h2:List (LV)} (V2:VS o2 h2):
  DP 16 [iO o1 a,iO o2 h2] (.eD [.one (.v (.bool (Bo o1 a o2 h2))),.one (i64 0)]):=by
 refine dg Tryz.func16 [] ?_;refine ai.mk' (iZ b) ?_;repeat' first|apply af.t|apply af.f
 refine ai.mk' (iZ V2) ?_;repeat' first|apply af.t|apply af.f
 refine ai.mk' (H0 b V2) ?_;exact Fin.rfl'
end Sg
end Go.Vm
namespace Go.Vm
open Go Go.RowKit
def DA (k n:Nat) (f:Nat->Mem):List (Id×Mem):=(List.range n).map λi=>(.s k i,f i)
theorem qs:∀(l r:List (Id×Mem)) (o:Id),(∀p∈l,p.1≠o)->aQ (l++r) o=aQ r o
 |[],_,_,_=>rfl
 |p::l,r,o,h=>by simp only[YM,aQ];rw[aw _ _ _ (λe=>h p (by simp) e.symm)];exact qs l r o (λq a=>h q (by simp[a]))
theorem Fm (k:Nat) (f:Nat->Mem) (r:List (Id×Mem)) (i:Nat):∀n,i<n->aQ (DA k n f++r) (.s k i)=f i:=by
 intro n b;have c:∀l:List Nat,l.Nodup->i∈l->aQ ((l.map λi=>((.s k i,f i):Id×Mem))++r) (.s k i)=f i:=λl=>by
  induction l with
  |nil=>intro _ h;cases h
  |cons a l g=>intro j h;simp only[Yz,YM,aQ];by_cases e:i=a;subst e;rw[aq];rw[aw _ _ _ (by intro q;cases q;exact e rfl)];exact g (YA.1 j).2 ((XD.1 h).resolve_left e)
 exact c (List.range n) aag (X6.2 b)
theorem yk (k:Nat) (f:Nat->Mem) (r:List (Id×Mem)) (n:Nat) (o:Id) (h:∀i,i<n->o≠ .s k i):aQ (DA k n f++r) o=aQ r o:=by
 refine qs _ _ _ (λp a=>?_);obtain⟨i,b,rfl⟩:=XS.1 a;exact λe=>h i (X6.1 b) e.symm
theorem fk.fam {m m':Id->Mem} {k n:Nat} {f:Nat->Mem} {r:List (Id×Mem)} (h:∀i,i<n->eU m m' (m (.s k i)) (f i)) (c:fk m m' r):fk m m' (DA k n f++r):=by
 have key:∀l:List Nat,(∀i∈l,i<n)->fk m m' ((l.map λi=>((.s k i,f i):Id×Mem))++r):=λl=>by
  induction l with
  |nil=>intro _;exact c
  |cons a l g=>intro b;exact .cons (h a (b a (by simp))) (g (λi hi=>b i (by simp[hi])))
 exact key (List.range n) (λi hi=>X6.1 hi)
variable {P:Program} {m:Id->Mem}
theorem BN.mk' {o:Oper} {t:Nat->TV} {K:fa} {z:TV} {mo:List (Id×Mem)} {rd:List Nat} (h:aI P o t m z mo rd) (k:K z mo rd):BN P o t m K:=⟨z,mo,rd,k,h⟩
theorem qE {o:Oper} {t:Nat->TV} {c:Call} (g:o.op= .call c) {b:Operand} (h:c.callee= .value b) {f n:Nat} {cap:Nat->SV} (y:bE t b= .d (.one (.fn f n cap)))
  {args:List TV} {i:Id->Mem} {r:TV} {j:Id->Mem} (z:Eh P f args i r j) {k:Id->Id} {G:Id->Nat} {l:List (Id×Mem)} {rd:List Nat} (A:QC m k G (c.args.toList.map (bE t)++(fG n cap).map .d) args i j l rd o.dst):
  aI P o t m (Le k G r) l rd:=by
 have B:b∈o.op.operands.toList:=by rw[g];simp[Op.operands,Call.operands,h]
 have C:∀x∈c.args.toList,x∈o.op.operands.toList:=λx D=>by rw[g];simp[Op.operands,Call.operands,h];right;simpa using D
 refine DX (f:=f) (λE ρ J K a w p q=>?_) z A;have u:=(az q b).1;rw[ao p B,y]at u;obtain⟨xs,F,H⟩:=Rd.jN (show Rd _ _ _ _ from u);exact⟨_,(jj p q _ C).append (yB (py n cap xs H)),λI=>(s9 g h a w _ F).trans (da I _ _)⟩
variable {x:Operand} {xs:List DV}
theorem Lr {o:Oper} {t:Nat->TV} (c:o.op= .extract x 0) {b:Id} (g:bE t x= .jC b xs):aI P o t m (.ptr b 0) [] []:=by
 refine aC λE ρ r u a w z h _ i=>?_;have f:=az i x;rw[ao h (by rw[c];simp[Op.operands]),g]at f;obtain⟨⟨y,A,j,k,B⟩,l⟩:=f;exact⟨y,by simp[execOp,c,j,Instr.extract],k,λp q=>l p q⟩
variable {i:Nat}
theorem Lq {o:Oper} {t:Nat->TV} (c:o.op= .extract x (i+1)) {b:Id} (g:bE t x= .jC b xs) {v:DV} (j:xs[i]? =some v):aI P o t m (.d v) [] []:=by
 refine aC λE ρ A B a w C k _ l=>?_;have f:=(az l x).1;rw[ao k (by rw[c];simp[Op.operands]),g]at f;obtain⟨y,D,p,F,q⟩:=f;obtain⟨u,r,z⟩:=q.get i v j;exact⟨u,by simp[execOp,c,p,Instr.extract,r],z,λ_ h=>h.elim⟩
variable {ty:TypeId}
theorem Th {o:Oper} {t:Nat->TV} {TT:iw} (V:cG P TT) {T:Ty} (X:TT ty=some T) {Y Z a0:TypeId} (a1:T.kind= .str [(0,Y,1),(1,Z,1),(2,a0,1)]) {a2 a3 a4:SV} (a5:T.zero=[a2,a3,a4]) {j:Array (Nat×Operand)} (I:o.op= .build ty j)
  {s0 f g:Nat} (a6:j.toList=[(0,.tmp s0),(1,.tmp f),(2,.tmp g)]) {c0 c1 c2:CV} (a7:t s0=c0.tv) (a8:t f=c1.tv) (h2:t g=c2.tv):aI P o t m (.rW [c0,c1,c2]) [] []:=by
 have J:=V ty T X;have K:=J.kind;rw[a1]at K;obtain⟨F,a9,c8,b0⟩:=K;have M:j=#[(0,.tmp s0),(1,.tmp f),(2,.tmp g)]:=by rw[<-Ys (xs:=j),a6]
 refine aC λE ρ c9 p a w d0 b1 _ N=>?_;have B:∀(s:Nat) (c:CV),Operand.tmp s∈o.op.operands.toList->t s=c.tv->kR (L E p ρ w) p ρ w (a.tmps.getD s Go.undef) c/\∀b,c.refs b->p b≠ .none:=λs c b2 C=>by have O:=N.slots s;have k:=N.clean s;rw[b1 s b2,C]at O k;refine⟨?_,λb D=>k b (by cases c<;>exact D)⟩;cases c<;>exact O
 have G:∀s,(s=s0\/s=f\/s=g)->Operand.tmp s∈o.op.operands.toList:=λs C=>by rw[I,M];simp[Op.operands];rcases C with rfl|rfl|rfl<;>simp
 obtain⟨Q,b3⟩:=B s0 c0 (G _ (.inl rfl)) a7;obtain⟨R,b4⟩:=B f c1 (G _ (.inr (.inl rfl))) a8;obtain⟨S,b5⟩:=B g c2 (G _ (.inr (.inr rfl))) h2;obtain⟨i,z,b6,d1,d2,b7,d3,U⟩:=ik J (L E p ρ w) w;rw[a5]at U;generalize b8:a.tmps.getD s0 Go.undef=v0 at*;generalize b9:a.tmps.getD f Go.undef=q at*;generalize c3:a.tmps.getD g Go.undef=r at*;have H:∃u y A,z.cells.toList=[u,y,A]:=by
  have:=U.length
  match h:z.cells.toList,this with
  |[u,y,A],_=>exact⟨_,_,_,rfl⟩
 obtain⟨u,y,A,H⟩:=H;have c4:z.cells=#[u,y,A]:=by rw[<-Ys (xs:=z.cells),H]
 have D:P.built ty (j.map λ(i,x)=>(i,a.eval x)).toList=some #[v0,q,r]:=by unfold Program.built;simp only[b6,a9,b7,b0];rw[M];have c5:a.eval (.tmp s0)=v0:=b8;have c6:a.eval (.tmp f)=q:=b9;have c7:a.eval (.tmp g)=r:=c3;simp[c5,c6,c7,Instr.fill,c4,cells_one Q.bG,cells_one R.bG,cells_one S.bG]
 refine⟨.agg #[v0,q,r],?_,⟨[v0,q,r],rfl,.cons Q (.cons R (.cons S .nil))⟩,?_⟩;have l:=run_build (P:=P) w ty (j.map λ(i,x)=>(i,a.eval x)) _ D;simp[execOp,I,l];rintro b ⟨c,k,l⟩;simp only[XD,YD,ZY]at k;rcases k with rfl|rfl|rfl;exact b3 b l;exact b4 b l;exact b5 b l
theorem Qh {o:Oper} {t:Nat->TV} {e:TypeId} (b:o.op= .box e x) {d:Nat} (h:o.dst=some d) (i:m (.n d)= .none) {cs:List CV} (j:bE t x= .rW cs):
  aI P o t m (.ptr d 0) [(.n d,.obj cs)] [d]:=by
 refine bS λE ρ H k a w I l p q f=>?_;have r:k (.n d)= .none:=by rw[p.at (.n d) (by simp[Id.key])];exact i
 have g:=az f x;rw[ao l (by rw[b];simp[Op.operands]),j]at g;obtain⟨⟨u,y,z⟩,A⟩:=g;have B:=f.rV (.n d) r (E.uH d (ZQ (q d h))) u (.obj cs) e (.inr ⟨_,rfl,z,λc C D F=>A D ⟨c,C,F⟩⟩);refine⟨_,.pointer (some ⟨w.heap.size,0,none⟩),_,_,?_,.inl rfl,B,?_,?_⟩;simp[execOp,b,Instr.box,newVar,newRow,y,Value.cells];simp only[dj,bg,aq];exact⟨_,_,rfl,rfl⟩;intro J G;cases G;rw[aq];simp
structure NY (P:Program) (ty:TypeId):Prop where
 h:∃k e len el,P.underlying ty=some (.map k e)/\P.underlying k=some (.array len el)/\(∀w,(zeroValue e).run P w= .ok (.bool false) w)/\
  (∀x y:Int,∀b w,(Instr.checkKey b 10000 k (qw [x,y])).run P w= .ok () w)/\∀x y x' y':Int,∀w,(Op.equal k (qw [x,y]) (qw [x',y'])).run P w= .ok (decide ([x,y]=[x',y'])) w
abbrev JX (l:List (Int×Int)):List (List Int):=l.map λp=>[p.1,p.2]
theorem A2 {o:Oper} {t:Nat->TV} (q:o.op= .makeMap ty Option.none) {d:Nat} (u:o.dst=some d) (x:m (.n d)= .none):aI P o t m (.ptr d 0) [(.n d,.map [])] [d]:=by
 refine bS λE ρ H k a w I J y z f=>?_;have i:k (.n d)= .none:=by rw[y.at (.n d) (by simp[Id.key])];exact x
 have A:=bV w (.map #[] 0);have B:¬(k (.n d)).live:=by rw[i];exact id
 have C:=Im f (.n d) (.map []) 0 B (ec w (.map #[] 0)) (by simp);have D:=f.one (.n d) (.map []) (some (w.heap.size,0)) (Bx.of (ec w _) f.below.size) C (λj b c _ l r=>iV w _ b (f.lo j b c l r).2) (λ_ b c p=>by
   simp only[Ze,Zx]at p;obtain⟨rfl,rfl⟩:=p;exact⟨⟨.inr f.below.size,by simp⟩,λj F _ l r=>absurd (f.lo j _ F l r).2 (ZO _)⟩)
  (by simp) (λ_ h=>h.elim) (λ_=>E.uH d (ZQ (z d u))) (by simp[Mem.gen]) ⟨_,0,#[],0,aq _ _ _,A,rfl⟩ (λg=>absurd i g) (λ_ _ _ _ g=>absurd i g) (λ_ _ _ _ g=>absurd i g)
 refine⟨_,.map (some w.heap.size),_,_,?_,.inl rfl,D,?_,?_⟩;simp[execOp,q,Instr.makeMap,newObj,Sem.run];simp only[dj,bg,aq];exact⟨_,_,rfl,rfl⟩;intro K G;cases G;rw[aq];simp
theorem xh {P:Program} {k:TypeId} (m:∀x y o t:Int,∀w,(Op.equal k (qw [x,y]) (qw [o,t])).run P w= .ok (decide ([x,y]=[o,t])) w) (x y:Int) (w:World):∀(b:List MapEntry) (ks:List (Int×Int)) (i:Nat),zY b (JX ks)->
  if(x,y)∈ks then∃j,(Instr.findAsking k (qw [x,y]) b i).run P w= .ok (some (j,.bool true)) w else(Instr.findAsking k (qw [x,y]) b i).run P w= .ok none w
 |[],ks,i,h=>by
  cases ks with
  |nil=>simp[Instr.findAsking]
  |cons a r=>simp[zY]at h
 |n::b,ks,i,h=>by
  cases ks with
  |nil=>simp[zY]at h
  |cons p r=>simp only[zY,Yz,abl,Zx]at h;obtain⟨⟨g,u⟩,z⟩:=h;have f:=xh m x y w b r (i+1) z;have c:=m x y p.1 p.2 w;by_cases q:(x,y)=p;have:(x,y)∈p::r:=(by rw[q];simp);rw[XL this];have l:decide ([x,y]=[p.1,p.2])=true:=(by rw[<-q];simp);rw[l]at c;exact⟨i,by simp[Instr.findAsking,g,c,u]⟩;have l:decide ([x,y]=[p.1,p.2])=false:=XZ (λk=>q (by simp only[abl,and_true]at k;exact aaz k.1 k.2));rw[l]at c;by_cases k:(x,y)∈r;rw[XL k]at f;rw[XL (by simp[k])];obtain⟨j,A⟩:=f;exact⟨j,by simp[Instr.findAsking,g,c];exact A⟩;rw[XG k]at f;rw[XG (by simp only[XD,not_or];exact⟨q,k⟩)];simp[Instr.findAsking,g,c];exact f
variable {w:World}
theorem xi {k len c:TypeId} (b:P.underlying k=some (.array len c)) {key:Value} {a:List MapEntry} {r:Option (Nat×Value)} (h:(Instr.findAsking k key a 0).run P w= .ok r w):(Instr.findKey k key a).run P w= .ok r w:=by
 cases a with
 |nil=>simp[Instr.findAsking]at h;subst h;simp[Instr.findKey,run_underlying b,Instr.findNow]
 |cons x a=>simp[Instr.findKey,run_underlying b,Instr.findNow,Instr.sameNow,h]
variable {E:Env} {ρ:Id->Option (Nat×Nat)}
theorem Ml {v:Value} {x y:Int} (h:dj E m ρ w v (.d (.agg [i64 x,i64 y]))):v=qw [x,y]:=by
 obtain⟨xs,rfl,r⟩:=h;cases r with
 |cons a b=>cases b with
  |cons c f=>cases f;rw[(Rd.bT a).1,(Rd.bT c).1];rfl
variable {y:Operand} {ks:List (Int×Int)} {u:Int}
theorem tR (I:NY P ty) {o:Oper} {t:Nat->TV} (l:o.op= .lookup ty x y false) {b:Id} (J:bE t x= .ptr b 0) (K:m b= .map (JX ks)) {v:Int} (M:bE t y= .d (.agg [i64 u,i64 v])):
  aI P o t m (aE (decide ((u,v)∈ks))) [] [b.key]:=by
 obtain⟨k,e,V,X,z,A,N,B,O⟩:=I.h;refine aC λE ρ Y Q a w Z C R p=>?_;have f:=(az p x).1;have i:=(az p y).1;rw[ao C (by rw[l];simp[Op.operands]),J]at f;rw[ao C (by rw[l];simp[Op.operands]),M]at i;have i:=Ml i;have D:Q b= .map (JX ks):=by rw[R b (by simp)];exact K
 simp only[dj,bg,D]at f;obtain⟨a0,c,S,f⟩:=f;have F:=p.mem b;rw[D]at F;obtain⟨a1,a2,T,a3,G,H,U⟩:=F;rw[S]at G;cases G;have g:=xh O u v w T.toList ks 0 U;refine⟨.bool (decide ((u,v)∈ks)),?_,Rd.v rfl,λ_ h=>h.elim⟩;by_cases q:(u,v)∈ks;rw[XL q]at g;obtain⟨j,g⟩:=g;have r:=xi A g;simp[execOp,l,f,i,Instr.lookup,run_underlying z,MapKept.run_getObj_map H,B,r,q];rw[XG q]at g;have r:=xi A g;simp[execOp,l,f,i,Instr.lookup,run_underlying z,MapKept.run_getObj_map H,B,r,N,q]
theorem C5 (a4:NY P ty) {o:Oper} {t:Nat->TV} (N:o.op= .mapUpdate ty x y (.const (.bool true))) {b:Id} (a5:bE t x= .ptr b 0) (a6:m b= .map (JX ks)) {v:Int} (a7:bE t y= .d (.agg [i64 u,i64 v])) (a8:(u,v)∉ks):
  aI P o t m .any [(b,.map (JX (ks++[(u,v)])))] [b.key]:=by
 obtain⟨k,e,c1,c2,a9,b0,c3,b1,b2⟩:=a4.h;refine bS λE ρ c4 T a w c5 U b3 c6 z=>?_;have G:=(az z x).1;have M:=(az z y).1;rw[ao U (by rw[N];simp[Op.operands]),a5]at G;rw[ao U (by rw[N];simp[Op.operands]),a7]at M;have M:=Ml M;have A:T b= .map (JX ks):=by rw[b3 b (by simp)];exact a6
 simp only[dj,bg,A]at G;obtain⟨j,c,B,G⟩:=G;have V:=z.mem b;rw[A]at V;obtain⟨c7,D,H,F,X,Y,Z⟩:=V;rw[B]at X;cases X;have a0:=xh b2 u v w H.toList ks 0 Z;rw[XG a8]at a0;have b4:=xi b0 a0;have I:(T b).live:=by rw[A];trivial
 obtain⟨J,a1⟩:=z.lo b j c I B;have b5:bj ρ b (some (j,c))=ρ:=by rw[<-B];exact et ρ b
 have O:∀f,f≠j->(w.heap.setIfInBounds j (.map (H.push {key:=qw [u,v],val:= .bool true,born:=F}) (F+1)))[f]? =w.heap[f]?:=λf Q=>by simp[Z4,Zf Q]
 have b6:=z.one (w':={w with heap:=w.heap.setIfInBounds j (.map (H.push {key:=qw [u,v],val:= .bool true,born:=F}) (F+1))}) b (.map (JX (ks++[(u,v)]))) (some (j,c))
  ⟨rfl,rfl,rfl,by simp,λf K b7=>O f (λq=>by
   subst q;rcases J with J|J;exact b7 J
   ·omega),XU _⟩
  (λf K=>by
   have Q:f≠j:=λq=>K.2 b c I (q▸B);refine⟨⟨K.1.imp id (λh=>h.imp id (λh=>⟨h.1,by simpa using h.2⟩)),λC D l r=>?_⟩,O f Q⟩;rw[b5]at r;by_cases q:C=b;subst q;exact K.2 C D I r
   ·rw[aw _ _ _ q]at l;exact K.2 C D l r)
  (λC f D R l r=>O f (λq=>R (z.inj C b f D c l I r (q▸B))))
  (λ_ f D a2=>by simp only[Ze,Zx]at a2;obtain⟨rfl,rfl⟩:=a2;exact⟨⟨J,by simpa using a1⟩,λC b8 R l r=>R (z.inj C b _ b8 _ l I r B)⟩)
  (by simp) (λ_ h=>h.elim) (λq=>by rw[A]at q;cases q) (by simp[Mem.gen])
  ⟨j,c,H.push {key:=qw [u,v],val:= .bool true,born:=F},F+1,aq _ _ _,by simp[Z4,a1],by have b9:H.toList.map (λe=>(e.key,e.val))=(JX ks).map (λl=>(qw l,Value.bool true)):=Z;simp only[zY,Array.toList_push,YB,b9,JX,Yz,abh]⟩
  (λ_=>by
   refine⟨λx p S=>?_,λx g a3=>?_⟩;simp only[bg,A,aq]at S|-;rw[B]at S;exact S
   ·simp only[bB,A,aq]at a3|-;exact a3)
  (λx g i c8 _ h=>by simp only[dj,aq])
  (λx g c9 n _ h=>by simp only[fi,A,aq]at h|-;exact h)
 refine⟨.skip,Go.undef,_,_,?_,.inr ⟨rfl,rfl⟩,b6,trivial,λ_ h=>h.elim⟩;have c0:a.eval (.const (.bool true))= .bool true:=rfl;simp[execOp,N,G,M,c0,Instr.mapUpdate,run_underlying a9,MapKept.run_getObj_map Y,b1,b4,MapKept.run_setObj_map _ Y]
theorem Rel.Sf {t:Nat->TV} {a:Act} (h:Rel E ρ t m a w) (M:Id->Mem) (ρ':Id->Option (Nat×Nat))
  (P:∀z b c,(M z).live->ρ' z=some (b,c)->(m z).live/\ρ z=some (b,c))
  (a4:∀z,m z≠ .none->M z≠ .none)
  (Q:∀z,m z≠ .none->M z= .dead\/(M z=m z/\ρ' z=ρ z)\/(Shape (m z) (M z)/\ρ' z=ρ z))
  (a5:∀z Y,(M z).refs Y->M Y≠ .none)
  (a6:(∀b,L E m ρ w b->L E M ρ' w b)->(∀z,m z≠ .none->Carry m M ρ ρ' z)->∀z,iL E M ρ' w z (M z))
  (uH:∀z,m z= .none->M z≠ .none->E.m0 z= .none):Rel E ρ' t M a w:=by
 have D:∀b,L E m ρ w b->L E M ρ' w b:=λb u=>⟨u.1,λz c l S=>by obtain⟨T,a7⟩:=P z b c l S;exact u.2 z c T a7⟩;have G:∀z,m z≠ .none->Carry m M ρ ρ' z:=λz S=>by rcases Q z S with e|⟨J,B⟩|⟨s,B⟩;refine⟨λx p K=>?_,λx N R=>?_⟩;have:=K.bG;simp only[bg,e];exact this;simp only[bB,e];exact⟨R.1,trivial⟩;exact Carry.same J B;exact s.carry B
 refine{below:=h.below,defers:=h.defers.mono (λb u=>⟨D b u,rfl⟩),size:=h.size,inj:=λo Z b c a0 l T r a8=>?_,lo:=λo b c l r=>?_,clean:=λi o O=>a4 o (h.clean i o O),cleanM:=a5,mem:=a6 D G,slots:=?slots,carry:=?carry};obtain⟨U,V⟩:=P o b c l r;obtain⟨a9,b0⟩:=P Z b a0 T a8;exact h.inj o Z b c a0 U a9 V b0;obtain⟨U,V⟩:=P o b c l r;exact h.lo o b c U V
 case slots=>
  intro i;have A:=h.slots i;have C:=h.clean i;generalize t i=v at A C;cases v with
  |any=>trivial
  |undef=>exact A
  |d v=>exact lU.mono (λb u=>⟨D b u,rfl⟩) A
  |eD b1=>obtain⟨xs,H,F⟩:=A;exact⟨xs,H,F.mono (λb u=>⟨D b u,rfl⟩)⟩
  |ptr j p=>exact(G j (C j rfl)).ptr _ p A
  |aJ j g=>exact(G j (C j rfl)).aJ _ g A
  |nb n neg=>exact A
  |cP f b6=>exact jZ.mono (λb u=>⟨D b u,rfl⟩) (λj O=>G j (C j O)) A
  |jC j b1=>obtain⟨y,xs,H,F,b2⟩:=A;exact⟨y,xs,H,(G j (C j rfl)).ptr _ 0 F,b2.mono (λb u=>⟨D b u,rfl⟩)⟩
  |rW b7=>obtain⟨xs,H,F⟩:=A;exact⟨xs,H,F.mono (λb u=>⟨D b u,rfl⟩) (λj O=>G j (C j O))⟩
  |ep j N b3 b4=>rcases Q j (C j rfl)with e|⟨J,B⟩|⟨s,B⟩;simp only[dj,e];exact dj.mono (λb u=>⟨D b u,rfl⟩) (λb5 F=>by cases F;exact⟨J,B⟩) A;exact s.ep B _ N b3 b4 A
  |sub j N lo a1=>rcases Q j (C j rfl)with e|⟨J,B⟩|⟨s,B⟩;have H:fi m ρ _ j N lo a1:=A;simp only[dj,fi,e];exact⟨H.1,trivial⟩;exact dj.mono (λb u=>⟨D b u,rfl⟩) (λb5 F=>by cases F;exact⟨J,B⟩) A;exact s.sub B _ N lo a1 A
 case carry=>
  intro z a2;have X:=h.carry z a2;by_cases e:m z= .none;have a3:M z= .none:=Xz λk=>a2 (uH z e k);refine⟨λx p K=>?_,λx I R=>?_⟩;have:=(X.ptr x p K).bG;simp only[bg,a3];exact this;rw[a3]at I;simp[Mem.gen]at I;have C:=G z e;refine⟨λx p K=>C.ptr x p (X.ptr x p K),λx I R=>C.aJ x 1 (X.aJ x ?_ R)⟩;rcases Q z e with q|⟨q,_⟩|⟨s,_⟩;rw[q]at I;simp[Mem.gen]at I;rw[<-q];exact I;rw[<-s.gen];exact I
def MP (f:Id->Mem) (k n:Nat) (F:Nat->Mem):Id->Mem
 | .s a i=>bif Nat.beq a k&&Nat.blt i n then F i else f (.s a i)
 | .n j=>f (.n j)
variable {k:Nat} {F:Nat->Mem}
theorem vq {f:Id->Mem} {n:Nat} (h:i<n):MP f k n F (.s k i)=F i:=by
 show(bif Nat.beq k k&&Nat.blt i n then F i else _)=_;rw[ZE,hp h];rfl
theorem xk {f:Id->Mem} {n:Nat} {z:Id} (h:∀i,i<n->z≠ .s k i):MP f k n F z=f z:=by
 cases z with
 |n j=>rfl
 |s a i=>
  show(bif Nat.beq a k&&Nat.blt i n then F i else _)=_;cases b:Nat.beq a k with
  |false=>rfl
  |true=>
   cases c:Nat.blt i n with
   |false=>rfl
   |true=>exact absurd (by rw[XE b]) (h i (bR c))
theorem aG.Pa {t:Nat->TV} {J:(Nat->TV)->(Id->Mem)->Prop} (o:Id) (k g n:Nat) (e:TypeId) (get:Nat->Nat->SV) (I:TypeId) (K:Nat->Nat->SV)
  (A:m o= .aL g n 1 e get) (Y:∀i,i<n->get i 0= .v Fe) (R:∀i,i<n->m (.s k i)= .none)
  (h:aG t (MP (bj m o (.bm g n 1 e λi _=> .aJ (.s k i) 0)) k n λ_=> .aL 0 0 1 I K) J) (Z:k<2000:=by decide):aG t m J:=by
 obtain⟨a0,a1,a2,a3⟩:=h;refine⟨a0,a1,λE ρ a w C=>?_,a3⟩;have a4:∀i,i<n->o≠ .s k i:=λi hi q=>by rw[q,R i hi]at A;cases A
 generalize N:MP (bj m o (.bm g n 1 e λi _=> .aJ (.s k i) 0)) k n (λ_=> .aL 0 0 1 I K)=M at*;have D:∀i,i<n->M (.s k i)= .aL 0 0 1 I K:=λi hi=>by rw[<-N];exact vq hi
 have u:∀z,(∀i,i<n->z≠ .s k i)->z≠o->M z=m z:=λz h1 f=>by rw[<-N,xk h1,aw _ _ _ f]
 have F:M o= .bm g n 1 e λi _=> .aJ (.s k i) 0:=by rw[<-N,xk a4,aq]
 have y:∀z:Id,(∃i,i<n/\z= .s k i)\/∀i,i<n->z≠ .s k i:=λz=>by by_cases q:∃i,i<n/\z= .s k i;exact .inl q;exact .inr λi hi e=>q ⟨i,hi,e⟩
 let G:Id->Option (Nat×Nat):=λz=>match z with
  | .s H i=>bif Nat.beq H k&&Nat.blt i n then none else ρ (.s H i)
  |z=>ρ z
 have O:∀i,i<n->G (.s k i)=none:=λi hi=>by show(bif Nat.beq k k&&Nat.blt i n then none else _)=_;rw[ZE,hp hi];rfl
 have B:∀z,(∀i,i<n->z≠ .s k i)->G z=ρ z:=λz p=>by
  cases z with
  |n j=>rfl
  |s H i=>
   show(bif Nat.beq H k&&Nat.blt i n then none else _)=_;cases h1:Nat.beq H k with
   |false=>rfl
   |true=>
    cases f:Nat.blt i n with
    |false=>rfl
    |true=>exact absurd (by rw[XE h1]) (p i (bR f))
 refine a2 E G a w (C.Sf M G ?_ ?_ ?_ ?_ ?_ ?_)
 ·intro z b c l p;rcases y z with⟨i,hi,rfl⟩|h1;rw[O i hi]at p;cases p
  ·rw[B z h1]at p;refine⟨?_,p⟩;by_cases f:z=o;subst f;rw[A];trivial
   ·rwa [u z h1 f]at l
 ·intro z p;rcases y z with⟨i,hi,rfl⟩|h1;rw[D i hi];simp;by_cases f:z=o;subst f;rw[F];simp;rw[u z h1 f];exact p
 ·intro z p;rcases y z with⟨i,hi,rfl⟩|h1;exact absurd (R i hi) p;by_cases f:z=o;subst f;refine .inr (.inr ⟨?_,B z h1⟩);rw[A,F];exact .bF rfl rfl;exact .inr (.inl ⟨u z h1 f,B z h1⟩)
 ·intro z r p;rcases y r with⟨i,hi,rfl⟩|S;rw[D i hi];simp;rcases y z with⟨i,hi,rfl⟩|h1;rw[D i hi]at p;exact p.elim;by_cases f:z=o;subst f;rw[F]at p;obtain⟨i,j,hi,T,a5⟩:=p;exact absurd (show Id.s k i=r from a5).symm (S i hi);rw[u z h1 f]at p;have:=C.cleanM z r p;by_cases U:r=o;subst U;rw[F];simp;rw[u r S U];exact this
 ·intro a6 a7 z;rcases y z with⟨i,hi,rfl⟩|h1;rw[D i hi];exact .inl ⟨O i hi,rfl⟩;by_cases f:z=o;subst f;rw[F];have V:=C.mem z;rw[A]at V;rcases V with⟨P,Q⟩|⟨b,a8,arr,P,Q,a9,b0,b1,b2⟩;exact .inl ⟨by rw[B z h1,P],Q⟩;refine .inr ⟨b,a8,arr,by rw[B z h1,P],Q,a9,b0,b1,λi hi j T=>?_⟩;obtain rfl:j=0:=(by omega);obtain⟨x,b3,X⟩:=b2 i hi 0 T;rw[Y i hi]at X;refine⟨x,b3,?_⟩;have:=(Rd.bT X).1;subst this;show bB M G Fe (.s k i) 0;simp only[bB,cu,D i hi,O i hi];exact⟨rfl,XU _,λ_=>trivial⟩;rw[u z h1 f];exact(C.mem z).mono (λb b4=>⟨a6 b b4,rfl⟩) (B z h1) (λ_ _ _ _=>rfl) (λr b5=>a7 r (C.cleanM z r b5))
 ·intro z p b6;rcases y z with⟨i,hi,rfl⟩|h1;exact E.US k i Z;by_cases f:z=o;subst f;rw[A]at p;cases p;exact absurd ((u z h1 f).trans p) b6
theorem xJ {w w':World} (h:Below w.heap.size w w'):∃q b,w'=Sort.grow (w.drewN q) b:=by
 refine⟨w'.drawn-w.drawn,w'.heap.extract w.heap.size w'.heap.size,?_⟩;obtain⟨a,p,r,b,t⟩:=w;obtain⟨l,u,x,y,z⟩:=w';obtain⟨⟨c,f,g,m,i⟩,o⟩:=h;simp only at c f g m i o;subst c f g;simp only[Sort.grow,World.drewN,World.mk.injEq,and_true,abU];refine⟨?_,by omega⟩;apply aa0;intro k;by_cases j:k<a.size;rw[Z8 j];exact i k j;rw[Array.getElem?_append_right (by omega),Array.getElem?_extract];by_cases q:k<l.size;rw[iP,show a.size+(k-a.size)=k by omega];rw[iN,Z6 (by omega)]
abbrev cellOf (a:Array Value) {n:Nat} (i:_root_.Fin n):Value:=(a[i.val]?).getD Go.undef
variable {nc cap g:Nat} {e:TypeId}
section
variable {E:Env} {ρ:Id->Option (Nat×Nat)} {t:Nat->TV} {m:Id->Mem} {a:Act} {w:World}
theorem Ce (h:Rel E ρ t m a w) {b:Id} {n:Nat} {get:Nat->Nat->SV} (p:m b= .aL g (n+1) 1 e get) (r:ρ b=some (nc,cap)) {c:Array Value} (u:w.heap[nc]? =some (.cells c e (0,0))) (A:c.size=cap*1) (B:n+1<=cap) (C:cap<=maxLen)
  (D:∀i,i<n+1->∀j,j<1->∃x,c[i*1+j]? =some x/\Rd (L E m ρ w) w x (get i j)) (f:Array (_root_.Fin (n+1))) (hs:f.size=n+1) (q:Nat) (o:Array Obj):
  Rel E ρ t (bj m b (.aL g (n+1) 1 e λi j=>get (f[i]!).val j)) a (Proofs.sortWorld (cellOf c) w nc 0 q f o):=by
 have F:Sort.putRow (cellOf c) (Sort.ahead w q) nc 0 f=(w.drewN q).setRow nc (Sort.putCells (cellOf c) 0 f c):=by unfold Sort.putRow Sort.mapBlock World.setRow;congr 1;apply aa0;intro k;show(w.heap.modify nc _)[k]? =(w.heap.modify nc _)[k]?;rw[Z9,Z9];by_cases l:nc=k;subst l;rw[XL rfl,XL rfl,u];rfl;rw[XG l,XG l]
 show Rel E ρ t _ a (Sort.grow (Sort.putRow (cellOf c) (Sort.ahead w q) nc 0 f) o);rw[F];have G:Rel E ρ t m a (w.drewN q):=h.grow ⟨⟨rfl,rfl,rfl,XU _,λ_ _=>rfl⟩,Nat.le_add_right _ _⟩;have H:(m b).live:=by rw[p];trivial
 have I:Shape (m b) (.aL g (n+1) 1 e λi j=>get (f[i]!).val j):=by rw[p];exact .bF rfl rfl
 have J:bj ρ b (some (nc,cap))=ρ:=by rw[<-r];exact et ρ b
 have y:=G.nw H r (.aL g (n+1) 1 e λi j=>get (f[i]!).val j) (Sort.putCells (cellOf c) 0 f c) I (λ_ h=>h.elim) (λK _=>by
  refine .inr ⟨nc,cap,Sort.putCells (cellOf c) 0 f c,aq _ _ _,setRow_heap _ _ c _ e (0,0) u,by simp[Sort.putCells,A],B,C,λi Q j R=>?_⟩;obtain rfl:j=0:=(by omega);obtain⟨x,z,M⟩:=D (f[i]!).val (f[i]!).isLt 0 (by omega);refine⟨x,?_,?_⟩;simp only[abN,YG,Sort.putCells,Array.getElem?_mapIdx]at z|-;have N:i<c.size:=(by omega);rw[ZV N];show some (if 0<=i/\i<0+f.size then cellOf c f[i-0]! else c[i])=some x;rw[XL ⟨XR _,by omega⟩];show some ((c[(f[i]!).val]?).getD Go.undef)=some x;rw[z];rfl
  ·exact M.mono (λO P=>by have:=K O P;exact⟨this.1,this.2⟩))
 rw[J]at y;exact y.grow ⟨⟨rfl,rfl,rfl,by simp[Sort.grow],λk l=>by show((_:World).heap++o)[k]? =_;rw[Z8 l]⟩,XU _⟩
end
def qx (n:Nat):Array (_root_.Fin (n+1)):=Array.ofFn id
def tH (n:Nat) (cf:Nat->Nat->Int):Nat->Nat:=match n with
 |0=>id
 |n+1=>λi=>((Sort.pdq (Proofs.ltOf λi j:_root_.Fin (n+1)=>cf i.val j.val) (qx n) 0 (n+1) (Lib.bitLen (n+1)) true true)[i]!).val
structure nh (n:Nat) (cf:Nat->Nat->Int):Prop where
 irrefl:∀i,i<n->¬cf i i<0
 trans:∀i j k,i<n->j<n->k<n->cf i j<0->cf j k<0->cf i k<0
 ntrans:∀i j k,i<n->j<n->k<n->¬cf i j<0->¬cf j k<0->¬cf i k<0
variable {cf:Nat->Nat->Int}
theorem nh.fin {n:Nat} (h:nh n cf):Sort.SWO (Proofs.ltOf λi j:_root_.Fin n=>cf i.val j.val) where
 irrefl x:=XZ (h.irrefl _ x.isLt)
 trans x y z a b:=X4 (h.trans _ _ _ x.isLt y.isLt z.isLt (XA a) (XA b))
 ntrans x y z a b:=XZ (h.ntrans _ _ _ x.isLt y.isLt z.isLt (XB a) (XB b))
theorem jl {n:Nat} (h:nh n cf):((List.range n).map (tH n cf)).Perm (List.range n)/\∀i j,i<j->j<n->¬cf (tH n cf j) (tH n cf i)<0:=by
 cases n with
 |zero=>exact⟨.refl _,λi j _ a=>absurd a (XO _)⟩
 |succ n=>
  have l:(qx n).size=n+1:=(by simp[qx]);obtain⟨⟨f,_,g⟩,k⟩:=Sort.pdq_sorts (Proofs.ltOf λi j:_root_.Fin (n+1)=>cf i.val j.val) h.fin (qx n) 0 (n+1) (Lib.bitLen (n+1)) true true (XR _) (by omega) (.inl rfl);generalize m:Sort.pdq (Proofs.ltOf λi j:_root_.Fin (n+1)=>cf i.val j.val) (qx n) 0 (n+1) (Lib.bitLen (n+1)) true true=d at f g k;have b:∀i,tH (n+1) cf i=(d[i]!).val:=λi=>by rw[<-m];rfl
  have o:d.size=n+1:=f.trans l;refine⟨?_,λi j p a=>?_⟩
  ·have q:(List.range (n+1)).map (tH (n+1) cf)=(d.extract 0 (n+1)).toList.map _root_.Fin.val:=(by apply Z7;simp[o];intro i c r;have t:i<n+1:=(by simpa using c);simp only[aaL,aaC,b];congr 1;rw[abE d i (by omega)];simp);have u:List.range (n+1)=((qx n).extract 0 (n+1)).toList.map _root_.Fin.val:=(by apply Z7;simp[qx];intro i c r;have t:i<n+1:=(by simpa using c);simp only[aaC,aaL];simp[qx,-List.ofFn_succ]);rw[q]
   conv=>rhs;rw[u]
   exact g.map _
  ·have:=k i j (XR _) p a;rw[b,b];exact XB this
variable {P:Program} {m:Id->Mem} {c:Call} {fo:Operand} {R:Shelf.Ren} {F:FuncId} {Vi:Nat->SV}
set_option maxHeartbeats 1000000 in
theorem so {o:Oper} {t:Nat->TV} (a5:o.op= .call c) (a6:c.callee= .value fo) (d6:bE t fo= .d (.one (.fn F 0 Vi))) (L:Proofs.SlLaysF.n6 P R) (d7:R.f 6=F) (d8:Enters P F)
  {x y:Operand} (a7:c.args.toList=[x,y]) {b:Id} {g n:Nat} {e:TypeId} {get:Nat->Nat->SV} (d9:bE t x= .aJ b g) (e0:m b= .aL g n 1 e get) {cv:CV} (e1:bE t y=cv.tv) {ks:List Nat} {G:FuncId} {q:Nat} {cap:Nat->SV} (b5:lR m ks cv (.fn G q cap)) (e2:b.key∉ks)
  {cf:Nat->Nat->Int} (b6:nh n cf) (g7:n<=1000000) (b7:∀i j,i<n->j<n->lY P G (.one (get i 0):: .one (get j 0)::fG q cap) (au (cf i j))):
  aI P o t m (.eD []) [(b,.aL g n 1 e λi j=>get (tH n cf i) j)] (b.key::ks):=by
 subst d7;have e3:fo∈o.op.operands.toList:=by rw[a5];simp[Op.operands,Call.operands,a6]
 have b8:∀z∈c.args.toList,z∈o.op.operands.toList:=λz Y=>by rw[a5];simp[Op.operands,Call.operands,a6];right;simpa using Y
 intro E ρ b9 B a w g8 a8 c0 e4 A K Q hK;have I:B b= .aL g n 1 e get:=by rw[c0 b (by simp)];exact e0
 have c1:gO ks m B:=c0.sub (λk e5=>by simp[e5]);have c2:=(az A fo).1;rw[ao a8 e3,d6]at c2;obtain⟨g9,e6,_⟩:=Rd.jN (show Rd _ _ _ _ from c2);have c3:=(az A x).1;rw[ao a8 (b8 x (by rw[a7];simp)),d9]at c3;have e7:(B b).bF=some (g,n,1):=by rw[I];rfl
 have C:=((br e7).1 c3).2.2 rfl;have c4:∀{Z:Id->Mem} {ρ2:Id->Option (Nat×Nat)} {D:World},Rel E ρ2 b9 Z a D->kR (Vm.L E Z ρ2 D) Z ρ2 D (a.eval y) cv:=λ{Z ρ2 D} S=>by have J:=(az S y).1;rw[ao a8 (b8 y (by rw[a7];simp)),e1]at J;cases cv<;>exact J
 have e8:=b5.rd c1 A.toOwn _ (c4 A);obtain⟨cb,c5,_⟩:=Rd.jN e8;have e9:(execOp a.eval o).run P w= .ok (.enter (R.f 6) #[a.eval x,a.eval y]) w:=by have T:=qA a5 a6 d8 a w _ e6;rw[a7]at T;simpa using T
 unfold Oper.wp;rw[e9];rw[c5];have c6:∀{ρ2 D},Rel E ρ2 b9 (bj B b (.aL g n 1 e λi j=>get (tH n cf i) j)) a D->K (a.put o.dst (.tuple #[])) D:=λS=>hK _ _ _ (S.put e4 ⟨[],rfl,.nil⟩ (λ_ h=>h.elim));cases n with
 |zero=>
  have hw:∃p cap,a.eval x= .slice p 0 cap:=by
   simp only[cu]at C;cases c7:ρ b with
   |none=>rw[c7]at C;exact⟨_,_,C⟩
   |some f0=>obtain⟨h0,h1⟩:=f0;rw[c7]at C;exact⟨_,_,C⟩
  obtain⟨p,U,hw⟩:=hw;rw[hw];refine Calls.mono (Proofs.AnyF.slices_SortFunc_none {L with} p U _ w) ?_;rintro _ _ ⟨rfl,rfl⟩;refine c6 (ρ2:=ρ) ?_;have:(Mem.aL g 0 1 e λi j=>get (tH 0 cf i) j)=B b:=(by rw[I];rfl);rw[this,et];exact A
 |succ n=>
  have c8:=A.mem b;rw[I]at c8;rcases c8 with⟨_,h2⟩|⟨nc,U,f,V,a0,a9,c9,d0,b0⟩;omega;simp only[cu,V]at C;rw[C];have b1:(B b).live:=(by rw[I];trivial);obtain⟨h3,f1⟩:=A.lo b nc U b1 V;have a1:∀i:_root_.Fin (n+1),f[i.val]? =some (cellOf f i)/\Rd (Vm.L E B ρ w) w (cellOf f i) (get i.val 0):=λi=>by obtain⟨x,T,S⟩:=b0 i.val i.isLt 0 (by omega);simp only[abN,YG]at T;unfold cellOf;rw[T];exact⟨rfl,S⟩
  have f2:Proofs.CmpLays1 P G ((List.range q).map cb).toArray (cellOf f) (λi j:_root_.Fin (n+1)=>cf i.val j.val) nc 0 (qx n).size w:=by
   intro a2 N a3 b2 i j;have b2:a3.size=n+1:=(by rw[b2];simp[qx]);have O:=Ce A I V a0 a9 c9 d0 b0 a3 b2 a2 N;generalize d1:Proofs.sortWorld (cellOf f) w nc 0 a2 a3 N=W at O|-;generalize d2:bj B b (.aL g (n+1) 1 e λi j=>get (a3[i]!).val j)=M at O;have f3:gO ks m M:=λz Y=>by rw[<-d2,aw _ _ _ (λq=>e2 (by rw[<-q];exact Y))];exact c1 z Y
   have d3:=b5.rd f3 O.toOwn _ (c4 O);rw[c5]at d3;obtain⟨a4,f4,f5⟩:=Rd.jN d3;have f6:((List.range q).map cb).toArray=((List.range q).map a4).toArray:=(by injection f4);have d4:∀u,Vm.L E B ρ w u->Sx E M ρ W [] true u/\W.heap[u]? =w.heap[u]?:=λu H=>by have f7:u≠nc:=λq=>H.2 b U b1 (q▸V);have f8:=tx A H;have a9:W.heap.size=w.heap.size+N.size:=(by rw[<-d1];simp[Proofs.sortWorld,Sort.putRow,Sort.mapBlock,Sort.ahead]);refine⟨.inl ⟨H.1.imp id (λh=>h.imp id (λh=>⟨h.1,by omega⟩)),λz c l r=>?_⟩,?_⟩;by_cases q:z=b;subst q;exact H.2 z c b1 r;rw[<-d2,aw _ _ _ q]at l;exact H.2 z c l r;rw[<-d1];show((w.heap.modify nc _)++N)[u]? =_;rw[Z8 (by simpa using f8),Z9,XG (Zf f7)]
   have f9:∀u,Sx E M ρ W [] true u->u<W.heap.size:=λu H=>by rcases H with h|⟨z,_,l,c,r⟩;exact tx O h;exact(O.lo z u c l r).2
   have g0:dA (Sx E M ρ W [] true) W ([cellOf f i,cellOf f j]++(List.range q).map a4) (.one (get i.val 0):: .one (get j.val 0)::fG q cap):=
    .cons ((a1 i).2.mono d4) (.cons ((a1 j).2.mono d4) (py q cap a4 f5))
   have g1:=(b7 i.val j.val i.isLt j.isLt).2 W (Sx E M ρ W [] true) _ f9 g0;have b3:(#[cellOf f i,cellOf f j]++((List.range q).map cb).toArray)=([cellOf f i,cellOf f j]++(List.range q).map a4).toArray:=(by rw[f6];simp);rw[b3];refine Calls.mono g1 ?_;rintro _ g2 ⟨v,rfl,g3,J⟩;have J:Rd _ _ v (i64 (cf i.val j.val)):=J;rw[(Rd.bT J).1];exact⟨rfl,xJ g3⟩
  have g4:Sort.Holds (cellOf f) w nc 0 (qx n):=λj X=>by have X:j<n+1:=(by simpa[qx]using X);have b3:(qx n)[j]! =⟨j,X⟩:=(by rw[abE (qx n) j (by simpa[qx]using X)];simp[qx]);rw[b3];refine⟨?_,?_⟩;simp only[World.cell?,a0,Ya];exact(a1 ⟨j,X⟩).1;simp[World.frozen?,a0]
  have g5:Proofs.OneCell (cellOf (n:=n+1) f):=λi=>(a1 i).2.bG;have b4:(qx n).size=n+1:=(by simp[qx]);have eg:∀args w,(callFunc G args).run P w= .ok (.enter G args) w:=λargs w=>da (b7 0 0 (by omega) (by omega)).1 args w;have d5:=Proofs.Any.slices_SortFunc_eq L (cellOf f) g5 (λi j:_root_.Fin (n+1)=>cf i.val j.val) b6.fin G ((List.range q).map cb).toArray nc 0 U (qx n) w eg f2 g4 f1 (by rw[b4];omega);rw[b4]at d5;refine Calls.mono d5 ?_;rintro _ g2 ⟨rfl,a2,N,rfl⟩;refine c6 (ρ2:=ρ) ?_;have g6:=Sort.pdq_sorts (Proofs.ltOf λi j:_root_.Fin (n+1)=>cf i.val j.val) b6.fin (qx n) 0 (n+1) (Lib.bitLen (n+1)) true true (XR _) (by omega) (.inl rfl);exact Ce A I V a0 a9 c9 d0 b0 _ (g6.1.1.trans b4) a2 N
def cellsOf (a:Array Value) (k:Nat) {n:Nat} (i:_root_.Fin n):List Value:=(List.range k).map λj=>(a[i.val*k+j]?).getD Go.undef
theorem ud (a:Array Value) (k:Nat) {n:Nat} (i:_root_.Fin n):(cellsOf a k i).length=k:=by simp[cellsOf]
variable {k:Nat}
theorem xG (a:Array Value) {j:Nat} {n:Nat} (i:_root_.Fin n) (h:j<k):(cellsOf a k i)[j]! =(a[i.val*k+j]?).getD Go.undef:=by
 rw[abE (cellsOf a k i) j (by rw[ud];exact h)];simp[cellsOf]
section
variable {E:Env} {ρ:Id->Option (Nat×Nat)} {t:Nat->TV} {m:Id->Mem} {a:Act} {w:World}
theorem yL (h:Rel E ρ t m a w) {b:Id} {n:Nat} {get:Nat->Nat->SV} (H:0<k) (u:m b= .aL g (n+1) k e get) (y:ρ b=some (nc,cap)) {c:Array Value} (A:w.heap[nc]? =some (.cells c e (0,0))) (B:c.size=cap*k) (C:n+1<=cap) (I:cap<=maxLen)
  (J:∀i,i<n+1->∀j,j<k->∃x,c[i*k+j]? =some x/\Rd (L E m ρ w) w x (get i j)) (f:Array (_root_.Fin (n+1))) (hs:f.size=n+1) (q:Nat) (p:Array Obj):
  Rel E ρ t (bj m b (.aL g (n+1) k e λi j=>get (f[i]!).val j)) a (Proofs.sortWorldK (cellsOf c k) k w nc 0 q f p):=by
 obtain⟨F,r⟩:∃F,F=Sort.flatK (cellsOf c k) k f:=⟨_,rfl⟩;have D:F.size=(n+1)*k:=by rw[r,Sort.size_flatK,hs]
 have K:Sort.putRow id (Sort.ahead w q) nc 0 F=(w.drewN q).setRow nc (Sort.putCells id 0 F c):=by unfold Sort.putRow Sort.mapBlock World.setRow;congr 1;apply aa0;intro z;show(w.heap.modify nc _)[z]? =(w.heap.modify nc _)[z]?;rw[Z9,Z9];by_cases l:nc=z;subst l;rw[XL rfl,XL rfl,A];rfl;rw[XG l,XG l]
 show Rel E ρ t _ a (Sort.grow (Sort.putRow id (Sort.ahead w q) nc 0 (Sort.flatK (cellsOf c k) k f)) p);rw[<-r,K];have M:Rel E ρ t m a (w.drewN q):=h.grow ⟨⟨rfl,rfl,rfl,XU _,λ_ _=>rfl⟩,Nat.le_add_right _ _⟩;have N:(m b).live:=by rw[u];trivial
 have O:Shape (m b) (.aL g (n+1) k e λi j=>get (f[i]!).val j):=by rw[u];exact .bF rfl rfl
 have P:bj ρ b (some (nc,cap))=ρ:=by rw[<-y];exact et ρ b
 have G:=M.nw N y (.aL g (n+1) k e λi j=>get (f[i]!).val j) (Sort.putCells id 0 F c) O (λ_ h=>h.elim) (λQ _=>by
  refine .inr ⟨nc,cap,Sort.putCells id 0 F c,aq _ _ _,setRow_heap _ _ c _ e (0,0) A,by simp[Sort.putCells,B],C,I,λi X j o=>?_⟩;obtain⟨x,R,S⟩:=J (f[i]!).val (f[i]!).isLt j o;refine⟨x,?_,?_⟩;have Y:i*k+j<F.size:=(by rw[D];have:=XX k (show i+1<=n+1 by omega);rw[aak]at this;omega);have Z:F.size<=c.size:=(by rw[D,B];exact XX k C);simp only[Sort.putCells,Array.getElem?_mapIdx];rw[ZV (show i*k+j<c.size by omega)];show some (if 0<=i*k+j/\i*k+j<0+F.size then id F[i*k+j-0]! else c[i*k+j])=some x;rw[XL ⟨XR _,by omega⟩,abf];have T:F[i*k+j]! =(c[(f[i]!).val*k+j]?).getD Go.undef:=(by rw[r,Sort.get_flatK _ _ _ _ (by rw[hs];omega),show(i*k+j)/k=i by rw[ZP,Nat.mul_add_div H,Nat.div_eq_of_lt o,YG],show(i*k+j)%k=j by rw[ZP,aaQ,X5 o]];exact xG c (f[i]!) o);show some (F[i*k+j]!)=some x;rw[T,R];rfl
  ·exact S.mono (λU V=>by have:=Q U V;exact⟨this.1,this.2⟩))
 rw[P]at G;exact G.grow ⟨⟨rfl,rfl,rfl,by simp[Sort.grow],λz l=>by show((_:World).heap++p)[z]? =_;rw[Z8 l]⟩,XU _⟩
end
set_option maxHeartbeats 1000000 in
theorem EH {o:Oper} {t:Nat->TV} (a9:o.op= .call c) (b0:c.callee= .value fo) (e0:bE t fo= .d (.one (.fn F 0 Vi))) (L:Proofs.SlLaysF0.n6 P R) (e1:R.f 6=F) (e2:Enters P F) (X:0<k) (e3:∀w,(isAgg (R.t 24)).run P w= .ok true w) (e4:∀w,(Go.sizeOf (R.t 24)).run P w= .ok k w)
  {x y:Operand} (b1:c.args.toList=[x,y]) {b:Id} {g n:Nat} {e:TypeId} {get:Nat->Nat->SV} (e5:bE t x= .aJ b g) (e6:m b= .aL g n k e get) {cv:CV} (e7:bE t y=cv.tv) {ks:List Nat} {G:FuncId} {q:Nat} {cap:Nat->SV} (Y:lR m ks cv (.fn G q cap)) (e8:b.key∉ks)
  {cf:Nat->Nat->Int} (b9:nh n cf) (h6:n<=1000000) (c0:∀i j,i<n->j<n->lY P G (.agg ((List.range k).map (get i)):: .agg ((List.range k).map (get j))::fG q cap) (au (cf i j))):
  aI P o t m (.eD []) [(b,.aL g n k e λi j=>get (tH n cf i) j)] (b.key::ks):=by
 subst e1;have e9:fo∈o.op.operands.toList:=by rw[a9];simp[Op.operands,Call.operands,b0]
 have c1:∀z∈c.args.toList,z∈o.op.operands.toList:=λz A=>by rw[a9];simp[Op.operands,Call.operands,b0];right;simpa using A
 intro E ρ c2 B a w h7 b2 c3 f0 C K Q hK;have N:B b= .aL g n k e get:=by rw[c3 b (by simp)];exact e6
 have c4:gO ks m B:=c3.sub (λk X=>by simp[X]);have c5:=(az C fo).1;rw[ao b2 e9,e0]at c5;obtain⟨h8,f1,_⟩:=Rd.jN (show Rd _ _ _ _ from c5);have c6:=(az C x).1;rw[ao b2 (c1 x (by rw[b1];simp)),e5]at c6;have f2:(B b).bF=some (g,n,k):=by rw[N];rfl
 have H:=((br f2).1 c6).2.2 rfl;have c7:∀{a3:Id->Mem} {ρ2:Id->Option (Nat×Nat)} {I:World},Rel E ρ2 c2 a3 a I->kR (Vm.L E a3 ρ2 I) a3 ρ2 I (a.eval y) cv:=λ{a3 ρ2 I} Z=>by have D:=(az Z y).1;rw[ao b2 (c1 y (by rw[b1];simp)),e7]at D;cases cv<;>exact D
 have f3:=Y.rd c4 C.toOwn _ (c7 C);obtain⟨cb,c8,_⟩:=Rd.jN f3;have f4:(execOp a.eval o).run P w= .ok (.enter (R.f 6) #[a.eval x,a.eval y]) w:=by have a4:=qA a9 b0 e2 a w _ f1;rw[b1]at a4;simpa using a4
 unfold Oper.wp;rw[f4];rw[c8];have c9:∀{ρ2 I},Rel E ρ2 c2 (bj B b (.aL g n k e λi j=>get (tH n cf i) j)) a I->K (a.put o.dst (.tuple #[])) I:=λZ=>hK _ _ _ (Z.put f0 ⟨[],rfl,.nil⟩ (λ_ h=>h.elim));cases n with
 |zero=>
  have hw:∃p cap,a.eval x= .slice p 0 cap:=by
   simp only[cu]at H;cases O:ρ b with
   |none=>rw[O]at H;exact⟨_,_,H⟩
   |some f5=>obtain⟨h9,i0⟩:=f5;rw[O]at H;exact⟨_,_,H⟩
  obtain⟨p,a0,hw⟩:=hw;rw[hw];refine Calls.mono (Proofs.AnyF.slices_SortFunc_none L p a0 _ w) ?_;rintro _ _ ⟨rfl,rfl⟩;refine c9 (ρ2:=ρ) ?_;have:(Mem.aL g 0 k e λi j=>get (tH 0 cf i) j)=B b:=(by rw[N];rfl);rw[this,et];exact C
 |succ n=>
  have d0:=C.mem b;rw[N]at d0;rcases d0 with⟨_,i1⟩|⟨nc,a0,f,a1,a5,b3,d1,d2,b4⟩;omega;simp only[cu,a1]at H;rw[H];have b5:(B b).live:=(by rw[N];trivial);obtain⟨i2,f6⟩:=C.lo b nc a0 b5 a1;have b6:∀i:_root_.Fin (n+1),∀j,j<k->f[i.val*k+j]? =some ((f[i.val*k+j]?).getD Go.undef)/\Rd (Vm.L E B ρ w) w ((f[i.val*k+j]?).getD Go.undef) (get i.val j):=λi j a2=>by obtain⟨x,a4,Z⟩:=b4 i.val i.isLt j a2;rw[a4];exact⟨rfl,Z⟩
  have d3:∀(S:Nat->Prop) (W:World),(∀u,Vm.L E B ρ w u->S u/\W.heap[u]? =w.heap[u]?)->∀i:_root_.Fin (n+1),lU S W (.agg (cellsOf f k i).toArray) (.agg ((List.range k).map (get i.val))):=λS W f7 i=>by
   refine⟨cellsOf f k i,rfl,?_⟩;have f8:∀l:List Nat,(∀j∈l,j<k)->eA S W (l.map λj=>(f[i.val*k+j]?).getD Go.undef) (l.map (get i.val)):=by
    intro l;induction l with
    |nil=>intro _;exact .nil
    |cons j l f9=>intro Y;exact .cons ((b6 i j (Y j (by simp))).2.mono f7) (f9 λz A=>Y z (by simp[A]))
   exact f8 _ (λj a2=>X6.1 a2)
  have g0:Proofs.CmpLays P G ((List.range q).map cb).toArray (cellsOf f k) k (λi j:_root_.Fin (n+1)=>cf i.val j.val) nc 0 (qx n).size w:=by
   intro a6 T a7 b7 i j;have b7:a7.size=n+1:=(by rw[b7];simp[qx]);have U:=yL C X N a1 a5 b3 d1 d2 b4 a7 b7 a6 T;generalize d4:Proofs.sortWorldK (cellsOf f k) k w nc 0 a6 a7 T=W at U|-;generalize d5:bj B b (.aL g (n+1) k e λi j=>get (a7[i]!).val j)=M at U;have g1:gO ks m M:=λz A=>by rw[<-d5,aw _ _ _ (λq=>e8 (by rw[<-q];exact A))];exact c4 z A
   have d6:=Y.rd g1 U.toOwn _ (c7 U);rw[c8]at d6;obtain⟨a8,g2,g3⟩:=Rd.jN d6;have g4:((List.range q).map cb).toArray=((List.range q).map a8).toArray:=(by injection g2);have d7:∀u,Vm.L E B ρ w u->Sx E M ρ W [] true u/\W.heap[u]? =w.heap[u]?:=λu J=>by have g5:u≠nc:=λq=>J.2 b a0 b5 (q▸a1);have g6:=tx C J;have b3:W.heap.size=w.heap.size+T.size:=(by rw[<-d4];simp[Proofs.sortWorldK,Sort.putRowK,Sort.grow,Sort.putRow,Sort.mapBlock,Sort.ahead]);refine⟨.inl ⟨J.1.imp id (λh=>h.imp id (λh=>⟨h.1,by omega⟩)),λz c l r=>?_⟩,?_⟩;by_cases q:z=b;subst q;exact J.2 z c b5 r;rw[<-d5,aw _ _ _ q]at l;exact J.2 z c l r;rw[<-d4];show((w.heap.modify nc _)++T)[u]? =_;rw[Z8 (by simpa using g6),Z9,XG (Zf g5)]
   have g7:∀u,Sx E M ρ W [] true u->u<W.heap.size:=λu J=>by rcases J with h|⟨z,_,l,c,r⟩;exact tx U h;exact(U.lo z u c l r).2
   have g8:dA (Sx E M ρ W [] true) W ([.agg (cellsOf f k i).toArray,.agg (cellsOf f k j).toArray]++(List.range q).map a8) (.agg ((List.range k).map (get i.val)):: .agg ((List.range k).map (get j.val))::fG q cap):=
    .cons (d3 _ _ d7 i) (.cons (d3 _ _ d7 j) (py q cap a8 g3))
   have g9:=(c0 i.val j.val i.isLt j.isLt).2 W (Sx E M ρ W [] true) _ g7 g8;have b8:(#[Value.agg (cellsOf f k i).toArray,Value.agg (cellsOf f k j).toArray]++((List.range q).map cb).toArray)=([Value.agg (cellsOf f k i).toArray,Value.agg (cellsOf f k j).toArray]++(List.range q).map a8).toArray:=(by rw[g4];simp);rw[b8];refine Calls.mono g9 ?_;rintro _ h0 ⟨v,rfl,h1,D⟩;have D:Rd _ _ v (i64 (cf i.val j.val)):=D;rw[(Rd.bT D).1];exact⟨rfl,xJ h1⟩
  have V:(qx n).size=n+1:=(by simp[qx]);have h2:Sort.HoldsK (cellsOf f k) k w nc 0 (qx n):=λz A=>by have A:z<(n+1)*k:=(by rw[Sort.size_flatK,V]at A;exact A);have O:z/k<n+1:=Nat.div_lt_of_lt_mul (by rw[ZP];exact A);have d8:=ZC z X;have b8:(qx n)[z/k]! =⟨z/k,O⟩:=(by rw[abE (qx n) (z/k) (by rw[V];exact O)];simp[qx]);have h3:(Sort.flatK (cellsOf f k) k (qx n))[z]! =(f[z]?).getD Go.undef:=(by rw[Sort.get_flatK _ _ _ _ (by rw[V];exact A),b8,xG f _ d8];show(f[z/k*k+z%k]?).getD _=_;rw[ZP,abj]);refine⟨?_,?_⟩;simp only[World.cell?,a5,Ya,id];rw[h3];have:=(b6 ⟨z/k,O⟩ (z%k) d8).1;simp only at this;rw[show z/k*k+z%k=z by rw[ZP,abj]]at this;exact this;simp[World.frozen?,a5]
  have h4:∀i:_root_.Fin (n+1),∀v∈cellsOf f k i,v.oneCell'=true:=λi v D=>by obtain⟨j,a2,rfl⟩:=XS.1 D;exact(b6 i j (X6.1 a2)).2.bG
  have eg:∀args w,(callFunc G args).run P w= .ok (.enter G args) w:=λargs w=>da (c0 0 0 (by omega) (by omega)).1 args w;have d9:=Proofs.AnyQ.slices_SortFunc_eq L k e3 e4 (cellsOf f k) (ud f k) h4 (λi j:_root_.Fin (n+1)=>cf i.val j.val) b9.fin G ((List.range q).map cb).toArray nc 0 a0 (qx n) w eg g0 h2 f6 (by rw[V];omega);rw[V]at d9;refine Calls.mono d9 ?_;rintro _ h0 ⟨rfl,a6,T,rfl⟩;refine c9 (ρ2:=ρ) ?_;have h5:=Sort.pdq_sorts (Proofs.ltOf λi j:_root_.Fin (n+1)=>cf i.val j.val) b9.fin (qx n) 0 (n+1) (Lib.bitLen (n+1)) true true (XR _) (by omega) (.inl rfl);exact yL C X N a1 a5 b3 d1 d2 b4 _ (h5.1.1.trans V) a6 T
end Go.Vm
namespace Go.Vm
open Go Go.RowKit Go.Proofs
namespace Sg
def II:Go.Shelf.Ren:=⟨λ|6=>201|15=>96|14=>231|28=>159|29=>160|20=>242|21=>243|22=>244|23=>245|24=>246|25=>247|26=>248|27=>249|46=>258|47=>207|48=>208|49=>259|50=>260|57=>265|n=>n,λ|22=>22|24=>3|25=>184|3=>3|39=>145|0=>0|53=>194|55=>196|4=>4|46=>188|45=>187|50=>86|5=>5|9=>9|66=>227|70=>231|76=>245|77=>80|n=>n,λ|n=>n⟩
theorem Uq:Go.Proofs.SlLaysF.n6 Tryz.prog II:={
 mixed:=by kernel_rfl
 f6:=⟨Tryz.f201.name,by decide,Tryz.func201.trans (XT some (by kernel_rfl))⟩
 f14:=⟨Tryz.f231.name,by decide,Tryz.func231.trans (XT some (by kernel_rfl))⟩
 f15:=Tryz.func96.trans (XT some (by kernel_rfl))
 f20:=⟨Tryz.f242.name,by decide,Tryz.func242.trans (XT some (by kernel_rfl))⟩
 f21:=⟨Tryz.f243.name,by decide,Tryz.func243.trans (XT some (by kernel_rfl))⟩
 f22:=⟨Tryz.f244.name,by decide,Tryz.func244.trans (XT some (by kernel_rfl))⟩
 f23:=⟨Tryz.f245.name,by decide,Tryz.func245.trans (XT some (by kernel_rfl))⟩
 f24:=⟨Tryz.f246.name,by decide,Tryz.func246.trans (XT some (by kernel_rfl))⟩
 f25:=⟨Tryz.f247.name,by decide,Tryz.func247.trans (XT some (by kernel_rfl))⟩
 f26:=⟨Tryz.f248.name,by decide,Tryz.func248.trans (XT some (by kernel_rfl))⟩
 f27:=⟨Tryz.f249.name,by decide,Tryz.func249.trans (XT some (by kernel_rfl))⟩
 f28:=Tryz.func159.trans (XT some (by kernel_rfl))
 f29:=Tryz.func160.trans (XT some (by kernel_rfl))
 f46:=⟨Tryz.f258.name,by decide,Tryz.func258.trans (XT some (by kernel_rfl))⟩
 f47:=Tryz.func207.trans (XT some (by kernel_rfl))
 f48:=Tryz.func208.trans (XT some (by kernel_rfl))
 f49:=⟨Tryz.f259.name,by decide,Tryz.func259.trans (XT some (by kernel_rfl))⟩
 f50:=⟨Tryz.f260.name,by decide,Tryz.func260.trans (XT some (by kernel_rfl))⟩
 f57:=⟨Tryz.f265.name,by decide,Tryz.func265.trans (XT some (by kernel_rfl))⟩
 t0:=Tryz.underlying0
 a0:=Tryz.isAgg0
 z0:=Tryz.sizeOf0
 v0:=Tryz.zeroValue0
 t3:=Tryz.underlying3
 a3:=Tryz.isAgg3
 z3:=Tryz.sizeOf3
 v3:=Tryz.zeroValue3
 t4:=Tryz.underlying4
 a4:=Tryz.isAgg4
 z4:=Tryz.sizeOf4
 v4:=Tryz.zeroValue4
 t5:=Tryz.underlying5
 a5:=Tryz.isAgg5
 z5:=Tryz.sizeOf5
 v5:=Tryz.zeroValue5
 t9:=Tryz.underlying9
 a9:=Tryz.isAgg9
 z9:=Tryz.sizeOf9
 v9:=Tryz.zeroValue9
 t22:=Tryz.underlying22
 a22:=Tryz.isAgg22
 z22:=Tryz.sizeOf22
 v22:=Tryz.zeroValue22
 a24:=Tryz.isAgg3
 z24:=Tryz.sizeOf3
 t25:=Tryz.underlying184
 a25:=Tryz.isAgg184
 z25:=Tryz.sizeOf184
 v25:=Tryz.zeroValue184
 t39:=Tryz.underlying145
 a39:=Tryz.isAgg145
 z39:=Tryz.sizeOf145
 v39:=Tryz.zeroValue145
 t45:=Tryz.underlying187
 a45:=Tryz.isAgg187
 z45:=Tryz.sizeOf187
 v45:=Tryz.zeroValue187
 t46:=Tryz.underlying188
 a46:=Tryz.isAgg188
 z46:=Tryz.sizeOf188
 v46:=Tryz.zeroValue188
 t50:=Tryz.underlying86
 a50:=Tryz.isAgg86
 z50:=Tryz.sizeOf86
 v50:=Tryz.zeroValue86
 t53:=Tryz.underlying194
 a53:=Tryz.isAgg194
 z53:=Tryz.sizeOf194
 v53:=Tryz.zeroValue194
 t55:=Tryz.underlying196
 a55:=Tryz.isAgg196
 z55:=Tryz.sizeOf196
 v55:=Tryz.zeroValue196
 t66:=Tryz.underlying227
 a66:=Tryz.isAgg227
 z66:=Tryz.sizeOf227
 v66:=Tryz.zeroValue227
 t70:=Tryz.underlying231
 a70:=Tryz.isAgg231
 z70:=Tryz.sizeOf231
 v70:=Tryz.zeroValue231
 t76:=Tryz.underlying245
 a76:=Tryz.isAgg245
 z76:=Tryz.sizeOf245
 v76:=Tryz.zeroValue245
 t77:=Tryz.underlying80
 a77:=Tryz.isAgg80
 z77:=Tryz.sizeOf80
 v77:=Tryz.zeroValue80}
def IH:Go.Shelf.Ren:=⟨λ|6=>48|15=>96|14=>95|28=>159|29=>160|20=>151|21=>152|22=>153|23=>154|24=>155|25=>156|26=>157|27=>158|46=>206|47=>207|48=>208|49=>209|50=>210|57=>232|n=>n,λ|22=>43|24=>42|25=>107|3=>3|39=>145|0=>0|53=>194|55=>196|4=>4|46=>188|45=>187|50=>86|5=>5|9=>9|66=>227|70=>231|76=>245|77=>80|n=>n,λ|n=>n⟩
theorem QT:Go.Proofs.SlLaysF.n6 Tryz.prog IH:={
 mixed:=by kernel_rfl
 f6:=⟨Tryz.f48.name,by decide,Tryz.func48.trans (XT some (by kernel_rfl))⟩
 f14:=⟨Tryz.f95.name,by decide,Tryz.func95.trans (XT some (by kernel_rfl))⟩
 f15:=Tryz.func96.trans (XT some (by kernel_rfl))
 f20:=⟨Tryz.f151.name,by decide,Tryz.func151.trans (XT some (by kernel_rfl))⟩
 f21:=⟨Tryz.f152.name,by decide,Tryz.func152.trans (XT some (by kernel_rfl))⟩
 f22:=⟨Tryz.f153.name,by decide,Tryz.func153.trans (XT some (by kernel_rfl))⟩
 f23:=⟨Tryz.f154.name,by decide,Tryz.func154.trans (XT some (by kernel_rfl))⟩
 f24:=⟨Tryz.f155.name,by decide,Tryz.func155.trans (XT some (by kernel_rfl))⟩
 f25:=⟨Tryz.f156.name,by decide,Tryz.func156.trans (XT some (by kernel_rfl))⟩
 f26:=⟨Tryz.f157.name,by decide,Tryz.func157.trans (XT some (by kernel_rfl))⟩
 f27:=⟨Tryz.f158.name,by decide,Tryz.func158.trans (XT some (by kernel_rfl))⟩
 f28:=Tryz.func159.trans (XT some (by kernel_rfl))
 f29:=Tryz.func160.trans (XT some (by kernel_rfl))
 f46:=⟨Tryz.f206.name,by decide,Tryz.func206.trans (XT some (by kernel_rfl))⟩
 f47:=Tryz.func207.trans (XT some (by kernel_rfl))
 f48:=Tryz.func208.trans (XT some (by kernel_rfl))
 f49:=⟨Tryz.f209.name,by decide,Tryz.func209.trans (XT some (by kernel_rfl))⟩
 f50:=⟨Tryz.f210.name,by decide,Tryz.func210.trans (XT some (by kernel_rfl))⟩
 f57:=⟨Tryz.f232.name,by decide,Tryz.func232.trans (XT some (by kernel_rfl))⟩
 t0:=Tryz.underlying0
 a0:=Tryz.isAgg0
 z0:=Tryz.sizeOf0
 v0:=Tryz.zeroValue0
 t3:=Tryz.underlying3
 a3:=Tryz.isAgg3
 z3:=Tryz.sizeOf3
 v3:=Tryz.zeroValue3
 t4:=Tryz.underlying4
 a4:=Tryz.isAgg4
 z4:=Tryz.sizeOf4
 v4:=Tryz.zeroValue4
 t5:=Tryz.underlying5
 a5:=Tryz.isAgg5
 z5:=Tryz.sizeOf5
 v5:=Tryz.zeroValue5
 t9:=Tryz.underlying9
 a9:=Tryz.isAgg9
 z9:=Tryz.sizeOf9
 v9:=Tryz.zeroValue9
 t22:=Tryz.underlying43
 a22:=Tryz.isAgg43
 z22:=Tryz.sizeOf43
 v22:=Tryz.zeroValue43
 a24:=Tryz.isAgg42
 z24:=Tryz.sizeOf42
 t25:=Tryz.underlying107
 a25:=Tryz.isAgg107
 z25:=Tryz.sizeOf107
 v25:=Tryz.zeroValue107
 t39:=Tryz.underlying145
 a39:=Tryz.isAgg145
 z39:=Tryz.sizeOf145
 v39:=Tryz.zeroValue145
 t45:=Tryz.underlying187
 a45:=Tryz.isAgg187
 z45:=Tryz.sizeOf187
 v45:=Tryz.zeroValue187
 t46:=Tryz.underlying188
 a46:=Tryz.isAgg188
 z46:=Tryz.sizeOf188
 v46:=Tryz.zeroValue188
 t50:=Tryz.underlying86
 a50:=Tryz.isAgg86
 z50:=Tryz.sizeOf86
 v50:=Tryz.zeroValue86
 t53:=Tryz.underlying194
 a53:=Tryz.isAgg194
 z53:=Tryz.sizeOf194
 v53:=Tryz.zeroValue194
 t55:=Tryz.underlying196
 a55:=Tryz.isAgg196
 z55:=Tryz.sizeOf196
 v55:=Tryz.zeroValue196
 t66:=Tryz.underlying227
 a66:=Tryz.isAgg227
 z66:=Tryz.sizeOf227
 v66:=Tryz.zeroValue227
 t70:=Tryz.underlying231
 a70:=Tryz.isAgg231
 z70:=Tryz.sizeOf231
 v70:=Tryz.zeroValue231
 t76:=Tryz.underlying245
 a76:=Tryz.isAgg245
 z76:=Tryz.sizeOf245
 v76:=Tryz.zeroValue245
 t77:=Tryz.underlying80
 a77:=Tryz.isAgg80
 z77:=Tryz.sizeOf80
 v77:=Tryz.zeroValue80}
theorem enters_of {P:Program} {f:FuncId} {fn:Func} (h:P.funcs[f]? =some fn) (h2:((fn.name== "runtime.NumGoroutine")||fn.body.isNone)=false):Enters P f:=by
 have:=Bool.or_eq_false_iff.1 h2;exact⟨fn,h,this.1,this.2⟩
theorem FV (a b:LV) (f:0<a.length) (g:0<b.length):DP 199 [.one (aN a),.one (aN b)] (au (gl (gt a 0) (gt b 0))):=by
 refine dg Tryz.func199 [] ?_;refine ak.o ?_;refine ak.o ?_;refine ai.int (iz (gt a 0) (gt b 0)) (λx c=>?_);refine ak.n ?_;exact Fin.int c
variable {a:V2}
theorem rN {b:V2}:gl a b<0↔bt a b=true:=by rw[<-rM];simp
theorem ib {b:V2}:bt a b=true↔a.y<b.y\/(a.y=b.y/\a.x<b.x):=by
 unfold bt;simp
theorem DQ (n:Nat) (p:Nat->V2):nh n λi j=>gl (p i) (p j) where
 irrefl i _:=by rw[rN,ib];omega
 trans i j k _ _ _:=by simp only[rN,ib];omega
 ntrans i j k _ _ _:=by simp only[rN,ib];omega
def W7 (hs:List (LV)) (i j:Nat):Int:=gl (gt (aX (hs.getD i [])) 0) (gt (aX (hs.getD j [])) 0)
def eT (hs:List (LV)):List (LV):=((List.range hs.length).map (tH hs.length (W7 hs))).map λi=>aX (hs.getD i [])
theorem ov (hs:List (LV)):(eT hs).length=hs.length:=by simp[eT]
theorem lO (hs:List (LV)):(eT hs).Perm (hs.map aX):=by
 have h:=(jl (DQ hs.length λi=>gt (aX (hs.getD i [])) 0)).1.map λi=>aX (hs.getD i []);refine h.trans (abS ?_);apply Z7;simp;intro i c a;have b:i<hs.length:=(by simpa using a);simp[List.getD,b]
theorem qD {l:LV} (h:cj l=true):(aX l).length=l.length:=by
 rw[aX,XL h,bC,gS]
theorem Cj {o:LV} {hs:List (LV)} (V:VS o hs):DP 141 [iO o hs] (.d (iO (aX o) (eT hs))):=by
 refine dg Tryz.func141 [11,9000031] ?_;have h:=V.KI;refine ai.mk' (iZ V) ?_;repeat' first|apply af.t|apply af.f
 refine ai.mk' (zH o (hN V.vo)) ?_;refine Loop.by (α:=Nat) (λi=>[(2,.ptr 2 0),(3,.ptr 3 0),(15,.d (.one (hS hs))),(16,au hs.length),(17,au i)]) (λi=>[(2,.box [.v Fe,.v Fe]),(3,.obj [.s (aN (aX o)),.aJ 500 0]),(500,.aL 0 i 1 42 λi _=>aN (aX (hs.getD i [])))]) (λi=>i<=hs.length) (λi=>hs.length-i)
  (aG.q8 3 1 500 1 42 (λi _=>aN (aX (hs.getD i []))) _ _ rfl rfl rfl rfl (aG.at 0 (XR _) (.cX (.cons (.obj (.cons (.s (aD.refl _)) (.cons (.aJ (by intro q;cases q) rfl rfl) .nil))) (.cons (.aR rfl (λi a _ _=>absurd a (XO _))) .nil))) (.cB (.cons (.ptr (by intro q;cases q)) (.cS (.cS (.cS .nil)))))))
  (λi a=>?_)
 apply af.mk<;>intro c
 ·have g:i<hs.length:=(by have:=XA c;omega);refine ak.o ?_;refine ai.mk' (zH (hs.getD i []) (hN (V.vh i g))) ?_;refine ak.mk (aS) ?_;refine ak.n ?_;refine aG.back (x:=i) (i+1) (by show i+1<=_;omega) (by omega) (.cX (.cons (.obj (.cons (.s (aD.refl _)) (.cons (.aJ (by intro q;cases q) rfl rfl) .nil))) (.cons (.aR rfl (λk l j b=>?_)) .nil))) (.cB (.cons (.ptr (by intro q;cases q)) (.cS (.cS (.cons (ar.int (by rw[hw _];omega)) .nil)))));obtain rfl:j=0:=(by omega);refine aD.bif (λ_=>aD.refl _) (λm=>?_);obtain rfl:k=i:=(by omega);rw[Zb];exact aD.refl _
 ·obtain rfl:i=hs.length:=(by have:=XB c;omega);have f:∀i,i<hs.length->0<(aX (hs.getD i [])).length:=λi a=>by rw[qD (V.vh i a)];have:=(fg.1 (V.vh i a)).three;omega
  refine BN.mk' (so (cv:= .s (.fn 199 0 λ_=> .v Go.undef)) (ks:=[]) (cf:=W7 hs) rfl rfl rfl QT rfl (enters_of Tryz.func48 rfl) rfl rfl rfl rfl (.s _) (by simp) (DQ hs.length λi=>gt (aX (hs.getD i [])) 0) (by omega) (λi j a b=>FV _ _ (f i a) (f j b))) ?_;refine⟨aG.JB 3 500 _ [.s (aN (aX o)),.s (.sl hs.length 1 λi _=>aN (aX (hs.getD (tH hs.length (W7 hs) i) [])))] 0 _ 1 42 _ rfl rfl (.same (.shut .nil)) (aG.id ?_)⟩;refine Fin.d (dX.agg (.cons (aD.refl _) (.cons (aD.pQ (by rw[ov]) (λi a j b=>aD.of_eq ?_)) .nil)));simp[eT,List.getD,a]
def aA (o:LV) (hs:List (LV)):LV:=(aX o::eT hs).flatten
theorem Jo {A B:List (LV)} (h:A.Perm B):aP A=aP B:=(h.map _).sum_nat
theorem nT {o:LV} {hs:List (LV)} (V:VS o hs):aP (aX o::eT hs)=aP (o::hs):=by
 have a:=Jo (lO hs);have b:aP (hs.map aX)=aP hs:=by unfold aP;rw[Yp];congr 1;refine YS (λr c=>qD (V.ring (by simp[c])))
 show(aX o).length+aP (eT hs)=o.length+aP hs;rw[a,b,qD V.vo]
theorem vI {o:LV} {hs:List (LV)} (V:VS o hs):DP 139 [iO o hs] (.eD [.one (aN (aA o hs)),.one (i64 0)]):=by
 refine dg Tryz.func139 [] ?_;have l:=V.KI;have m:=V.eZ;refine ai.mk' (iZ V) ?_;repeat' first|apply af.t|apply af.f
 refine ai.mk' (Cj V) ?_;have p:=nT V;refine ai.mk' (iA (aX o) (eT hs) (by rw[ov];omega) (λr g=>Yg (oX g) (by omega))) ?_;unfold aA;have q:(aX o::eT hs).length<=7:=by simp[ov];omega
 generalize aX o::eT hs=L at*;refine Loop.by (α:=Nat) (λi=>[(4,.aJ 501 0),(12,.d (.one (hS L))),(13,au L.length),(14,au i)]) (λi=>[(501,.aL 0 (L.take i).flatten.length 2 50 (vG (L.take i).flatten))]) (λi=>i<=L.length) (λi=>L.length-i)
  (aG.nil 4 501 2 50 (vG []) rfl rfl (aG.at 0 (XR _) (.cons (.aR (by simp) (λi a=>absurd a (XO i))) .nil) (.cH (.cS (.cS (.cS .nil))))))
  (λi a=>?_)
 apply af.mk<;>intro c
 ·have h:i<L.length:=(by have:=XA c;omega);have b:=s8 h;have f:(L.take (i+1)).flatten.length<=40000:=(by rw[gX];exact Yg (eI L (i+1)) (by omega));rw[b,XQ]at f;have t:(L.take i).flatten.length+(L.getD (i:Int).toNat []).length<=40000:=f;refine ak.o ?_;refine ak.mk (aS) ?_;refine aG.back (x:=i) (i+1) (by show i+1<=_;omega) (by omega) (.cons (.aR (by rw[b,XQ];rfl) (λi a j k=>by rw[b];exact vF)) .nil) (.cH (.cS (.cS (.cons (ar.int (by rw[hw _];omega)) .nil))))
 ·have:L.take i=L:=Zi (by have:=XB c;omega);exact Fin.eD (.cons (dX.one (aD.pQ (by rw[this]) (λi a j k=>by rw[this];exact aD.refl _))) (.cR .nil))
theorem Pv {n:Nat} {get:Nat->Nat->SV} (c:∀i,i<n->ju Tryz.prog 50 (cells 2 (get i))):∃l:LV,l.length=n/\dX (.one (.sl n 2 get)) (.one (aN l)):=by
 have f:∀i,∃p:V2,i<n->cells 2 (get i)=vL p:=λi=>by by_cases a:i<n;obtain⟨g,k,e,_⟩:=TQ (c i a);exact⟨⟨g,k⟩,λ_=>e⟩;exact⟨⟨0,0⟩,λh=>absurd h a⟩
 obtain⟨R,m⟩:=abc f;refine⟨(List.range n).map R,by simp,dX.one (aD.pQ (by simp) (λi a j o=>?_))⟩;have e:[get i 0,get i 1]=vL (R i):=m i a;simp only[abl]at e;obtain⟨q,r,_⟩:=e;have b:((List.range n).map R).getD i ⟨0,0⟩=R i:=by simp[List.getD,a]
 match j,o with
 |0,_=>exact aD.of_eq (by rw[q];show _=vG _ i 0;rw[<-b];rfl)
 |1,_=>exact aD.of_eq (by rw[r];show _=vG _ i 1;rw[<-b];rfl)
def Xg (l:LV) (p:V2) (k:Nat):Bool:=!bn k λi=>!ka (bY l i) p
theorem og {s t:cp} (hs:aB s=true) (f:aB t=true) {p:V2} (b:p=s.a\/p=s.b) (h2:ka t p=true):aH s t≠0:=by
 intro a;have g:ka s p=true:=by rcases b with rfl|rfl;exact E5 hs;exact OY hs
 have h:p∈aT s t:=by unfold aT;rw[(eF _).2];refine aaq.2 ⟨?_,by rw[fI,g,h2];rfl⟩;unfold eN;rcases b with rfl|rfl<;>simp
 have i:=List.length_pos_of_mem h;unfold aH at a;rw[XG (by rw[hs,f];simp)]at a;by_cases c:(aT s t).length>1;rw[XL c]at a;cases a;rw[XG c,iP]at a;cases a
theorem HY {l:LV} (a:bo l) {i j:Nat} (hi:i<l.length) (b:j<l.length) (e:gt l i=gt l j):i=j:=by
 refine Xz (λg=>?_);by_cases c:j=(i+1)%l.length;refine pc a hi ?_;rw[bA,<-c];exact e;by_cases f:i=(j+1)%l.length;refine pc a b ?_;rw[bA,<-f];exact e.symm;refine og (ef a.eX i) (ef a.eX j) (p:=gt l i) (.inl rfl) ?_ (a.apart i hi j b g c f);rw[e];exact E5 (ef a.eX j)
structure Rev (l l':LV):Prop where
 len:l'.length=l.length
 at_:∀i,i<l.length->gt l' i=gt l (l.length-1-i)
section
variable {l l':LV}
theorem B6 (f:Nat->Int):∀n,bz n (λi=>f (n-1-i))=bz n f
 |0=>rfl
 |n+1=>by have a:bz (n+1) (λi=>f (n+1-1-i))=bz (1+n) (λi=>f (n+1-1-i)):=(by rw[Zu]);rw[a,gQ];have b:bz n (λi=>f (n+1-1-(1+i)))=bz n (λi=>f (n-1-i)):=ck (λi c=>by congr 1;omega);rw[b,B6 f n];simp only[bz];rw[show n+1-1-0=n by omega];omega
theorem OD (x:Int):bN (-x)= -bN x:=by
 unfold bN;by_cases a:x<0
 ·simp only[a,show¬(-x)<0 by omega,show-x>0 by omega,show¬x>0 by omega,aaD,aaa];try omega
 ·by_cases b:x>0
  ·simp only[a,b,show(-x)<0 by omega,show¬-x>0 by omega,aaD,aaa];try omega
  ·obtain rfl:x=0:=(by omega);rfl
end
end Sg
end Go.Vm
