import Derived.Test.YtobmlkopbmakcaaGreatLI
import Derived.Test.YtobmlkopbmakcaaGreatLF
set_option linter.unusedVariables false
set_option linter.unusedSimpArgs false
set_option maxRecDepth 20000
namespace Go.Vm
open Go Go.RowKit Go.Proofs
namespace Sg
theorem Mc:∀{b:LV} {p u w:V2},w∈kp p u b->∃s a t,b=s++a::t/\w=ak u (sV s)/\aa ((p::s).getLast (by simp)) a≠0
 |[],_,_,_,h=>by cases h
 |d::b,p,u,w,h=>by
  have g:ak u (sV [])=u:=V2.ext (by simp[ak,sV,sE]) (by simp[ak,sV,sE]);have f:w∈kp d (ak u d) b->∃s a t,d::b=s++a::t/\w=ak u (sV s)/\aa ((p::s).getLast (by simp)) a≠0:=λh=>by obtain⟨s,a,t,i,j,k⟩:=Mc h;refine⟨d::s,a,t,by rw[i];rfl,?_,?_⟩;rw[j];exact V2.ext (by simp only[ak,sV,sE];omega) (by simp only[ak,sV,sE];omega);have:(p::d::s).getLast (by simp)=(d::s).getLast (by simp):=Zk (by simp);rw[this];exact k
  simp only[kp]at h;by_cases c:aa p d≠0;rw[XG c]at h;rcases XF.1 h with rfl|h;exact⟨[],d,b,rfl,g.symm,c⟩;exact f h;rw[XD c]at h;exact f h
section
variable {a b al:LV}
theorem Mk.kU (M:Mk a b al) {w:V2} (h:w∈si (ak (rQ a 0) (rQ b 0)) al):∃i j,w=ak (rQ a i) (rQ b j):=by
 obtain⟨d,U,e⟩:=M.ne;rw[e]at h;rcases XF.1 h with rfl|h;exact⟨0,0,rfl⟩
 ·obtain⟨s,c,t,D,E,m⟩:=Mc h;have o:al=(d::s)++c::t:=(by rw[e,D];rfl);obtain⟨i,j,_,_,_,_,_,F⟩:=M.Mu o;have G:=F ?_;refine⟨i,j,?_⟩;have:ak (ak (ak (rQ a 0) (rQ b 0)) d) (sV s)=ak (ak (rQ a 0) (rQ b 0)) (sV (d::s)):=V2.ext (by simp only[ak,sV,sE];omega) (by simp only[ak,sV,sE];omega);rw[E,this,G];exact V2.ext (by simp only[ak,af];omega) (by simp only[ak,af];omega)
  ·intro x r;obtain⟨s0,l⟩:∃s0,d::s=s0++[(d::s).getLast (by simp)]:=⟨(d::s).dropLast,(aay _).symm⟩;generalize (d::s).getLast (by simp)=p at l m;have g:al=s0++p::c::t:=(by rw[o,l];simp);have u:=M.oN;rw[g]at u;obtain⟨V,H,z⟩:=Zw.1 u;obtain⟨A,X⟩:=YJ.1 H;have I:0<aa p c:=(by rcases M.pH g with q|q;exact q;exact absurd q.1 m);have J:∀y∈s0,y∈al:=λy K=>by rw[g];simp[K]
   have N:=M.nz (x:=c) (by rw[g];simp);have Y:=M.nz (x:=p) (by rw[g];simp);rw[l]at r;cases q:jG x c with
   |true=>rfl
   |false=>exfalso;have B:=CN q;rcases XN.1 r with k|k;have C:=CN (z x k c (by simp));have O:=CN (z x k p (by simp));have Z:=CN (A c (by simp));have f:bn x=bn c/\bn x=bn p:=(by cases P:bn x<;>cases Q:bn c<;>cases a0:bn p<;>simp_all);have a1:=C.2 f.1;have R:=B.2 f.1.symm;have a2:=O.2 f.2;have S:=dP c x;have a3:=dP p x;have T:=gK (M.nz (J x k)) N f.1;have:=(T.cr p).2.1 I;omega;have k:=YB.1 k;subst k;have C:=CN (A c (by simp));have f:bn x=bn c:=(by cases P:bn x<;>cases Q:bn c<;>simp_all);have R:=B.2 f.symm;have S:=dP c x;omega
theorem oY (C:gd a) (i k:Nat):0<=aa (bc (rQ a) i) (af (rQ a k) (rQ a i)):=by
 have g:=C.n3;have b:=ZJ i (show 0<a.length by omega);have c:=ZJ k (show 0<a.length by omega);have:=C.BW b (ZN c);have e:∀i,rQ a (i%a.length)=rQ a i:=λi=>by unfold rQ;rw[Nat.mod_mod]
 have f:rQ a (i%a.length+1)=rQ a (i+1):=by unfold rQ;rw[Z2]
 rw[e,e,f]at this;exact this
def BT (a:LV):V2:=ak (ak (rQ a 0) (rQ a 1)) (rQ a 2)
theorem Sr (C:gd a) {t:Nat} (b:t<a.length):0<aa (bc (rQ a) t) (af (BT a) (ag 3 (rQ a t))):=by
 have c:=C.n3;have f:=oY C t 0;have g:=oY C t 1;have h:=oY C t 2;have e:aa (bc (rQ a) t) (af (BT a) (ag 3 (rQ a t)))=aa (bc (rQ a) t) (af (rQ a 0) (rQ a t))+aa (bc (rQ a) t) (af (rQ a 1) (rQ a t))+aa (bc (rQ a) t) (af (rQ a 2) (rQ a t)):=by simp only[BT,aa,af,ak,ag];grind
 rw[e];rcases(show t=0\/t=1\/2<=t by omega)with k|k|k;subst k;have s:0<aa (bc (rQ a) 0) (af (rQ a 2) (rQ a 0)):=C.strict 0 2 (by omega) (by omega);omega;subst k;have s:=C.strict 1 (a.length-1) (by omega) (by omega);rw[show 1+(a.length-1)=0+a.length by omega,C.hZ]at s;have s:0<aa (bc (rQ a) 1) (af (rQ a 0) (rQ a 1)):=s;omega;have s:=C.strict t (a.length+1-t) (by omega) (by omega);rw[show t+(a.length+1-t)=1+a.length by omega,C.hZ]at s;have s:0<aa (bc (rQ a) t) (af (rQ a 1) (rQ a t)):=s;omega
theorem mC {m:Int} {z:V2}:jY m a z↔∀t,t<a.length->0<ai (ag m (rQ a t)) (ag m (rQ a (t+1))) z:=by
 unfold jY;rw[ir];exact⟨λh t b=>h (rQ a t,rQ a (t+1)) (mq.2 ⟨t,b,rfl⟩),λh e c=>by obtain⟨t,b,rfl⟩:=mq.1 c;exact h t b⟩
theorem VH (p q r v:V2):ag (ai q r v+ai r p v+ai p q v) v=ak (ak (ag (ai q r v) p) (ag (ai r p v) q)) (ag (ai p q v) r):=by
 apply V2.ext;simp only[ag,ak,ai,aa,af];grind;simp only[ag,ak,ai,aa,af];grind
theorem fan {r:LV} {K:Int} {v:V2} (b:r≠[]) (h:jY K r v):∃k,0<ai (ag K (rQ r k)) (ag K (rQ r (k+1))) v/\0<=ai (ag K (rQ r (k+1))) (ag K (rQ r 0)) v/\0<ai (ag K (rQ r 0)) (ag K (rQ r k)) v:=by
 rw[mC]at h;have f:0<r.length:=Z7.2 b;have g:rQ r r.length=rQ r 0:=by unfold rQ;rw[Zz,Nat.zero_mod]
 have i:=h 0 f;have a:=h (r.length-1) (by omega);rw[show r.length-1+1=r.length by omega,g]at a;have p:2<=r.length:=by refine Xz λc=>?_;have:r.length=1:=(by omega);rw[this]at a;simp only[YM]at a;have:ai (ag K (rQ r 0)) (ag K (rQ r 0)) v=0:=(by simp only[ai,aa,af];grind);omega
 have ex:∃k,1<=k/\k+1<r.length/\0<ai (ag K (rQ r 0)) (ag K (rQ r k)) v/\ai (ag K (rQ r 0)) (ag K (rQ r (k+1))) v<=0:=by
  refine Xz λj=>?_;have:∀k,1<=k->k<r.length->0<ai (ag K (rQ r 0)) (ag K (rQ r k)) v:=by
   intro k;induction k with
   |zero=>intro h;omega
   |succ k l=>intro _ m;by_cases c:k=0;subst c;exact i;refine Xz λq=>j ⟨k,by omega,m,l (by omega) (by omega),by omega⟩
  have:=this (r.length-1) (by omega) (by omega);have e:=aU (ag K (rQ r (r.length-1))) (ag K (rQ r 0)) v;omega
 obtain⟨k,t,u,o,w⟩:=ex;refine⟨k,h k (by omega),?_,o⟩;have e:=aU (ag K (rQ r (k+1))) (ag K (rQ r 0)) v;omega
theorem Mk.Vq (M:Mk a b al) {v:V2} (h:jY 1 (si (ak (rQ a 0) (rQ b 0)) al) v):∃(m:Int) (x y:V2),0<m/\jY m a x/\jY m b y/\ak x y=ag m v:=by
 obtain⟨S,B⟩:∃S,S=si (ak (rQ a 0) (rQ b 0)) al:=⟨_,rfl⟩;have D:∀w∈S,∃i j,w=ak (rQ a i) (rQ b j):=λw hw=>M.kU (by rw[<-B];exact hw);have hS:S≠[]:=by obtain⟨d,a1,e⟩:=M.ne;rw[B,e];simp[si]
 rw[<-B]at h;have Q:0<S.length:=Z7.2 hS;have R:Ev λK=>∀e∈bH S,0<(K:Int)*ai e.1 e.2 v+aa (af e.2 e.1) (af (ag 3 v) (ak (BT a) (BT b))):=Ev.all _ λe E=>by have:=h e E;rw[bt,bt]at this;exact eo _ this
 obtain⟨K,a2,T⟩:=R.ex 1;have U:0<(K:Int):=by omega
 have V:jY K S (nr K v (af (ag 3 v) (ak (BT a) (BT b)))):=λe E=>by rw[nu];exact XC U (T e E)
 obtain⟨k,H,I,J⟩:=fan hS V;have F:∀t,rQ S t∈S:=λt=>by unfold rQ;have:=ZJ t Q;rw[gt,YA,XV this];exact YU _
 obtain⟨o,u,N⟩:=D _ (F 0);obtain⟨p,z,O⟩:=D _ (F k);obtain⟨q,A,P⟩:=D _ (F (k+1));rw[O,P]at H;rw[P,N]at I;rw[N,O]at J;have r:=VH (ag K (ak (rQ a o) (rQ b u))) (ag K (ak (rQ a p) (rQ b z))) (ag K (ak (rQ a q) (rQ b A))) (nr K v (af (ag 3 v) (ak (BT a) (BT b))));generalize ai (ag K (ak (rQ a p) (rQ b z))) (ag K (ak (rQ a q) (rQ b A))) (nr K v (af (ag 3 v) (ak (BT a) (BT b))))=f at H r;generalize ai (ag K (ak (rQ a q) (rQ b A))) (ag K (ak (rQ a o) (rQ b u))) (nr K v (af (ag 3 v) (ak (BT a) (BT b))))=g at I r;generalize ai (ag K (ak (rQ a o) (rQ b u))) (ag K (ak (rQ a p) (rQ b z))) (nr K v (af (ag 3 v) (ak (BT a) (BT b))))=l at J r;have G:0<f+g+l:=by omega
 have one:∀{c:LV} (C:gd c) (o p q:Nat),jY ((f+g+l)*(K+3)) c (ak (ak (ak (ag (f*K) (rQ c o)) (ag (g*K) (rQ c p))) (ag (l*K) (rQ c q))) (ag (f+g+l) (BT c))):=by
  intro c C o p q;refine mC.2 (λt X=>?_);have a3:=XM (show 0<=f*K from XM (by omega) (by omega)) (oY C t o);have a4:=XM (show 0<=g*K from XM (by omega) (by omega)) (oY C t p);have a5:=XM (show 0<=l*K from XM (by omega) (by omega)) (oY C t q);have a6:=XC G (Sr C X);have Y:0<(f+g+l)*((K:Int)+3):=XC G (by omega);have e:ai (ag ((f+g+l)*(K+3)) (rQ c t)) (ag ((f+g+l)*(K+3)) (rQ c (t+1))) (ak (ak (ak (ag (f*K) (rQ c o)) (ag (g*K) (rQ c p))) (ag (l*K) (rQ c q))) (ag (f+g+l) (BT c)))=
    ((f+g+l)*(K+3))*(f*K*aa (bc (rQ c) t) (af (rQ c o) (rQ c t))+g*K*aa (bc (rQ c) t) (af (rQ c p) (rQ c t))+l*K*aa (bc (rQ c) t) (af (rQ c q) (rQ c t))+(f+g+l)*aa (bc (rQ c) t) (af (BT c) (ag 3 (rQ c t)))):=by
   simp only[ai,aa,af,ag,ak];grind
  rw[e];exact XC Y (by omega)
 refine⟨(f+g+l)*(K+3),_,_,XC G (by omega),one M.ba.cv o p q,one M.bb.cv u z A,?_⟩;have Z:=X5 V2.x r;have a0:=X5 V2.y r;apply V2.ext;simp only[ag,ak,nr,af]at Z|-;grind;simp only[ag,ak,nr,af]at a0|-;grind
end
def JC (l:List Nat) (x:Nat):Nat:=l.getD ((l.idxOf x+1)%l.length) 0
theorem Li {b:Nat}:∀{l:List Nat} {i:Nat},l.Nodup->(h:i+1<l.length)->pv b l l[i+1]=l[i]
 |[],i,_,h=>by simp at h
 |[y],i,_,h=>by simp at h
 |y::z::r,0,a,h=>by have:y≠z:=λe=>(Yy.1 a).1 (by rw[e];simp);simp[pv,this]
 |y::z::r,i+1,a,h=>by obtain⟨c,f⟩:=Yy.1 a;have g:i+1<(z::r).length:=(by simp only[XZ]at h|-;omega);have:=Li (b:=y) (i:=i) f g;have j:y≠(z::r)[i+1]:=λe=>c (by rw[e];exact YU _);show(if y=(z::r)[i+1]then b else pv y (z::r) (z::r)[i+1])=(z::r)[i];rw[XD j,this]
theorem y9 {b:Nat}:∀{l:List Nat} (h:l≠[]),eb b l=l[l.length-1]'(by have:=Z7.2 h;omega)
 |[],h=>absurd rfl h
 |[y],_=>rfl
 |y::z::r,_=>by have:=y9 (b:=y) (l:=z::r) (by simp);show eb y (z::r)=_;rw[this];simp
theorem ox {l:List Nat} (a:l.Nodup) {i:Nat} (h:i<l.length):bP l l[i]=if i=0 then l[l.length-1]'(by omega)else l[i-1]'(by omega):=by
 cases i with
 |zero=>
  cases l with
  |nil=>simp at h
  |cons y r=>rw[XG rfl];have:bP (y::r) (y::r)[0]=eb 0 (y::r):=(by simp[bP,pv]);rw[this,y9 (by simp)]
 |succ i=>rw[iN];exact Li a h
variable {q:Nat}
theorem Sn {l:List Nat} (f:l.Nodup) (g:q∈l):JC l q∈l/\bP l (JC l q)=q:=by
 have h:=Z6.2 g;have a:l[l.idxOf q]=q:=List.getElem_idxOf h;have b:=ZJ (l.idxOf q+1) (show 0<l.length by omega);have e:JC l q=l[(l.idxOf q+1)%l.length]:=by unfold JC;rw[YA,XV b];rfl
 rw[e];refine⟨YU _,?_⟩;rw[ox f b];by_cases c:l.idxOf q+1=l.length;have z:(l.idxOf q+1)%l.length=0:=(by rw[c,Zz]);rw[XG z];refine Eq.trans ?_ a;congr 1;omega;have z:(l.idxOf q+1)%l.length=l.idxOf q+1:=mOf;rw[iN];simp only[z,WK];exact a
variable {x y:Nat}
theorem FQ {l:List Nat} (g:l.Nodup) {a:Nat} (h:a∈l) (o:q∈l) (p:x∈l) (r:y∈l) (u:x≠y) (w:x≠q) (z:y≠q) (b:bP l a=q) (h2:bP l q=a):False:=by
 obtain⟨i,A,rfl⟩:=ZD h;obtain⟨j,B,rfl⟩:=ZD o;obtain⟨k,F,rfl⟩:=ZD p;obtain⟨m,G,rfl⟩:=ZD r;have f:∀{s t:Nat} (hs:s<l.length) (C:t<l.length),l[s]=l[t]->s=t:=λhs C e=>(Xj g).1 e;have H:k≠m:=λe=>u (by simp only[e]);have I:k≠j:=λe=>w (by simp only[e]);have J:m≠j:=λe=>z (by simp only[e]);rw[ox g A]at b;rw[ox g B]at h2;have D:(if i=0 then l.length-1 else i-1)=j:=by by_cases c:i=0;rw[XG c]at b|-;exact f _ _ b;rw[XD c]at b|-;exact f _ _ b
 have E:(if j=0 then l.length-1 else j-1)=i:=by by_cases c:j=0;rw[XG c]at h2|-;exact f _ _ h2;rw[XD c]at h2|-;exact f _ _ h2
 split at D<;>split at E<;>omega
def nT (P:Nat->V2) (nb:Nat->List Nat) (p q:Nat):Bool:=decide (0<=ai (P p) (P (bP (nb p) q)) (P (JC (nb p) q)))
def cZ (P:Nat->V2):(Nat->List Nat)->List Dt->(Nat->List Nat)×List Dt
 |nb,[]=>(nb,[])
 |nb,d::L=>if nT P nb d.1 d.2&&nT P nb d.2 d.1 then cZ P (dU nb d.1 d.2) L else((cZ P nb L).1,d::(cZ P nb L).2)
section
variable {P:Nat->V2}
theorem Hc {nb:Nat->List Nat} (G:Gr P nb) {p:Nat} (b:q∈nb p) (f:x∈nb p) (g:y∈nb p) (i:x≠y) (j:x≠q) (l:y≠q) (h:nT P nb p q=true):El P nb p q:=λa c e=>by
 obtain⟨m,o⟩:=Sn (G.nd p) b;have:a=JC (nb p) q:=DM (G.nd p) c m (e.trans o.symm);refine⟨?_,λk=>FQ (G.nd p) c b f g i j l e k⟩;rw[this];exact XB h
theorem Mm (EI O L:List Dt) (d:Dt):(oh EI (O++d::L)).Perm (d::iK d::oh EI (O++L)):=by
 unfold oh;have b:(O++d::L).Perm (d::(O++L)):=WW;have c:=b.map iK;rw[Yg]at c;refine((b.append c).append_left EI).trans ?_;rw[YG];refine List.perm_middle.trans (.cons _ ?_);refine((WW (l₁:=O++L) (a:=iK d)).append_left EI).trans ?_;exact WW
structure Wj (EI DI:List Dt) (nb:Nat->List Nat):Prop where
 mem:∀p y,y∈nb p↔(p,y)∈EI++DI\/(y,p)∈EI++DI
 two:∀d∈DI,∀p q,(d=(p,q)\/d=(q,p))->∃x y,x≠y/\x≠q/\y≠q/\((p,x)∈EI\/(x,p)∈EI)/\((p,y)∈EI\/(y,p)∈EI)
theorem vX {EI:List Dt}:∀(L O:List Dt) (nb:Nat->List Nat) (b:List (List Dt)),Gr P nb->Fc P nb b->b.flatten.Perm (oh EI (O++L))->Wj EI (O++L) nb->
  ∃q,Gr P (cZ P nb L).1/\Fc P (cZ P nb L).1 q/\q.flatten.Perm (oh EI (O++(cZ P nb L).2))/\
   ∀p y,y∈(cZ P nb L).1 p↔(p,y)∈EI++(O++(cZ P nb L).2)\/(y,p)∈EI++(O++(cZ P nb L).2)
 |[],O,nb,b,G,F,f,a=>⟨b,G,F,f,a.mem⟩
 |d::L,O,nb,b,G,F,f,a=>by
  have j:=f.trans (Mm EI O L d);have m:d∈O++d::L:=(by simp);by_cases c:(nT P nb d.1 d.2&&nT P nb d.2 d.1)=true
  ·have e:cZ P nb (d::L)=cZ P (dU nb d.1 d.2) L:=(by simp only[cZ];rw[XG c]);rw[e];rw[XH]at c;have r:d.2∈nb d.1:=(a.mem _ _).2 (.inl (XY _ m));have C:d.1∈nb d.2:=(a.mem _ _).2 (.inr (XY _ m));have o:∀{p x:Nat},(p,x)∈EI\/(x,p)∈EI->x∈nb p:=λ{p x} h=>(a.mem _ _).2 (by
    rcases h with h|h;exact .inl (X0 _ h)
    ·exact .inr (X0 _ h))
   obtain⟨x,y,D,E,H,I,J⟩:=a.two d m d.1 d.2 (.inl rfl);obtain⟨a6,a7,K,M,N,Q,R⟩:=a.two d m d.2 d.1 (.inr rfl);have S:=Hc G r (o I) (o J) D E H c.1;have T:=Hc G C (o Q) (o R) K M N c.2;have U:(d.1,d.2)∈b.flatten:=j.mem_iff.2 (by simp);have V:(d.2,d.1)∈b.flatten:=j.mem_iff.2 (by simp[iK]);obtain⟨t,X,Y⟩:=F.drop G r U V S T;have Z:=j.nodup F.nd;obtain⟨a0,a1⟩:=Yy.1 Z;obtain⟨a2,a8⟩:=Yy.1 a1;have a3:t.flatten.Perm (oh EI (O++L)):=(by have:=Y.symm.trans j;exact(List.perm_cons (iK d)).1 ((List.perm_cons d).1 this));refine vX L O (dU nb d.1 d.2) t (G.drop _ _) X a3 ⟨λp y=>?_,λa4 a5=>a.two a4 (by
    rcases XN.1 a5 with k|k;simp[k]
    ·simp[k])⟩
   rw[fQ G.nd,a.mem];have u:∀e,e∈EI++(O++d::L)↔e∈EI++(O++L)\/e=d:=λe=>by
    simp only[XN,XF];constructor;(rintro(h|h|h|h)<;>simp[h])
    ·rintro((h|h|h)|h)<;>simp[h]
   have w:∀e,e∈EI++(O++L)->e∈oh EI (O++L):=λe h=>by unfold oh;rcases XN.1 h with k|k;exact X0 _ k;exact XY _ (X0 _ k)
   have z:d∉EI++(O++L):=λh=>a0 (XK _ (w _ h));have A:iK d∉EI++(O++L):=λh=>a2 (w _ h);rw[u,u];constructor;rintro⟨h,g,i⟩;rcases h with(h|h)|(h|h);exact .inl h;exact absurd ⟨by rw[<-h],by rw[<-h]⟩ g;exact .inr h;exact absurd ⟨by rw[<-h],by rw[<-h]⟩ i;intro h;refine⟨h.imp .inl .inl,λ⟨g,i⟩=>?_,λ⟨g,i⟩=>?_⟩;subst g i;exact h.elim z A;subst g i;exact h.elim A z
  ·have e:cZ P nb (d::L)=((cZ P nb L).1,d::(cZ P nb L).2):=(by simp only[cZ];rw[XD c]);rw[e];have B:∀l:List Dt,O++d::l=(O++[d])++l:=λl=>by simp
   rw[B]at f a;have:=vX L (O++[d]) nb b G F f a;simp only;rw[B];exact this
end
theorem KO (l r:LV):sV (l++r)=ak (sV l) (sV r):=by
 unfold sV;rw[qq,qq];rfl
theorem Bh:∀(x y:LV) (p u:V2),kp p u (x++y)=kp p u x++kp ((p::x).getLast (by simp)) (ak u (sV x)) y
 |[],y,p,u=>by have:ak u (sV [])=u:=V2.ext (by simp[ak,sV,sE]) (by simp[ak,sV,sE]);rw[this];rfl
 |d::x,y,p,u=>by have a:ak u (sV (d::x))=ak (ak u d) (sV x):=V2.ext (by simp only[ak,sV,sE];omega) (by simp only[ak,sV,sE];omega);have b:(p::d::x).getLast (by simp)=(d::x).getLast (by simp):=Zk (by simp);have c:=Bh x y d (ak u d);simp only[YG,kp];rw[a,b,c];split;rfl;rfl
variable {x y:LV}
theorem Lh (i:Nat):rQ (y++x) i=rQ (x++y) (i+x.length):=by
 unfold rQ;have g:(y++x).length=(x++y).length:=by simp[Zm]
 rw[g];by_cases b:(x++y).length=0
 ·have h:x=[]:=by cases x with
   |nil=>rfl
   |cons a r=>simp at b
  have j:y=[]:=by cases y with
   |nil=>rfl
   |cons a r=>simp at b
  rw[h,j];rfl
 ·have f:=ZJ i (show 0<(x++y).length by omega);have e:(i+x.length)%(x++y).length=(i%(x++y).length+x.length)%(x++y).length:=(by rw[Z2]);rw[e];generalize i%(x++y).length=k at f;simp only[XR]at f|-;unfold gt;rw[YA,YA];by_cases c:k<y.length;rw[mOf,YW c,YS (by omega),WK];have:(k+x.length)%(x.length+y.length)=k-y.length:=(by rw[show k+x.length=(k-y.length)+(x.length+y.length) by omega,YE,mOf]);rw[this,YS (by omega),YW (by omega)]
theorem gd.VO (C:gd (x++y)):gd (y++x):=by
 have b:(y++x).length=(x++y).length:=by simp[Zm]
 have c:rQ (y++x)=λi=>rQ (x++y) (i+x.length):=funext λi=>Lh i;have a:∀i,bc (λi=>rQ (x++y) (i+x.length)) i=bc (rQ (x++y)) (i+x.length):=λi=>by show af (rQ (x++y) (i+1+x.length)) _=af (rQ (x++y) (i+x.length+1)) _;rw[show i+1+x.length=i+x.length+1 by omega]
 unfold gd;rw[b,c];refine⟨C.n3,λi=>?_,λi=>?_,?_⟩;show rQ _ (i+(x++y).length+x.length)=_;rw[show i+(x++y).length+x.length=i+x.length+(x++y).length by omega,C.hZ];rw[a,a,show i+1+x.length=i+x.length+1 by omega];exact C.left _;have:=vQ (n:=(x++y).length) (f:=λi=>hp bn (bc (rQ (x++y)) i) (bc (rQ (x++y)) (i+1))) (λi=>by show hp bn (bc _ (i+_)) (bc _ (i+_+1))=_;rw[show i+(x++y).length+1=(i+1)+(x++y).length by omega,C.iO,C.iO]) x.length;rw[C.one]at this;rw[<-this];refine bA (λi _=>?_);rw[a,a,show i+1+x.length=x.length+i+1 by omega,show i+x.length=x.length+i by omega]
theorem H0 (x y:LV):(bH (y++x)).Perm (bH (x++y)):=by
 rw[ir,ir];have b:(y++x).length=(x++y).length:=by simp[Zm]
 have c:rQ (y++x)=λi=>rQ (x++y) (i+x.length):=funext λi=>Lh i;rw[b,c];have a:∀i,rQ (x++y) (i+(x++y).length)=rQ (x++y) i:=λi=>by unfold rQ;rw[YE]
 generalize rQ (x++y)=Q at a;generalize (x++y).length=n at a;generalize x.length=k;induction k with
 |zero=>exact .refl _
 |succ k f=>
  refine aaz ?_ f;unfold vl;cases n with
  |zero=>exact .refl _
  |succ n=>have g:(List.range (n+1)).map (λi=>(Q (i+(k+1)),Q (i+1+(k+1))))=(List.range n).map (λi=>(Q (i+(k+1)),Q (i+1+(k+1))))++[(Q k,Q (k+1))]:=(by rw[ZU,Ys];congr 1;simp only[Yg,W7];rw[show n+(k+1)=k+(n+1) by omega,show n+1+(k+1)=k+1+(n+1) by omega,a,a]);have h:(List.range (n+1)).map (λi=>(Q (i+k),Q (i+1+k)))=(Q k,Q (k+1))::(List.range n).map (λi=>(Q (i+(k+1)),Q (i+1+(k+1)))):=(by rw[ZO,Yg,Yq];congr 1;rw[X6,X6,Zm 1 k];refine Yx (λi _=>?_);simp only[Function.comp];rw[show i.succ+k=i+(k+1) by omega,show i.succ+1+k=i+1+(k+1) by omega]);rw[g,h];exact aaF _ _
theorem Uk (x y:LV) (m:Int) (z:V2):W (bD m (bH (y++x))) z=W (bD m (bH (x++y))) z:=jT ((H0 x y).map _) z
theorem PN {d:V2} {u:V2} (a:ak (sV x) (sV (d::y))=⟨0,0⟩) (b:aa ((((d::y).getLast (by simp))::x).getLast (by simp)) d≠0):
  kp ((d::y).getLast (by simp)) u (x++d::y)=kp ((d::y).getLast (by simp)) u x++ak u (sV x)::kp d (ak (ak u (sV x)) d) y/\
  ak u (sV x)::kp d (ak (ak u (sV x)) d) (y++x)=(ak u (sV x)::kp d (ak (ak u (sV x)) d) y)++kp ((d::y).getLast (by simp)) u x:=by
 refine⟨?_,?_⟩;rw[Bh];simp only[kp];rw[XG b];rw[Bh];have:ak (ak (ak u (sV x)) d) (sV y)=u:=(by have c:=X5 V2.x a;have f:=X5 V2.y a;simp only[ak,sV,sE]at c f;exact V2.ext (by simp only[ak,sV];omega) (by simp only[ak,sV];omega));rw[this];rfl
def bz (P:Nat->V2) (d:Dt):V2:=af (P d.2) (P d.1)
def lH (P:Nat->V2) (f:List Dt):LV:=f.map (bz P)
section
variable {P:Nat->V2} {nb:Nat->List Nat} {fs:List (List Dt)}
theorem xh (P:Nat->V2) (d:Dt) (l:List Dt):(bz P d::lH P l).getLast (by simp)=bz P ((d::l).getLast (by simp)):=by
 induction l generalizing d with
 |nil=>rfl
 |cons x l a=>have b:(bz P d::lH P (x::l)).getLast (by simp)=(bz P x::lH P l).getLast (by simp):=Zk (by simp[lH]);have c:(d::x::l).getLast (by simp)=(x::l).getLast (by simp):=Zk (by simp);rw[b,c];exact a x
theorem oG (d:Dt):bn (bz P d)=jg P d:=rfl
theorem Fc.pH (G:Gr P nb) (F:Fc P nb fs) {d:Dt} (g:d∈fs.flatten) (h2:∃x∈nb d.2,x≠d.1):tx (bz P d) (bz P (nx nb d)):=by
 have a:=F.rev d g;have t:=F.left d g;have e:ai (P d.1) (P d.2) (P (nx nb d).2)=aa (bz P d) (bz P (nx nb d)):=by have:(nx nb d).1=d.2:=rfl;unfold bz;rw[this];simp only[ai,aa,af];grind
 rw[e]at t;by_cases c:aa (bz P d) (bz P (nx nb d))=0
 ·refine .inr ⟨c,?_⟩;have u:P d.2≠P d.1:=λk=>G.nz _ _ a k.symm;have h:bP (nb d.2) d.1∈nb d.2:=ow (λk=>by rw[k]at a;cases a);have w:d.1≠bP (nb d.2) d.1:=λk=>by obtain⟨x,y,z⟩:=h2;obtain⟨i,A,b⟩:=ZD a;obtain⟨j,E,f⟩:=ZD y;rw[<-b,ox (G.nd _) A]at k;have H:i≠j:=λq=>z (by rw[<-f,<-b];simp only[q]);by_cases l:i=0;rw[XG l]at k;have:=(Xj (G.nd d.2)).1 k;omega;rw[XD l]at k;have:=(Xj (G.nd d.2)).1 k;omega
  have m:=G.dir d.2 _ _ a h w;have B:=df (G.nz _ _ h);have b:af (P d.1) (P d.2)=eH (bz P d):=EN _ _;have f:af (P (bP (nb d.2) d.1)) (P d.2)=bz P (nx nb d):=rfl;rw[b,f]at m;have o:bz P d≠⟨0,0⟩:=df u;have C:bz P (nx nb d)≠⟨0,0⟩:=B;have D:aa (eH (bz P d)) (bz P (nx nb d))=0:=(by have:aa (eH (bz P d)) (bz P (nx nb d))= -aa (bz P d) (bz P (nx nb d)):=(by simp only[aa,eH];grind);omega);have I:ay (eH (bz P d)) (bz P (nx nb d))= -ay (bz P d) (bz P (nx nb d)):=(by simp only[ay,eH];grind);have J:ay (bz P d) (bz P (nx nb d))≠0:=λk=>by have p:=cg o;have ex:ay (bz P d) (bz P d)*(bz P (nx nb d)).x=ay (bz P d) (bz P (nx nb d))*(bz P d).x:=(by simp only[aa,ay]at c|-;grind);have r:ay (bz P d) (bz P d)*(bz P (nx nb d)).y=ay (bz P d) (bz P (nx nb d))*(bz P d).y:=(by simp only[aa,ay]at c|-;grind);rw[k,Yb]at ex r;exact C (V2.ext ((mz ex).resolve_left (by omega)) ((mz r).resolve_left (by omega)))
  exact cY.of o c (by have:¬0<ay (eH (bz P d)) (bz P (nx nb d)):=λk=>m ⟨D,k⟩;omega)
 ·exact .inl (by omega)
theorem Hy {f:Dt->Dt}:∀{l:List Dt} {d e:Dt},mR f d l e->(∀x∈d::l,tx (bz P x) (bz P (f x)))->SP (bz P d) (lH P l)
 |[],_,_,_,_=>trivial
 |x::l,d,e,h,k=>⟨by have:=k d (by simp);rw[h.1]at this;exact this,Hy h.2 (λy a=>k y (by simp only[XF]at a|-;exact .inr a))⟩
theorem Bc {f:Dt->Dt} (a:∀d,(f d).1=d.2):∀{l:List Dt} {d e:Dt},mR f d l e->tf (ak (P d.1) (bz P d)) (lH P l)=P e.1
 |[],d,e,h=>by show ak (P d.1) (af (P d.2) (P d.1))=_;rw[cj,<-h,a]
 |x::l,d,e,h=>by have:ak (P d.1) (bz P d)=P x.1:=(by show ak (P d.1) (af (P d.2) (P d.1))=_;rw[cj,<-h.1,a]);rw[this];exact Bc a h.2
theorem Hv {f:Dt->Dt} (a:∀d,(f d).1=d.2):∀{l:List Dt} {d e:Dt},mR f d l e->Gz (P d.1) (lH P (d::l))=eA P (d::l)
 |[],d,e,h=>by show[(P d.1,ak (P d.1) (af (P d.2) (P d.1)))]=_;rw[cj];rfl
 |x::l,d,e,h=>by have:ak (P d.1) (bz P d)=P d.2:=cj _ _;have b:P d.2=P x.1:=(by rw[<-h.1,a]);show(P d.1,ak (P d.1) (bz P d))::Gz (ak (P d.1) (bz P d)) (lH P (x::l))=_;rw[this,b,Hv a h.2,<-b];rfl
theorem Hx {f:Dt->Dt}:∀{l:List Dt} {d e:Dt},mR f d l e->Be bn (bz P d) (lH P l)+hp bn (bz P ((d::l).getLast (by simp))) (bz P e)=fq (lW P f) (d::l)
 |[],d,e,h=>by show 0+hp bn (bz P d) (bz P e)=lW P f d+0;unfold hp lW;rw[h];rw[oG,oG];omega
 |x::l,d,e,h=>by have a:=Hx h.2;have b:(d::x::l).getLast (by simp)=(x::l).getLast (by simp):=Zk (by simp);rw[b];show hp bn (bz P d) (bz P x)+Be bn (bz P x) (lH P l)+_=lW P f d+fq (lW P f) (x::l);rw[<-a];have:lW P f d=hp bn (bz P d) (bz P x):=(by unfold hp lW;rw[h.1,oG,oG]);omega
theorem tR {f:Dt->Dt}:∀{l:List Dt} {d e:Dt},mR f d l e->f ((d::l).getLast (by simp))=e
 |[],d,e,h=>h
 |x::l,d,e,h=>by have a:(d::x::l).getLast (by simp)=(x::l).getLast (by simp):=Zk (by simp);rw[a];exact tR h.2
def BE (P:Nat->V2) (f:List Dt):LV:=match f with
 |[]=>[]
 |d::l=>kp (bz P ((d::l).getLast (by simp))) (P d.1) (lH P (d::l))
theorem Fc.ring (G:Gr P nb) (F:Fc P nb fs) (h2:∀d∈fs.flatten,∃x∈nb d.2,x≠d.1) {f:List Dt} (D:f∈fs):gd (BE P f)/\∀(m:Int) (z:V2),0<m->W (bD m (bH (BE P f))) z=W (bD m (eA P f)) z:=by
 have g:∀d∈f,d∈fs.flatten:=λd i=>Zi.2 ⟨f,D,i⟩;have cy:=F.cy f D;have one:=F.one f D;have pH:∀d∈f,tx (bz P d) (bz P (nx nb d)):=λd i=>F.pH G (g d i) (h2 d (g d i));obtain⟨e,E,O⟩:∃e∈f,lW P (nx nb) e=1:=by
  refine Xz λk=>?_;have:fq (lW P (nx nb)) f=0:=by
   have z:∀l:List Dt,(∀d∈l,lW P (nx nb) d=0)->fq (lW P (nx nb)) l=0:=by
    intro l;induction l with
    |nil=>intro _;rfl
    |cons d l X=>intro h;simp only[fq];rw[h d (by simp),X (λx H=>h x (by simp[H]))];rfl
   refine z f (λd i=>?_);have a7:=J4 P (nx nb) d;have a8:lW P (nx nb) d<=1:=(by unfold lW;split<;>omega);have:lW P (nx nb) d≠1:=λq=>k ⟨d,i,q⟩;omega
  omega
 have I:jg P e=false/\jg P (nx nb e)=true:=by unfold lW at O;by_cases c:jg P e=false/\jg P (nx nb e)=true;exact c;rw[XD c]at O;omega
 obtain⟨A,B,j⟩:=WN (M3 cy E);have Q:0<aa (bz P e) (bz P (nx nb e)):=by rcases pH e E with q|⟨_,q⟩;exact q;have:=q.up;rw[oG,oG,I.1,I.2]at this;cases this
 obtain⟨a,R⟩:∃a,nx nb e=a:=⟨_,rfl⟩;rw[R]at j Q I;have p:mR (nx nb) a (B++A) a:=by
  rw[j]at cy;cases A with
  |nil=>simpa[Cy]using cy
  |cons b A=>have:=MZ (l:=A) (r:=B) (d:=b) (x:=a) cy;exact this
 have t:f.Perm (a::(B++A)):=by rw[j];exact Xt (l₁:=A) (l₂:=a::B)
 have Y:=Hy (P:=P) p (λx H=>pH x (t.mem_iff.2 H));have w:=Bc (P:=P) (λd=>rfl) p;have J:=Hx (P:=P) p;rw[<-jo _ t,one]at J;have Z:=tR p;have S:(a::(B++A)).getLast (by simp)=e:=by refine wG G (F.rev _ (g _ (t.mem_iff.2 (List.getLast_mem _)))) (F.rev _ (g e E)) (Z.trans R.symm)
 rw[S]at J;have K:(bz P a::lH P (B++A)).getLast (by simp)=bz P e:=by rw[xh,S]
 obtain⟨T,a0,_⟩:=GM (u:=P a.1) Y w (by rw[K];exact Q) (by rw[K];exact J);have a1:=Hv (P:=P) (λd=>rfl) p;have U:∀(m:Int) (z:V2),0<m->W (bD m (bH (P a.1::kp (bz P a) (ak (P a.1) (bz P a)) (lH P (B++A))))) z=W (bD m (eA P f)) z:=λm z g=>by rw[a0 m z g];have:Gz (P a.1) (bz P a::lH P (B++A))=eA P (a::(B++A)):=a1;rw[this];exact(jT ((t.map _).map _) z).symm
 have M:lH P (B++A)=lH P B++lH P A:=Ys ..;have two:∀{l x:LV} (h:l≠[]),(l.getLast h::x).getLast (by simp)=(l++x).getLast (by simp[h]):=λ{l x} h=>by
  cases x with
  |nil=>simp
  |cons c x=>rw[Zk (by simp),aat (by simp) (by simp)]
 have a2:aa (((bz P a::lH P B).getLast (by simp)::lH P A).getLast (by simp)) (bz P a)≠0:=by rw[two (by simp)];have o:(bz P a::lH P B++lH P A)=bz P a::lH P (B++A):=(by rw[M];rfl);have:(bz P a::lH P B++lH P A).getLast (by simp)=(bz P a::lH P (B++A)).getLast (by simp):=(by simp only[o]);rw[this,K];omega
 obtain⟨y,a3,a4⟩:∃y,ak y (sV (lH P A))=P a.1/\BE P f=kp ((bz P a::lH P B).getLast (by simp)) y (lH P A++bz P a::lH P B):=by
  cases A with
  |nil=>refine⟨P a.1,V2.ext (by simp[ak,sV,sE,lH]) (by simp[ak,sV,sE,lH]),?_⟩;rw[j,xh];rfl
  |cons b A=>have a5:mR (nx nb) b A a:=(by have c:=cy;rw[j]at c;exact(ph.1 (show mR (nx nb) b (A++a::B) b from c)).1);have:=Bc (P:=P) (λd=>rfl) a5;refine⟨P b.1,?_,?_⟩;rw[<-this,vk];exact V2.ext (by simp only[ak,sV,sE,lH,Yg];omega) (by simp only[ak,sV,sE,lH,Yg];omega);rw[j,xh];have o:(b::A++a::B).getLast (by simp)=(a::B).getLast (by simp):=aat (by simp) (by simp);show kp (bz P ((b::(A++a::B)).getLast (by simp))) (P b.1) (lH P (b::(A++a::B)))=_;have C:(b::(A++a::B)).getLast (by simp)=(a::B).getLast (by simp):=o;rw[C];congr 1;simp[lH]
 have a6:ak (sV (lH P A)) (sV (bz P a::lH P B))=⟨0,0⟩:=by rw[vk,M,KO]at w;have o:=X5 V2.x w;have C:=X5 V2.y w;simp only[ak]at o C;refine V2.ext ?_ ?_;simp only[ak];simp only[sV,sE]at o|-;omega;simp only[ak];simp only[sV,sE]at C|-;omega
 obtain⟨V,N⟩:=PN (u:=y) a6 a2;rw[a3]at V N;rw[<-M]at N;rw[a4,V];rw[N]at T U;exact⟨T.VO,λm z g=>by rw[Uk];exact U m z g⟩
end
variable {D E:Ed}
theorem Dis.Gn (h:Dis E D) {a b:V2} (c:(a,b)∈E++D) (h2:(b,a)∈E++D):False:=by
 have f:=(h.ends c).2.2;have:=h.side c h2 (λe=>f (X5 Prod.fst e));exact pE f (this.sym.swap.sym)
theorem Dis.both (h:Dis E D) {d:V2×V2} (a:d∈E) (h2:d∈D):False:=pE (h.vd _ h2).2.2 (h.ae _ h2 _ a)
section
variable {P:Nat->V2} {n:Nat} {EI DI:List Dt} {nb:Nat->List Nat}
theorem tA.Qx (G:tA P n EI DI nb) (h:Dis (eA P EI) (eA P DI)) {p:Nat} (f:p<n) (m:Vx (eA P EI) (P p)):∃x y,x≠y/\(p,x)∈EI/\(y,p)∈EI:=by
 obtain⟨x,y,a,b,_⟩:=h.oO.two m;have sub:∀d∈EI,d∈EI++DI:=λd c=>X0 _ c;have g:∀{e:V2×V2},e∈eA P EI->∃i k,i<n/\k<n/\P i=e.1/\P k=e.2:=λ{e} o=>by obtain⟨d,c,rfl⟩:=XQ.1 o;have:=G.lt d (sub d c);exact⟨d.1,d.2,this.1,this.2,rfl,rfl⟩
 obtain⟨_,k,_,q,_,j⟩:=g a;obtain⟨i,_,r,_,l,_⟩:=g b;simp only at j l;rw[<-j]at a;rw[<-l]at b;refine⟨k,i,λe=>?_,G.back f q sub a,G.back r f sub b⟩;subst e;exact h.Gn (X0 _ a) (X0 _ b)
theorem tA.sds (G:tA P n EI DI nb) (h:Dis (eA P EI) (eA P DI)):Wj EI DI nb where
 mem:=G.mem
 two:=λd f p q g=>by have b:=G.lt d (XY _ f);have c:=h.vd _ (dL f);have i:p<n/\Vx (eA P EI) (P p):=(by rcases g with e|e;rw[e]at b c;exact⟨b.1,c.1⟩;rw[e]at b c;exact⟨b.2,c.2.1⟩);obtain⟨x,y,o,j,k⟩:=G.Qx h i.1 i.2;have l:=dL (P:=P) j;have m:=dL (P:=P) k;have a:=dL (P:=P) f;refine⟨x,y,o,λe=>?_,λe=>?_,.inl j,.inr k⟩;subst e;rcases g with e|e;rw[e]at a;exact h.both l a;rw[e]at a;exact h.Gn (X0 _ l) (XY _ a);subst e;rcases g with e|e;rw[e]at a;exact h.Gn (X0 _ m) (XY _ a);rw[e]at a;exact h.both m a
theorem lh (P:Nat->V2):∀(L:List Dt) (nb:Nat->List Nat),∀d∈(cZ P nb L).2,d∈L
 |[],_,d,h=>by cases h
 |e::L,nb,d,h=>by simp only[cZ]at h;split at h;exact XK _ (lh P L _ d h);rcases XF.1 h with rfl|h;simp;exact XK _ (lh P L _ d h)
theorem Un (P:Nat->V2) (EI DI:List Dt) (m:Int) (z:V2):W (bD m (eA P (oh EI DI))) z=W (bD m (eA P EI)) z:=by
 have:eA P (DI.map iK)=dx (eA P DI):=by unfold eA dx;rw[Yq,Yq];rfl
 unfold oh;rw[gX,gX,this,ed,ed,lO,lO,eP,ja];omega
theorem NH (P:Nat->V2) (m:Int) (z:V2):∀a:List (List Dt),W (bD m (eA P a.flatten)) z=(a.map λf=>W (bD m (eA P f)) z).sum
 |[]=>rfl
 |f::a=>by rw[Za,gX,ed,lO,NH P m z a];simp
theorem tA.pieces (G:tA P n EI DI nb) (h:pR (eA P EI) (eA P DI)) (A:EI.Nodup) (B:DI.Nodup):
  ∃g,Gr P (cZ P nb DI).1/\Fc P (cZ P nb DI).1 g/\g.flatten.Perm (oh EI (cZ P nb DI).2)/\(∀p y,y∈(cZ P nb DI).1 p->y∈nb p)/\
   ∀a,Fc P (cZ P nb DI).1 a->a.flatten.Perm (oh EI (cZ P nb DI).2)->(∀f∈a,gd (BE P f))/\∀(m:Int) (z:V2),0<m->W (bD m (eA P EI)) z=WL m (a.map (BE P)) z:=by
 obtain⟨C,D,p0⟩:=G.TU h (xu h.toDis A B);obtain⟨g,i,E,r,j⟩:=vX (EI:=EI) DI [] nb C (G.gr h.toDis) D p0 (G.sds h.toDis);rw[Ww]at r;have l:∀d∈oh EI (cZ P nb DI).2,∃x∈(cZ P nb DI).1 d.2,x≠d.1:=λd b=>by have F:(d.1,d.2)∈oh EI DI:=(by unfold oh at b|-;rcases XN.1 b with k|k;exact X0 _ k;rcases XN.1 k with k|k;exact XY _ (X0 _ (lh P DI nb d k));obtain⟨e,H,rfl⟩:=XQ.1 k;exact XY _ (XY _ (XQ.2 ⟨e,lh P DI nb e H,rfl⟩)));obtain⟨_,I,J⟩:=G.tg F;obtain⟨x,y,K,M,l⟩:=G.Qx h.toDis I (J.qR.vx h.toDis).1;have N:x∈(cZ P nb DI).1 d.2:=(j _ _).2 (.inl (X0 _ M));have O:y∈(cZ P nb DI).1 d.2:=(j _ _).2 (.inr (X0 _ l));by_cases c:x=d.1;exact⟨y,O,λe=>K (by rw[c,e])⟩;exact⟨x,N,c⟩
 have sub:∀p y,y∈(cZ P nb DI).1 p->y∈nb p:=λp y Q=>by
  rw[G.mem];have q:∀d,d∈EI++([]++(cZ P nb DI).2)->d∈EI++DI:=λd b=>by rcases XN.1 b with k|k;exact X0 _ k;exact XY _ (lh P DI nb d k)
  rcases(j p y).1 Q with k|k;exact .inl (q _ k);exact .inr (q _ k)
 refine⟨g,i,E,r,sub,λa t u=>?_⟩;have w:∀d∈a.flatten,∃x∈(cZ P nb DI).1 d.2,x≠d.1:=λd b=>l d (u.mem_iff.1 b);refine⟨λf o=>(t.ring i w o).1,λm z R=>?_⟩;have S:(bD m (eA P a.flatten)).Perm (bD m (eA P (oh EI (cZ P nb DI).2))):=(u.map _).map _;rw[<-Un P EI (cZ P nb DI).2 m z,<-jT S z,NH P m z a];unfold WL;rw[Yq];congr 1;exact Yx (λf o=>((t.ring i w o).2 m z R).symm)
end
theorem Gs (x:Int) (v:V2):ai ⟨x,0⟩ ⟨x,1⟩ v=x-v.x:=by simp only[ai,aa,af];grind
theorem Gu (x:Int) (v:V2):ai ⟨x,1⟩ ⟨x,0⟩ v=v.x-x:=by simp only[ai,aa,af];grind
variable {z:V2}
theorem BO {E:Ed} (c:mT E) (h:(∀e∈E,z.x<e.1.x)\/(∀e∈E,e.1.x<z.x)):W E z=0:=by
 have g:∀e∈E,∃x∈E,x.1=e.2:=λe a=>by have:e.2∈E.map (·.1):=c.symm.subset (XQ.2 ⟨e,a,rfl⟩);obtain⟨x,b,q⟩:=XQ.1 this;exact⟨x,b,q⟩
 have i:Ev λK=>∀e∈E,e.1.y<z.y+K:=Ev.all E λe _=>⟨(e.1.y-z.y).natAbs+1,λn l=>by omega⟩;obtain⟨K,_,j⟩:=i.ex 0;rw[ih c (q:=⟨z.x,z.y+K⟩) (λe a=>?_)];exact uf c (.inl λe a=>j e a);obtain⟨x,b,q⟩:=g e a;rcases h with h|h;have k:=h e a;have f:=h x b;rw[q]at f;refine jz (x:=⟨z.x,1⟩) (y:=⟨z.x,0⟩) (.inr ?_);rw[Gu,Gu,Gu,Gu];simp only;omega;have k:=h e a;have f:=h x b;rw[q]at f;refine jz (x:=⟨z.x,0⟩) (y:=⟨z.x,1⟩) (.inr ?_);rw[Gs,Gs,Gs,Gs];simp only;omega
theorem AR {o:LV} {hs:List (LV)} (S:cJ o hs) {R:Ed} {m:Int} (b:0<m) (p:W (bD m R) z=1):
  W (bD m (dk o hs)) z=0↔W (bD m (R++dx (bH o))) z=1\/∃h∈hs,W (bD m (bH h)) z=1:=by
 have g:=S.wu m z b;have c:=s3 S.ring S.pair m b z;have y:=(iA S.outer) m z b;unfold dk at g|-;rw[ed,lO]at g|-;rw[ed,lO,eP,ja,p];constructor;intro k;rcases c with q|⟨_,h,c,q⟩;left;omega;exact .inr ⟨h,c,q⟩
 ·rintro(k|⟨h,t,k⟩);(rcases c with q|⟨q,_⟩<;>omega)
  ·
   have:W (bD m (cL hs)) z≠0:=λq=>by
    have u:∀{l:List (LV)},(∀r∈l,bk r)->W (bD m (cL l)) z<=0:=by
     intro l;induction l with
     |nil=>intro _;exact Yc _
     |cons r l i=>intro a;have:=(iA (a r (by simp))) m z b;have:=i (λx f=>a x (by simp[f]));simp only[cL];rw[ed,lO,eP,ja];omega
    have w:∀{l:List (LV)},(∀r∈l,bk r)->h∈l->W (bD m (cL l)) z<0:=by
     intro l;induction l with
     |nil=>intro _ h;cases h
     |cons r l i=>intro a j;have A:=(iA (a r (by simp))) m z b;have B:=u (l:=l) (λx f=>a x (by simp[f]));simp only[cL];rw[ed,lO,eP,ja];rcases XF.1 j with rfl|j;omega;have:=i (λx f=>a x (by simp[f])) j;omega
    have:=w S.ring t;omega
   rcases c with q|⟨q,_⟩;exact absurd q this;omega
variable {m:Int} {z:V2}
section
variable {r:LV}
theorem mi (f:V2->V2) (h:r≠[]) (i:Nat):rQ (r.map f) i=f (rQ r i):=by
 unfold rQ gt;rw[X9,YA,YA,Zt];have:=ZJ i (Z7.2 h);rw[XV this];rfl
theorem gd.LA (C:gd r):r≠[]:=λe=>by have:=C.n3;rw[e]at this;simp at this
theorem Bg.of (C:gd r) (h:∀i,i<r.length->¬qG (rQ r i) (rQ r 0)):Bg r:=by
 have b:=C.n3;refine⟨C,?_,?_⟩;refine ke.2 ?_;have:bc (rQ r) (r.length-1)=af (rQ r 0) (rQ r (r.length-1)):=(by show af (rQ r (r.length-1+1)) _=_;have p:=C.hZ 0;rw[show r.length-1+1=0+r.length by omega,p]);rw[this,uG];exact h _ (by omega);refine js.2 ?_;show fa (af (rQ r 1) (rQ r 0));rw[uG];have c:=h 1 (by omega);have a:bc (rQ r) 0≠⟨0,0⟩:=C.ne 0;have:(rQ r 1).x≠(rQ r 0).x\/(rQ r 1).y≠(rQ r 0).y:=(by refine Xz λk=>a ?_;show af (rQ r 1) (rQ r 0)=_;exact V2.ext (by simp only[af];omega) (by simp only[af];omega));unfold qG at*;omega
theorem Bv (h:r≠[]) (i:Nat):bc (rQ (r.map eH)) i=eH (bc (rQ r) i):=by
 show af (rQ (r.map eH) (i+1)) (rQ (r.map eH) i)=eH (af (rQ r (i+1)) (rQ r i));rw[mi _ h,mi _ h];exact V2.ext (by simp only[af,eH];omega) (by simp only[af,eH];omega)
theorem gd.ng (C:gd r):gd (r.map eH):=by
 have a:=C.LA;unfold gd;rw[X9];refine⟨C.n3,λi=>by rw[mi _ a,mi _ a,C.hZ],λi=>by rw[Bv a,Bv a,nR];exact C.left i,?_⟩;have e:∀i,hp bn (bc (rQ (r.map eH)) i) (bc (rQ (r.map eH)) (i+1))=hp bn (bc (rQ r) i) (bc (rQ r) (i+1))+(bI (bn (bc (rQ r) i))-bI (bn (bc (rQ r) (i+1)))):=λi=>by
  rw[Bv a,Bv a];have ng:∀d:V2,d≠⟨0,0⟩->bn (eH d)=!bn d:=λd b=>by
   have n:=fz b;cases k:bn d with
   |true=>rw[ke.2 (λq=>(n.1 q) (js.1 k))];rfl
   |false=>rw[js.2 (n.2 (ke.1 k))];rfl
  unfold hp;rw[ng _ (C.ne i),ng _ (C.ne (i+1))];cases bn (bc (rQ r) i)<;>cases bn (bc (rQ r) (i+1))<;>rfl
 rw[bA (λi _=>e i),nv,C.one];have t:=Oc (λi=>bI (bn (bc (rQ r) i))) r.length;have p:=C.iO 0;rw[X6]at p;simp only[p]at t;have:aT r.length (λi=>bI (bn (bc (rQ r) i))-bI (bn (bc (rQ r) (i+1))))= -aT r.length (λi=>bI (bn (bc (rQ r) (i+1)))-bI (bn (bc (rQ r) i))):=B7 _ (λi _=>by omega);omega
theorem jY.ng (b:r≠[]):jY m (r.map eH) z↔jY m r (eH z):=by
 rw[mC,mC,X9];have e:∀t,ai (ag m (rQ (r.map eH) t)) (ag m (rQ (r.map eH) (t+1))) z=ai (ag m (rQ r t)) (ag m (rQ r (t+1))) (eH z):=λt=>by rw[mi _ b,mi _ b];simp only[ai,aa,af,ag,eH];grind
 exact⟨λh t a=>by rw[<-e];exact h t a,λh t a=>by rw[e];exact h t a⟩
theorem jY.mv (b:r≠[]) {v:V2}:jY m (r.map (ak v)) z↔jY m r (af z (ag m v)):=by
 rw[mC,mC,X9];have e:∀t,ai (ag m (rQ (r.map (ak v)) t)) (ag m (rQ (r.map (ak v)) (t+1))) z=ai (ag m (rQ r t)) (ag m (rQ r (t+1))) (af z (ag m v)):=λt=>by rw[mi _ b,mi _ b];simp only[ai,aa,af,ag,ak];grind
 exact⟨λh t a=>by rw[<-e];exact h t a,λh t a=>by rw[e];exact h t a⟩
end
theorem MG {p q b f:LV} (M:Mk p b f) (a:q≠[]) (h:∀(m:Int) (z:V2),jY m b z↔jY m (q.map eH) z) {v:V2}:
  jY 1 (si (ak (rQ p 0) (rQ b 0)) f) v↔∃(m:Int) (z:V2),0<m/\jY m p z/\jY m (q.map (ak v)) z:=by
 constructor;intro k;obtain⟨m,x,y,c,j,g,e⟩:=M.Vq k;refine⟨m,x,c,j,(jY.mv a).2 ?_⟩;rw[h,jY.ng a]at g;have:af x (ag m v)=eH y:=(by rw[<-e];exact V2.ext (by simp only[af,ak,eH];omega) (by simp only[af,ak,eH];omega));rw[this];exact g;rintro⟨m,z,c,l,i⟩;rw[jY.mv a]at i;refine M.qK c l (y:=af (ag m v) z) ?_ (cj _ _);rw[h,jY.ng a];have:eH (af (ag m v) z)=af z (ag m v):=(EN _ _).symm;rw[this];exact i
def cn (t:List Dt->Dt->Bool):List Dt->List Dt->List Dt
 |acc,[]=>acc
 |acc,c::a=>if t acc c then cn t (acc++[c]) a else cn t acc a
def EB (P:Nat->V2) (c d:Dt):Prop:=AE (P c.1) (P c.2) (P d.1) (P d.2)
structure Good (P:Nat->V2) (EI:List Dt) (c:Dt):Prop where
 ae:∀e∈EI,EB P c e
 RX:W (bD 2 (eA P EI)) (ak (P c.1) (P c.2))=1
section
variable {P:Nat->V2} {EI:List Dt} {t:List Dt->Dt->Bool}
theorem mD:∀{cs acc:List Dt},∀d∈acc,d∈cn t acc cs
 |[],_,d,h=>h
 |c::cs,acc,d,h=>by simp only[cn];split;exact mD d (by simp[h]);exact mD d h
theorem mF:∀{cs acc:List Dt},∀d∈cn t acc cs,d∈acc\/d∈cs
 |[],_,d,h=> .inl h
 |c::cs,acc,d,h=>by simp only[cn]at h;split at h;rcases mF d h with k|k;rcases XN.1 k with k|k;exact .inl k;rw[YB.1 k];simp;simp[k];rcases mF d h with k|k;exact .inl k;simp[k]
theorem s6 (i:∀acc c,t acc c=true↔Good P EI c/\∀d∈acc,EB P c d):∀{cs acc:List Dt},(∀d∈acc,Good P EI d)->acc.Pairwise (λd b=>EB P b d)->(∀d∈cn t acc cs,Good P EI d)/\(cn t acc cs).Pairwise (λd b=>EB P b d)
 |[],_,f,h=>⟨f,h⟩
 |c::cs,acc,f,h=>by simp only[cn];split;rename_i k;obtain⟨g,a⟩:=(i acc c).1 k;refine s6 i (λd j=>?_) ?_;rcases XN.1 j with q|q;exact f d q;rw[YB.1 q];exact g;refine Zw.2 ⟨h,List.pairwise_singleton ..,λd j b l=>?_⟩;rw[YB.1 l];exact a d j;exact s6 i f h
theorem qL (a:∀acc c,t acc c=true↔Good P EI c/\∀d∈acc,EB P c d) {c:Dt} (g:Good P EI c):∀{cs acc:List Dt},c∈cs->(∀d∈cn t acc cs,EB P c d)->c∈cn t acc cs
 |[],_,h,_=>by cases h
 |e::cs,acc,h,k=>by simp only[cn]at k|-;by_cases q:t acc e=true;rw[XG q]at k|-;rcases XF.1 h with rfl|h;exact mD _ (by simp);exact qL a g h k;rw[XD q]at k|-;rcases XF.1 h with rfl|h;exact absurd ((a acc c).2 ⟨g,λd b=>k d (mD d b)⟩) q;exact qL a g h k
theorem mE:∀{cs acc:List Dt},(acc++cs).Nodup->(cn t acc cs).Nodup
 |[],acc,h=>by simpa[cn]using h
 |c::cs,acc,h=>by simp only[cn];split;exact mE (by simpa using h);refine mE ?_;obtain⟨f,g,i⟩:=Y0.1 h;exact Y0.2 ⟨f,(Yy.1 g).2,λa j b k=>i a j b (by simp[k])⟩
theorem Du {n:Nat} (oO:iU (eA P EI)) (wu:nc (eA P EI) 0) (inj:∀i k,i<n->k<n->P i=P k->i=k) (B:∀i,i<n->Vx (eA P EI) (P i)) (p:∀v,Vx (eA P EI) v->∃i,i<n/\P i=v)
  (C:∀acc c,t acc c=true↔Good P EI c/\∀d∈acc,EB P c d) {cs:List Dt} (D:∀c,c∈cs↔c.1<c.2/\c.2<n):pR (eA P EI) (eA P (cn t [] cs)):=by
 obtain⟨E,G⟩:=s6 C (cs:=cs) (acc:=[]) (by simp) aak;have H:∀d∈cn t [] cs,d.1<d.2/\d.2<n:=λd m=>by rcases mF d m with k|k;cases k;exact(D d).1 k
 refine{oO:=oO,wu:=wu,vd:=?_,ae:=?_,dd:=?_,RX:=?_,max:=?_};intro e j;obtain⟨d,m,rfl⟩:=XQ.1 j;have:=H d m;refine⟨B _ (by omega),B _ (by omega),λk=>?_⟩;have:=inj _ _ (by omega) (by omega) k;omega;intro e j f A;obtain⟨d,m,rfl⟩:=XQ.1 j;obtain⟨x,p,rfl⟩:=XQ.1 A;exact(E d m).ae x p
 ·intro e j f A I;obtain⟨d,m,rfl⟩:=XQ.1 j;obtain⟨x,p,rfl⟩:=XQ.1 A;have J:d≠x:=λk=>I (by rw[k]);have sym:∀{a b:Dt},EB P a b->EB P b a:=λh=>AE.sym h;have K:∀{l:List Dt},l.Pairwise (λd M=>EB P M d)->d∈l->x∈l->EB P d x:=by
   intro l;induction l with
   |nil=>intro _ h;cases h
   |cons a l N=>
    intro O r o;obtain⟨F,Q⟩:=YJ.1 O;rcases XF.1 r with u|u<;>rcases XF.1 o with w|w
    ·exact absurd (u.trans w.symm) J
    ·rw[u];exact sym (F x w)
    ·rw[w];exact F d u
    ·exact N Q u w
  exact K G m p
 ·intro e j;obtain⟨d,m,rfl⟩:=XQ.1 j;exact(E d m).RX
 ·intro a b R S T r o y;obtain⟨i,U,rfl⟩:=p a R;obtain⟨k,z,rfl⟩:=p b S;have one:∀{i k:Nat},i<k->k<n->(∀e∈eA P EI,AE (P i) (P k) e.1 e.2)->(∀d∈eA P (cn t [] cs),AE (P i) (P k) d.1 d.2)->W (bD 2 (eA P EI)) (ak (P i) (P k))=1->False:=λ{i k} V z r o y=>by have g:Good P EI (i,k):=⟨λe j=>r _ (dL j),y⟩;have oh:=qL C (c:=(i,k)) g (cs:=cs) (acc:=[]) ((D _).2 ⟨V,z⟩) (λd m=>o _ (dL m));have:=o _ (dL oh);exact pE (λe=>by have:=inj _ _ (by omega) z e;omega) this
  rcases Z4 i k with q|q|q;exact one q z r o y;exact T (by rw[q]);refine one q U (λe j=>(r e j).swap) (λe j=>(o e j).swap) ?_;have:ak (P k) (P i)=ak (P i) (P k):=V2.ext (by simp only[ak];omega) (by simp only[ak];omega);rw[this];exact y
end
theorem beyond {S C:Ed} (s:iU S) (r:nc S 0) (i:mT C) {e:V2×V2} (l:e∈S)
  (h:(∀c∈C,c.1.x<e.1.x)\/(∀c∈C,e.1.x<c.1.x)\/(∀c∈C,c.1.y<e.1.y)\/(∀c∈C,e.1.y<c.1.y)):∃(m:Int) (z:V2),0<m/\W (bD m S) z=1/\W (bD m C) z=0:=by
 obtain⟨f,g,a⟩:=s.kU l;obtain⟨o,j,p,_⟩:=s.fZ a;obtain⟨d,q⟩:=KK j p;have t:=o.inside r j q;have u:Ev λn=>W (bD n C) (nr n e.1 d)=0:=by rcases h with h|h|h|h;refine(Ev.all C (λc a=>qc d.x (h c a))).imp λn k=>BO (i.sc n) (.inr λc a=>?_);obtain⟨x,b,rfl⟩:=aK.1 a;exact k x b;refine(Ev.all C (λc a=>qb d.x (h c a))).imp λn k=>BO (i.sc n) (.inl λc a=>?_);obtain⟨x,b,rfl⟩:=aK.1 a;exact k x b;refine(Ev.all C (λc a=>qc d.y (h c a))).imp λn k=>uf (i.sc n) (.inl λc a=>?_);obtain⟨x,b,rfl⟩:=aK.1 a;exact k x b;refine(Ev.all C (λc a=>qb d.y (h c a))).imp λn k=>uf (i.sc n) (.inr λc a=>?_);obtain⟨x,b,rfl⟩:=aK.1 a;exact k x b
 obtain⟨n,y,A,w⟩:=(t.and u).ex 1;exact⟨n,_,by omega,by omega,w⟩
def En (lo hi:V2) (E:Ed):Prop:=∀e∈E,lo.x<=e.1.x/\e.1.x<=hi.x/\lo.y<=e.1.y/\e.1.y<=hi.y
variable {S:Ed} {hi lo:V2}
theorem Di (c:mT S) (h:En lo hi S) {m:Int} (g:0<m) {z:V2} (q:W (bD m S) z=1:=by omega):m*lo.x<=z.x/\z.x<=m*hi.x/\m*lo.y<=z.y/\z.y<=m*hi.y:=by
 have b:∀{s t:Int},s<=t->m*s<=m*t:=λh=>XT h (XO g);have f:∀e∈bD m S,m*lo.x<=e.1.x/\e.1.x<=m*hi.x/\m*lo.y<=e.1.y/\e.1.y<=m*hi.y:=λe a=>by obtain⟨x,i,rfl⟩:=aK.1 a;obtain⟨j,l,o,p⟩:=h x i;exact⟨b j,b l,b o,b p⟩
 refine⟨?_,?_,?_,?_⟩<;>refine Xz λk=>?_
 ·have:=BO (c.sc m) (z:=z) (.inl λe a=>by have:=f e a;omega);omega
 ·have:=BO (c.sc m) (z:=z) (.inr λe a=>by have:=f e a;omega);omega
 ·have:=uf (c.sc m) (z:=z) (.inr λe a=>by have:=f e a;omega);omega
 ·have:=uf (c.sc m) (z:=z) (.inl λe a=>by have:=f e a;omega);omega
theorem Py {o:LV} {hs:List (LV)} (C:cJ o hs) {R:Ed} (s:iU S) (r:nc S 0) (j:En lo hi (bH o))
  (t:∀(m:Int) (z:V2),0<m->m*lo.x<=z.x/\z.x<=m*hi.x/\m*lo.y<=z.y/\z.y<=m*hi.y->W (bD m R) z=1):
  (En lo hi S/\¬Comm (R++dx (bH o)) 0 S 0/\∀h∈hs,¬Comm (bH h) 0 S 0)↔¬Comm (dx (dk o hs)) 1 S 0:=by
 constructor;rintro⟨i,w,l⟩ ⟨m,z,a,p,b⟩;have b:W (bD m S) z=1:=(by omega);rw[eP,ja]at p;have x:=Di s.cV i a b;rcases(AR C a (t m z a x)).1 (by omega)with k|⟨h,y,k⟩;exact w ⟨m,z,a,by omega,by omega⟩;exact l h y ⟨m,z,a,by omega,by omega⟩
 ·intro u;have i:En lo hi S:=λe A=>by
   refine Xz λk=>?_;have B:(∀c∈bH o,c.1.x<e.1.x)\/(∀c∈bH o,e.1.x<c.1.x)\/(∀c∈bH o,c.1.y<e.1.y)\/(∀c∈bH o,e.1.y<c.1.y):=by
    rcases(show hi.x<e.1.x\/e.1.x<lo.x\/hi.y<e.1.y\/e.1.y<lo.y by omega)with q|q|q|q;(exact .inl λc f=>by have:=j c f;omega)
    ·exact .inr (.inl λc f=>by have:=j c f;omega)
    ·exact .inr (.inr (.inl λc f=>by have:=j c f;omega))
    ·exact .inr (.inr (.inr λc f=>by have:=j c f;omega))
   obtain⟨m,z,a,p,b⟩:=beyond s r (mK o) A B;refine u ⟨m,z,a,?_,by omega⟩;rw[eP,ja];have g:=C.wu m z a;have l:=s3 C.ring C.pair m a z;unfold dk at g|-;rw[ed,lO]at g|-;omega
  refine⟨i,λ⟨m,z,a,p,b⟩=>u ⟨m,z,a,?_,b⟩,λh l ⟨m,z,a,p,b⟩=>u ⟨m,z,a,?_,b⟩⟩;have:=(AR C a (t m z a (Di s.cV i a))).2 (.inl (by omega));rw[eP,ja];omega;have:=(AR C a (t m z a (Di s.cV i a))).2 (.inr ⟨h,l,by omega⟩);rw[eP,ja];omega
def aR (lo hi:V2):LV:=[lo,⟨hi.x,lo.y⟩,hi,⟨lo.x,hi.y⟩]
variable {hi lo:V2}
theorem OF (t:lo.x<hi.x) (u:lo.y<hi.y):gd (aR lo hi):=by
 have q:∀i,rQ (aR lo hi) i=gt (aR lo hi) (i%4):=λi=>rfl;have a:∀i,0<aa (bc (rQ (aR lo hi)) i) (bc (rQ (aR lo hi)) (i+1)):=λi=>by show 0<aa (af (rQ _ (i+1)) (rQ _ i)) (af (rQ _ (i+1+1)) (rQ _ (i+1)));rw[q,q,q];have p:=XC (show 0<hi.x-lo.x by omega) (show 0<hi.y-lo.y by omega);rcases(show i%4=0\/i%4=1\/i%4=2\/i%4=3 by omega)with k|k|k|k;rw[k,show(i+1)%4=1 by omega,show(i+1+1)%4=2 by omega];have:aa (af (gt (aR lo hi) 1) (gt (aR lo hi) 0)) (af (gt (aR lo hi) 2) (gt (aR lo hi) 1))=(hi.x-lo.x)*(hi.y-lo.y):=(by simp[aR,gt,aa,af]);rw[this];exact p;rw[k,show(i+1)%4=2 by omega,show(i+1+1)%4=3 by omega];have:aa (af (gt (aR lo hi) 2) (gt (aR lo hi) 1)) (af (gt (aR lo hi) 3) (gt (aR lo hi) 2))=(hi.x-lo.x)*(hi.y-lo.y):=(by simp[aR,gt,aa,af];grind);rw[this];exact p;rw[k,show(i+1)%4=3 by omega,show(i+1+1)%4=0 by omega];have:aa (af (gt (aR lo hi) 3) (gt (aR lo hi) 2)) (af (gt (aR lo hi) 0) (gt (aR lo hi) 3))=(hi.x-lo.x)*(hi.y-lo.y):=(by simp[aR,gt,aa,af];grind);rw[this];exact p;rw[k,show(i+1)%4=0 by omega,show(i+1+1)%4=1 by omega];have:aa (af (gt (aR lo hi) 0) (gt (aR lo hi) 3)) (af (gt (aR lo hi) 1) (gt (aR lo hi) 0))=(hi.x-lo.x)*(hi.y-lo.y):=(by simp[aR,gt,aa,af];grind);rw[this];exact p
 refine⟨by simp[aR],λi=>by rw[q,q];show gt _ ((i+4)%4)=_;rw[YE],a,?_⟩;have b:bc (rQ (aR lo hi)) 0=⟨hi.x-lo.x,0⟩:=by show af (rQ _ 1) (rQ _ 0)=_;rw[q,q];exact V2.ext (by simp[aR,gt,af]) (by simp[aR,gt,af])
 have c:bc (rQ (aR lo hi)) 1=⟨0,hi.y-lo.y⟩:=by show af (rQ _ 2) (rQ _ 1)=_;rw[q,q];exact V2.ext (by simp[aR,gt,af]) (by simp[aR,gt,af])
 have f:bc (rQ (aR lo hi)) 2=⟨lo.x-hi.x,0⟩:=by show af (rQ _ 3) (rQ _ 2)=_;rw[q,q];exact V2.ext (by simp[aR,gt,af]) (by simp[aR,gt,af])
 have g:bc (rQ (aR lo hi)) 3=⟨0,lo.y-hi.y⟩:=by show af (rQ _ 4) (rQ _ 3)=_;rw[q,q];exact V2.ext (by simp[aR,gt,af]) (by simp[aR,gt,af])
 have h:bc (rQ (aR lo hi)) 4=⟨hi.x-lo.x,0⟩:=by show af (rQ _ 5) (rQ _ 4)=_;rw[q,q];exact V2.ext (by simp[aR,gt,af]) (by simp[aR,gt,af])
 have j:bn (bc (rQ (aR lo hi)) 0)=true:=by rw[b];exact js.2 (.inr ⟨rfl,by simp only;omega⟩)
 have l:bn (bc (rQ (aR lo hi)) 1)=true:=by rw[c];exact js.2 (.inl (by simp only;omega))
 have m:bn (bc (rQ (aR lo hi)) 2)=false:=by rw[f];exact ke.2 (λk=>by simp only[fa]at k;omega)
 have o:bn (bc (rQ (aR lo hi)) 3)=false:=by rw[g];exact ke.2 (λk=>by simp only[fa]at k;omega)
 have r:bn (bc (rQ (aR lo hi)) 4)=true:=by rw[h];exact js.2 (.inr ⟨rfl,by simp only;omega⟩)
 show aT 4 _=1;simp only[aT];unfold hp;rw[j,l,m,o,r];decide
theorem Fe (c:lo.x<hi.x) (f:lo.y<hi.y) {m:Int} {z:V2} (a:0<m:=by decide) (h:m*lo.x<z.x/\z.x<m*hi.x/\m*lo.y<z.y/\z.y<m*hi.y:=by omega):W (bD m (bH (aR lo hi))) z=1:=by
 refine(OF c f).NF a (mC.2 λt b=>?_);have q:∀i,rQ (aR lo hi) i=gt (aR lo hi) (i%4):=λi=>rfl;have g:=XC a (XC (show 0<hi.x-lo.x by omega) (show 0<z.y-m*lo.y by omega));have j:=XC a (XC (show 0<hi.y-lo.y by omega) (show 0<m*hi.x-z.x by omega));have l:=XC a (XC (show 0<hi.x-lo.x by omega) (show 0<m*hi.y-z.y by omega));have o:=XC a (XC (show 0<hi.y-lo.y by omega) (show 0<z.x-m*lo.x by omega));rw[q,q];have b:t<4:=b;rcases(show t=0\/t=1\/t=2\/t=3 by omega)with k|k|k|k<;>subst k
 ·have:ai (ag m (gt (aR lo hi) (0%4))) (ag m (gt (aR lo hi) ((0+1)%4))) z=m*((hi.x-lo.x)*(z.y-m*lo.y)):=(by show ai (ag m lo) (ag m ⟨hi.x,lo.y⟩) z=_;simp only[ai,aa,af,ag];grind);rw[this];exact g
 ·have:ai (ag m (gt (aR lo hi) (1%4))) (ag m (gt (aR lo hi) ((1+1)%4))) z=m*((hi.y-lo.y)*(m*hi.x-z.x)):=(by show ai (ag m ⟨hi.x,lo.y⟩) (ag m hi) z=_;simp only[ai,aa,af,ag];grind);rw[this];exact j
 ·have:ai (ag m (gt (aR lo hi) (2%4))) (ag m (gt (aR lo hi) ((2+1)%4))) z=m*((hi.x-lo.x)*(m*hi.y-z.y)):=(by show ai (ag m hi) (ag m ⟨lo.x,hi.y⟩) z=_;simp only[ai,aa,af,ag];grind);rw[this];exact l
 ·have:ai (ag m (gt (aR lo hi) (3%4))) (ag m (gt (aR lo hi) ((3+1)%4))) z=m*((hi.y-lo.y)*(z.x-m*lo.x)):=(by show ai (ag m ⟨lo.x,hi.y⟩) (ag m lo) z=_;simp only[ai,aa,af,ag];grind);rw[this];exact o
variable {s:cc} {c:V2}
theorem lB {t:cc} (hs:az s=true) (a:az t=true):c∈aN s t↔(c=s.a\/c=s.b\/c=t.a\/c=t.b)/\aV s.a s.b c/\aV t.a t.b c:=by
 unfold aN;rw[(eN _).2,Wx];unfold eV fK;rw[XH,jx hs,jx a];simp
theorem NA {t:cc} (hs:az s=true) (a:az t=true) (h:AE s.a s.b t.a t.b) (b:c∈aN s t):(c=s.a\/c=s.b)/\(c=t.a\/c=t.b):=by
 obtain⟨_,f,g⟩:=(lB hs a).1 b;have:=h 1 c (by decide) (by rw[bt,bt];exact f) (by rw[bt,bt];exact g);rw[bt,bt,bt,bt]at this;exact this
theorem P6 {t:cc} (hs:az s=true) (i:az t=true) (C:s.a≠s.b) (h:AE s.a s.b t.a t.b):aI s t=0\/(aI s t=1/\(s.a=t.a\/s.a=t.b\/s.b=t.a\/s.b=t.b)):=by
 cases e:aN s t with
 |nil=>
  left;refine(pd hs i).2 (kj λm u w D E=>?_);obtain⟨j,k⟩:=h m u w D E;have:∀c,c∉aN s t:=λc z=>by rw[e]at z;cases z
  have o:∀{x y:V2},u=ag m x->u=ag m y->x=y:=λa b=>gS w (a.symm.trans b);rcases j with j|j<;>rcases k with k|k
  ·have q:=o j k;exact this s.a ((lB hs i).2 ⟨.inl rfl,cd _ _,by rw[q];exact cd _ _⟩)
  ·have q:=o j k;exact this s.a ((lB hs i).2 ⟨.inl rfl,cd _ _,by rw[q];exact bE _ _⟩)
  ·have q:=o j k;exact this s.b ((lB hs i).2 ⟨.inr (.inl rfl),bE _ _,by rw[q];exact cd _ _⟩)
  ·have q:=o j k;exact this s.b ((lB hs i).2 ⟨.inr (.inl rfl),bE _ _,by rw[q];exact bE _ _⟩)
 |cons c r=>
  right;have p:=NA hs i h (c:=c) (by rw[e];simp);refine⟨?_,?_⟩
  ·have F:r=[]:=by
    cases r with
    |nil=>rfl
    |cons d r=>
     exfalso;have A:=NA hs i h (c:=d) (by rw[e];simp);have G:=(eN ((eV s t).filter (fK s t))).1;have B:c≠d:=λq=>by have:JS (aN s t):=G;rw[e]at this;have:=this.1 d (by simp);rw[q]at this;simp[bu]at this
     have H:AE s.a s.b s.a s.b:=by
      have I:(t.a=s.a/\t.b=s.b)\/(t.a=s.b/\t.b=s.a):=by
       rcases p.1 with f|f<;>rcases p.2 with g|g<;>rcases A.1 with l|l<;>rcases A.2 with q4|q4
       all_goals first
        |exact absurd (f.trans l.symm) B
        |exact absurd (g.trans q4.symm) B
        |exact .inl ⟨g.symm.trans f,q4.symm.trans l⟩
        |exact .inl ⟨q4.symm.trans l,g.symm.trans f⟩
        |exact .inr ⟨g.symm.trans f,q4.symm.trans l⟩
        |exact .inr ⟨q4.symm.trans l,g.symm.trans f⟩
      rcases I with⟨a,b⟩|⟨a,b⟩;rw[a,b]at h;exact h;rw[a,b]at h;exact h.sym.swap.sym
     exact pE C H
   unfold aI;rw[XD (by rw[hs,i];simp),e,F];rfl
  ·rcases p.1 with f|f<;>rcases p.2 with g|g
   ·exact .inl (f.symm.trans g)
   ·exact .inr (.inl (f.symm.trans g))
   ·exact .inr (.inr (.inl (f.symm.trans g)))
   ·exact .inr (.inr (.inr (f.symm.trans g)))
theorem TH {a b p q:V2} (h:NM a b p q):AE a b p q:=λm u c f g=>absurd f ((rn c h).DG g)
variable {x:V2}
theorem cY.symm {d:V2} (h:cY d x):cY x d:=by
 obtain⟨a,b,c,f,g,i⟩:=h;exact⟨b,a,f,c,g.symm,i.symm⟩
theorem cY.par {d:V2} (h:cY d x) (c:d≠⟨0,0⟩):aa d x=0/\0<ay d x:=by
 obtain⟨a,b,j,f,k,l⟩:=h;have g:a*aa d x=0:=by simp only[aa];grind
 have i:a*ay d x=b*ay d d:=by simp only[ay];grind
 refine⟨(mz g).resolve_left (by omega),?_⟩;have:=XC f (cg c);rw[<-i]at this;exact(bg (show 1<=a by omega)).1.1 this
variable {a p:V2}
theorem Lv {u:V2} {m:Int} (b:0<m) (j:a≠p) (h:aV (ag m p) (ag m a) u) (l:u≠ag m p):cY (af a p) (af u (ag m p)):=by
 obtain⟨f,o,r,t,x⟩:=h;have g:=df j;have hw:=df l;have c:aa (af a p) (af u (ag m p))=0:=by have:ai (ag m p) (ag m a) u=m*aa (af a p) (af u (ag m p)):=(by simp only[ai,aa,af,ag];grind);rw[this]at f;exact(mz f).resolve_left (by omega)
 refine cY.of g c ?_;have y:0<=(a.x-p.x)*(u.x-m*p.x):=by simp only[ag]at o r;have e:=ZL m a.x p.x;rcases YF (a.x-p.x) 0 with k|k|k;have:=Ya b k;exact X7 (by omega) (by omega);rw[k,Yb];exact Yc _;have:=XC b k;exact XM (by omega) (by omega)
 have z:0<=(a.y-p.y)*(u.y-m*p.y):=by simp only[ag]at t x;have e:=ZL m a.y p.y;rcases YF (a.y-p.y) 0 with k|k|k;have:=Ya b k;exact X7 (by omega) (by omega);rw[k,Yb];exact Yc _;have:=XC b k;exact XM (by omega) (by omega)
 have B:0<=ay (af a p) (af u (ag m p)):=by simp only[ay,af,ag];omega
 have C:ay (af a p) (af u (ag m p))≠0:=λk=>by have q:=cg g;have ex:ay (af a p) (af a p)*(af u (ag m p)).x=ay (af a p) (af u (ag m p))*(af a p).x:=(by generalize af a p=A at*;generalize af u (ag m p)=w at*;simp only[aa,ay]at c|-;grind);have i:ay (af a p) (af a p)*(af u (ag m p)).y=ay (af a p) (af u (ag m p))*(af a p).y:=(by generalize af a p=A at*;generalize af u (ag m p)=w at*;simp only[aa,ay]at c|-;grind);rw[k,Yb]at ex i;exact hw (V2.ext ((mz ex).resolve_left (by omega)) ((mz i).resolve_left (by omega)))
 omega
theorem vy {b:V2} (f:a≠p) (h:b≠p) (i:¬aV p b a) (h2:¬aV p a b):AE p a p b:=λm u g j l=>by
 by_cases c:u=ag m p;exact⟨.inl c,.inl c⟩;exfalso;have s:=(Lv g f j c).trans (Lv g h l c).symm;obtain⟨o,q⟩:=s.par (df f);rcases AO p o q with k|k;rw[cj,cj]at k;exact i k;rw[cj,cj]at k;exact h2 k
theorem Pk {s t:cc} (hs:az s=true) (o:az t=true) (i:s.a≠s.b) (j:t.a≠t.b) (h:aI s t=0\/(aI s t=1/\(s.a=t.a\/s.a=t.b\/s.b=t.a\/s.b=t.b))):AE s.a s.b t.a t.b:=by
 rcases h with h|⟨q,h⟩;exact TH ((pd hs o).1 h)
 ·have r:=IP.1 q;have one:∀{x y:V2},x∈aN s t->y∈aN s t->x=y:=λ{x y} l m=>by
   match e:aN s t,r,l,m with
   |[c],_,l,m=>rw[YB.1 l,YB.1 m]
  have f:=λc=>lB hs o (c:=c);rcases h with e|e|e|e;have g:s.a∈aN s t:=(f _).2 ⟨.inl rfl,cd _ _,by rw[e];exact cd _ _⟩;have:=vy (p:=s.a) (a:=s.b) (b:=t.b) i.symm (by rw[e];exact j.symm) (λk=>i (one g ((f _).2 ⟨.inr (.inl rfl),bE _ _,by rw[<-e];exact k⟩))) (λk=>j (by rw[<-e];exact one g ((f _).2 ⟨.inr (.inr (.inr rfl)),k,bE _ _⟩)));rw[<-e];exact this;have g:s.a∈aN s t:=(f _).2 ⟨.inl rfl,cd _ _,by rw[e];exact bE _ _⟩;have:=vy (p:=s.a) (a:=s.b) (b:=t.a) i.symm (by rw[e];exact j) (λk=>i (one g ((f _).2 ⟨.inr (.inl rfl),bE _ _,by rw[<-e];exact au.1 k⟩))) (λk=>j (by rw[<-e];exact(one g ((f _).2 ⟨.inr (.inr (.inl rfl)),k,cd _ _⟩)).symm));rw[<-e];exact this.sym.swap.sym;have g:s.b∈aN s t:=(f _).2 ⟨.inr (.inl rfl),bE _ _,by rw[e];exact cd _ _⟩;have:=vy (p:=s.b) (a:=s.a) (b:=t.b) i (by rw[e];exact j.symm) (λk=>i (one g ((f _).2 ⟨.inl rfl,cd _ _,by rw[<-e];exact k⟩)).symm) (λk=>j (by rw[<-e];exact one g ((f _).2 ⟨.inr (.inr (.inr rfl)),au.1 k,bE _ _⟩)));rw[<-e];exact this.swap;have g:s.b∈aN s t:=(f _).2 ⟨.inr (.inl rfl),bE _ _,by rw[e];exact bE _ _⟩;have:=vy (p:=s.b) (a:=s.a) (b:=t.a) i (by rw[e];exact j) (λk=>i (one g ((f _).2 ⟨.inl rfl,cd _ _,by rw[<-e];exact au.1 k⟩)).symm) (λk=>j (by rw[<-e];exact(one g ((f _).2 ⟨.inr (.inr (.inl rfl)),au.1 k,cd _ _⟩)).symm));rw[<-e];exact this.swap.sym.swap.sym
theorem bk.n2 {l:LV} (h:bk l):¬l.length<2:=by have:=h.three;omega
variable {a:LV}
theorem G9 {b:LV} (c:bk a) (f:bk b):qd (bH a) (bH b)↔∀i,i<(aw a).length->∀k,k<(aw b).length->aI (bm (aw a) i) (bm (aw b) k)=0:=by
 rw[gL c.n2,gL f.n2];constructor;intro h i g k j;rw[dB c.n2 i g,dB f.n2 k j];exact(pd (cx c.fE i) (cx f.fE k)).2 (h _ (bC.2 ⟨i,g,rfl⟩) _ (bC.2 ⟨k,j,rfl⟩));intro h x l y m;obtain⟨i,g,rfl⟩:=bC.1 l;obtain⟨k,j,rfl⟩:=bC.1 m;have:=h i g k j;rw[dB c.n2 i g,dB f.n2 k j]at this;exact(pd (cx c.fE i) (cx f.fE k)).1 this
theorem jS {b:LV} (g:bk a) (j:bk b):BM a b↔qd (bH a) (bH b):=by
 rw[G9 g j];constructor;intro h i c k f;rw[<-(fG _ _).1];exact h i c k f;intro h i c k f;rw[(fG _ _).1];exact h i c k f
theorem Fz (l:LV):l.map (ag 1)=l:=by
 have:ag 1=id:=funext λv=>bt v;rw[this,aas]
theorem zV {l:LV} (a:bk l) {v:V2} (b:∀e∈bH l,¬aV e.1 e.2 v):dp l v=2*W (bH l) v:=by
 have h:=(fC a (m:=1) (by decide) (z:=v) (by rw[gT];exact b)).2;rw[gT,Fz]at h;rw[yw a,h]
theorem VI {l:LV} (a:bk l) (v:V2):W (bH l) v=0\/W (bH l) v=1:=by
 have:=iA a 1 v (by decide);rw[gT]at this;omega
theorem qd.RN {b:LV} (h:qd (bH a) (bH b)) {k:Nat} (c:k<b.length):∀e∈bH a,¬aV e.1 e.2 (gt b k):=λe f=>(h e f _ (bC.2 ⟨k,c,rfl⟩)).p_
theorem ig {b:LV} (f:bk b) (h:qd (bH b) (bH a)) (w:Int):xO a b (2*w)↔∀e∈bH a,W (bH b) e.1=w:=by
 constructor;intro k e g;obtain⟨i,c,rfl⟩:=bC.1 g;have:=k i c;rw[zV f (h.RN c)]at this;show W (bH b) (gt a i)=w;omega;intro k i c;rw[zV f (h.RN c)];have:W (bH b) (gt a i)=w:=k _ (bC.2 ⟨i,c,rfl⟩);rw[this]
theorem jC {hs:List (LV)} {h:LV}:h∈hs↔∃i,i<hs.length/\hs.getD i []=h:=by
 rw[YV];constructor;rintro⟨i,a,e⟩;exact⟨i,a,by simp[List.getD,a,e]⟩;rintro⟨i,a,e⟩;exact⟨i,a,by simpa[List.getD,a]using e⟩
theorem iE {hs:List (LV)} {i:Nat} (hi:i<hs.length):hs.getD i []=hs[i]:=by simp[List.getD,hi]
theorem VS.ok {o:LV} {hs:List (LV)} (V:VS o hs):cJ o hs:=by
 have g:=ez.1 V.vo;have b:∀i,i<hs.length->bk (hs.getD i []):=λi a=>ez.1 (V.vh i a);refine⟨g,λh c=>?_,λh c=>?_,λh c=>?_,?_⟩;obtain⟨i,a,rfl⟩:=jC.1 c;exact b i a;obtain⟨i,a,rfl⟩:=jC.1 c;exact((jS (b i a) g).1 (V.off i a)).sym;obtain⟨i,a,rfl⟩:=jC.1 c;exact(ig g ((jS (b i a) g).1 (V.off i a)).sym 1).1 (V.ins i a);rw[Y5];intro i j a f m;obtain⟨p,q,r⟩:=V.pair j i m f;have n:=(jS (b j f) (b i a)).1 p;rw[iE a,iE f]at*;have k:=b i a;have l:=b j f;rw[iE a]at k;rw[iE f]at l;exact⟨n.sym,(ig k n.sym 0).1 q,(ig l n 0).1 r⟩
theorem VS.of {o:LV} {hs:List (LV)} (S:cJ o hs) (h:hs.length<=6) (k:aF (o::hs)<=80):VS o hs:=by
 have b:∀i,i<hs.length->bk (hs.getD i []):=λi a=>S.ring _ (jC.2 ⟨i,a,rfl⟩);have off:∀i,i<hs.length->qd (bH o) (bH (hs.getD i [])):=λi a=>S.off _ (jC.2 ⟨i,a,rfl⟩);have l:=Y5.1 S.pair;refine⟨h,ez.2 S.outer,λi a=>ez.2 (b i a),k,λi a=>?_,λi a=>?_,λi j m a=>?_⟩;exact(ig S.outer (off i a) 1).2 (S.Pq _ (jC.2 ⟨i,a,rfl⟩));exact(jS (b i a) S.outer).2 (off i a).sym;have c:j<hs.length:=(by omega);obtain⟨n,p,q⟩:=l j i c a m;have f:=b i a;have g:=b j c;rw[iE a]at f|-;rw[iE c]at g|-;exact⟨(jS f g).2 n.sym,(ig g n 0).2 p,(ig f n.sym 0).2 q⟩
theorem Ps {b:LV} (h:Ez a b true=true):xO a b 2:=by
 unfold Ez at h;split at h;rename_i k;intro i c;have:=aE.1 k i c;simpa using this;simp at h
theorem Ml {b:LV} (h:Ez a b false=false):∀i,i<a.length->dp b (gt a i)≠2:=by
 unfold Ez at h;split at h;rename_i k;intro i c;have:=aE.1 k i c;simpa using this;simp at h
theorem Hi {b:LV} (c:bk a) (f:bk b) (h:RU a b=false):qd (bH a) (bH b):=by
 rw[G9 c f];intro i g k j;unfold RU at h;have l:bJ (aw a).length (λi=>bJ (aw b).length λk=>!decide (aI (bm (aw a) i) (bm (aw b) k)≠0))=true:=by simpa using h
 have:=aE.1 (aE.1 l i g) k j;simpa using this
theorem Lz {b:LV} (c:bk b) (n:qd (bH b) (bH a)) (h:Ez a b false=false):∀e∈bH a,W (bH b) e.1=0:=by
 intro e g;obtain⟨i,f,rfl⟩:=bC.1 g;have:=Ml h i f;rw[zV c (n.RN f)]at this;have:=VI c (gt a i);show W (bH b) (gt a i)=0;omega
theorem Tv {o:LV} {hs:List (LV)} (h:KT o hs=true):VS o hs:=by
 unfold KT at h;simp only[XH,XU]at h;obtain⟨q,t,u,w⟩:=h;have g:=ez.1 t;have H:=aE.1 u;have b:∀i,i<hs.length->bk (hs.getD i [])/\qd (bH (hs.getD i [])) (bH o)/\xO (hs.getD i []) o 2/\∀k,k<i->NW (hs.getD i []) (hs.getD k [])=true:=by intro i a;have:=H i a;unfold Mt at this;simp only[XH,YK]at this;obtain⟨⟨x,y,z⟩,A⟩:=this;have r:=ez.1 x;exact⟨r,Hi r g y,Ps z,aE.1 A⟩
 refine VS.of ⟨g,λh c=>?_,λh c=>?_,λh c=>?_,?_⟩ q w;obtain⟨i,a,rfl⟩:=jC.1 c;exact(b i a).1;obtain⟨i,a,rfl⟩:=jC.1 c;exact(b i a).2.1.sym;obtain⟨i,a,rfl⟩:=jC.1 c;exact(ig g (b i a).2.1.sym 1).1 (b i a).2.2.1;rw[Y5];intro i j a f B;have p:=(b j f).2.2.2 i B;unfold NW at p;simp only[XH,YK]at p;obtain⟨C,D,E⟩:=p;have n:=Hi (b j f).1 (b i a).1 C;have l:=Lz (b i a).1 n.sym D;have m:=Lz (b j f).1 n E;rw[iE a,iE f]at n l m;exact⟨n.sym,l,m⟩
def PE (a b:V2):Int:=cp (cp (a.x*b.x)+cp (a.y*b.y))
theorem JX (a b:V2):DP 197 [vD a,vD b] (an (PE a b)):=by
 refine dg Tryz.func197 [] ?_;repeat' first|refine aj.n ?_|fail
 exact Fin.int rfl
def NV (f d:V2):Int:=if 0<fI f d then 0 else if fI f d<0 then 2 else if PE f d<0 then 1 else 3
theorem wv (f d:V2):DP 136 [vD f,vD d] (an (NV f d)):=by
 refine dg Tryz.func136 [] ?_;refine ah.int (dW f d) (λn a=>?_);unfold NV;rw[<-a];refine ab.mk (λc=>?_) (λc=>?_);exact Fin.int (by rw[XG (XB c)]);rw[XD (XA c)];refine ab.mk (λc=>?_) (λc=>?_);exact Fin.int (by rw[XG (XB c)]);rw[XD (XA c)];refine ah.int (JX f d) (λk b=>?_);rw[<-b];refine ab.mk (λc=>?_) (λc=>?_);exact Fin.int (by rw[XG (XB c)]);exact Fin.int (by rw[XD (XA c)])
def SO (f g d:V2):Bool:=decide (NV f d<NV f g)||(decide (NV f d=NV f g)&&(decide (NV f d≠3)&&decide (0<fI d g)))
theorem ze (f g d:V2):DP 137 [sD ⟨f,g⟩,vD d] (aD (SO f g d)):=by
 refine dg Tryz.func137 [] ?_;refine ah.int (wv f d) (λx j=>?_);refine ah.int (wv f g) (λy k=>?_);refine aj.n ?_;unfold SO;rw[<-j,<-k];refine ab.mk (λc=>?_) (λc=>?_)
 ·repeat' first|refine ab.dA c ?_|refine ab.cP c ?_|refine ab.t ?_|refine ab.f ?_|fail
  exact Fin.bool (by rw[show decide (x<y)=true from c];rfl)
 ·repeat' first|refine ab.dA c ?_|refine ab.cP c ?_|refine ab.t ?_|refine ab.f ?_|fail
  rw[show decide (x<y)=false from c];refine ab.mk (λa=>?_) (λa=>?_)
  ·have h:x=y:=(by simpa using a);repeat' first|refine ab.dA a ?_|refine ab.cP a ?_|refine ab.dA c ?_|refine ab.cP c ?_|refine ab.t ?_|refine ab.f ?_|fail
   rw[X8 h];refine ab.mk (λb=>?_) (λb=>?_)
   ·have i:x≠3:=(by simpa[bne]using b);repeat' first|refine ab.dA b ?_|refine ab.cP b ?_|refine ab.dA a ?_|refine ab.cP a ?_|refine ab.dA c ?_|refine ab.cP c ?_|refine ab.t ?_|refine ab.f ?_|fail
    refine ah.int (dW d g) (λz l=>?_);repeat' first|refine ab.dA b ?_|refine ab.cP b ?_|refine ab.dA a ?_|refine ab.cP a ?_|refine ab.dA c ?_|refine ab.cP c ?_|refine ab.t ?_|refine ab.f ?_|fail
    rw[<-l,X8 i];exact Fin.bool rfl
   ·have i:¬x≠3:=(by simpa[bne]using b);repeat' first|refine ab.dA b ?_|refine ab.cP b ?_|refine ab.dA a ?_|refine ab.cP a ?_|refine ab.dA c ?_|refine ab.cP c ?_|refine ab.t ?_|refine ab.f ?_|fail
    rw[X1 i];exact Fin.bool rfl
  ·have h:¬x=y:=(by simpa using a);repeat' first|refine ab.dA a ?_|refine ab.cP a ?_|refine ab.dA c ?_|refine ab.cP c ?_|refine ab.t ?_|refine ab.f ?_|fail
   rw[X1 h];exact Fin.bool rfl
def NY (s t:cc):Bool:=decide (NV s.a t.a=3)||(SO s.a s.b t.a||SO t.a t.b s.a)
theorem yY (s t:cc):DP 81 [sD s,sD t] (aD (NY s t)):=by
 refine dg Tryz.func81 [] ?_;refine ah.int (wv s.a t.a) (λx b=>?_);unfold NY;rw[<-b];refine ab.mk (λc=>?_) (λc=>?_)
 ·have a:x=3:=(by simpa using c);repeat' first|refine ab.dA c ?_|refine ab.cP c ?_|refine ab.t ?_|refine ab.f ?_|fail
  exact Fin.bool (by rw[X8 a];rfl)
 ·have a:¬x=3:=(by simpa using c);repeat' first|refine ab.dA c ?_|refine ab.cP c ?_|refine ab.t ?_|refine ab.f ?_|fail
  rw[X1 a];refine ah.bool (ze s.a s.b t.a) (λu f=>?_);rw[<-f];cases u with
  |true=>
   repeat' first|refine ab.dA c ?_|refine ab.cP c ?_|refine ab.t ?_|refine ab.f ?_|fail
   exact Fin.bool rfl
  |false=>
   repeat' first|refine ab.dA c ?_|refine ab.cP c ?_|refine ab.t ?_|refine ab.f ?_|fail
   refine ah.bool (ze t.a t.b s.a) (λv g=>?_);rw[<-g];repeat' first|refine ab.dA c ?_|refine ab.cP c ?_|refine ab.t ?_|refine ab.f ?_|fail
   exact Fin.bool rfl
theorem K9 (s:cc):DP 82 [sD s] (.d (sD ⟨s.b,s.a⟩)):=by
 refine dg Tryz.func82 [] ?_;exact Fin.rfl'
theorem MW (s t:cc):DP 83 [sD s,sD t] (aD (!NY s t)):=by
 refine dg Tryz.func83 [] ?_;refine ah.bool (yY s t) (λu a=>?_);exact Fin.bool (by rw[a])
theorem Mn (s t:cc):DP 80 [sD s,sD t] (aD (!NY t ⟨s.b,s.a⟩)):=by
 refine dg Tryz.func80 [] ?_;refine ah.mk' (K9 s) ?_;refine ah.bool (yY t ⟨s.b,s.a⟩) (λu a=>?_);refine aj.n ?_;exact Fin.bool (by rw[a])
theorem se {a b:LV} {i j:Nat}:aC (bif Nat.blt i a.length then vG a i j else vG b (i-a.length) j) (vG (a++b) i j):=by
 refine aC.bif (λh=>aC.of_eq (kW ?_ j)) (λh=>aC.of_eq (kW ?_ j));simp[List.getD,Yo,h];simp[List.getD,Yo,Xm.2 h]
variable {k:Nat}
theorem td {L:List (LV)} (h:k<L.length):(L.take (k+1)).flatten=(L.take k).flatten++L.getD k []:=by
 rw[<-List.take_append_getElem h,List.flatten_append];simp[List.getD,h]
theorem gk (L:List (LV)):L.flatten.length=aF L:=by simp[aF,List.length_flatten]
theorem Iy (o:LV) (hs:List (LV)) (f:aF (o::hs)<=40000:=by omega) (h:hs.length<=40000:=by omega):DP 132 [hF o hs] (.d (.one (aS (o::hs).flatten))):=by
 refine dg Tryz.func132 [] ?_;refine ah.mk' (iy o hs h (λr k=>Yf (my k) f)) ?_;generalize l:o::hs=L at*;have q:L.length<=40001:=by rw[<-l];simp;omega
 refine Loop.by (α:=Nat) (λi=>[(3,.aL 501 0),(7,.d (.one (hS L))),(8,an L.length),(9,an i)]) (λi=>[(501,.aJ 0 (L.take i).flatten.length 2 50 (vG (L.take i).flatten))]) (λi=>i<=L.length) (λi=>L.length-i)
  (aH.nil 3 501 2 50 (vG []) rfl rfl (aH.at 0 (XS _) (.cons (.bj (by simp) (λi a=>absurd a (XL i))) .nil) (.cH (.cS (.cS (.cS .nil))))))
  (λi a=>?_)
 refine ab.mk (λb=>?_) (λb=>?_);have m:i<L.length:=(by have:=XB b;omega);have c:=td m;have g:(L.take (i+1)).flatten.length<=40000:=(by rw[gk];exact Yf (eQ L (i+1)) f);rw[c,XR]at g;have t:(L.take i).flatten.length+(L.getD (i:Int).toNat []).length<=40000:=g;refine aj.o ?_;refine aj.mk (aY) ?_;refine aH.back (x:=i) (i+1) (by show i+1<=_;omega) (by omega) (.cons (.bj (by rw[c,XR];rfl) (λi a j p=>by rw[c];exact se)) .nil) (.cH (.cS (.cS (.cons (ao.int (by rw[hw _];omega)) .nil))));have:L.take i=L:=ZW (by have:=XA b;omega);exact Fin.one (aC.qo (by rw[this]) (λi a j p=>by rw[this];exact aC.refl _))
theorem Dm (n:Nat) (b:Nat->Int) (x:Int) (l:n<=40000):DP 94 [.one (.sl n 1 λi _=>i64 (b i)),.one (i64 x)] (an (FF n λi=>decide (b i=x))):=by
 refine dg Tryz.func94 [] ?_;refine Loop.by (α:=Nat) (λk=>[(0,.d (.one (.sl n 1 λi _=>i64 (b i)))),(1,an x),(7,an n),(8,an k)]) (λ_=>[]) (λk=>k<=n/\∀i,i<k->decide (b i=x)=false) (λk=>n-k)
  (aH.at 0 ⟨XS _,λ_ h=>absurd h (XL _)⟩ .nil (.cS (.cS (.cS (.cS .nil))))) (λk f=>?_)
 obtain⟨f,c⟩:=f;refine ab.mk (λh=>?_) (λh=>?_)
 ·have g:k<n:=(by simpa using h);refine aj.o ?_;refine ab.mk (λa=>?_) (λa=>?_);have a:b k=x:=(by have a:x=b k:=(by simpa using a);exact a.symm);exact Fin.int (jN g (X8 a) c).symm
  ·have a:¬b k=x:=λq=>by have a:¬x=b k:=(by simpa using a);exact a q.symm
   refine aH.back (x:=k) (k+1) ⟨by omega,λi m=>?_⟩ (by omega) .nil (.cS (.cS (.cS (.cons (ao.int ?_) .nil))));by_cases e:i=k;rw[e];exact X1 a;exact c i (by omega);rw[hw _];omega
 ·have j:k=n:=(by have:¬k<n:=(by simpa using h);omega);subst j;exact Fin.int (by rw[lF c])
theorem JA (n:Nat) (a:Nat->Int) (x:Int) (b:n<=40000:=by omega):DP 131 [.one (.sl n 1 λi _=>i64 (a i)),.one (i64 x)] (aD (!bJ n λi=>!decide (a i=x))):=by
 refine dg Tryz.func131 [] ?_;refine ah.int (Dm n a x b) (λm c=>?_);exact Fin.bool (by rw[<-rG n (λi=>decide (a i=x)),<-c])
def AZ (E F:List cc) (w:Int->Bool):Bool:=!bJ E.length λi=>bJ F.length λk=>!w (dz (bm E i) (bm F k)).kind
theorem C6 (o1:LV) (g:List (LV)) (o2:LV) (h2:List (LV)) (A:aF (o1::g)<=40000) (B:aF (o2::h2)<=40000) (n:Nat) (f:Nat->Int) (I:n<=100:=by decide):
  DP 77 [hF o1 g,hF o2 h2,.one (.sl n 1 λi _=>i64 (f i))] (aD (AZ (dE (o1::g)) (dE (o2::h2)) λx=>!bJ n λi=>!decide (f i=x))):=by
 refine dg Tryz.func77 [] ?_;have J:=rL (o1::g);have K:=rL (o2::h2);refine ah.mk' (nE o2 h2 B) ?_;refine ah.mk' (nE o1 g A) ?_;generalize dE (o1::g)=E at*;generalize dE (o2::h2)=F at*;generalize C:(λx=>!bJ n λi=>!decide (f i=x))=w at*;have hw:∀x,DP 131 [.one (.sl n 1 λi _=>i64 (f i)),.one (i64 x)] (aD (w x)):=λx=>by rw[<-C];exact JA n f x
 have l:∀n:Int,-1000000<=n->n<=1000000->IntKind.i64.wrap n=n:=λn a b=>wid;refine Loop.by (α:=Nat) (λi=>[(2,.d (.one (.sl n 1 λi _=>i64 (f i)))),(7,aD false),(8,.d (.one (nh F))),(16,.d (.one (nh E))),(17,an E.length),(18,an i)]) (λ_=>[]) (λi=>i<=E.length/\∀j,j<i->(bJ F.length λk=>!w (dz (bm E j) (bm F k)).kind)=true) (λi=>E.length-i)
  (aH.at 0 ⟨XS _,λ_ h=>absurd h (XL _)⟩ .nil (.cS (.cS (.cS (.cS (.cS (.cS .nil))))))) (λi m=>?_)
 obtain⟨m,o⟩:=m;refine ab.mk (λc=>?_) (λc=>?_)
 ·have D:i<E.length:=(by have:=XB c;omega);refine aj.o ?_;refine Loop.by (α:=Nat) (λk=>[(2,.d (.one (.sl n 1 λi _=>i64 (f i)))),(7,aD false),(8,.d (.one (nh F))),(10,.ptr 10 0),(16,.d (.one (nh E))),(17,an E.length),(18,an i),(22,.d (.one (nh F))),(23,an F.length),(24,an k)]) (λ_=>[(10,.box (sL (bm E i)))]) (λk=>k<=F.length/\∀j,j<k->(!w (dz (bm E i) (bm F j)).kind)=true) (λk=>F.length-k)
   (aH.at 0 ⟨XS _,λ_ h=>absurd h (XL _)⟩ (.cX .nil) (.cS (.cS (.cS (.cB (.cS (.cS (.cS (.cS (.cS (.cS .nil))))))))))) (λk p=>?_)
  obtain⟨p,r⟩:=p;refine ab.mk (λd=>?_) (λd=>?_)
  ·have G:k<F.length:=(by have:=XB d;omega);refine aj.o ?_;refine ah.int (kS (bm E i) (bm F k)) (λx t=>?_);refine ah.bool (hw x) (λb u=>?_);refine ab.mk (λe=>?_) (λe=>?_)
   ·have e:b=true:=e;have:bJ E.length (λi=>bJ F.length λk=>!w (dz (bm E i) (bm F k)).kind)=false:=by
     cases H:bJ E.length (λi=>bJ F.length λk=>!w (dz (bm E i) (bm F k)).kind)with
     |false=>rfl
     |true=>have:=aE.1 (aE.1 H i D) k G;rw[<-t,<-u,e]at this;cases this
    exact Fin.bool (by unfold AZ;rw[this];rfl)
   ·have e:b=false:=e;exact aH.back (x:=k) (k+1) ⟨by omega,λj y=>by
     by_cases q:j=k;rw[q,<-t,<-u,e];rfl
     ·exact r j (by omega)⟩ (by omega) (.cX .nil) (.cS (.cS (.cS (.cB (.cS (.cS (.cS (.cS (.cS (.cons (ao.int (by rw[l _ (by omega) (by omega)];omega)) .nil))))))))))
  ·have:F.length<=k:=(by have:=XA d;omega);exact aH.back (x:=i) (i+1) ⟨by omega,λj y=>by
    by_cases q:j=i;subst q;exact aE.2 (λz M=>r z (by omega))
    ·exact o j (by omega)⟩ (by omega) .nil (.cS (.cS (.cS (.cS (.cS (.cons (ao.int (by rw[l _ (by omega) (by omega)];omega)) .nil))))))
 ·have:E.length<=i:=(by have:=XA c;omega);have:bJ E.length (λi=>bJ F.length λk=>!w (dz (bm E i) (bm F k)).kind)=true:=aE.2 (λj y=>o j (by omega));exact Fin.bool (by unfold AZ;rw[this];rfl)
def yr (i:Nat) (r:LV) (p:V2) (k:Nat):Option cc:=
 if gt r k=p then some ⟨cT (if i=0 then bw r k else iZ r k) p,cT (if i=0 then iZ r k else bw r k) p⟩
 else if(if i=0 then bw r k else iZ r k)≠p/\iY ⟨gt r k,if i=0 then bw r k else iZ r k⟩ p=true then some ⟨cT (if i=0 then bw r k else iZ r k) p,cT (gt r k) p⟩
 else none
def N1 (p:V2):Nat->List (LV)->Option cc
 |_,[]=>none
 |i,r::L=>match (List.range r.length).findSome? (yr i r p)with
  |some s=>some s
  |none=>N1 p (i+1) L
def tw (L:List (LV)) (p:V2):cc:=(N1 p 0 L).getD ⟨⟨0,0⟩,⟨0,0⟩⟩
theorem Dy {n:Nat} {f:Nat->Option cc} {s:cc} (i:k<n) (a:∀j,j<k->f j=none) (h:f k=some s):(List.range n).findSome? f=some s:=by
 have e:List.range n=List.range k++(List.range (n-k)).map (k+·):=by rw[<-List.range_add];congr 1;omega
 rw[e,List.findSome?_append];have b:(List.range k).findSome? f=none:=W8.2 (λj c=>a j (X4.1 c));rw[b];obtain⟨d,g⟩:∃d,n-k=d+1:=⟨n-k-1,by omega⟩;rw[g,ZO];simp[h]
theorem mN {o:LV} {hs:List (LV)} (V:VS o hs) (p:V2):DP 135 [hF o hs,vD p] (.d (sD (tw (o::hs) p))):=by
 refine dg Tryz.func135 [9] ?_;have a2:=V.GD;refine ah.mk' (iy o hs (by omega) (λr m=>Yf (V.len m) (by decide))) ?_;have R:∀r∈o::hs,r.length<=80:=λr m=>V.len m;have a3:(o::hs).length<=7:=by simp;omega
 generalize o::hs=L at*;refine Loop.by (α:=Nat) (λi=>[(2,.ptr 2 0),(3,.ptr 3 0),(4,.ptr 4 0),(13,.d (.one (hS L))),(14,an L.length),(15,an i)]) (λ_=>[(2,.box [aS o,hS hs]),(3,.box (vL p)),(4,.box [i64 0,i64 0,i64 0,i64 0])]) (λi=>i<=L.length/\N1 p i (L.drop i)=N1 p 0 L) (λi=>L.length-i)
  (aH.at 0 ⟨XS _,rfl⟩ (.cX (.cX (.cX .nil))) (.cB (.cB (.cB (.cS (.cS (.cS .nil))))))) (λi K=>?_)
 obtain⟨K,t⟩:=K;refine ab.mk (λc=>?_) (λc=>?_)
 ·have D:i<L.length:=(by have:=XB c;omega);have S:L.drop i=L.getD i []::L.drop (i+1):=(by rw[Y6 D];simp[List.getD,D]);have T:(L.getD i []).length<=80:=R _ (by simp[List.getD,D]);rw[S]at t;simp only[N1]at t;refine aj.o ?_;obtain⟨r,m⟩:∃r,r=L.getD (i:Int).toNat []:=⟨_,rfl⟩;have U:L.getD i []=r:=m.symm;rw[U]at T t;refine Loop.by (α:=Nat) (λk=>[(2,.ptr 2 0),(3,.ptr 3 0),(4,.ptr 4 0),(5,an i),(6,.d (.one (aS r))),(13,.d (.one (hS L))),(14,an L.length),(15,an i),(20,.d (.one (aS r))),(21,an r.length),(22,an k)]) (λ_=>[(2,.box [aS o,hS hs]),(3,.box (vL p)),(4,.box [i64 0,i64 0,i64 0,i64 0])]) (λk=>k<=r.length/\∀j,j<k->yr i r p j=none) (λk=>r.length-k)
   (aH.at 0 ⟨XS _,λ_ h=>absurd h (XL _)⟩ (.cX (.cX (.cX .nil))) (.cB (.cB (.cB (.cS (.cons (.data (dV.of_eq (by rw[m]))) (.cS (.cS (.cS (.cons (.data (dV.of_eq (by rw[m]))) (.cons (ao.int (by rw[m])) (.cS .nil)))))))))))) (λk M=>?_)
  obtain⟨M,E⟩:=M;refine ab.mk (λd=>?_) (λd=>?_)
  ·have X:k<r.length:=(by have:=XB d;omega);have F:IntKind.i64.wrap ((k:Int)+1)=((k+1:Nat):Int):=(by rw[hw _];omega);have F:=qB k 1;have N:IntKind.i64.wrap (IntKind.i64.wrap ((k:Int)+r.length)-1)=((k+r.length-1:Nat):Int):=(by rw[hw ((k:Int)+r.length),hw _];omega);have Y:=kY (k+1) r.length;have Z:=kY (k+r.length-1) r.length;have B:∀s,yr i r p k=some s->tw L p=s:=λs a0=>by unfold tw;rw[<-t,Dy X E a0];rfl
   have C:yr i r p k=none->∀j,j<k+1->yr i r p j=none:=λh j O=>by by_cases q:j=k;rw[q];exact h;exact E j (by omega)
   refine aj.o ?_;refine aj.o ?_;refine aj.mk (by rw[show(1:Int)=(1:Nat) from rfl,F];exact Y) ?_;refine aj.o ?_;refine aj.mk (by rw[N];exact Z) ?_;refine aj.n ?_;have G:bw r k=gt r (Int.toNat ((IntKind.i64.wrap ((k:Int)+(1:Nat))).tmod r.length)):=(by rw[F,kX];rfl);have H:iZ r k=gt r (Int.toNat ((IntKind.i64.wrap (IntKind.i64.wrap ((k:Int)+r.length)-1)).tmod r.length)):=(by rw[N,kX];rfl);obtain⟨nx,P⟩:∃v,v=gt r (Int.toNat ((IntKind.i64.wrap ((k:Int)+(1:Nat))).tmod r.length)):=⟨_,rfl⟩;obtain⟨f,Q⟩:∃v,v=gt r (Int.toNat ((IntKind.i64.wrap (IntKind.i64.wrap ((k:Int)+r.length)-1)).tmod r.length)):=⟨_,rfl⟩;refine Cut.mk (aH.iC [(2,.ptr 2 0),(3,.ptr 3 0),(4,.ptr 4 0),(5,an i),(6,.d (.one (aS r))),(7,an k),(8,.ptr 8 0),(9,.ptr 9 0),(10,.ptr 10 0),(13,.d (.one (hS L))),(14,an L.length),(15,an i),(20,.d (.one (aS r))),(21,an r.length),(22,an k)] [(2,.box [aS o,hS hs]),(3,.box (vL p)),(4,.box [i64 0,i64 0,i64 0,i64 0]),(8,.box (vL (gt r k))),(9,.box (vL nx)),(10,.box (vL f))]
    (.cX (.cX (.cX (.cX (.cons (.box (by rw[P];exact gO.refl _)) (.cons (.box (by rw[Q];exact gO.refl _)) .nil))))))
    (.cB (.cB (.cB (.cS (.cS (.cS (.cB (.cB (.cB (.cS (.cS (.cS (.cS (.cS (.cS .nil))))))))))))))) ?_)
   rw[<-P]at G;rw[<-Q]at H;refine ab.mk (λg=>?_) (λg=>?_)
   ·have g:¬i=0:=(by have:=XB g;omega);have l:(if i=0 then bw r k else iZ r k)=f:=(by rw[XD g];exact H);have I:(if i=0 then iZ r k else bw r k)=nx:=(by rw[XD g];exact G);refine tB.v (gt r k) p (λq y=>?_);refine ab.mk (λa=>?_) (λa=>?_);have a:gt r k=p:=y.1 a;refine ah.mk' (bY f p) ?_;refine ah.mk' (bY nx p) ?_;refine aj.n ?_;refine Fin.d (dV.of_eq ?_);rw[B ⟨cT f p,cT nx p⟩ (by unfold yr;rw[XG a,l,I])];rfl
    ·have a:¬gt r k=p:=λe=>by rw[y.2 e]at a;exact absurd a (by decide)
     refine tB.v f p (λJ z=>?_);cases J with
     |true=>
      have w:f=p:=z.1 rfl;repeat' first|apply ab.t|apply ab.f
      exact aH.back (x:=k) (k+1) ⟨by omega,C (by unfold yr;rw[XD a,l,XD (λh=>h.1 w)])⟩ (by omega) (.cX (.cX (.cX .nil))) (.cB (.cB (.cB (.cS (.cS (.cS (.cS (.cS (.cS (.cS (.cons (ao.int (by rw[hw _];omega)) .nil)))))))))))
     |false=>
      have w:¬f=p:=λe=>by have:=z.2 e;cases this
      repeat' first|apply ab.t|apply ab.f
      refine ah.bool (wD ⟨gt r k,f⟩ p) (λu A=>?_);repeat' first|apply ab.t|apply ab.f
      refine ab.mk (λb=>?_) (λb=>?_);have b:u=true:=b;refine ah.mk' (bY f p) ?_;refine ah.mk' (bY (gt r k) p) ?_;refine aj.n ?_;refine Fin.d (dV.of_eq ?_);rw[B ⟨cT f p,cT (gt r k) p⟩ (by unfold yr;rw[XD a,l,XG ⟨w,by rw[<-A];exact b⟩])];rfl;have b:u=false:=b;exact aH.back (x:=k) (k+1) ⟨by omega,C (by unfold yr;rw[XD a,l,XD (λh=>by rw[<-A,b]at h;exact absurd h.2 (by decide))])⟩ (by omega) (.cX (.cX (.cX .nil))) (.cB (.cB (.cB (.cS (.cS (.cS (.cS (.cS (.cS (.cS (.cons (ao.int (by rw[hw _];omega)) .nil)))))))))))
   ·have g:i=0:=(by have:=XA g;omega);have l:(if i=0 then bw r k else iZ r k)=nx:=(by rw[XG g];exact G);have I:(if i=0 then iZ r k else bw r k)=f:=(by rw[XG g];exact H);refine tB.v (gt r k) p (λq y=>?_);refine ab.mk (λa=>?_) (λa=>?_);have a:gt r k=p:=y.1 a;refine ah.mk' (bY nx p) ?_;refine ah.mk' (bY f p) ?_;refine aj.n ?_;refine Fin.d (dV.of_eq ?_);rw[B ⟨cT nx p,cT f p⟩ (by unfold yr;rw[XG a,l,I])];rfl
    ·have a:¬gt r k=p:=λe=>by rw[y.2 e]at a;exact absurd a (by decide)
     refine tB.v nx p (λJ z=>?_);cases J with
     |true=>
      have w:nx=p:=z.1 rfl;repeat' first|apply ab.t|apply ab.f
      exact aH.back (x:=k) (k+1) ⟨by omega,C (by unfold yr;rw[XD a,l,XD (λh=>h.1 w)])⟩ (by omega) (.cX (.cX (.cX .nil))) (.cB (.cB (.cB (.cS (.cS (.cS (.cS (.cS (.cS (.cS (.cons (ao.int (by rw[hw _];omega)) .nil)))))))))))
     |false=>
      have w:¬nx=p:=λe=>by have:=z.2 e;cases this
      repeat' first|apply ab.t|apply ab.f
      refine ah.bool (wD ⟨gt r k,nx⟩ p) (λu A=>?_);repeat' first|apply ab.t|apply ab.f
      refine ab.mk (λb=>?_) (λb=>?_);have b:u=true:=b;refine ah.mk' (bY nx p) ?_;refine ah.mk' (bY (gt r k) p) ?_;refine aj.n ?_;refine Fin.d (dV.of_eq ?_);rw[B ⟨cT nx p,cT (gt r k) p⟩ (by unfold yr;rw[XD a,l,XG ⟨w,by rw[<-A];exact b⟩])];rfl;have b:u=false:=b;exact aH.back (x:=k) (k+1) ⟨by omega,C (by unfold yr;rw[XD a,l,XD (λh=>by rw[<-A,b]at h;exact absurd h.2 (by decide))])⟩ (by omega) (.cX (.cX (.cX .nil))) (.cB (.cB (.cB (.cS (.cS (.cS (.cS (.cS (.cS (.cS (.cons (ao.int (by rw[hw _];omega)) .nil)))))))))))
  ·have a1:(List.range r.length).findSome? (yr i r p)=none:=W8.2 (λj O=>E j (by have:=X4.1 O;have:=XA d;omega));rw[a1]at t;exact aH.back (x:=i) (i+1) ⟨by omega,t⟩ (by omega) (.cX (.cX (.cX .nil))) (.cB (.cB (.cB (.cS (.cS (.cons (ao.int (by rw[hw _];omega)) .nil))))))
 ·have:L.drop i=[]:=WS (by have:=XA c;omega);rw[this]at t;refine Fin.d (dV.of_eq ?_);unfold tw;rw[<-t];rfl
theorem lU (o:LV) (hs:List (LV)) (f:aF (o::hs)<=40000:=by omega) (k:hs.length<=40000:=by omega):oC Tryz.prog 132 [.d (hF o hs)] [] (.aL (.n 3000) 0) [] (.aJ 0 (o::hs).flatten.length 2 50 (vG (o::hs).flatten)):=by
 refine dC kL mixed Tryz.func132 rfl rfl [] (XJ rfl) (XJ rfl) (gQ rfl) ?_;refine ah.mk' (iy o hs k (λr l=>Yf (my l) f)) ?_;generalize m:o::hs=L at*;have t:L.length<=40001:=by rw[<-m];simp;omega
 refine Loop.by (α:=Nat) (λi=>[(3,.aL 501 0),(7,.d (.one (hS L))),(8,an L.length),(9,an i)]) (λi=>[(501,.aJ 0 (L.take i).flatten.length 2 50 (vG (L.take i).flatten))]) (λi=>i<=L.length) (λi=>L.length-i)
  (aH.nil 3 501 2 50 (vG []) rfl rfl (aH.at 0 (XS _) (.cons (.bj (by simp) (λi a=>absurd a (XL i))) .nil) (.cH (.cS (.cS (.cS .nil))))))
  (λi a=>?_)
 refine ab.mk (λb=>?_) (λb=>?_);have p:i<L.length:=(by have:=XB b;omega);have c:=td p;have g:(L.take (i+1)).flatten.length<=40000:=(by rw[gk];exact Yf (eQ L (i+1)) f);rw[c,XR]at g;have u:(L.take i).flatten.length+(L.getD (i:Int).toNat []).length<=40000:=g;refine aj.o ?_;refine aj.mk (aY) ?_;refine aH.back (x:=i) (i+1) (by show i+1<=_;omega) (by omega) (.cons (.bj (by rw[c,XR];rfl) (λi a j q=>by rw[c];exact se)) .nil) (.cH (.cS (.cS (.cons (ao.int (by rw[hw _];omega)) .nil))));have:L.take i=L:=ZW (by have:=XA b;omega);exact lS.mk ⟨.n 501,.one (.aL rfl rfl rfl),.nil _,.inr ⟨.bj (by rw[this]) (λh=>absurd h (by decide)) (λi a j q=>by rw[this];exact aC.refl _),rfl⟩⟩
theorem ah.Ot {P:Program} {f:FuncId} {args:List DV} {K:TV->Prop} {e:cc} (h:kM P f args (.d (sD e))) (a:∀c,c=e->K (.d (sD c))):ah P f args K:=⟨_,h,a e rfl⟩
def Qq (o1:LV) (a:List (LV)) (o2:LV) (h2:List (LV)) (g:cc->cc->Bool):Bool:=
 (λl:LV=>bJ l.length λi=>!(decide (eL o1 a (gt l i)=1)&&(decide (eL o2 h2 (gt l i)=1)&&!g (tw (o1::a) (gt l i)) (tw (o2::h2) (gt l i))))) ((o1::a).flatten++(o2::h2).flatten)
variable {o1 o2:LV}
theorem EK {c:List (LV)} (k:VS o1 c) {h2:List (LV)} (V2:VS o2 h2) (cap:Nat->SV) (g:cc->cc->Bool) (E:∀s t,DP 83 [sD s,sD t] (aD (g s t))):
  DP 79 [hF o1 c,hF o2 h2,.one (.fn 83 0 cap)] (aD (Qq o1 c o2 h2 g)):=by
 refine ic kL mixed Tryz.func79 rfl rfl [132+2000000] (XJ rfl) ?_;have Q:=k.GD;have R:=V2.GD;have S:=k.er;have T:=V2.er;refine eu.mk' [] (lU o1 c) ⟨.nil,.cD .nil,rfl,rfl,λ_=>rfl⟩ ?_;refine eu.mk' [] (lU o2 h2) ⟨.nil,.cD .nil,rfl,rfl,λ_=>rfl⟩ ?_;have U:=gk (o1::c);have V:=gk (o2::h2);refine aj.mk (aY) ?_;refine aj.n ?_;obtain⟨l,m⟩:∃l,l=(o1::c).flatten++(o2::h2).flatten:=⟨_,rfl⟩;have z:l.length=(o1::c).flatten.length+(o2::h2).flatten.length:=by rw[m,XR]
 have F:Qq o1 c o2 h2 g=bJ l.length λi=>!(decide (eL o1 c (gt l i)=1)&&(decide (eL o2 h2 (gt l i)=1)&&!g (tw (o1::c) (gt l i)) (tw (o2::h2) (gt l i)))):=by rw[m];rfl
 rw[F];obtain⟨B,A⟩:∃B:Nat->Bool,B=λi=>!(decide (eL o1 c (gt l i)=1)&&(decide (eL o2 h2 (gt l i)=1)&&!g (tw (o1::c) (gt l i)) (tw (o2::h2) (gt l i)))):=⟨_,rfl⟩;rw[<-A];refine Loop.by (α:=Nat) (λi=>[(2,.d (.one (.fn 83 0 cap))),(3,.ptr 3 0),(4,.ptr 4 0),(13,.aL 10 0),(14,an l.length),(15,an i)]) (λi=>[(3,.box [aS o1,hS c]),(4,.box [aS o2,hS h2]),(10,.aJ 0 l.length 2 50 (vG l))]) (λi=>i<=l.length/\∀j,j<i->B j=true) (λi=>l.length-i)
  (aH.at 0 ⟨XS _,λ_ h=>absurd h (XL _)⟩ (.cX (.cX (.cons (.bj z.symm (λi o j C=>by rw[m];exact se)) .nil))) (.cS (.cB (.cB (.cH (.cons (ao.int (by rw[z])) (.cS .nil)))))))
  (λi o=>?_)
 obtain⟨o,D⟩:=o;refine ab.mk (λp=>?_) (λp=>?_)
 ·have G:i<l.length:=(by have:=XB p;omega);refine aj.o ?_;have H:B i=false->bJ l.length B=false:=λh=>bS i G h;have next:B i=true->∀j,j<i+1->B j=true:=λh j C=>by by_cases q:j=i;rw[q];exact h;exact D j (by omega)
  have f:B i=!(decide (eL o1 c (gt l i)=1)&&(decide (eL o2 h2 (gt l i)=1)&&!g (tw (o1::c) (gt l i)) (tw (o2::h2) (gt l i)))):=(by rw[A]);refine ah.int (nD k (gt l i)) (λx I=>?_);rw[<-I]at f;refine ab.mk (λa=>?_) (λa=>?_)
  ·have r:decide (x=1)=true:=a;rw[r]at f;repeat' first|refine ab.dA a ?_|refine ab.cP a ?_|refine ab.t ?_|refine ab.f ?_|fail
   refine ah.int (nD V2 (gt l i)) (λy J=>?_);rw[<-J]at f;repeat' first|refine ab.dA a ?_|refine ab.cP a ?_|refine ab.t ?_|refine ab.f ?_|fail
   refine ab.mk (λb=>?_) (λb=>?_)
   ·have w:decide (y=1)=true:=b;rw[w]at f;repeat' first|refine ab.dA b ?_|refine ab.cP b ?_|refine ab.dA a ?_|refine ab.cP a ?_|refine ab.t ?_|refine ab.f ?_|fail
    refine ah.Ot (mN k (gt l i)) (λK M=>?_);repeat' first|refine ab.dA b ?_|refine ab.cP b ?_|refine ab.dA a ?_|refine ab.cP a ?_|refine ab.t ?_|refine ab.f ?_|fail
    refine ah.Ot (mN V2 (gt l i)) (λN O=>?_);repeat' first|refine ab.dA b ?_|refine ab.cP b ?_|refine ab.dA a ?_|refine ab.cP a ?_|refine ab.t ?_|refine ab.f ?_|fail
    rw[<-M,<-O]at f;refine ah.bool (E K N) (λu P=>?_);rw[<-P]at f;repeat' first|refine ab.dA b ?_|refine ab.cP b ?_|refine ab.dA a ?_|refine ab.cP a ?_|refine ab.t ?_|refine ab.f ?_|fail
    refine aj.n ?_;cases u with
    |true=>
     repeat' first|refine ab.dA b ?_|refine ab.cP b ?_|refine ab.dA a ?_|refine ab.cP a ?_|refine ab.t ?_|refine ab.f ?_|fail
     exact aH.back (x:=i) (i+1) ⟨by omega,next f⟩ (by omega) (.cX (.cX (.cons (.bj rfl (λ_ _ _ _=>aC.refl _)) .nil))) (.cS (.cB (.cB (.cH (.cS (.cons (ao.int (by rw[hw _];omega)) .nil))))))
    |false=>
     repeat' first|refine ab.dA b ?_|refine ab.cP b ?_|refine ab.dA a ?_|refine ab.cP a ?_|refine ab.t ?_|refine ab.f ?_|fail
     exact Fin.bool (by rw[H f])
   ·have w:decide (y=1)=false:=b;rw[w]at f;repeat' first|refine ab.dA b ?_|refine ab.cP b ?_|refine ab.dA a ?_|refine ab.cP a ?_|refine ab.t ?_|refine ab.f ?_|fail
    refine aj.n ?_;repeat' first|refine ab.dA b ?_|refine ab.cP b ?_|refine ab.dA a ?_|refine ab.cP a ?_|refine ab.t ?_|refine ab.f ?_|fail
    exact aH.back (x:=i) (i+1) ⟨by omega,next f⟩ (by omega) (.cX (.cX (.cons (.bj rfl (λ_ _ _ _=>aC.refl _)) .nil))) (.cS (.cB (.cB (.cH (.cS (.cons (ao.int (by rw[hw _];omega)) .nil))))))
  ·have r:decide (x=1)=false:=a;rw[r]at f;repeat' first|refine ab.dA a ?_|refine ab.cP a ?_|refine ab.t ?_|refine ab.f ?_|fail
   refine aj.n ?_;repeat' first|refine ab.dA a ?_|refine ab.cP a ?_|refine ab.t ?_|refine ab.f ?_|fail
   exact aH.back (x:=i) (i+1) ⟨by omega,next f⟩ (by omega) (.cX (.cX (.cons (.bj rfl (λ_ _ _ _=>aC.refl _)) .nil))) (.cS (.cB (.cB (.cH (.cS (.cons (ao.int (by rw[hw _];omega)) .nil))))))
 ·have:bJ l.length B=true:=aE.2 (λj C=>D j (by have:=XA p;omega));exact Fin.bool (by rw[this])
theorem EJ {c:List (LV)} (k:VS o1 c) {h2:List (LV)} (V2:VS o2 h2) (cap:Nat->SV) (g:cc->cc->Bool) (E:∀s t,DP 80 [sD s,sD t] (aD (g s t))):
  DP 79 [hF o1 c,hF o2 h2,.one (.fn 80 0 cap)] (aD (Qq o1 c o2 h2 g)):=by
 refine ic kL mixed Tryz.func79 rfl rfl [132+2000000] (XJ rfl) ?_;have Q:=k.GD;have R:=V2.GD;have S:=k.er;have T:=V2.er;refine eu.mk' [] (lU o1 c) ⟨.nil,.cD .nil,rfl,rfl,λ_=>rfl⟩ ?_;refine eu.mk' [] (lU o2 h2) ⟨.nil,.cD .nil,rfl,rfl,λ_=>rfl⟩ ?_;have U:=gk (o1::c);have V:=gk (o2::h2);refine aj.mk (aY) ?_;refine aj.n ?_;obtain⟨l,m⟩:∃l,l=(o1::c).flatten++(o2::h2).flatten:=⟨_,rfl⟩;have z:l.length=(o1::c).flatten.length+(o2::h2).flatten.length:=by rw[m,XR]
 have F:Qq o1 c o2 h2 g=bJ l.length λi=>!(decide (eL o1 c (gt l i)=1)&&(decide (eL o2 h2 (gt l i)=1)&&!g (tw (o1::c) (gt l i)) (tw (o2::h2) (gt l i)))):=by rw[m];rfl
 rw[F];obtain⟨B,A⟩:∃B:Nat->Bool,B=λi=>!(decide (eL o1 c (gt l i)=1)&&(decide (eL o2 h2 (gt l i)=1)&&!g (tw (o1::c) (gt l i)) (tw (o2::h2) (gt l i)))):=⟨_,rfl⟩;rw[<-A];refine Loop.by (α:=Nat) (λi=>[(2,.d (.one (.fn 80 0 cap))),(3,.ptr 3 0),(4,.ptr 4 0),(13,.aL 10 0),(14,an l.length),(15,an i)]) (λi=>[(3,.box [aS o1,hS c]),(4,.box [aS o2,hS h2]),(10,.aJ 0 l.length 2 50 (vG l))]) (λi=>i<=l.length/\∀j,j<i->B j=true) (λi=>l.length-i)
  (aH.at 0 ⟨XS _,λ_ h=>absurd h (XL _)⟩ (.cX (.cX (.cons (.bj z.symm (λi o j C=>by rw[m];exact se)) .nil))) (.cS (.cB (.cB (.cH (.cons (ao.int (by rw[z])) (.cS .nil)))))))
  (λi o=>?_)
 obtain⟨o,D⟩:=o;refine ab.mk (λp=>?_) (λp=>?_)
 ·have G:i<l.length:=(by have:=XB p;omega);refine aj.o ?_;have H:B i=false->bJ l.length B=false:=λh=>bS i G h;have next:B i=true->∀j,j<i+1->B j=true:=λh j C=>by by_cases q:j=i;rw[q];exact h;exact D j (by omega)
  have f:B i=!(decide (eL o1 c (gt l i)=1)&&(decide (eL o2 h2 (gt l i)=1)&&!g (tw (o1::c) (gt l i)) (tw (o2::h2) (gt l i)))):=(by rw[A]);refine ah.int (nD k (gt l i)) (λx I=>?_);rw[<-I]at f;refine ab.mk (λa=>?_) (λa=>?_)
  ·have r:decide (x=1)=true:=a;rw[r]at f;repeat' first|refine ab.dA a ?_|refine ab.cP a ?_|refine ab.t ?_|refine ab.f ?_|fail
   refine ah.int (nD V2 (gt l i)) (λy J=>?_);rw[<-J]at f;repeat' first|refine ab.dA a ?_|refine ab.cP a ?_|refine ab.t ?_|refine ab.f ?_|fail
   refine ab.mk (λb=>?_) (λb=>?_)
   ·have w:decide (y=1)=true:=b;rw[w]at f;repeat' first|refine ab.dA b ?_|refine ab.cP b ?_|refine ab.dA a ?_|refine ab.cP a ?_|refine ab.t ?_|refine ab.f ?_|fail
    refine ah.Ot (mN k (gt l i)) (λK M=>?_);repeat' first|refine ab.dA b ?_|refine ab.cP b ?_|refine ab.dA a ?_|refine ab.cP a ?_|refine ab.t ?_|refine ab.f ?_|fail
    refine ah.Ot (mN V2 (gt l i)) (λN O=>?_);repeat' first|refine ab.dA b ?_|refine ab.cP b ?_|refine ab.dA a ?_|refine ab.cP a ?_|refine ab.t ?_|refine ab.f ?_|fail
    rw[<-M,<-O]at f;refine ah.bool (E K N) (λu P=>?_);rw[<-P]at f;repeat' first|refine ab.dA b ?_|refine ab.cP b ?_|refine ab.dA a ?_|refine ab.cP a ?_|refine ab.t ?_|refine ab.f ?_|fail
    refine aj.n ?_;cases u with
    |true=>
     repeat' first|refine ab.dA b ?_|refine ab.cP b ?_|refine ab.dA a ?_|refine ab.cP a ?_|refine ab.t ?_|refine ab.f ?_|fail
     exact aH.back (x:=i) (i+1) ⟨by omega,next f⟩ (by omega) (.cX (.cX (.cons (.bj rfl (λ_ _ _ _=>aC.refl _)) .nil))) (.cS (.cB (.cB (.cH (.cS (.cons (ao.int (by rw[hw _];omega)) .nil))))))
    |false=>
     repeat' first|refine ab.dA b ?_|refine ab.cP b ?_|refine ab.dA a ?_|refine ab.cP a ?_|refine ab.t ?_|refine ab.f ?_|fail
     exact Fin.bool (by rw[H f])
   ·have w:decide (y=1)=false:=b;rw[w]at f;repeat' first|refine ab.dA b ?_|refine ab.cP b ?_|refine ab.dA a ?_|refine ab.cP a ?_|refine ab.t ?_|refine ab.f ?_|fail
    refine aj.n ?_;repeat' first|refine ab.dA b ?_|refine ab.cP b ?_|refine ab.dA a ?_|refine ab.cP a ?_|refine ab.t ?_|refine ab.f ?_|fail
    exact aH.back (x:=i) (i+1) ⟨by omega,next f⟩ (by omega) (.cX (.cX (.cons (.bj rfl (λ_ _ _ _=>aC.refl _)) .nil))) (.cS (.cB (.cB (.cH (.cS (.cons (ao.int (by rw[hw _];omega)) .nil))))))
  ·have r:decide (x=1)=false:=a;rw[r]at f;repeat' first|refine ab.dA a ?_|refine ab.cP a ?_|refine ab.t ?_|refine ab.f ?_|fail
   refine aj.n ?_;repeat' first|refine ab.dA a ?_|refine ab.cP a ?_|refine ab.t ?_|refine ab.f ?_|fail
   exact aH.back (x:=i) (i+1) ⟨by omega,next f⟩ (by omega) (.cX (.cX (.cons (.bj rfl (λ_ _ _ _=>aC.refl _)) .nil))) (.cS (.cB (.cB (.cH (.cS (.cons (ao.int (by rw[hw _];omega)) .nil))))))
 ·have:bJ l.length B=true:=aE.2 (λj C=>D j (by have:=XA p;omega));exact Fin.bool (by rw[this])
theorem KD {o:LV} {hs:List (LV)} (V:VS o hs) (v:V2) (w:Int):DP 133 [vD v,.one (.ad 2 λj=>[aS o,hS hs].getD j (.v Go.undef)),.one (.ad 1 λj=>[i64 w].getD j (.v Go.undef))] (aD (decide (eL o hs v=w))):=by
 refine dg Tryz.func133 [] ?_;refine ah.int (nD V v) (λn a=>?_);refine aj.n ?_;exact Fin.bool (by rw[<-a];rfl)
def Rz (o1:LV) (a:List (LV)) (o2:LV) (h2:List (LV)) (w:Int):Bool:=(λl:LV=>!bJ l.length λi=>!decide (eL o2 h2 (gt l i)=w)) (o1::a).flatten
theorem q2 {a:List (LV)} (b:VS o1 a) {h2:List (LV)} (V2:VS o2 h2) (w:Int):
  DP 78 [hF o1 a,hF o2 h2,.one (i64 w)] (aD (Rz o1 a o2 h2 w)):=by
 refine dg Tryz.func78 [] ?_;have c:=b.GD;have f:=b.er;refine ah.mk' (Iy o1 a) ?_;refine ah.mk' (Ig (o1::a).flatten _ 2 _ (λk=>decide (eL o2 h2 (gt (o1::a).flatten k)=w)) (by rw[gk];omega) (λk g=>KD V2 _ w)) ?_;exact Fin.bool rfl
def rN (o1:LV) (a:List (LV)) (o2:LV) (h2:List (LV)):Bool:=
 !AZ (dE (o1::a)) (dE (o2::h2)) (λx=>!bJ 1 λ_=>!decide ((2:Int)=x))&&(!Rz o1 a o2 h2 2&&(!Rz o2 h2 o1 a 2&&Qq o1 a o2 h2 λs t=>!NY s t))
def Jo (o1:LV) (a:List (LV)) (o2:LV) (h2:List (LV)):Bool:=
 !AZ (dE (o1::a)) (dE (o2::h2)) (λx=>!bJ 1 λ_=>!decide ((2:Int)=x))&&(!Rz o2 h2 o1 a 0&&(!Rz o1 a o2 h2 2&&Qq o1 a o2 h2 λs t=>!NY t ⟨s.b,s.a⟩))
theorem yZ (o1:LV) (a:List (LV)) (o2:LV) (h2:List (LV)) (b:aF (o1::a)<=40000:=by omega) (c:aF (o2::h2)<=40000:=by omega):
  DP 77 [hF o1 a,hF o2 h2,.one (.sl 1 1 λi j=>[i64 2].getD (i*1+j) (.v Go.undef))] (aD (AZ (dE (o1::a)) (dE (o2::h2)) λx=>!bJ 1 λ_=>!decide ((2:Int)=x))):=by
 refine kM.le (xL:=[hF o1 a,hF o2 h2,.one (.sl 1 1 λ_ _=>i64 2)]) (.cR (.cR (.cons (.one (aC.qo rfl (λi f j g=>?_))) .nil))) (C6 o1 a o2 h2 b c 1 (λ_=>2));obtain rfl:i=0:=by omega
 obtain rfl:j=0:=by omega
 exact aC.refl _
theorem PH {a:List (LV)} (b:VS o1 a) {h2:List (LV)} (V2:VS o2 h2):
  DP 38 [hF o1 a,hF o2 h2] (aD (rN o1 a o2 h2)):=by
 refine dg Tryz.func38 [] ?_;have i:=b.er;have j:=V2.er;refine ah.bool (yZ o1 a o2 h2) (λx c=>?_);unfold rN;rw[<-c];cases x with
 |true=>
  repeat' first|apply ab.t|apply ab.f
  exact Fin.bool rfl
 |false=>
 repeat' first|apply ab.t|apply ab.f
 refine ah.bool (q2 b V2 2) (λy f=>?_);rw[<-f];cases y with
 |true=>
  repeat' first|apply ab.t|apply ab.f
  exact Fin.bool rfl
 |false=>
 repeat' first|apply ab.t|apply ab.f
 refine ah.bool (q2 V2 b 2) (λz g=>?_);rw[<-g];cases z with
 |true=>
  repeat' first|apply ab.t|apply ab.f
  exact Fin.bool rfl
 |false=>
 repeat' first|apply ab.t|apply ab.f
 refine ah.bool (EK b V2 _ _ MW) (λu h=>?_);repeat' first|apply ab.t|apply ab.f
 exact Fin.bool (by rw[<-h];rfl)
theorem Po {a:List (LV)} (b:VS o1 a) {h2:List (LV)} (V2:VS o2 h2):
  DP 37 [hF o1 a,hF o2 h2] (aD (Jo o1 a o2 h2)):=by
 refine dg Tryz.func37 [] ?_;have i:=b.er;have j:=V2.er;refine ah.bool (yZ o1 a o2 h2) (λx c=>?_);unfold Jo;rw[<-c];cases x with
 |true=>
  repeat' first|apply ab.t|apply ab.f
  exact Fin.bool rfl
 |false=>
 repeat' first|apply ab.t|apply ab.f
 refine ah.bool (q2 V2 b 0) (λy f=>?_);rw[<-f];cases y with
 |true=>
  repeat' first|apply ab.t|apply ab.f
  exact Fin.bool rfl
 |false=>
 repeat' first|apply ab.t|apply ab.f
 refine ah.bool (q2 b V2 2) (λz g=>?_);rw[<-g];cases z with
 |true=>
  repeat' first|apply ab.t|apply ab.f
  exact Fin.bool rfl
 |false=>
 repeat' first|apply ab.t|apply ab.f
 refine ah.bool (EJ b V2 _ _ Mn) (λu h=>?_);repeat' first|apply ab.t|apply ab.f
 exact Fin.bool (by rw[<-h];rfl)
theorem DF {a:List (LV)} (b:VS o1 a) {h2:List (LV)} (V2:VS o2 h2):
  DP 16 [hF o1 a,hF o2 h2] (.eG [.one (.v (.bool (rN o1 a o2 h2))),.one (i64 0)]):=by
 refine dg Tryz.func16 [] ?_;refine ah.mk' (gp b) ?_;repeat' first|apply ab.t|apply ab.f
 refine ah.mk' (gp V2) ?_;repeat' first|apply ab.t|apply ab.f
 refine ah.mk' (PH b V2) ?_;exact Fin.rfl'
theorem Mh {a:List (LV)} (b:VS o1 a) {h2:List (LV)} (V2:VS o2 h2):
  DP 15 [hF o1 a,hF o2 h2] (.eG [.one (.v (.bool (Jo o1 a o2 h2))),.one (i64 0)]):=by
 refine dg Tryz.func15 [] ?_;refine ah.mk' (gp b) ?_;repeat' first|apply ab.t|apply ab.f
 refine ah.mk' (gp V2) ?_;repeat' first|apply ab.t|apply ab.f
 refine ah.mk' (Po b V2) ?_;exact Fin.rfl'
end Sg
end Go.Vm
namespace Go.Vm
open Go Go.RowKit
def DA (k n:Nat) (f:Nat->Mem):List (Id×Mem):=(List.range n).map λi=>(.s k i,f i)
theorem qD:∀(l r:List (Id×Mem)) (o:Id),(∀p∈l,p.1≠o)->aX (l++r) o=aX r o
 |[],_,_,_=>rfl
 |p::l,r,o,h=>by simp only[YG,aX];rw[av _ _ _ (λe=>h p (by simp) e.symm)];exact qD l r o (λq a=>h q (by simp[a]))
theorem Fy (k:Nat) (f:Nat->Mem) (r:List (Id×Mem)) (i:Nat):∀n,i<n->aX (DA k n f++r) (.s k i)=f i:=by
 intro n b;have c:∀l:List Nat,l.Nodup->i∈l->aX ((l.map λi=>((.s k i,f i):Id×Mem))++r) (.s k i)=f i:=λl=>by
  induction l with
  |nil=>intro _ h;cases h
  |cons a l g=>intro j h;simp only[Yg,YG,aX];by_cases e:i=a;subst e;rw[ar];rw[av _ _ _ (by intro q;cases q;exact e rfl)];exact g (Yy.1 j).2 ((XF.1 h).resolve_left e)
 exact c (List.range n) Wn (X4.2 b)
theorem yh (k:Nat) (f:Nat->Mem) (r:List (Id×Mem)) (n:Nat) (o:Id) (h:∀i,i<n->o≠ .s k i):aX (DA k n f++r) o=aX r o:=by
 refine qD _ _ _ (λp a=>?_);obtain⟨i,b,rfl⟩:=XQ.1 a;exact λe=>h i (X4.1 b) e.symm
theorem fm.fam {m m':Id->Mem} {k n:Nat} {f:Nat->Mem} {r:List (Id×Mem)} (h:∀i,i<n->fb m m' (m (.s k i)) (f i)) (g:fm m m' r):fm m m' (DA k n f++r):=by
 have j:∀l:List Nat,(∀i∈l,i<n)->fm m m' ((l.map λi=>((.s k i,f i):Id×Mem))++r):=λl=>by
  induction l with
  |nil=>intro _;exact g
  |cons a l o=>intro c;exact .cons (h a (c a (by simp))) (o (λi b=>c i (by simp[b])))
 exact j (List.range n) (λi b=>X4.1 b)
variable {P:Program} {m:Id->Mem}
theorem xX.mk' {o:Oper} {t:Nat->TV} {K:fh} {z:TV} {a:List (Id×Mem)} {rd:List Nat} (h:aG P o t m z a rd) (k:K z a rd):xX P o t m K:=⟨z,a,rd,k,h⟩
theorem qO {o:Oper} {t:Nat->TV} {c:Call} (g:o.op= .call c) {b:Operand} (h:c.callee= .value b) {f n:Nat} {cap:Nat->SV} (y:bG t b= .d (.one (.fn f n cap)))
  {args:List TV} {i:Id->Mem} {r:TV} {j:Id->Mem} (z:Eo P f args i r j) {k:Id->Id} {G:Id->Nat} {l:List (Id×Mem)} {rd:List Nat} (A:Qe m k G (c.args.toList.map (bG t)++(gn n cap).map .d) args i j l rd o.dst):
  aG P o t m (La k G r) l rd:=by
 have B:b∈o.op.operands.toList:=by rw[g];simp[Op.operands,Call.operands,h]
 have C:∀x∈c.args.toList,x∈o.op.operands.toList:=λx D=>by rw[g];simp[Op.operands,Call.operands,h];right;simpa using D
 refine DX (f:=f) (λE ρ J K a w p q=>?_) z A;have u:=(ax q b).1;rw[aq p B,y]at u;obtain⟨xs,F,H⟩:=Rd.od (show Rd _ _ _ _ from u);exact⟨_,(jh p q _ C).append (yz (tC n cap xs H)),λI=>(te g h a w _ F).trans (dN I _ _)⟩
variable {x:Operand} {xs:List DV}
theorem Ll {o:Oper} {t:Nat->TV} (c:o.op= .extract x 0) {b:Id} (g:bG t x= .jw b xs):aG P o t m (.ptr b 0) [] []:=by
 refine aB λE ρ r u a w z h _ i=>?_;have f:=ax i x;rw[aq h (by rw[c];simp[Op.operands]),g]at f;obtain⟨⟨y,A,j,k,B⟩,l⟩:=f;exact⟨y,by simp[execOp,c,j,Instr.extract],k,λp q=>l p q⟩
variable {i:Nat}
theorem Lk {o:Oper} {t:Nat->TV} (c:o.op= .extract x (i+1)) {b:Id} (g:bG t x= .jw b xs) {v:DV} (j:xs[i]? =some v):aG P o t m (.d v) [] []:=by
 refine aB λE ρ A B a w C k _ l=>?_;have f:=(ax l x).1;rw[aq k (by rw[c];simp[Op.operands]),g]at f;obtain⟨y,D,p,F,q⟩:=f;obtain⟨u,r,z⟩:=q.get i v j;exact⟨u,by simp[execOp,c,p,Instr.extract,r],z,λ_ h=>h.elim⟩
variable {ty:TypeId}
theorem Ss {o:Oper} {t:Nat->TV} {TT:iu} (V:cC P TT) {T:Ty} (X:TT ty=some T) {Y Z a0:TypeId} (a1:T.kind= .str [(0,Y,1),(1,Z,1),(2,a0,1)]) {a2 a3 a4:SV} (a5:T.zero=[a2,a3,a4]) {j:Array (Nat×Operand)} (I:o.op= .build ty j)
  {s0 f g:Nat} (a6:j.toList=[(0,.tmp s0),(1,.tmp f),(2,.tmp g)]) {c0 c1 c2:CV} (a7:t s0=c0.tv) (a8:t f=c1.tv) (h2:t g=c2.tv):aG P o t m (.r3 [c0,c1,c2]) [] []:=by
 have J:=V ty T X;have K:=J.kind;rw[a1]at K;obtain⟨F,a9,c8,b0⟩:=K;have M:j=#[(0,.tmp s0),(1,.tmp f),(2,.tmp g)]:=by rw[<-Yr (xs:=j),a6]
 refine aB λE ρ c9 p a w d0 b1 _ N=>?_;have B:∀(s:Nat) (c:CV),Operand.tmp s∈o.op.operands.toList->t s=c.tv->kR (L E p ρ w) p ρ w (a.tmps.getD s Go.undef) c/\∀b,c.refs b->p b≠ .none:=λs c b2 C=>by have O:=N.slots s;have k:=N.clean s;rw[b1 s b2,C]at O k;refine⟨?_,λb D=>k b (by cases c<;>exact D)⟩;cases c<;>exact O
 have G:∀s,(s=s0\/s=f\/s=g)->Operand.tmp s∈o.op.operands.toList:=λs C=>by rw[I,M];simp[Op.operands];rcases C with rfl|rfl|rfl<;>simp
 obtain⟨Q,b3⟩:=B s0 c0 (G _ (.inl rfl)) a7;obtain⟨R,b4⟩:=B f c1 (G _ (.inr (.inl rfl))) a8;obtain⟨S,b5⟩:=B g c2 (G _ (.inr (.inr rfl))) h2;obtain⟨i,z,b6,d1,d2,b7,d3,U⟩:=ij J (L E p ρ w) w;rw[a5]at U;generalize b8:a.tmps.getD s0 Go.undef=v0 at*;generalize b9:a.tmps.getD f Go.undef=q at*;generalize c3:a.tmps.getD g Go.undef=r at*;have H:∃u y A,z.cells.toList=[u,y,A]:=by
  have:=U.length
  match h:z.cells.toList,this with
  |[u,y,A],_=>exact⟨_,_,_,rfl⟩
 obtain⟨u,y,A,H⟩:=H;have c4:z.cells=#[u,y,A]:=by rw[<-Yr (xs:=z.cells),H]
 have D:P.built ty (j.map λ(i,x)=>(i,a.eval x)).toList=some #[v0,q,r]:=by unfold Program.built;simp only[b6,a9,b7,b0];rw[M];have c5:a.eval (.tmp s0)=v0:=b8;have c6:a.eval (.tmp f)=q:=b9;have c7:a.eval (.tmp g)=r:=c3;simp[c5,c6,c7,Instr.fill,c4,cells_one Q.bO,cells_one R.bO,cells_one S.bO]
 refine⟨.agg #[v0,q,r],?_,⟨[v0,q,r],rfl,.cons Q (.cons R (.cons S .nil))⟩,?_⟩;have l:=run_build (P:=P) w ty (j.map λ(i,x)=>(i,a.eval x)) _ D;simp[execOp,I,l];rintro b ⟨c,k,l⟩;simp only[XF,ZA,WZ]at k;rcases k with rfl|rfl|rfl;exact b3 b l;exact b4 b l;exact b5 b l
theorem P0 {o:Oper} {t:Nat->TV} {e:TypeId} (b:o.op= .box e x) {d:Nat} (h:o.dst=some d) (i:m (.n d)= .none) {cs:List CV} (j:bG t x= .r3 cs):
  aG P o t m (.ptr d 0) [(.n d,.obj cs)] [d]:=by
 refine bW λE ρ H k a w I l p q f=>?_;have r:k (.n d)= .none:=by rw[p.at (.n d) (by simp[Id.key])];exact i
 have g:=ax f x;rw[aq l (by rw[b];simp[Op.operands]),j]at g;obtain⟨⟨u,y,z⟩,A⟩:=g;have B:=f.r1 (.n d) r (E.yj d (ZN (q d h))) u (.obj cs) e (.inr ⟨_,rfl,z,λc C D F=>A D ⟨c,C,F⟩⟩);refine⟨_,.pointer (some ⟨w.heap.size,0,none⟩),_,_,?_,.inl rfl,B,?_,?_⟩;simp[execOp,b,Instr.box,newVar,newRow,y,Value.cells];simp only[dm,bh,ar];exact⟨_,_,rfl,rfl⟩;intro J G;cases G;rw[ar];simp
structure NL (P:Program) (ty:TypeId):Prop where
 h:∃k e len el,P.underlying ty=some (.map k e)/\P.underlying k=some (.array len el)/\(∀w,(zeroValue e).run P w= .ok (.bool false) w)/\
  (∀x y:Int,∀b w,(Instr.checkKey b 10000 k (qI [x,y])).run P w= .ok () w)/\∀x y x' y':Int,∀w,(Op.equal k (qI [x,y]) (qI [x',y'])).run P w= .ok (decide ([x,y]=[x',y'])) w
abbrev JO (l:List (Int×Int)):List (List Int):=l.map λp=>[p.1,p.2]
theorem Ba {o:Oper} {t:Nat->TV} (q:o.op= .makeMap ty Option.none) {d:Nat} (u:o.dst=some d) (x:m (.n d)= .none):aG P o t m (.ptr d 0) [(.n d,.map [])] [d]:=by
 refine bW λE ρ H k a w I J y z f=>?_;have i:k (.n d)= .none:=by rw[y.at (.n d) (by simp[Id.key])];exact x
 have A:=bX w (.map #[] 0);have B:¬(k (.n d)).live:=by rw[i];exact id
 have C:=Iu f (.n d) (.map []) 0 B (ek w (.map #[] 0)) (by simp);have D:=f.one (.n d) (.map []) (some (w.heap.size,0)) (Bx.of (ek w _) f.below.size) C (λj b c _ l r=>iT w _ b (f.lo j b c l r).2) (λ_ b c p=>by
   simp only[Y9,Zq]at p;obtain⟨rfl,rfl⟩:=p;exact⟨⟨.inr f.below.size,by simp⟩,λj F _ l r=>absurd (f.lo j _ F l r).2 (Zg _)⟩)
  (by simp) (λ_ h=>h.elim) (λ_=>E.yj d (ZN (z d u))) (by simp[Mem.gen]) ⟨_,0,#[],0,ar _ _ _,A,rfl⟩ (λg=>absurd i g) (λ_ _ _ _ g=>absurd i g) (λ_ _ _ _ g=>absurd i g)
 refine⟨_,.map (some w.heap.size),_,_,?_,.inl rfl,D,?_,?_⟩;simp[execOp,q,Instr.makeMap,newObj,Sem.run];simp only[dm,bh,ar];exact⟨_,_,rfl,rfl⟩;intro K G;cases G;rw[ar];simp
theorem xf {P:Program} {k:TypeId} (m:∀x y o t:Int,∀w,(Op.equal k (qI [x,y]) (qI [o,t])).run P w= .ok (decide ([x,y]=[o,t])) w) (x y:Int) (w:World):∀(b:List MapEntry) (ks:List (Int×Int)) (i:Nat),zT b (JO ks)->
  if(x,y)∈ks then∃j,(Instr.findAsking k (qI [x,y]) b i).run P w= .ok (some (j,.bool true)) w else(Instr.findAsking k (qI [x,y]) b i).run P w= .ok none w
 |[],ks,i,h=>by
  cases ks with
  |nil=>simp[Instr.findAsking]
  |cons a r=>simp[zT]at h
 |n::b,ks,i,h=>by
  cases ks with
  |nil=>simp[zT]at h
  |cons p r=>simp only[zT,Yg,Xr,Zq]at h;obtain⟨⟨g,u⟩,z⟩:=h;have f:=xf m x y w b r (i+1) z;have c:=m x y p.1 p.2 w;by_cases q:(x,y)=p;have:(x,y)∈p::r:=(by rw[q];simp);rw[XG this];have l:decide ([x,y]=[p.1,p.2])=true:=(by rw[<-q];simp);rw[l]at c;exact⟨i,by simp[Instr.findAsking,g,c,u]⟩;have l:decide ([x,y]=[p.1,p.2])=false:=X1 (λk=>q (by simp only[Xr,and_true]at k;exact WE k.1 k.2));rw[l]at c;by_cases k:(x,y)∈r;rw[XG k]at f;rw[XG (by simp[k])];obtain⟨j,A⟩:=f;exact⟨j,by simp[Instr.findAsking,g,c];exact A⟩;rw[XD k]at f;rw[XD (by simp only[XF,not_or];exact⟨q,k⟩)];simp[Instr.findAsking,g,c];exact f
variable {w:World}
theorem xg {k len c:TypeId} (b:P.underlying k=some (.array len c)) {key:Value} {a:List MapEntry} {r:Option (Nat×Value)} (h:(Instr.findAsking k key a 0).run P w= .ok r w):(Instr.findKey k key a).run P w= .ok r w:=by
 cases a with
 |nil=>simp[Instr.findAsking]at h;subst h;simp[Instr.findKey,run_underlying b,Instr.findNow]
 |cons x a=>simp[Instr.findKey,run_underlying b,Instr.findNow,Instr.sameNow,h]
variable {E:Env} {ρ:Id->Option (Nat×Nat)}
theorem Md {v:Value} {x y:Int} (h:dm E m ρ w v (.d (.agg [i64 x,i64 y]))):v=qI [x,y]:=by
 obtain⟨xs,rfl,r⟩:=h;cases r with
 |cons a b=>cases b with
  |cons c f=>cases f;rw[(Rd.cm a).1,(Rd.cm c).1];rfl
variable {y:Operand} {ks:List (Int×Int)} {u:Int}
theorem tQ (I:NL P ty) {o:Oper} {t:Nat->TV} (l:o.op= .lookup ty x y false) {b:Id} (J:bG t x= .ptr b 0) (K:m b= .map (JO ks)) {v:Int} (M:bG t y= .d (.agg [i64 u,i64 v])):
  aG P o t m (aD (decide ((u,v)∈ks))) [] [b.key]:=by
 obtain⟨k,e,V,X,z,A,N,B,O⟩:=I.h;refine aB λE ρ Y Q a w Z C R p=>?_;have f:=(ax p x).1;have i:=(ax p y).1;rw[aq C (by rw[l];simp[Op.operands]),J]at f;rw[aq C (by rw[l];simp[Op.operands]),M]at i;have i:=Md i;have D:Q b= .map (JO ks):=by rw[R b (by simp)];exact K
 simp only[dm,bh,D]at f;obtain⟨a0,c,S,f⟩:=f;have F:=p.mem b;rw[D]at F;obtain⟨a1,a2,T,a3,G,H,U⟩:=F;rw[S]at G;cases G;have g:=xf O u v w T.toList ks 0 U;refine⟨.bool (decide ((u,v)∈ks)),?_,Rd.v rfl,λ_ h=>h.elim⟩;by_cases q:(u,v)∈ks;rw[XG q]at g;obtain⟨j,g⟩:=g;have r:=xg A g;simp[execOp,l,f,i,Instr.lookup,run_underlying z,MapKept.run_getObj_map H,B,r,q];rw[XD q]at g;have r:=xg A g;simp[execOp,l,f,i,Instr.lookup,run_underlying z,MapKept.run_getObj_map H,B,r,N,q]
theorem C7 (a4:NL P ty) {o:Oper} {t:Nat->TV} (N:o.op= .mapUpdate ty x y (.const (.bool true))) {b:Id} (a5:bG t x= .ptr b 0) (a6:m b= .map (JO ks)) {v:Int} (a7:bG t y= .d (.agg [i64 u,i64 v])) (a8:(u,v)∉ks):
  aG P o t m .any [(b,.map (JO (ks++[(u,v)])))] [b.key]:=by
 obtain⟨k,e,c1,c2,a9,b0,c3,b1,b2⟩:=a4.h;refine bW λE ρ c4 T a w c5 U b3 c6 z=>?_;have G:=(ax z x).1;have M:=(ax z y).1;rw[aq U (by rw[N];simp[Op.operands]),a5]at G;rw[aq U (by rw[N];simp[Op.operands]),a7]at M;have M:=Md M;have A:T b= .map (JO ks):=by rw[b3 b (by simp)];exact a6
 simp only[dm,bh,A]at G;obtain⟨j,c,B,G⟩:=G;have V:=z.mem b;rw[A]at V;obtain⟨c7,D,H,F,X,Y,Z⟩:=V;rw[B]at X;cases X;have a0:=xf b2 u v w H.toList ks 0 Z;rw[XD a8]at a0;have b4:=xg b0 a0;have I:(T b).live:=by rw[A];trivial
 obtain⟨J,a1⟩:=z.lo b j c I B;have b5:bo ρ b (some (j,c))=ρ:=by rw[<-B];exact fw ρ b
 have O:∀f,f≠j->(w.heap.setIfInBounds j (.map (H.push {key:=qI [u,v],val:= .bool true,born:=F}) (F+1)))[f]? =w.heap[f]?:=λf Q=>by simp[ZV,Zr Q]
 have b6:=z.one (w':={w with heap:=w.heap.setIfInBounds j (.map (H.push {key:=qI [u,v],val:= .bool true,born:=F}) (F+1))}) b (.map (JO (ks++[(u,v)]))) (some (j,c))
  ⟨rfl,rfl,rfl,by simp,λf K b7=>O f (λq=>by
   subst q;rcases J with J|J;exact b7 J
   ·omega),XP _⟩
  (λf K=>by
   have Q:f≠j:=λq=>K.2 b c I (q▸B);refine⟨⟨K.1.imp id (λh=>h.imp id (λh=>⟨h.1,by simpa using h.2⟩)),λC D l r=>?_⟩,O f Q⟩;rw[b5]at r;by_cases q:C=b;subst q;exact K.2 C D I r
   ·rw[av _ _ _ q]at l;exact K.2 C D l r)
  (λC f D R l r=>O f (λq=>R (z.inj C b f D c l I r (q▸B))))
  (λ_ f D a2=>by simp only[Y9,Zq]at a2;obtain⟨rfl,rfl⟩:=a2;exact⟨⟨J,by simpa using a1⟩,λC b8 R l r=>R (z.inj C b _ b8 _ l I r B)⟩)
  (by simp) (λ_ h=>h.elim) (λq=>by rw[A]at q;cases q) (by simp[Mem.gen])
  ⟨j,c,H.push {key:=qI [u,v],val:= .bool true,born:=F},F+1,ar _ _ _,by simp[ZV,a1],by have b9:H.toList.map (λe=>(e.key,e.val))=(JO ks).map (λl=>(qI l,Value.bool true)):=Z;simp only[zT,Array.toList_push,Ys,b9,JO,Yg,W7]⟩
  (λ_=>by
   refine⟨λx p S=>?_,λx g a3=>?_⟩;simp only[bh,A,ar]at S|-;rw[B]at S;exact S
   ·simp only[bF,A,ar]at a3|-;exact a3)
  (λx g i c8 _ h=>by simp only[dm,ar])
  (λx g c9 n _ h=>by simp only[fj,A,ar]at h|-;exact h)
 refine⟨.skip,Go.undef,_,_,?_,.inr ⟨rfl,rfl⟩,b6,trivial,λ_ h=>h.elim⟩;have c0:a.eval (.const (.bool true))= .bool true:=rfl;simp[execOp,N,G,M,c0,Instr.mapUpdate,run_underlying a9,MapKept.run_getObj_map Y,b1,b4,MapKept.run_setObj_map _ Y]
theorem Rel.RG {t:Nat->TV} {a:Act} (h:Rel E ρ t m a w) (M:Id->Mem) (ρ':Id->Option (Nat×Nat))
  (P:∀z b c,(M z).live->ρ' z=some (b,c)->(m z).live/\ρ z=some (b,c))
  (a4:∀z,m z≠ .none->M z≠ .none)
  (Q:∀z,m z≠ .none->M z= .dead\/(M z=m z/\ρ' z=ρ z)\/(Shape (m z) (M z)/\ρ' z=ρ z))
  (a5:∀z Y,(M z).refs Y->M Y≠ .none)
  (a6:(∀b,L E m ρ w b->L E M ρ' w b)->(∀z,m z≠ .none->Carry m M ρ ρ' z)->∀z,iJ E M ρ' w z (M z))
  (yj:∀z,m z= .none->M z≠ .none->E.m0 z= .none):Rel E ρ' t M a w:=by
 have D:∀b,L E m ρ w b->L E M ρ' w b:=λb u=>⟨u.1,λz c l S=>by obtain⟨T,a7⟩:=P z b c l S;exact u.2 z c T a7⟩;have G:∀z,m z≠ .none->Carry m M ρ ρ' z:=λz S=>by rcases Q z S with e|⟨J,B⟩|⟨s,B⟩;refine⟨λx p K=>?_,λx N R=>?_⟩;have:=K.bO;simp only[bh,e];exact this;simp only[bF,e];exact⟨R.1,trivial⟩;exact Carry.same J B;exact s.carry B
 refine{below:=h.below,defers:=h.defers.mono (λb u=>⟨D b u,rfl⟩),size:=h.size,inj:=λo Z b c a0 l T r a8=>?_,lo:=λo b c l r=>?_,clean:=λi o O=>a4 o (h.clean i o O),cleanM:=a5,mem:=a6 D G,slots:=?slots,carry:=?carry};obtain⟨U,V⟩:=P o b c l r;obtain⟨a9,b0⟩:=P Z b a0 T a8;exact h.inj o Z b c a0 U a9 V b0;obtain⟨U,V⟩:=P o b c l r;exact h.lo o b c U V
 case slots=>
  intro i;have A:=h.slots i;have C:=h.clean i;generalize t i=v at A C;cases v with
  |any=>trivial
  |undef=>exact A
  |d v=>exact nf.mono (λb u=>⟨D b u,rfl⟩) A
  |eG b1=>obtain⟨xs,H,F⟩:=A;exact⟨xs,H,F.mono (λb u=>⟨D b u,rfl⟩)⟩
  |ptr j p=>exact(G j (C j rfl)).ptr _ p A
  |aL j g=>exact(G j (C j rfl)).aL _ g A
  |nb n neg=>exact A
  |cV f b6=>exact jZ.mono (λb u=>⟨D b u,rfl⟩) (λj O=>G j (C j O)) A
  |jw j b1=>obtain⟨y,xs,H,F,b2⟩:=A;exact⟨y,xs,H,(G j (C j rfl)).ptr _ 0 F,b2.mono (λb u=>⟨D b u,rfl⟩)⟩
  |r3 b7=>obtain⟨xs,H,F⟩:=A;exact⟨xs,H,F.mono (λb u=>⟨D b u,rfl⟩) (λj O=>G j (C j O))⟩
  |ep j N b3 b4=>rcases Q j (C j rfl)with e|⟨J,B⟩|⟨s,B⟩;simp only[dm,e];exact dm.mono (λb u=>⟨D b u,rfl⟩) (λb5 F=>by cases F;exact⟨J,B⟩) A;exact s.ep B _ N b3 b4 A
  |sub j N lo a1=>rcases Q j (C j rfl)with e|⟨J,B⟩|⟨s,B⟩;have H:fj m ρ _ j N lo a1:=A;simp only[dm,fj,e];exact⟨H.1,trivial⟩;exact dm.mono (λb u=>⟨D b u,rfl⟩) (λb5 F=>by cases F;exact⟨J,B⟩) A;exact s.sub B _ N lo a1 A
 case carry=>
  intro z a2;have X:=h.carry z a2;by_cases e:m z= .none;have a3:M z= .none:=Xz λk=>a2 (yj z e k);refine⟨λx p K=>?_,λx I R=>?_⟩;have:=(X.ptr x p K).bO;simp only[bh,a3];exact this;rw[a3]at I;simp[Mem.gen]at I;have C:=G z e;refine⟨λx p K=>C.ptr x p (X.ptr x p K),λx I R=>C.aL x 1 (X.aL x ?_ R)⟩;rcases Q z e with q|⟨q,_⟩|⟨s,_⟩;rw[q]at I;simp[Mem.gen]at I;rw[<-q];exact I;rw[<-s.gen];exact I
def MI (f:Id->Mem) (k n:Nat) (F:Nat->Mem):Id->Mem
 | .s a i=>bif Nat.beq a k&&Nat.blt i n then F i else f (.s a i)
 | .n j=>f (.n j)
variable {k:Nat} {F:Nat->Mem}
theorem vj {f:Id->Mem} {n:Nat} (h:i<n):MI f k n F (.s k i)=F i:=by
 show(bif Nat.beq k k&&Nat.blt i n then F i else _)=_;rw[Zs,iI h];rfl
theorem xi {f:Id->Mem} {n:Nat} {z:Id} (h:∀i,i<n->z≠ .s k i):MI f k n F z=f z:=by
 cases z with
 |n j=>rfl
 |s a i=>
  show(bif Nat.beq a k&&Nat.blt i n then F i else _)=_;cases b:Nat.beq a k with
  |false=>rfl
  |true=>
   cases c:Nat.blt i n with
   |false=>rfl
   |true=>exact absurd (by rw[XE b]) (h i (bU c))
theorem aH.OY {t:Nat->TV} {J:(Nat->TV)->(Id->Mem)->Prop} (o:Id) (k g n:Nat) (e:TypeId) (get:Nat->Nat->SV) (K:TypeId) (N:Nat->Nat->SV)
  (B:m o= .aJ g n 1 e get) (Z:∀i,i<n->get i 0= .v AX) (S:∀i,i<n->m (.s k i)= .none)
  (h:aH t (MI (bo m o (.br g n 1 e λi _=> .aL (.s k i) 0)) k n λ_=> .aJ 0 0 1 K N) J) (a0:k<2000:=by decide):aH t m J:=by
 obtain⟨a1,a2,a3,a4⟩:=h;refine⟨a1,a2,λE ρ a w D=>?_,a4⟩;have a5:∀i,i<n->o≠ .s k i:=λi f q=>by rw[q,S i f]at B;cases B
 generalize O:MI (bo m o (.br g n 1 e λi _=> .aL (.s k i) 0)) k n (λ_=> .aJ 0 0 1 K N)=M at*;have F:∀i,i<n->M (.s k i)= .aJ 0 0 1 K N:=λi f=>by rw[<-O];exact vj f
 have y:∀z,(∀i,i<n->z≠ .s k i)->z≠o->M z=m z:=λz h1 p=>by rw[<-O,xi h1,av _ _ _ p]
 have G:M o= .br g n 1 e λi _=> .aL (.s k i) 0:=by rw[<-O,xi a5,ar]
 have A:∀z:Id,(∃i,i<n/\z= .s k i)\/∀i,i<n->z≠ .s k i:=λz=>by by_cases q:∃i,i<n/\z= .s k i;exact .inl q;exact .inr λi f e=>q ⟨i,f,e⟩
 let H:Id->Option (Nat×Nat):=λz=>match z with
  | .s I i=>bif Nat.beq I k&&Nat.blt i n then none else ρ (.s I i)
  |z=>ρ z
 have P:∀i,i<n->H (.s k i)=none:=λi f=>by show(bif Nat.beq k k&&Nat.blt i n then none else _)=_;rw[Zs,iI f];rfl
 have C:∀z,(∀i,i<n->z≠ .s k i)->H z=ρ z:=λz r=>by
  cases z with
  |n j=>rfl
  |s I i=>
   show(bif Nat.beq I k&&Nat.blt i n then none else _)=_;cases h1:Nat.beq I k with
   |false=>rfl
   |true=>
    cases p:Nat.blt i n with
    |false=>rfl
    |true=>exact absurd (by rw[XE h1]) (r i (bU p))
 refine a3 E H a w (D.RG M H ?_ ?_ ?_ ?_ ?_ ?_)
 ·intro z b c l r;rcases A z with⟨i,f,rfl⟩|h1;rw[P i f]at r;cases r
  ·rw[C z h1]at r;refine⟨?_,r⟩;by_cases p:z=o;subst p;rw[B];trivial
   ·rwa [y z h1 p]at l
 ·intro z r;rcases A z with⟨i,f,rfl⟩|h1;rw[F i f];simp;by_cases p:z=o;subst p;rw[G];simp;rw[y z h1 p];exact r
 ·intro z r;rcases A z with⟨i,f,rfl⟩|h1;exact absurd (S i f) r;by_cases p:z=o;subst p;refine .inr (.inr ⟨?_,C z h1⟩);rw[B,G];exact .bK rfl rfl;exact .inr (.inl ⟨y z h1 p,C z h1⟩)
 ·intro z u r;rcases A u with⟨i,f,rfl⟩|T;rw[F i f];simp;rcases A z with⟨i,f,rfl⟩|h1;rw[F i f]at r;exact r.elim;by_cases p:z=o;subst p;rw[G]at r;obtain⟨i,j,f,U,a6⟩:=r;exact absurd (show Id.s k i=u from a6).symm (T i f);rw[y z h1 p]at r;have:=D.cleanM z u r;by_cases V:u=o;subst V;rw[G];simp;rw[y u T V];exact this
 ·intro a7 a8 z;rcases A z with⟨i,f,rfl⟩|h1;rw[F i f];exact .inl ⟨P i f,rfl⟩;by_cases p:z=o;subst p;rw[G];have X:=D.mem z;rw[B]at X;rcases X with⟨Q,R⟩|⟨b,a9,b0,Q,R,b1,b2,b3,b4⟩;exact .inl ⟨by rw[C z h1,Q],R⟩;refine .inr ⟨b,a9,b0,by rw[C z h1,Q],R,b1,b2,b3,λi f j U=>?_⟩;obtain rfl:j=0:=(by omega);obtain⟨x,b5,Y⟩:=b4 i f 0 U;rw[Z i f]at Y;refine⟨x,b5,?_⟩;have:=(Rd.cm Y).1;subst this;show bF M H AX (.s k i) 0;simp only[bF,cE,F i f,P i f];exact⟨rfl,XP _,λ_=>trivial⟩;rw[y z h1 p];exact(D.mem z).mono (λb b6=>⟨a7 b b6,rfl⟩) (C z h1) (λ_ _ _ _=>rfl) (λu b7=>a8 u (D.cleanM z u b7))
 ·intro z r b8;rcases A z with⟨i,f,rfl⟩|h1;exact E.VV k i a0;by_cases p:z=o;subst p;rw[B]at r;cases r;exact absurd ((y z h1 p).trans r) b8
end Go.Vm
