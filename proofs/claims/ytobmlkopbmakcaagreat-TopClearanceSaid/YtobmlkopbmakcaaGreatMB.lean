import Derived.Test.YtobmlkopbmakcaaGreatMA
set_option linter.unusedVariables false
set_option linter.unusedSimpArgs false
set_option maxRecDepth 20000
namespace Go.Vm
open Go Go.RowKit
def Sx (E:Env) (m:Id->Mem) (ρ:Id->Option (Nat×Nat)) (w:World) (hs:List Id) (ft:Bool) (b:Nat):Prop:=
 L E m ρ w b\/∃o,(o∈hs\/ft=true)/\(m o).live/\∃c,ρ o=some (b,c)
variable {E:Env} {m:Id->Mem} {ρ:Id->Option (Nat×Nat)} {w:World} {hs SO:List Id} {ft SU:Bool}
theorem Sx.mono (a:∀o∈hs,o∈SO) (h2:ft=true->SU=true) {b:Nat} (h:Sx E m ρ w hs ft b):Sx E m ρ w SO SU b:=
 h.imp id (λ⟨o,c,r⟩=>⟨o,c.imp (a o) h2,r⟩)
theorem wA (a:List Value) (n:Nat) (h:a.length=n:=by omega):a=(List.range n).map (λj=>(a[j]?).getD Go.undef):=by
 apply aa3;intro j;by_cases b:j<n;have c:j<a.length:=(by omega);simp[b,c];rw[YU (by omega),YU (by simp;omega)]
variable {S:Nat->Prop} {xs:List Value}
theorem qF.length {cs:List CR} (a:qF S m ρ w xs cs):xs.length=cs.length:=by
 induction a with
 |nil=>rfl
 |cons _ _ b=>simp[b]
theorem qF.get {cs:List CR} (a:qF S m ρ w xs cs):∀(j:Nat) (c:CR),cs[j]? =some c->∃x,xs[j]? =some x/\V8 S m ρ w x c:=by
 induction a with
 |nil=>intro j c h;simp at h
 |@cons x c xs cs b _ f=>
  intro j g h;cases j with
  |zero=>simp at h;subst h;exact⟨x,by simp,b⟩
  |succ j=>simpa using f j g (by simpa using h)
theorem lR.rd {ks:List Nat} {c:CV} {x:SV} (h:lR m ks c x) {m':Id->Mem} (R:gO ks m m') (S:Own E ρ m' w):
  ∀v,kR (L E m' ρ w) m' ρ w v c->Rd (Sx E m' ρ w [] true) w v x:=by
 have T:∀o b c,(m' o).live->ρ o=some (b,c)->Sx E m' ρ w [] true b:=λo b c l r=> .inr ⟨o,.inr rfl,l,c,r⟩;induction h with
 |s c=>intro v B;exact Rd.mono (λb J=>⟨.inl J,rfl⟩) B
 |@box o p q l H h a5=>intro v B;rw[<-R o H]at h;have U:(m' o).dr=true:=(by rcases h with h|h<;>rw[h]<;>rfl);obtain⟨A,c,C,V⟩:=(bO U).1 B;have a6:∃xs e,Sx E m' ρ w [] true A/\w.heap[A]? =some (.cells xs.toArray e (0,0))/\eA (L E m' ρ w) w xs l:=(by have u:=S.mem o;rcases h with h|h;rw[h]at u;obtain⟨K,M,xs,e,G,X,z⟩:=u;rw[C]at G;obtain⟨rfl,rfl⟩:A=K/\c=M:=(by simpa using G);exact⟨xs,e,T o A c (fP h) C,X,z⟩;rw[h]at u;obtain⟨K,M,xs,e,G,a7,X,z⟩:=u;rw[C]at G;obtain⟨rfl,rfl⟩:A=K/\c=M:=(by simpa using G);exact⟨xs,e,.inl a7,X,z⟩);obtain⟨xs,e,hS,I,N⟩:=a6;rw[V];refine Rd.ad (λj=>(xs[p+j]?).getD Go.undef) hS (λj t=>?_) (λj t=>?_);obtain⟨y,a,_⟩:=N.dp (p+j) (by omega);simp[World.cell?,I,a];obtain⟨y,a,D⟩:=N.dp (p+j) (by omega);simp only[a,Yt];exact D.mono (λb J=>⟨.inl J,rfl⟩)
 |@obj o p q l cell H h a5 a3 O=>intro v B;rw[<-R o H]at h;have U:(m' o).dr=true:=(by rw[h];rfl);obtain⟨A,c,C,V⟩:=(bO U).1 B;have u:=S.mem o;rw[h]at u;obtain⟨K,M,xs,e,G,I,N⟩:=u;rw[C]at G;obtain⟨rfl,rfl⟩:A=K/\c=M:=(by simpa using G);rw[V];refine Rd.ad (λj=>(xs[p+j]?).getD Go.undef) (T o A c (rf h) C) (λj t=>?_) (λj t=>?_);obtain⟨y,a,_⟩:=N.getElem (p+j) (by omega) (.s (.v Go.undef));simp[World.cell?,I,a];obtain⟨y,a,D⟩:=N.getElem (p+j) (by omega) (.s (.v Go.undef));simp only[a,Yt];exact O j t y D
 |@aL o g n k e get H h=>intro v B;rw[<-R o H]at h;have Y:(m' o).bF=some (g,n,k):=(by rw[h];rfl);have z:=((br Y).1 B).2.2 rfl;have u:=S.mem o;rw[h]at u;rcases u with⟨F,Z⟩|⟨A,a0,arr,F,I,a8,a1,a2,P⟩;simp only[cu,F]at z;rw[z,Z];exact Rd.nil k get;simp only[cu,F]at z;rw[z];refine Rd.sl (λi j=>(arr[i*k+j]?).getD Go.undef) (T o A a0 (cT h) F) a1 a2 (λi hi j t=>?_) (λi hi j t=>?_);obtain⟨y,a,_⟩:=P i hi j t;simp[World.cell?,I,a];obtain⟨y,a,D⟩:=P i hi j t;simp only[a,Yt];exact D.mono (λb J=>⟨.inl J,rfl⟩)
 |@bm o g n k e get get' H h a3 O=>intro v B;rw[<-R o H]at h;have Y:(m' o).bF=some (g,n,k):=(by rw[h];rfl);have z:=((br Y).1 B).2.2 rfl;have u:=S.mem o;rw[h]at u;rcases u with⟨F,Z⟩|⟨A,a0,arr,F,I,a8,a1,a2,P⟩;simp only[cu,F]at z;rw[z,Z];exact Rd.nil k _;simp only[cu,F]at z;rw[z];refine Rd.sl (λi j=>(arr[i*k+j]?).getD Go.undef) (T o A a0 (pU h) F) a1 a2 (λi hi j t=>?_) (λi hi j t=>?_);obtain⟨y,a,_⟩:=P i hi j t;simp[World.cell?,I,a];obtain⟨y,a,D⟩:=P i hi j t;simp only[a,Yt];exact O i hi j t y D
 |@cP f n Q cell b1 a3 a9 O=>intro v B;obtain⟨xs,b0,C⟩:=B;have b2:=C.length;rw[b0.inv a9,wA xs n];refine Rd.fn _ (λj t=>?_);have a4:j<Q.length:=(by omega);obtain⟨y,a,D⟩:=C.get j Q[j] (by simp[a4]);simp only[a,Yt];refine O j t y ?_;have:Q.getD j (.s (.v Go.undef))=Q[j]:=(by simp[List.getD,a4]);rw[this];revert D;cases Q[j]<;>exact id
theorem Ia {o:Oper} {t:Nat->TV} {x:Operand} (O:x∈o.op.operands.toList) {K:DV->List Id->List Nat->Bool->Prop} (h:Qk m (bE t x) K):
  ∃v hs M ft,K v hs M ft/\(∀b∈hs,b.key∈M)/\(∀b∈hs,∃g n k e I,m b= .aL g n k e I)/\
   ∀(E:Env) (ρ:Id->Option (Nat×Nat)) (C:Nat->TV) (q:Id->Mem) (a:Act) (w:World),eV o t C->gO M m q->Rel E ρ C q a w->lU (Sx E q ρ w hs ft) w (a.eval x) v:=by
 have U:∀(c:CV),bE t x=c.tv->Eg m c (λx a1=>K (.one x) [] a1 true)->∃v hs M ft,K v hs M ft/\(∀b∈hs,b.key∈M)/\(∀b∈hs,∃g n k e I,m b= .aL g n k e I)/\
   ∀(E:Env) (ρ:Id->Option (Nat×Nat)) (C:Nat->TV) (q:Id->Mem) (a:Act) (w:World),eV o t C->gO M m q->Rel E ρ C q a w->lU (Sx E q ρ w hs ft) w (a.eval x) v:=by
  intro c u h;obtain⟨y,a1,a7,h⟩:=h.h;refine⟨_,_,_,_,h,by simp,by simp,λE ρ C q a w F N z=>?_⟩;have l:=(az z x).1;rw[ao F O,u]at l;exact a7.rd N z.toOwn _ (by cases c<;>exact l)
 unfold Qk at h;split at h;rename_i v u;refine⟨_,_,_,_,h,by simp,by simp,λE ρ C q a w F _ z=>?_⟩;have l:=(az z x).1;rw[ao F O,u]at l;exact lU.mono (λb r=>⟨.inl r,rfl⟩) l;rename_i b g u;replace h:=bk h;split at h;rename_i a8 n k e I r;replace h:=aM h;obtain⟨V,h⟩:=h;obtain rfl:=XE V;refine⟨_,_,_,_,h,by simp,by simp[r],λE ρ C q a w F N z=>?_⟩;have l:=(az z x).1;rw[ao F O,u]at l;have D:q b= .aL g n k e I:=(by rw[N.at b];exact r);simp only[dj,bB,cu,D]at l;have A:=l.2.2 trivial;have J:=z.mem b;rw[D]at J;show Rd _ _ _ _;rcases J with⟨G,a2⟩|⟨X,Y,Z,G,P,a9,a3,a4,Q⟩;rw[G]at A;rw[A,a2];exact Rd.nil k I;rw[G]at A;rw[A];refine Rd.sl (λi j=>(Z[i*k+j]?).getD Go.undef) (.inr ⟨b,.inl (by simp),cT D,Y,G⟩) a3 a4 (λi R j H=>?_) (λi R j H=>?_);obtain⟨y,B,_⟩:=Q i R j H;simp[World.cell?,P,B];obtain⟨y,B,S⟩:=Q i R j H;simp only[B,Yt];exact S.mono (λb r=>⟨.inl r,rfl⟩);exact U (.aJ b g) u h;rename_i b g a0 n u;replace h:=bk h;split at h;rename_i a8 b0 k e I r;replace h:=aM h;obtain⟨V,h⟩:=h;obtain rfl:=XE V;refine⟨_,_,_,_,h,by simp,by simp[r],λE ρ C q a w F N z=>?_⟩;have l:=(az z x).1;rw[ao F O,u]at l;have D:q b= .aL g b0 k e I:=(by rw[N.at b];exact r);simp only[dj,fi,hC,D]at l;obtain⟨c0,A⟩:=l.2.2 trivial;have J:=z.mem b;rw[D]at J;show Rd _ _ _ _;rcases J with⟨G,a2⟩|⟨X,Y,Z,G,P,a9,a3,a4,Q⟩;rw[G]at A;have T:n=0:=(by omega);simp only at A;rw[A,T];exact Rd.nil k _;rw[G]at A;obtain⟨b1,A,b2⟩:=A;rw[A];rcases ZM n with T|T;rw[T];exact Rd.emp b1 _ k _;rw[b2 (.inl (by omega))];refine Rd.sl (λi j=>(Z[(a0+i)*k+j]?).getD Go.undef) (.inr ⟨b,.inl (by simp),cT D,Y,G⟩) (by omega) (by omega) (λi R j H=>?_) (λi R j H=>?_);obtain⟨y,B,_⟩:=Q (a0+i) (by omega) j H;rw[<-YE,<-Yq];simp[World.cell?,P,B];obtain⟨y,B,S⟩:=Q (a0+i) (by omega) j H;simp only[B,Yt];exact S.mono (λb r=>⟨.inl r,rfl⟩);exact h.elim;rename_i b p u;replace h:=bk h;split at h;rename_i b3 r;refine⟨_,_,_,_,h,by simp,by simp,λE ρ C q a w F N z=>?_⟩;have l:=(az z x).1;rw[ao F O,u]at l;have D:q b= .ro b3:=(by rw[N.at b];exact r);simp only[dj,bg,D]at l;obtain⟨X,c,b4,b5⟩:=l;have J:=z.mem b;rw[D]at J;obtain⟨b6,b7,xs,e,a5,b8,P,a6⟩:=J;rw[b4]at a5;obtain⟨rfl,rfl⟩:X=b6/\c=b7:=(by simpa using a5);show Rd _ _ _ _;rw[b5];refine Rd.ad (λj=>(xs[p+j]?).getD Go.undef) (.inl b8) (λj H=>?_) (λj H=>?_);obtain⟨y,B,_⟩:=a6.dp (p+j) (by omega);simp[World.cell?,P,B];obtain⟨y,B,S⟩:=a6.dp (p+j) (by omega);simp only[B,Yt];exact S.mono (λb r=>⟨.inl r,rfl⟩);exact U (.ptr b p) u h;rename_i f b9 u;exact U (.cP f b9) u h;exact h.elim
variable {x:Value}
theorem lU.sx (a:∀o∈hs,o∈SO) (h2:ft=true->SU=true) {v:DV} (h:lU (Sx E m ρ w hs ft) w x v):lU (Sx E m ρ w SO SU) w x v:=
 lU.mono (λ_ b=>⟨b.mono a h2,rfl⟩) h
theorem dA.sx (a:∀o∈hs,o∈SO) (h2:ft=true->SU=true) {x:List Value} {v:List DV} (h:dA (Sx E m ρ w hs ft) w x v):dA (Sx E m ρ w SO SU) w x v:=
 dA.mono (λ_ b=>⟨b.mono a h2,rfl⟩) h
theorem rR {o:Oper} {t:Nat->TV} {m:Id->Mem}:∀(xs:List Operand),(∀x∈xs,x∈o.op.operands.toList)->∀(K:List DV->List Id->List Nat->Bool->Prop),zQ t m xs K->
  ∃l hs j ft,K l hs j ft/\(∀b∈hs,b.key∈j)/\(∀b∈hs,∃g n k e C,m b= .aL g n k e C)/\
   ∀(E:Env) (ρ:Id->Option (Nat×Nat)) (i:Nat->TV) (f:Id->Mem) (a:Act) (w:World),eV o t i->gO j m f->Rel E ρ i f a w->dA (Sx E f ρ w hs ft) w (xs.map a.eval) l
 |[],_,K,h=>⟨[],[],[],false,h,by simp,by simp,λ_ _ _ _ _ _ _ _ _=> .nil⟩
 |x::r,u,K,h=>by
  simp only[zQ]at h;obtain⟨v,hs,j,ft,h,D,F,G⟩:=Ia (u x (by simp)) h;obtain⟨l,SO,N,SU,h,H,I,J⟩:=rR r (λy M=>u y (by simp[M])) _ h;refine⟨_,_,_,_,h,?_,?_,λE ρ i f a w z A B=>?_⟩;intro b c;rcases XP.1 c with c|c;exact XP.2 (.inl (D b c));exact XP.2 (.inr (H b c));intro b c;rcases XP.1 c with c|c;exact F b c;exact I b c
  ·exact .cons (lU.sx (λo p=>XP.2 (.inl p)) (λe=>by rw[e];rfl) (G E ρ i f a w z (A.sub (λk q=>XP.2 (.inl q))) B))
    (dA.sx (λo p=>XP.2 (.inr p)) (λe=>by rw[e];simp) (J E ρ i f a w z (A.sub (λk q=>XP.2 (.inr q))) B))
theorem Bt {m:Id->Mem}:∀(cs:List CR) (K:List DV->List Nat->Bool->Prop),Nf m cs K->
  ∃l i ft,K l i ft/\∀(E:Env) (ρ:Id->Option (Nat×Nat)) (f:Id->Mem) (w:World),gO i m f->Own E ρ f w->∀xs,qF (L E f ρ w) f ρ w xs cs->dA (Sx E f ρ w [] ft) w xs l
 |[],K,h=>⟨[],[],false,h,λ_ _ _ _ _ _ xs g=>by cases g;exact .nil⟩
 |c::r,K,h=>by
  simp only[Nf]at h;split at h
  ·rename_i c;obtain⟨l,i,ft,h,t⟩:=Bt r _ h;refine⟨_,_,_,h,λE ρ f w j q xs g=>?_⟩;cases g with
   |cons a b=>exact .cons (Rd.mono (λb x=>⟨.inl x,rfl⟩) (show Rd _ _ _ c from a)) (t E ρ f w j q _ b)
  ·rename_i o p;obtain⟨y,B,z,h⟩:=h.h;obtain⟨l,i,ft,h,t⟩:=Bt r _ h;refine⟨_,_,_,h,λE ρ f w j q xs g=>?_⟩;cases g with
   |cons a b=>exact .cons (z.rd (j.sub (λk u=>XP.2 (.inl u))) q _ a) (dA.sx (λo A=>A) (λ_=>rfl) (t E ρ f w (j.sub (λk u=>XP.2 (.inr u))) q _ b))
theorem yR {S S':Nat->Prop} {w w':World}:∀{cs:List SV} {xs:List Value},sy cs=true->eA S w xs cs->eA S' w' xs cs
 |[],_,_,h=>by cases h;exact .nil
 | .v x::cs,_,a,h=>by
  cases h with
  |cons b t=>obtain⟨rfl,c⟩:=Rd.bT b;exact .cons (.v c) (yR a t)
 | .sl .. ::_,_,a,_=>by simp[sy]at a
 | .ad .. ::_,_,a,_=>by simp[sy]at a
 | .fn .. ::_,_,a,_=>by simp[sy]at a
theorem oF {S S':Nat->Prop} {w w':World}:∀{cs:List DV} {xs:List Value},kF cs=true->dA S w xs cs->dA S' w' xs cs
 |[],_,_,h=>by cases h;exact .nil
 | .one (.v x)::cs,_,a,h=>by
  cases h with
  |cons b t=>obtain⟨rfl,c⟩:=Rd.bT b;exact .cons (Rd.v c) (oF a t)
 | .agg j::cs,_,a,h=>by
  simp only[kF,XJ]at a;cases h with
  |cons b t=>obtain⟨f,g,i⟩:=b;exact .cons ⟨f,g,yR a.1 i⟩ (oF a.2 t)
 | .one (.sl ..)::_,_,a,_=>by simp[kF]at a
 | .one (.ad ..)::_,_,a,_=>by simp[kF]at a
 | .one (.fn ..)::_,_,a,_=>by simp[kF]at a
variable {S':Nat->Prop}
theorem Ee.mono {r:TV} (h:∀b,S b->S' b) (a:Ee S w x r):Ee S' w x r:=by
 cases r with
 |d v=>exact lU.mono (λb c=>⟨h b c,rfl⟩) a
 |eD i=>obtain⟨xs,f,g⟩:=a;exact⟨xs,f,g.mono (λb c=>⟨h b c,rfl⟩)⟩
 |_=>exact a.elim
theorem Ee.yS {r:TV} (c:yS r=true) (a:Ee S w x r):Ee S' w x r:=by
 cases r with
 |d v=>
  have:=oF (S':=S') (w':=w) (show kF [v]=true from c) (.cons a .nil:dA S w [x] [v]);cases this with
  |cons b _=>exact b
 |eD g=>obtain⟨xs,b,f⟩:=a;exact⟨xs,b,oF c f⟩
 |_=>exact a.elim
theorem Ee.tok {r:TV} (a:Ee (L E m ρ w) w x r):dj E m ρ w x r/\∀b,r.refs b->m b≠ .none:=by
 cases r with
 |d v=>exact⟨a,λ_ h=>h.elim⟩
 |eD c=>exact⟨a,λ_ h=>h.elim⟩
 |_=>exact a.elim
variable {a:Act}
theorem Rel.Be {t:Nat->TV} (h:Rel E ρ t m a w) (o:Id) (j:m o≠ .none):Rel E ρ t (bj m o .dead) a w:=by
 have k:bj ρ o (ρ o)=ρ:=et ρ o;have:=h.one o .dead (ρ o) (Bx.refl _ _ _) (λb c=>⟨⟨c.1,λf q l r=>by
   by_cases e:f=o;subst e;rw[aq]at l;exact l.elim
   ·rw[aw _ _ _ e]at l r;exact c.2 f q l r⟩,rfl⟩) (λ_ _ _ _ _ _=>rfl) (λl=>l.elim) (by simp) (λ_ h=>h.elim) (λe=>absurd e j) (λe=>by simp[Mem.gen]at e) trivial
   (λ_=>⟨λx p u=>by have:=u.bG;simp only[bg,aq];exact this,λx g y=>by simp only[bB,aq];exact⟨y.1,trivial⟩⟩)
   (λx g i z _ _=>by simp only[dj,aq]) (λx g A n _ hs=>by simp only[fi,aq];exact⟨hs.1,trivial⟩)
 rwa [k]at this
theorem fC {m:Id->Mem}:∀(hs:List Id) (o:Id),((cK m (hs.map λo=>(o,.dead)) o).live->(m o).live)/\(o∈hs->¬(cK m (hs.map λo=>(o,.dead)) o).live)
 |[],o=>⟨id,by simp⟩
 |h::hs,o=>by
  simp only[Yz,cK];obtain⟨a,b⟩:=fC (m:=bj m h .dead) hs o;refine⟨λl=>?_,λhm=>?_⟩
  ·have:=a l;by_cases e:o=h;subst e;rw[aq]at this;exact this.elim
   ·rwa [aw _ _ _ e]at this
  ·rcases XD.1 hm with rfl|hm;intro l;have:=a l;rw[aq]at this;exact this;exact b hm
theorem Rel.HL {t:Nat->TV}:∀(hs:List Id) {m:Id->Mem},Rel E ρ t m a w->(∀o∈hs,m o≠ .none)->Rel E ρ t (cK m (hs.map λo=>(o,.dead))) a w
 |[],_,h,_=>h
 |o::hs,m,h,b=>by refine Rel.HL hs (h.Be o (b o (by simp))) (λc f=>?_);by_cases e:c=o;subst e;rw[aq];simp;rw[aw _ _ _ e];exact b c (by simp[f])
theorem py (n:Nat) (cap:Nat->SV) (xs:Nat->Value) (h:∀j,j<n->Rd S w (xs j) (cap j)):dA S w ((List.range n).map xs) (fG n cap):=by
 have b:=pw n cap xs h;unfold fG;revert b;generalize (List.range n).map xs=f;generalize cells n cap=g;intro b;induction b with
 |nil=>exact .nil
 |cons a _ c=>exact .cons a c
variable {P:Program}
theorem DY {o:Oper} {t:Nat->TV} {f:FuncId} {l:List DV} {rd:List Nat} {K:fa} (Y:∀b∈hs,b.key∈rd) (Z:∀b∈hs,∃g n k e N,m b= .aL g n k e N)
  (a0:∀(E:Env) (ρ:Id->Option (Nat×Nat)) (C:Nat->TV) (i:Id->Mem) (a:Act) (w:World),eV o t C->gO rd m i->Rel E ρ C i a w->
   ∃G:List Value,dA (Sx E i ρ w hs ft) w G l/\(Enters P f->(execOp a.eval o).run P w= .ok (.enter f G.toArray) w))
  (h:H9 P f l hs rd ft K):∃z O rd,K z O rd/\aI P o t m z O rd:=by
 unfold H9 at h;obtain⟨r,⟨a1,a2⟩,h⟩:=h.h;replace h:=aM h;obtain⟨R,h⟩:=h;refine⟨_,_,_,h,?_⟩;intro E ρ C i a w b8 a3 S T j a4 Q hK;obtain⟨G,a5,a6⟩:=a0 E ρ C i a w a3 S j;have a7:∀o∈hs,(i o).live:=λb c=>by obtain⟨g,n,k,e,N,a8⟩:=Z b c;rw[S b (Y b c),a8];trivial
 have a9:∀b,Sx E i ρ w hs ft b->b<w.heap.size:=λb c=>by rcases c with c|⟨q,_,l,D,r⟩;exact tx j c;exact(j.lo q b D l r).2
 have b0:=a2 w (Sx E i ρ w hs ft) _ a9 a5;unfold Oper.wp;rw[a6 a1];refine Calls.mono b0 ?_;rintro e u ⟨v,rfl,H,U⟩;have V:=j.grow H;show a4 (a.put o.dst v) u;cases F:yS r with
 |true=>refine hK ρ _ u ?_;have y:=Ee.tok (Ee.yS (S':=L E i ρ u) F U);rw[F];exact V.put T y.1 y.2
 |false=>
  refine hK ρ _ u ?_;have b1:ft=false:=(by rw[F]at R;simpa using R);have b2:∀o∈hs,i o≠ .none:=λb c e=>by have:=a7 b c;rw[e]at this;exact this
  have b3:=V.HL hs b2;have b4:∀b,(Sx E i ρ w hs ft b\/(w.heap.size<=b/\b<u.heap.size))->L E (cK i (hs.map λo=>(o,.dead))) ρ u b:=(by intro b c;rcases c with(c|⟨q,I,l,D,X⟩)|⟨b5,b6⟩;refine⟨c.1.imp id (λh=>h.imp id (λh=>⟨h.1,Yc h.2 H.size⟩)),λp A x B=>c.2 p A ((fC hs p).1 x) B⟩;have I:q∈hs:=I.resolve_right (λe=>by rw[b1]at e;cases e);obtain⟨J,b7⟩:=j.lo q b D l X;refine⟨.inr (J.imp id (λJ=>⟨J,Yc b7 H.size⟩)),λp A x B=>?_⟩;have M:=(fC hs p).1 x;have e:=j.inj q p b D A l M X B;subst e;exact(fC hs q).2 I x;refine⟨.inr (.inr ⟨Yg j.below.size b5,b6⟩),λp A x B=>?_⟩;have M:=(fC hs p).1 x;have:=(j.lo p b A M B).2;omega);have y:=Ee.tok (Ee.mono b4 U);rw[F];exact b3.put T y.1 y.2
variable {c:Call} {fo:Operand}
theorem s9 {o:Oper} (b:o.op= .call c) (g:c.callee= .value fo) {f:FuncId} (a:Act) (w:World) (xs:List Value) (e1:a.eval fo= .func (.func f) #[] xs.toArray):
  (execOp a.eval o).run P w=(callFunc f (c.args.toList.map a.eval++xs).toArray).run P w:=by
 simp only[execOp,b,resolve,g,e1,Deferred.ofValue,Sem.run_bind,Sem.run_pure,Result.andThen_ok,invoke];congr 2;apply aa1;simp
theorem da {f:FuncId} (c:Enters P f) (args:Array Value) (w:World):(callFunc f args).run P w= .ok (.enter f args) w:=by
 obtain⟨a,g,h,b⟩:=c;have i:¬a.name= "runtime.NumGoroutine" :=by simpa using h
 have j:¬a.body=none:=by intro e;rw[e]at b;simp at b
 simp[callFunc,g];rw[XG i,XG j]
theorem qA {o:Oper} (b:o.op= .call c) (g:c.callee= .value fo) {f:FuncId} (h:Enters P f) (a:Act) (w:World) (xs:List Value) (e1:a.eval fo= .func (.func f) #[] xs.toArray):
  (execOp a.eval o).run P w= .ok (.enter f (c.args.toList.map a.eval++xs).toArray) w:=by
 rw[s9 b g a w xs e1,da h]
theorem Rel.Uk {t:Nat->TV} (h:Rel E ρ t m a w) (o:Id) {cs:List SV} (f:m o= .box cs):Rel E ρ t (bj m o (.ro cs)) a w:=by
 have k:bj ρ o (ρ o)=ρ:=et ρ o;have y:=h.mem o;rw[f]at y;obtain⟨b,c,xs,e,p,B,C⟩:=y;obtain⟨q,D⟩:=h.lo o b c (fP f) p;have hs:Shape (m o) (bj m o (.ro cs) o):= .dr (by rw[f];rfl) (by rw[aq];rfl);have z:∀b,L E m ρ w b->L E (bj m o (.ro cs)) (bj ρ o (ρ o)) w b/\w.heap[b]? =w.heap[b]?:=λb A=>⟨⟨A.1,λj u l r=>by
   by_cases e:j=o;subst e;rw[aq]at l;exact l.elim
   ·rw[aw _ _ _ e]at l r;exact A.2 j u l r⟩,rfl⟩
 have:=h.one o (.ro cs) (ρ o) (Bx.refl _ _ _) z (λ_ _ _ _ _ _=>rfl) (λl=>l.elim) (by simp) (λ_ h=>h.elim) (λe=>by rw[f]at e;simp at e) (λe=>by simp[Mem.gen]at e) (by
   refine⟨b,c,xs,e,by rw[aq];exact p,⟨.inr (q.imp id (λq=>⟨q,D⟩)),λj u l r=>?_⟩,B,C.mono z⟩;by_cases e:j=o;subst e;rw[aq]at l;exact l.elim
   ·rw[aw _ _ _ e]at l r;exact e (h.inj j o b u c l (fP f) r p)) (λ_=>hs.carry (by rw[k])) (λx g i F _=>hs.ep (by rw[k]) x g i F) (λx g G n _=>hs.sub (by rw[k]) x g G n)
 rwa [k]at this
theorem kz {o:Oper} {t:Nat->TV} {m:Id->Mem}:∀(xs:List Operand),(∀x∈xs,x∈o.op.operands.toList)->∀(K:List SV->List (Id×Mem)->List Nat->Prop),jT t m xs K->
  ∃l G H,K l G H/\(∀p∈G,∃C,p.2= .ro C/\m p.1= .box C/\p.1.key∈H)/\
   ∀(E:Env) (ρ:Id->Option (Nat×Nat)) (A:Nat->TV) (i:Id->Mem) (a:Act) (w:World),eV o t A->gO H m i->Rel E ρ A i a w->
    eA (Sx E i ρ w (G.map (·.1)) false) w (xs.map a.eval) l
 |[],_,K,h=>⟨[],[],[],h,by simp,λ_ _ _ _ _ _ _ _ _=> .nil⟩
 |x::r,R,K,h=>by have U:=R x (by simp);simp only[jT]at h;split at h;rename_i c S;obtain⟨l,G,H,h,J,M⟩:=kz r (λy f=>R y (by simp[f])) _ h;refine⟨_,_,_,h,J,λE ρ A i a w B D u=>?_⟩;have z:=(az u x).1;rw[ao B U,S]at z;exact .cons (Rd.mono (λb g=>⟨.inl g,rfl⟩) (show Rd _ _ _ _ from z)) (M E ρ A i a w B D u);rename_i b p S;split at h;replace h:=bk h;split at h;rename_i C g;obtain⟨l,G,H,h,J,M⟩:=kz r (λy f=>R y (by simp[f])) _ h;refine⟨_,_,_,h,λq N=>?_,λE ρ A i a w B D u=>?_⟩;rcases XD.1 N with rfl|N;exact⟨C,rfl,g,by simp⟩;obtain⟨V,X,Y,Z⟩:=J q N;exact⟨V,X,Y,by simp[Z]⟩;have z:=(az u x).1;rw[ao B U,S]at z;have I:i b= .box C:=(by rw[D.at b];exact g);simp only[dj,bg,I]at z;obtain⟨a0,c,T,a1⟩:=z;have O:=u.mem b;rw[I]at O;obtain⟨a2,a3,a4,e,P,a5,Q⟩:=O;rw[T]at P;obtain⟨rfl,rfl⟩:a0=a2/\c=a3:=(by simpa using P);refine .cons ?_ (eA.mono (λb g=>⟨g.mono (λo a8=>by simp at a8|-;exact .inr a8) id,rfl⟩) (M E ρ A i a w B (D.sub (λk a6=>by simp[a6])) u));rw[a1];refine Rd.ad (λj=>(a4[j]?).getD Go.undef) (.inr ⟨b,.inl (by simp),fP I,c,T⟩) (λj F=>?_) (λj F=>?_);obtain⟨y,f,_⟩:=Q.dp j F;simp[World.cell?,a5,f];obtain⟨y,f,a7⟩:=Q.dp j F;simp only[f,Yt];exact a7.mono (λb g=>⟨.inl g,rfl⟩);rename_i C g;obtain⟨l,G,H,h,J,M⟩:=kz r (λy f=>R y (by simp[f])) _ h;refine⟨_,_,_,h,λq N=>?_,λE ρ A i a w B D u=>?_⟩;obtain⟨V,X,Y,Z⟩:=J q N;exact⟨V,X,Y,by simp[Z]⟩;have z:=(az u x).1;rw[ao B U,S]at z;have I:i b= .ro C:=(by rw[D.at b];exact g);simp only[dj,bg,I]at z;obtain⟨a0,c,T,a1⟩:=z;have O:=u.mem b;rw[I]at O;obtain⟨a2,a3,a4,e,P,a9,a5,Q⟩:=O;rw[T]at P;obtain⟨rfl,rfl⟩:a0=a2/\c=a3:=(by simpa using P);refine .cons ?_ (M E ρ A i a w B (D.sub (λk a6=>by simp[a6])) u);rw[a1];refine Rd.ad (λj=>(a4[j]?).getD Go.undef) (.inl a9) (λj F=>?_) (λj F=>?_);obtain⟨y,f,_⟩:=Q.dp j F;simp[World.cell?,a5,f];obtain⟨y,f,a7⟩:=Q.dp j F;simp only[f,Yt];exact a7.mono (λb g=>⟨.inl g,rfl⟩);exact h.elim;exact h.elim;exact h.elim
theorem Rel.QO {t:Nat->TV}:∀(c:List (Id×Mem)) {m:Id->Mem},Rel E ρ t m a w->(∀p∈c,∃f,p.2= .ro f/\(m p.1= .box f\/m p.1= .ro f))->
  Rel E ρ t (cK m c) a w/\(∀o,(cK m c o).live->(m o).live)/\(∀p∈c,¬(cK m c p.1).live)
 |[],m,h,_=>⟨h,λ_ l=>l,by simp⟩
 |(o,r)::c,m,h,j=>by
  obtain⟨f,k,b⟩:=j (o,r) (by simp);simp only at k b;subst k;have u:Rel E ρ t (bj m o (.ro f)) a w:=(by rcases b with b|b;exact h.Uk o b;have:bj m o (.ro f)=m:=(by rw[<-b];exact et m o);rw[this];exact h);have i:=Rel.QO c u (λp g=>by
   obtain⟨x,y,a2⟩:=j p (by simp[g]);refine⟨x,y,?_⟩;by_cases e:p.1=o;(right;rw[e,aq];rw[e]at a2;rcases b with b|b<;>rcases a2 with a2|a2<;>rw[b]at a2<;>simp at a2<;>simp[a2])
   ·rw[aw _ _ _ e];exact a2)
  simp only[cK];refine⟨i.1,λq l=>?_,λp g l=>?_⟩
  ·have:=i.2.1 q l;by_cases e:q=o;subst e;rw[aq]at this;exact this.elim
   ·rwa [aw _ _ _ e]at this
  ·rcases XD.1 g with rfl|g;have:=i.2.1 _ l;rw[aq]at this;exact this;exact i.2.2 p g l
theorem uw {o:Oper} {t:Nat->TV} {f:Nat} {first g:Array Operand} (r:o.op= .makeFunc (.func f) first g) (a1:first.toList=[]) {K:List SV->List (Id×Mem)->List Nat->Prop}
  (h:jT t m g.toList K):∃l c u,K l c u/\aI P o t m (.d (.one (.fn f l.length λj=>l.getD j (.v Go.undef)))) c u:=by
 have O:first=#[]:=by rw[<-Ys (xs:=first),a1]
 obtain⟨l,c,u,h,R,a2⟩:=kz (o:=o) g.toList (λx C=>by rw[r];simp[Op.operands,O];simpa using C) _ h;refine⟨l,c,u,h,?_⟩;intro E ρ a3 z a w b6 a4 D a5 A b7 Q hK;have S:=a2 E ρ a3 z a w a4 D A;obtain⟨a6,T,a7⟩:=A.QO c (λp k=>by obtain⟨U,a8,F,G⟩:=R p k;exact⟨U,a8,.inl (by rw[D p.1 G];exact F)⟩);have b8:∀o∈c.map (·.1),(z o).live:=λo r=>by obtain⟨p,k,rfl⟩:=XS.1 r;obtain⟨U,_,F,G⟩:=R p k;rw[D p.1 G,F];trivial
 have a9:∀b,Sx E z ρ w (c.map (·.1)) false b->L E (cK z c) ρ w b:=by intro b i;rcases i with i|⟨V,H,X,Y,Z⟩;exact⟨i.1,λq I B J=>i.2 q I (T q B) J⟩;have H:=H.resolve_right (λe=>by cases e);obtain⟨M,b0⟩:=A.lo V b Y X Z;refine⟨.inr (M.imp id (λM=>⟨M,b0⟩)),λq I B J=>?_⟩;have e:=A.inj V q b Y I X (T q B) Z J;subst e;obtain⟨p,k,rfl⟩:=XS.1 H;exact a7 p k B
 have b1:(execOp a.eval o).run P w= .ok (.value (.func (.func f) #[] (g.toList.map a.eval).toArray)) w:=by simp[execOp,r,Instr.makeFunc,O];apply aa1;simp
 unfold Oper.wp;rw[b1];refine hK ρ _ w (a6.put a5 ?_ (λ_ h=>h.elim));have a0:=S.length;have C:(g.toList.map a.eval)=(List.range l.length).map (λj=>((g.toList.map a.eval)[j]?).getD Go.undef):=by revert a0;generalize g.toList.map a.eval=b2;intro a0;apply aa3;intro j;by_cases N:j<l.length;have b3:j<b2.length:=(by omega);simp[N,b3];rw[YU (by omega),YU (by simp;omega)]
 show Rd _ _ _ _;rw[C];refine Rd.fn _ (λj N=>?_);obtain⟨y,b4,b5⟩:=S.dp j N;simp only[b4,Yt];exact b5.mono (λb i=>⟨a9 b i,rfl⟩)
theorem ku:∀(ms:List Mem) (k j:Nat) (x:Mem),ms[j]? =some x->jJ k ms (.n (k+j))=x
 |[],_,_,_,h=>by simp at h
 |y::r,k,0,x,h=>by have e:y=x:=(by simpa using h);simp only[jJ,YG];rw[aq,e]
 |y::r,k,j+1,x,h=>by have a:r[j]? =some x:=(by simpa using h);simp only[jJ];rw[aw _ _ _ (by intro e;injection e;omega),show k+(j+1)=(k+1)+j by omega];exact ku r (k+1) j x a
theorem gj:∀(ms:List Mem) (k:Nat) (o:Id),jJ k ms o≠ .none->∃j x,ms[j]? =some x/\o= .n (k+j)
 |[],_,_,h=>absurd rfl h
 |y::r,k,o,h=>by by_cases e:o= .n k;exact⟨0,y,by simp,e⟩;simp only[jJ]at h;rw[aw _ _ _ e]at h;obtain⟨j,x,a,b⟩:=gj r (k+1) o h;exact⟨j+1,x,by simpa using a,by rw[b];congr 1;omega⟩
variable {ms:List Mem} {fr x:Mem} {j:Nat}
theorem kt (a:ms.length<=1000) (h:ms[j]? =some x):fE ms fr (.n (2000+j))=x:=by
 have b:=(Ye.1 h).1;rw[fE,aw _ _ _ (by intro e;injection e;omega)];exact ku ms 2000 j x h
theorem oV (ms:List Mem) (fr:Mem):fE ms fr (.n 3000)=fr:=aq _ _ _
theorem w4 {o:Id} (h:fE ms fr o≠ .none):(o= .n 3000/\fr≠ .none)\/∃j x,ms[j]? =some x/\o= .n (2000+j):=by
 by_cases e:o= .n 3000;subst e;rw[oV]at h;exact .inl ⟨rfl,h⟩;rw[fE,aw _ _ _ e]at h;exact .inr (gj ms 2000 o h)
theorem u0 {a:List Id} {d:Id} (c:j<1000) {o:Id} (h:a[j]? =some o):pB a d (.n (2000+j))=o:=by
 have b:Nat.beq (2000+j) 3000=false:=pX;simp only[pB,b,ZG];rw[show 2000+j-2000=j by omega];simp[List.getD,h]
theorem nE:∀(a b:List (Id×Mem)) (m:Id->Mem),cK m (a++b)=cK (cK m a) b
 |[],_,_=>rfl
 |_::a,b,m=>by simp only[YM,cK];exact nE a b _
theorem dS:∀(l:List (Id×Mem)) (m:Id->Mem) (o:Id),(∀p∈l,p.1≠o)->cK m l o=m o
 |[],_,_,_=>rfl
 |p::l,m,o,h=>by simp only[cK];rw[dS l _ o (λq a=>h q (by simp[a])),aw _ _ _ (λe=>h p (by simp) e.symm)]
theorem wv {σ:Id->Id} {G:Id->Nat}:∀(a:List Id) (ms:List Mem) (k:Nat) (p:Id×Mem),p∈ye σ G k a ms->p.1∈a
 |[],_,_,p,h=>by simp[ye]at h
 |o::a,[],_,p,h=>by simp[ye]at h
 |o::a,x::ms,k,p,h=>by simp only[ye]at h;rcases XD.1 h with rfl|h;simp;exact XK _ (wv a ms (k+1) p h)
theorem GK {σ:Id->Id} {G:Id->Nat}:∀(b:List Id) (ms:List Mem) (k j:Nat) (o:Id) (y:Mem) (m:Id->Mem),(∀(i c:Nat) (a:Id),b[i]? =some a->b[c]? =some a->i=c)->b[j]? =some o->ms[j]? =some y->
  cK m (ye σ G k b ms) o=uC σ G (G (.n (k+j))) y
 |[],_,_,_,_,_,_,_,h,_=>by simp at h
 |_::_,[],_,_,_,_,_,_,_,h=>by simp at h
 |f::b,x::ms,k,0,o,y,m,g,l,r=>by have u:f=o:=(by simpa using l);have w:x=y:=(by simpa using r);subst u w;simp only[ye,cK,YG];rw[dS _ _ _ (λp z e=>by have t:=wv b ms (k+1) p z;rw[e]at t;obtain⟨i,A⟩:=ZZ t;have:=g 0 (i+1) f (by simp) (by simpa using A);omega),aq]
 |f::b,x::ms,k,j+1,o,y,m,g,l,r=>by simp only[ye,cK];rw[show k+(j+1)=(k+1)+j by omega];exact GK b ms (k+1) j o y _ (λi c a p q=>by have:=g (i+1) (c+1) a (by simpa using p) (by simpa using q);omega) (by simpa using l) (by simpa using r)
theorem wO:∀(l:List Nat),AV l=true->l.Nodup
 |[],_=>aaF
 |k::r,h=>by simp only[AV,XJ,Yx,List.any_eq_false]at h;refine YA.2 ⟨λa=>h.1 k a (ZE k),wO r h.2⟩
theorem zV.at {m:Id->Mem} {σ:Id->Id} {os:List Id} {ms:List Mem} (h:zV m σ os ms):os.length=ms.length/\∀(j:Nat) (o:Id) (x:Mem),os[j]? =some o->ms[j]? =some x->kd m σ (m o) x:=by
 induction h with
 |nil=>exact⟨rfl,λj o x h=>by simp at h⟩
 |cons a _ f=>
  refine⟨by simp[f.1],λj o x b c=>?_⟩;cases j with
  |zero=>simp at b c;subst b c;exact a
  |succ j=>exact f.2 j o x (by simpa using b) (by simpa using c)
theorem oZ:∀(ms a:List Mem),Dc ms a=true->a.length=ms.length/\∀(j:Nat) (x y:Mem),ms[j]? =some x->a[j]? =some y->y= .dead\/(y.kind=x.kind/\0<x.kind)
 |[],[],_=>⟨rfl,λj x y h=>by simp at h⟩
 |[],_::_,h=>by simp[Dc]at h
 |_::_,[],h=>by simp[Dc]at h
 |l::r,f::g,h=>by
  simp only[Dc,XJ,Zl]at h;obtain⟨i,k⟩:=oZ r g h.2;refine⟨by simp[i],λj x y b c=>?_⟩;cases j with
  |zero=>
   simp at b c;subst b c;rcases h.1 with h|h;(left;revert h;cases f<;>simp[Mem.Mo])
   ·exact .inr ⟨XE h.1,bR h.2⟩
  |succ j=>exact k j x y (by simpa using b) (by simpa using c)
theorem Jp:x.kind=1↔x.dr=true:=by cases x<;>simp[Mem.kind,Mem.dr]
variable {k:Nat}
theorem Jq:x.kind=k+2↔∃g n,x.bF=some (g,n,k):=by
 cases x<;>simp[Mem.kind,Mem.bF]
variable {S S':Nat->Prop} {m m':Id->Mem} {ρ ρ':Id->Option (Nat×Nat)} {w w':World} {σ:Id->Id} {xs:List Value}
theorem qF.Se (g:∀b,S b->S' b/\w'.heap[b]? =w.heap[b]?) {cs:List CR} (h:qF S m ρ w xs cs):
  (∀o p x,(∃c∈cs,c.refs o)->bg m ρ x o p->bg m' ρ' x (σ o) p)->qF S' m' ρ' w' xs (nD σ cs):=by
 induction h with
 |nil=>intro _;exact .nil
 |@cons x c xs cs a _ i=>
  intro f;refine .cons ?_ (i (λo p x ⟨j,k,l⟩=>f o p x ⟨j,by simp[k],l⟩));cases c with
  |s c=>exact Rd.mono g a
  |ptr o p=>exact f o p x ⟨.ptr o p,by simp,rfl⟩ a
variable {G:Id->Nat} {c:CV}
theorem kR.Se (a:∀b,S b->S' b/\w'.heap[b]? =w.heap[b]?) {x:Value} (h:kR S m ρ w x c) (j:c.cur m)
  (i:∀o p x,c.refs o->bg m ρ x o p->bg m' ρ' x (σ o) p) (k:∀o x,c.refs o->bB m ρ x o (m o).gen->bB m' ρ' x (σ o) (G o)):kR S' m' ρ' w' x (Cz σ G c):=by
 cases c with
 |s c=>exact Rd.mono a h
 |ptr o p=>exact i o p x rfl h
 |aJ o g=>exact k o x rfl (by rw[<-(show g=(m o).gen from j)];exact h)
 |cP f t=>obtain⟨l,q,r⟩:=h;exact⟨l,q,r.Se a i⟩
theorem fV.Se (l:∀b,S b->S' b/\w'.heap[b]? =w.heap[b]?) {cs:List CV} (h:fV S m ρ w xs cs):(∀c∈cs,c.cur m)->
  (∀o p x,(∃c∈cs,c.refs o)->bg m ρ x o p->bg m' ρ' x (σ o) p)->(∀o x,(∃c∈cs,c.refs o)->bB m ρ x o (m o).gen->bB m' ρ' x (σ o) (G o))->fV S' m' ρ' w' xs (sM σ G cs):=by
 induction h with
 |nil=>intro _ _ _;exact .nil
 |@cons x c xs cs a _ q=>
  intro g j k;exact .cons (a.Se l (g c (by simp)) (λo p x f=>j o p x ⟨c,by simp,f⟩) (λo x f=>k o x ⟨c,by simp,f⟩))
   (q (λi r=>g i (by simp[r])) (λo p x ⟨i,g,f⟩=>j o p x ⟨i,by simp[g],f⟩) (λo x ⟨i,g,f⟩=>k o x ⟨i,by simp[g],f⟩))
variable {m0:Id->Mem} {ρ0:Id->Option (Nat×Nat)}
theorem qF.fit (k:∀b,S b->S' b):∀{cs f:List CR} (_:tA σ cs f) {xs:List Value} (_:qF S m' ρ w xs cs),
  (∀o p x,(∃c∈f,c.refs o)->bg m' ρ x (σ o) p->bg m0 ρ0 x o p)->qF S' m0 ρ0 w xs f:=by
 intro cs f m;induction m with
 |nil=>intro xs h _;cases h;exact .nil
 |@cons c g l z h _ q=>
  intro xs r i;cases r with
  |cons a b=>
   refine .cons ?_ (q b (λo p x ⟨g,t,u⟩=>i o p x ⟨g,by simp[t],u⟩));cases h with
   |s h=>exact h _ _ _ (Rd.mono (λb y=>⟨k b y,rfl⟩) a)
   |@ptr o j p h=>subst h;exact i j p _ ⟨.ptr j p,by simp,rfl⟩ a
theorem kR.fit (k:∀b,S b->S' b) {a:CV} (q:uo m σ c a) {x:Value} (h:kR S m' ρ w x c)
  (l:∀o p x,a.refs o->bg m' ρ x (σ o) p->bg m0 ρ0 x o p) (r:∀o x,a.refs o->bB m' ρ x (σ o) (m (σ o)).gen->bB m0 ρ0 x o 1):kR S' m0 ρ0 w x a:=by
 cases q with
 |s t=>exact t _ _ _ (Rd.mono (λb u=>⟨k b u,rfl⟩) h)
 |@ptr o i p j=>subst j;exact l i p _ rfl h
 |@aJ o i g j y=>subst j y;exact r i _ rfl h
 |@cP f c a z=>obtain⟨A,B,C⟩:=h;exact⟨A,B,qF.fit k z C l⟩
theorem fV.fit (r:∀b,S b->S' b):∀{cs i:List CV} (_:iX m σ cs i) {xs:List Value} (_:fV S m' ρ w xs cs),
  (∀o p x,(∃c∈i,c.refs o)->bg m' ρ x (σ o) p->bg m0 ρ0 x o p)->(∀o x,(∃c∈i,c.refs o)->bB m' ρ x (σ o) (m (σ o)).gen->bB m0 ρ0 x o 1)->fV S' m0 ρ0 w xs i:=by
 intro cs i t;induction t with
 |nil=>intro xs h _ _;cases h;exact .nil
 |@cons c g l z h _ u=>
  intro xs y k q;cases y with
  |cons a b=>
   exact .cons (a.fit r h (λo p x f=>k o p x ⟨g,by simp,f⟩) (λo x f=>q o x ⟨g,by simp,f⟩))
    (u b (λo p x ⟨g,j,f⟩=>k o p x ⟨g,by simp[j],f⟩) (λo x ⟨g,j,f⟩=>q o x ⟨g,by simp[j],f⟩))
theorem iy.Wc {cs f:List SV} (h:iy cs f):∀{xs:List Value},eA S w xs cs->eA S w xs f:=by
 induction h with
 |nil=>intro xs h;exact h
 |cons a _ g=>intro xs h;cases h with|cons b c=>exact .cons (a _ _ _ b) (g c)
theorem iX.of_map:∀{l:List SV} {f:List CV} {S S':Nat->Prop} {m' m0:Id->Mem} {ρ ρ0:Id->Option (Nat×Nat)} {w:World},iX m σ (l.map .s) f->(∀b,S b->S' b)->∀{xs:List Value},eA S w xs l->fV S' m0 ρ0 w xs f:=by
 intro l;induction l with
 |nil=>intro f S S' m' m0 ρ ρ0 w h _ xs g;cases h;cases g;exact .nil
 |cons c l j=>
  intro f S S' m' m0 ρ ρ0 w h i xs g;cases h with
  |cons a b=>
   cases g with
   |cons p q=>
    refine .cons ?_ (j (m':=m') (ρ:=ρ) b i q);cases a with
    |s k=>exact k _ _ _ (Rd.mono (λb o=>⟨i b o,rfl⟩) p)
variable {y:Mem}
theorem kd.live (h:kd m σ x y):y.live->x.live:=by cases h<;>exact id
theorem kd.dr (h:kd m σ x y):(x.dr=true/\y.dr=true/\y.kind=1)\/∃g n k,x.bF=some (g,n,k)/\y.bF=some (1,n,k)/\y.kind=k+2:=by
 cases h<;>first|exact .inl ⟨rfl,rfl,rfl⟩|exact .inr ⟨_,_,_,rfl,rfl,rfl⟩
variable {g:Nat}
theorem IV:(uC σ G g x).live↔x.live:=by cases x<;>exact ZB
theorem IU:uC σ G g x= .none↔x= .none:=by cases x<;>simp[uC]
theorem IW:(uC σ G g x).dr=x.dr:=by cases x<;>rfl
theorem IX {g' n:Nat} (h:x.bF=some (g',n,k)):(uC σ G g x).bF=some (g,n,k):=by
 cases x<;>simp[Mem.bF]at h<;>(obtain⟨_,rfl,rfl⟩:=h;rfl)
theorem wZ {σ:Id->Id}:∀{cs:List CR} {c:CR},c∈nD σ cs->∃a∈cs,c=QZ σ a
 |[],_,h=>by simp[nD]at h
 |a::r,c,h=>by simp only[nD]at h;rcases XD.1 h with rfl|h;exact⟨a,by simp,rfl⟩;obtain⟨b,f,g⟩:=wZ h;exact⟨b,by simp[f],g⟩
theorem wY {σ:Id->Id} {G:Id->Nat}:∀{cs:List CV} {c:CV},c∈sM σ G cs->∃a∈cs,c=Cz σ G a
 |[],_,h=>by simp[sM]at h
 |a::r,c,h=>by simp only[sM]at h;rcases XD.1 h with rfl|h;exact⟨a,by simp,rfl⟩;obtain⟨b,f,g⟩:=wY h;exact⟨b,by simp[f],g⟩
theorem tO {cs:List CR} {o:Id} (h:∃c∈nD σ cs,c.refs o):∃a,(∃c∈cs,c.refs a)/\o=σ a:=by
 obtain⟨c,f,b⟩:=h;obtain⟨g,i,rfl⟩:=wZ f;cases g with
 |s c=>exact b.elim
 |ptr a p=>exact⟨a,⟨_,i,rfl⟩,(show σ a=o from b).symm⟩
theorem wy {o:Id} (h:(Cz σ G c).refs o):∃a,c.refs a/\o=σ a:=by
 cases c with
 |s c=>exact h.elim
 |ptr a p=>exact⟨a,rfl,(show σ a=o from h).symm⟩
 |aJ a g=>exact⟨a,rfl,(show σ a=o from h).symm⟩
 |cP f b=>exact tO h
theorem IT {o:Id} (h:(uC σ G g x).refs o):∃a,x.refs a/\o=σ a:=by
 cases x with
 |obj u=>obtain⟨c,m,b⟩:=h;obtain⟨p,q,rfl⟩:=wY m;obtain⟨a,f,l⟩:=wy b;exact⟨a,⟨p,q,f⟩,l⟩
 |bm w n k e y=>obtain⟨i,j,r,t,b⟩:=h;obtain⟨a,f,l⟩:=wy b;exact⟨a,⟨i,j,r,t,f⟩,l⟩
 |_=>exact h.elim
theorem IS {x:TV} {o:Id} (h:(Le σ G x).refs o):∃a,x.refs a/\o=σ a:=by
 cases x with
 |ptr a p=>exact⟨a,rfl,(show σ a=o from h).symm⟩
 |jC a p=>exact⟨a,rfl,(show σ a=o from h).symm⟩
 |aJ a g=>exact⟨a,rfl,(show σ a=o from h).symm⟩
 |cP f b=>exact tO h
 |_=>exact h.elim
def Lo:Id->Prop
 | .n k=>k<2000
 | .s k _=>k<2000
structure Eh (P:Program) (f:FuncId) (args:List TV) (M0:Id->Mem) (r:TV) (M1:Id->Mem):Prop where
 enters:Enters P f
 hi:∀o,M0 o≠ .none->¬Lo o
 Dd:∀o,M0 o≠ .none->M1 o= .dead\/((M1 o).kind=(M0 o).kind/\0<(M0 o).kind)
 cur:r.cur M1
 tf:∀o,(M1 o).cur M1
 closed:∀o o',(M0 o).refs o'->M0 o'≠ .none
 fU:∀x∈args,∀o',x.refs o'->M0 o'≠ .none
 clean:∀o,r.refs o->M1 o≠ .none
 calls:∀(E:Env) (vs:List Value),E.P=P->E.m0=M0->Own E E.ρ0 E.m0 E.w0->jW E E.m0 E.ρ0 E.w0 vs args->
  Calls P f vs.toArray E.w0 λe w'=>∃v ρ',e= .returned v/\Own E ρ' M1 w'/\dj E M1 ρ' w' v r
structure QC (m:Id->Mem) (σ:Id->Id) (G:Id->Nat) (xs args:List TV) (M0 M1:Id->Mem) (mo:List (Id×Mem)) (rd:List Nat) (dst:Option Nat):Prop where
 mem:∀o,M0 o≠ .none->kd m σ (m (σ o)) (M0 o)
 args:lQ m σ xs args
 inj:∀o o',M1 o≠ .none->M1 o'≠ .none->σ o=σ o'->o=o'
 key:∀o,M1 o≠ .none->(σ o).key∈rd
 fresh:∀o,M0 o= .none->M1 o≠ .none->m (σ o)= .none/\(Lo (σ o)\/σ o= .n (dst.getD 0))
 gen:∀o,M0 o≠ .none->G o=bif Nat.beq (M1 o).gen 1 then(m (σ o)).gen else(m (σ o)).gen+2
 He:∀m' o,M1 o≠ .none->cK m' mo (σ o)=uC σ G (G o) (M1 o)
 AW:∀m' b,(∀o,M1 o≠ .none->σ o≠b)->cK m' mo b=m' b
theorem Env.Pr (E:Env) {o:Id} (h:Lo o):E.m0 o= .none:=by
 cases o with
 |n k=>exact E.PG k h
 |s k i=>exact E.US k i h
variable {M1:Id->Mem} {ρ2:Id->Option (Nat×Nat)}
section
open Classical
noncomputable def La (σ:Id->Id) (M1:Id->Mem) (ρ ρ2:Id->Option (Nat×Nat)) (b:Id):Option (Nat×Nat):=if h:∃o,M1 o≠ .none/\σ o=b then ρ2 h.choose else ρ b
theorem OJ (c:∀o a,M1 o≠ .none->M1 a≠ .none->σ o=σ a->o=a) {o:Id} (h:M1 o≠ .none):La σ M1 ρ ρ2 (σ o)=ρ2 o:=by
 have b:∃a,M1 a≠ .none/\σ a=σ o:=⟨o,h,rfl⟩;unfold La;rw[dif_pos b,c _ _ b.choose_spec.1 h b.choose_spec.2]
theorem lr {b:Id} (h:∀o,M1 o≠ .none->σ o≠b):La σ M1 ρ ρ2 b=ρ b:=by
 unfold La;rw[dif_neg (λ⟨o,a,c⟩=>h o a c)]
noncomputable def WE (σ:Id->Id) (a:Id->Mem) (ρ:Id->Option (Nat×Nat)) (o:Id):Option (Nat×Nat):=if a o= .none then none else ρ (σ o)
end
variable {P:Program} {args:List TV}
set_option maxHeartbeats 2000000 in
theorem DX {o:Oper} {t:Nat->TV} {f:FuncId} {xs:List TV} {J:Id->Mem} {r:TV} {i2:List (Id×Mem)} {rd:List Nat}
  (j7:∀(E:Env) (ρ:Id->Option (Nat×Nat)) (e5:Nat->TV) (m':Id->Mem) (a:Act) (w:World),eV o t e5->Rel E ρ e5 m' a w->
   ∃d0:List Value,jW E m' ρ w d0 xs/\(Enters P f->(execOp a.eval o).run P w= .ok (.enter f d0.toArray) w))
  (a7:Eh P f args J r M1) (c0:QC m σ G xs args J M1 i2 rd o.dst):aI P o t m (Le σ G r) i2 rd:=by
 intro E ρ e5 m' a w p2 l8 l9 j8 I p3 Q hK;obtain⟨d0,i3,j9⟩:=j7 E ρ e5 m' a w l8 I;have c5:∀j,J j≠ .none->M1 j≠ .none:=λj B=>by rcases a7.Dd j B with h|⟨h,k0⟩;rw[h];simp;intro e;rw[e]at h;rw[<-h]at k0;simp[Mem.kind]at k0
 have g2:∀j,M1 j≠ .none->m' (σ j)=m (σ j):=λj B=>l9 (σ j) (c0.key j B);have d1:∀j,J j≠ .none->kd m σ (m' (σ j)) (J j):=λj B=>by rw[g2 j (c5 j B)];exact c0.mem j B
 have k1:=c0.inj;let ρ0:=WE σ J ρ;have e0:∀j,J j≠ .none->ρ0 j=ρ (σ j):=λj h=>XG h;have i4:∀j,Lo j->J j= .none:=λj h=>Xz λB=>a7.hi j B h;let Y:Env:=⟨P,0,w,L E m' ρ w,λb A=>tx I A,λb=>∃j,J j≠ .none/\(m' (σ j)).live/\∃c,ρ (σ j)=some (b,c),λb ⟨a,_,l,c,r⟩=>(I.lo _ b c l r).2,J,ρ0,λk g3=>i4 (.n k) (show k<2000 by omega),λk g3=>i4 (.n k) g3,λk i g3=>i4 (.s k i) g3,w.heap.size⟩;have g4:∀j p x,J j≠ .none->bg m' ρ x (σ j) p->bg J ρ0 x j p:=by intro j p x B F;rcases(d1 j B).dr with⟨U,a8,_⟩|⟨g,n,k,U,_,_⟩;rw[bO U]at F;rw[bO a8,e0 j B];exact F;exact absurd F (hV U)
 have i5:∀j x,J j≠ .none->bB m' ρ x (σ j) (m (σ j)).gen->bB J ρ0 x j 1:=by intro j x B F;rw[<-g2 j (c5 j B)]at F;rcases(d1 j B).dr with⟨U,a8,_⟩|⟨g,n,k,U,a8,_⟩;rw[fF U]at F;rw[fF a8];exact F;rw[br U,cN U]at F;rw[br a8];refine⟨F.1,XU _,λ_=>?_⟩;have:=F.2.2 rfl;simp only[cu]at this|-;rw[e0 j B];exact this
 have e9:∀{M:Id->Mem} {j:Id},(M j).live->M j≠ .none:=λl e=>by rw[e]at l;exact l
 have g5:∀j b c,(J j).live->ρ0 j=some (b,c)->(m' (σ j)).live/\ρ (σ j)=some (b,c):=by intro j b c l d2;rw[e0 j (e9 l)]at d2;exact⟨(d1 j (e9 l)).live l,d2⟩
 have c6:∀b,L E m' ρ w b->L Y J ρ0 w b:=by intro b A;refine⟨.inl A,λj c l d2=>?_⟩;obtain⟨a9,b0⟩:=g5 j b c l d2;exact A.2 _ c a9 b0
 have m1:Own Y Y.ρ0 Y.m0 Y.w0:=by
  refine{below:=Bx.refl _ _ _,inj:=?_,lo:=?_,cleanM:=a7.closed,mem:=?_,carry:=λj _=>⟨λ_ _ h=>h,λ_ _ h=>h⟩};intro D a0 b c a1 e6 f0 R b2;obtain⟨m2,m3⟩:=g5 D b c e6 R;obtain⟨m4,m5⟩:=g5 a0 b a1 f0 b2;exact k1 D a0 (c5 _ (e9 e6)) (c5 _ (e9 f0)) (I.inj _ _ b c a1 m2 m4 m3 m5);intro j b c l d2;obtain⟨a9,b0⟩:=g5 j b c l d2;exact⟨.inl ⟨j,e9 l,a9,c,b0⟩,(I.lo _ b c a9 b0).2⟩
  ·intro j;show iL Y J ρ0 w j (J j);by_cases B:J j= .none;rw[B];trivial;have a2:=I.mem (σ j);have H:∀K,(J j).refs K->J K≠ .none:=a7.closed j;have i6:=d1 j B;have d3:=e0 j B;revert a2 i6 H;generalize J j=y;generalize m' (σ j)=x;intro a2 H i6;cases i6 with
   |ro b6=>obtain⟨b,c,V,e,h1,O,u,N⟩:=a2;exact⟨b,c,V,e,by rw[d3,h1],c6 b O,u,b6.Wc (N.mono (λb A=>⟨c6 b A,rfl⟩))⟩
   |box b6=>obtain⟨b,c,V,e,h1,u,N⟩:=a2;exact⟨b,c,V,e,by rw[d3,h1],u,b6.Wc (N.mono (λb A=>⟨c6 b A,rfl⟩))⟩
   |tl b6=>obtain⟨b,c,V,e,h1,u,N⟩:=a2;exact⟨b,c,V,e,by rw[d3,h1],u,iX.of_map (m':=m') (ρ:=ρ) b6 c6 N⟩
   |obj b6=>obtain⟨b,c,V,e,h1,u,N⟩:=a2;refine⟨b,c,V,e,by rw[d3,h1],u,fV.fit c6 b6 N (λK p x ⟨a1,b3,C⟩=>g4 K p x (H K ⟨a1,b3,C⟩)) (λK x ⟨a1,b3,C⟩=>i5 K x (H K ⟨a1,b3,C⟩))⟩
   |@aL g n k e i7 m6 b6=>rcases a2 with⟨h1,u⟩|⟨b,c7,d4,h1,u,N,Z,c8,e1⟩;exact .inl ⟨by rw[d3,h1],u⟩;refine .inr ⟨b,c7,d4,by rw[d3,h1],u,N,Z,c8,λi b1 q S=>?_⟩;obtain⟨x,b4,C⟩:=e1 i b1 q S;exact⟨x,b4,b6 i b1 q S _ _ _ (C.mono (λb A=>⟨c6 b A,rfl⟩))⟩
   |@bm g n k e i7 m6 b6=>rcases a2 with⟨h1,u⟩|⟨b,c7,d4,h1,u,N,Z,c8,e1⟩;exact .inl ⟨by rw[d3,h1],u⟩;refine .inr ⟨b,c7,d4,by rw[d3,h1],u,N,Z,c8,λi b1 q S=>?_⟩;obtain⟨x,b4,C⟩:=e1 i b1 q S;exact⟨x,b4,C.fit c6 (b6 i b1 q S) (λK p x C=>g4 K p x (H K ⟨i,q,b1,S,C⟩)) (λK x C=>i5 K x (H K ⟨i,q,b1,S,C⟩))⟩
 have m7:jW Y Y.m0 Y.ρ0 Y.w0 d0 args:=by
  have g6:=c0.args;have H:=a7.fU;revert i3 g6 H;generalize args=m8;intro i3 g6 H;clear j9 c0 a7 j7;induction i3 generalizing m8 with
  |nil=>cases g6;exact .nil
  |@cons v p4 d0 p5 h1 _ m9=>
   cases g6 with
   |@cons _ a1 _ e2 f1 U=>
    refine .cons ?_ (m9 e2 U (λx b4 j C=>H x (by simp[b4]) j C));have i8:=H a1 (by simp);cases f1 with
    |d n0=>exact n0 _ _ _ (lU.mono (λb A=>⟨c6 b A,rfl⟩) h1)
    |@ptr o j p c1=>subst c1;exact g4 j p _ (i8 j rfl) h1
    |@aJ o j g c1 c2=>subst c1 c2;exact i5 j _ (i8 j rfl) h1
    |@cP f c a1 b3=>obtain⟨V,T,R⟩:=h1;exact⟨V,T,qF.fit c6 b3 R (λj p x C=>g4 j p x (i8 j C))⟩
 have n1:=a7.calls Y d0 rfl rfl m1 m7;unfold Oper.wp;rw[j9 a7.enters];refine Calls.mono n1 ?_;rintro e w' ⟨v,ρ2,rfl,c3,b7⟩;let X:=cK m' i2;let a5:=La σ M1 ρ ρ2;have d5:∀b,(∀j,M1 j≠ .none->σ j≠b)->X b=m' b:=λb A=>c0.AW m' b A;have d6:∀j,M1 j≠ .none->X (σ j)=uC σ G (G j) (M1 j)/\a5 (σ j)=ρ2 j:=λj B=>⟨c0.He m' j B,OJ k1 B⟩;have f2:∀b,(∃j,M1 j≠ .none/\σ j=b)\/∀j,M1 j≠ .none->σ j≠b:=λb=>by by_cases h:∃j,M1 j≠ .none/\σ j=b;exact .inl h;exact .inr λj h1 u=>h ⟨j,h1,u⟩
 have n3:∀j,J j≠ .none->G j=bif Nat.beq (M1 j).gen 1 then(m' (σ j)).gen else(m' (σ j)).gen+2:=λj B=>by rw[g2 j (c5 j B)];exact c0.gen j B
 have f3:∀j p x,M1 j≠ .none->bg M1 ρ2 x j p->bg X a5 x (σ j) p:=by intro j p x B F;obtain⟨T,a6⟩:=d6 j B;simp only[bg,T,a6]at F|-;revert F;generalize M1 j=z;cases z<;>exact id
 have i9:∀j x,M1 j≠ .none->bB M1 ρ2 x j (M1 j).gen->bB X a5 x (σ j) (G j):=by intro j x B F;obtain⟨T,a6⟩:=d6 j B;simp only[bB,cu,T,a6]at F|-;revert F;generalize M1 j=z;cases z<;>first|exact id|(intro F;exact⟨F.1,XU _,λ_=>F.2.2 rfl⟩)
 have j0:∀b,Y.X b->E.X b\/E.w0.heap.size<=b:=λb ⟨a,_,l,c,r⟩=>(I.lo _ b c l r).1;have n4:∀b,Y.X b->b<w.heap.size:=Y.hX;have j1:w.heap.size<=w'.heap.size:=c3.below.size;have g7:∀j b c,(M1 j).live->ρ2 j=some (b,c)->(Y.X b\/w.heap.size<=b)/\b<w'.heap.size:=c3.lo;have f4:∀b,(X b).live->(∃j,M1 j≠ .none/\σ j=b/\(M1 j).live/\a5 b=ρ2 j)\/((∀j,M1 j≠ .none->σ j≠b)/\(m' b).live/\a5 b=ρ b):=by intro b l;rcases f2 b with⟨j,B,rfl⟩|A;obtain⟨T,a6⟩:=d6 j B;exact .inl ⟨j,B,rfl,by rw[T]at l;exact IV.1 l,a6⟩;rw[d5 b A]at l;exact .inr ⟨A,l,lr A⟩
 have g8:∀b,(∀j,M1 j≠ .none->σ j≠b)->∀j,J j≠ .none->b≠σ j:=λb A j B e=>A j (c5 j B) e.symm;have b8:∀b,L Y M1 ρ2 w' b->L E X a5 w' b:=by intro b A;have f5:b<w'.heap.size:=(by rcases A.1 with h|h|h;exact Yc (tx I h) j1;exact Yc (n4 b h) j1;exact h.2);refine⟨?_,λf6 c l f7=>?_⟩;rcases A.1 with h|h|h;exact(show L E m' ρ w b from h).1.imp id (λh=>h.imp id (λh=>⟨h.1,f5⟩));rcases j0 b h with h|h;exact .inr (.inl h);exact .inr (.inr ⟨h,f5⟩);exact .inr (.inr ⟨Yg I.below.size h.1,f5⟩);rcases f4 f6 l with⟨j,B,_,e2,e⟩|⟨n5,e2,e⟩;exact A.2 j c e2 (by rw[<-e];exact f7);rw[e]at f7;rcases A.1 with h|⟨a,e3,a9,a1,b0⟩|h;exact(show L E m' ρ w b from h).2 f6 c e2 f7;exact g8 f6 n5 a e3 (I.inj f6 _ b c a1 e2 a9 f7 b0);have:=(I.lo f6 b c e2 f7).2;exact ZO _ (Yc this h.1)
 have k2:∀b,b<w.heap.size->¬Y.X b->w'.heap[b]? =w.heap[b]?:=λb A b4=>c3.below.block b A b4;have k3:∀b,L E m' ρ w b->¬Y.X b:=λb A ⟨a,_,a9,c,b0⟩=>A.2 _ c a9 b0;have c9:∀b,L E m' ρ w b->L E X a5 w' b/\w'.heap[b]? =w.heap[b]?:=by intro b A;refine⟨b8 b ⟨.inl A,λj c l d2=>?_⟩,k2 b (tx I A) (k3 b A)⟩;rcases(g7 j b c l d2).1 with h|h;exact k3 b A h;exact ZO _ (Yc (tx I A) h)
 have g9:∀j,J j≠ .none->∀g n k,(m' (σ j)).bF=some (g,n,k)->X (σ j)= .dead\/∃d7 e7,(X (σ j)).bF=some (d7,e7,k)/\(g<d7/\1<d7\/d7=g/\a5 (σ j)=ρ (σ j)/\(n=e7\/(ρ (σ j)=none/\n=0))):=by
  intro j B g n k a3;obtain⟨f8,j2⟩:=d6 j (c5 j B);rcases(d1 j B).dr with⟨U,_,_⟩|⟨k4,k5,k6,U,a8,e8⟩;(exfalso;revert U a3;cases m' (σ j)<;>simp[Mem.dr,Mem.bF])
  ·rw[a3]at U;obtain⟨rfl,rfl,rfl⟩:g=k4/\n=k5/\k=k6:=(by simpa using U);rcases a7.Dd j B with j3|⟨h1,_⟩;left;rw[f8,j3];rfl
   ·right;rw[e8]at h1;obtain⟨n6,k7,h0⟩:=Jq.1 h1;have h2:=n3 j B;rw[cN h0,cN a3]at h2;refine⟨G j,k7,by rw[f8];exact IX h0,?_⟩;by_cases k8:n6=1
    ·right;subst k8;rw[show Nat.beq 1 1=true from rfl,ZD]at h2;have d8:=c3.carry j B;have k9:∀v,cu ρ0 v j n->v.oneCell'=true->cu ρ2 v j k7:=(by intro v n7 n8;have O:bB J ρ0 v j 1:=(br a8).2 ⟨n8,XU _,λ_=>n7⟩;have u:=d8.aJ v (cN h0) O;exact((br h0).1 u).2.2 rfl);refine⟨h2,?_⟩;have n9:=jI a3 (I.mem (σ j));rw[j2];rcases n9 with⟨R,b2⟩|⟨o0,c7,d4,e,R,_⟩
     ·have:=k9 (.slice none 0 0) (by simp only[cu,e0 j B,R]) rfl;revert this;simp only[cu];cases S:ρ2 j with
      |none=>intro _;exact⟨R.symm,.inr ⟨R,b2⟩⟩
      |some l0=>intro c1;simp at c1
     ·have:=k9 (.slice (some ⟨o0,0,none⟩) n c7) (by simp only[cu,e0 j B,R]) rfl;revert this;simp only[cu];cases S:ρ2 j with
      |none=>intro c1;simp at c1
      |some l0=>obtain⟨e8,p6⟩:=l0;intro c1;simp at c1;obtain⟨rfl,rfl,rfl⟩:=c1;exact⟨R.symm,.inl rfl⟩
    ·left;rw[pX k8,ZG]at h2;omega
 have h3:∀j,J j≠ .none->(m' (σ j)).dr=true->X (σ j)= .dead\/((X (σ j)).dr=true/\∀p x,bg m' ρ x (σ j) p->bg X a5 x (σ j) p):=by intro j B b5;obtain⟨f8,j2⟩:=d6 j (c5 j B);rcases(d1 j B).dr with⟨_,a8,e8⟩|⟨k4,k5,k6,U,_,_⟩;rcases a7.Dd j B with j3|⟨h1,_⟩;left;rw[f8,j3];rfl;right;rw[e8]at h1;have l5:=Jp.1 h1;have l6:(X (σ j)).dr=true:=(by rw[f8,IW];exact l5);refine⟨l6,λp v F=>?_⟩;have d8:=c3.carry j B;have O:bg J ρ0 v j p:=(by rw[bO a8,e0 j B];exact(bO b5).1 F);have u:=d8.ptr v p O;rw[bO l5]at u;rw[bO l6,j2];exact u;(exfalso;revert U b5;cases m' (σ j)<;>simp[Mem.dr,Mem.bF])
 have h4:∀j,J j≠ .none->(m' (σ j)).dr=true\/∃g n k,(m' (σ j)).bF=some (g,n,k):=by intro j B;rcases(d1 j B).dr with⟨U,_⟩|⟨g,n,k,U,_⟩;exact .inl U;exact .inr ⟨g,n,k,U⟩
 have h5:∀b,m' b≠ .none->(∃j,J j≠ .none/\σ j=b)\/∀j,M1 j≠ .none->σ j≠b:=λb B=>by rcases f2 b with⟨j,h1,rfl⟩|h;by_cases O:J j= .none;exact absurd ((g2 j h1).trans (c0.fresh j O h1).1) B;exact .inl ⟨j,O,rfl⟩;exact .inr h
 have e4:∀b,m' b≠ .none->Carry m' X ρ a5 b:=by
  intro b B;rcases h5 b B with⟨j,O,rfl⟩|A
  ·rcases h4 j O with b5|⟨g,n,k,a3⟩;rcases h3 j O b5 with h|⟨h1,u⟩;refine⟨λx p F=>?_,λx q S=>?_⟩;simp only[bg,h];exact F.bG;simp only[bB,h];exact⟨S.1,trivial⟩;exact⟨λx p F=>u p x F,λx q S=>(fF h1).2 ((fF b5).1 S)⟩
   ·rcases g9 j O g n k a3 with h|⟨d7,e7,h1,u⟩;refine⟨λx p F=>?_,λx q S=>?_⟩;simp only[bg,h];exact F.bG;simp only[bB,h];exact⟨S.1,trivial⟩
    ·refine⟨λx p F=>absurd F (hV a3),λx q S=>?_⟩;obtain⟨f1,h6,o1⟩:=(br a3).1 S;refine(br h1).2 ⟨f1,?_,λe=>?_⟩;(rcases u with u|u<;>omega)
     ·rcases u with u|⟨u,N,Z⟩;omega;have:=o1 (by omega);simp only[cu]at this|-;rw[N];rcases Z with Z|⟨Z,c8⟩;rw[<-Z];exact this;rw[Z]at this|-;exact this
  ·exact Carry.same (d5 b A) (lr A)
 have j4:∀j,M1 j≠ .none->X (σ j)≠ .none:=λj B=>by rw[(d6 j B).1];exact λe=>B (IU.1 e)
 have l7:∀b,m' b≠ .none->X b≠ .none:=by intro b B;rcases h5 b B with⟨j,O,rfl⟩|A;exact j4 j (c5 j O);rw[d5 b A];exact B
 have o2:Rel E a5 e5 X a w':=by
  refine{below:=?_,defers:=I.defers.mono c9,size:=I.size,inj:=?_,lo:=?_,clean:=λi b C=>l7 b (I.clean i b C),cleanM:=?_,mem:=?_,slots:=?slots,carry:=?carry};exact I.below.trans (c3.below.mono I.below.size (λb f5 b4=>(j0 b b4).resolve_right (λh=>absurd f5 (abg.2 h))));intro D a0 b c a1 e6 f0 R b2;rcases f4 D e6 with⟨h7,h8,h9,c4,T⟩|⟨h8,c4,T⟩;rw[T]at R;rcases f4 a0 f0 with⟨j5,i0,b9,d9,a6⟩|⟨i0,d9,a6⟩;rw[a6]at b2;rw[<-h9,<-b9,c3.inj h7 j5 b c a1 c4 d9 R b2];rw[a6]at b2;exfalso;rcases(g7 h7 b c c4 R).1 with⟨f9,e3,a9,g0,b0⟩|h;exact g8 a0 i0 f9 e3 (I.inj a0 _ b a1 g0 d9 a9 b2 b0);exact ZO _ (Yc (I.lo a0 b a1 d9 b2).2 h);rw[T]at R;rcases f4 a0 f0 with⟨j5,i0,b9,d9,a6⟩|⟨i0,d9,a6⟩;rw[a6]at b2;exfalso;rcases(g7 j5 b a1 d9 b2).1 with⟨f9,e3,a9,g0,b0⟩|h;exact g8 D h8 f9 e3 (I.inj D _ b c g0 c4 a9 R b0);exact ZO _ (Yc (I.lo D b c c4 R).2 h);rw[a6]at b2;exact I.inj D a0 b c a1 c4 d9 R b2;intro D b c e6 R;rcases f4 D e6 with⟨h7,h8,h9,c4,T⟩|⟨h8,c4,T⟩;rw[T]at R;obtain⟨h1,u⟩:=g7 h7 b c c4 R;refine⟨?_,u⟩;rcases h1 with h1|h1;exact j0 b h1;exact .inr (Yg I.below.size h1);rw[T]at R;obtain⟨h1,u⟩:=I.lo D b c c4 R;exact⟨h1,Yc u j1⟩;intro D a0 C;rcases f2 D with⟨j,B,rfl⟩|A;rw[(d6 j B).1]at C;obtain⟨g1,h1,rfl⟩:=IT C;exact j4 g1 (c3.cleanM j g1 h1);rw[d5 D A]at C;exact l7 a0 (I.cleanM D a0 C)
  ·intro D;have o3:∀j,M1 j≠ .none->iL E X a5 w' (σ j) (X (σ j)):=by
    intro j B;obtain⟨h9,b9⟩:=d6 j B;have a2:=c3.mem j;have H:∀K,(M1 j).refs K->M1 K≠ .none:=λK C=>c3.cleanM j K C;have i1:(M1 j).cur M1:=a7.tf j;rw[h9];revert a2 H i1;generalize M1 j=y;intro a2 H i1;cases y with
    |none=>trivial
    |dead=>trivial
    |ro l=>obtain⟨b,c,V,e,h1,O,u,N⟩:=a2;exact⟨b,c,V,e,by rw[b9,h1],b8 b O,u,N.mono (λb A=>⟨b8 b A,rfl⟩)⟩
    |box l=>obtain⟨b,c,V,e,h1,u,N⟩:=a2;exact⟨b,c,V,e,by rw[b9,h1],u,N.mono (λb A=>⟨b8 b A,rfl⟩)⟩
    |obj l=>obtain⟨b,c,V,e,h1,u,N⟩:=a2;exact⟨b,c,V,e,by rw[b9,h1],u,fV.Se (λb A=>⟨b8 b A,rfl⟩) N i1 (λK p x C=>f3 K p x (H K C)) (λK x C=>i9 K x (H K C))⟩
    |aL g n k e i7=>rcases a2 with⟨h1,u⟩|⟨b,c7,d4,h1,u,N,Z,c8,e1⟩;exact .inl ⟨by rw[b9,h1],u⟩;refine .inr ⟨b,c7,d4,by rw[b9,h1],u,N,Z,c8,λi b1 q S=>?_⟩;obtain⟨x,b4,C⟩:=e1 i b1 q S;exact⟨x,b4,C.mono (λb A=>⟨b8 b A,rfl⟩)⟩
    |bm g n k e i7=>rcases a2 with⟨h1,u⟩|⟨b,c7,d4,h1,u,N,Z,c8,e1⟩;exact .inl ⟨by rw[b9,h1],u⟩;refine .inr ⟨b,c7,d4,by rw[b9,h1],u,N,Z,c8,λi b1 q S=>?_⟩;obtain⟨x,b4,C⟩:=e1 i b1 q S;exact⟨x,b4,kR.Se (λb A=>⟨b8 b A,rfl⟩) C (i1 i b1 q S) (λK p x C=>f3 K p x (H K ⟨i,q,b1,S,C⟩)) (λK x C=>i9 K x (H K ⟨i,q,b1,S,C⟩))⟩
    |map p7=>obtain⟨b,c,o4,o5,h1,u,N⟩:=a2;exact⟨b,c,o4,o5,by rw[b9,h1],u,N⟩
   rcases f2 D with⟨j,B,rfl⟩|A;exact o3 j B;rw[d5 D A];refine(I.mem D).mono c9 (lr A) (λl b c C=>?_) (λa0 C=>e4 a0 (I.cleanM D a0 C));exact k2 b (I.lo D b c l C).2 (λ⟨f9,e3,a9,g0,b0⟩=>g8 D A f9 e3 (I.inj D _ b c g0 l a9 C b0))
  case slots=>
   intro i;have a4:=I.slots i;have H:=I.clean i;generalize e5 i=v at a4 H;cases v with
   |any=>trivial
   |undef=>exact a4
   |d v=>exact lU.mono c9 a4
   |eD d0=>obtain⟨V,h1,u⟩:=a4;exact⟨V,h1,u.mono c9⟩
   |ptr D p=>exact(e4 D (H D rfl)).ptr _ p a4
   |aJ D g=>exact(e4 D (H D rfl)).aJ _ g a4
   |nb n o6=>exact a4
   |cP f o7=>exact jZ.mono c9 (λD C=>e4 D (H D C)) a4
   |jC D d0=>obtain⟨y,xs,h1,u,N⟩:=a4;exact⟨y,xs,h1,(e4 D (H D rfl)).ptr _ 0 u,N.mono c9⟩
   |rW p8=>obtain⟨xs,h1,u⟩:=a4;exact⟨xs,h1,u.mono c9 (λD C=>e4 D (H D C))⟩
   |ep D q p9 q0=>rcases h5 D (H D rfl)with⟨j,O,rfl⟩|A;rcases h4 j O with b5|⟨g,n,k,a3⟩;rcases h3 j O b5 with h|⟨h1,u⟩;simp only[dj,h];exact zs h1;rcases g9 j O g n k a3 with h|⟨d7,e7,h1,u⟩;simp only[dj,h];obtain⟨f1,h6⟩:=(dq a3).1 a4;refine(dq h1).2 ⟨by rcases u with u|u<;>omega,λe=>?_⟩;rcases u with u|⟨u,N,Z⟩;omega;obtain⟨U,b,c,a8,e8⟩:=h6 (by omega);rw[N];rcases Z with Z|⟨Z,c8⟩;exact⟨by omega,b,c,a8,e8⟩;omega;exact dj.mono c9 (λa0 u=>by cases u;exact⟨d5 _ A,lr A⟩) a4
   |sub D q lo q1=>rcases h5 D (H D rfl)with⟨j,O,rfl⟩|A;rcases h4 j O with b5|⟨g,n,k,a3⟩;rcases h3 j O b5 with h|⟨h1,u⟩;simp only[dj,fi,h];exact⟨a4.1,trivial⟩;exact(me h1).2 ((me b5).1 a4);rcases g9 j O g n k a3 with h|⟨d7,e7,h1,u⟩;simp only[dj,fi,h];exact⟨a4.1,trivial⟩;obtain⟨o8,f1,h6⟩:=(dk a3).1 a4;refine(dk h1).2 ⟨o8,by rcases u with u|u<;>omega,λe=>?_⟩;rcases u with u|⟨u,N,Z⟩;omega;obtain⟨U,a8⟩:=h6 (by omega);simp only[hC]at a8|-;rw[N];exact⟨by omega,a8⟩;exact dj.mono c9 (λa0 u=>by cases u;exact⟨d5 _ A,lr A⟩) a4
  case carry=>
   intro b B;have d8:=I.carry b B;rcases f2 b with⟨j,h1,rfl⟩|A
   ·by_cases O:J j= .none
    ·refine absurd ?_ B;rcases(c0.fresh j O h1).2 with q|q;exact E.Pr q
     ·rw[q];refine E.uH _ ?_;cases S:o.dst with
      |none=>exact XR _
      |some k=>exact ZQ (j8 k S)
    ·have o9:m' (σ j)≠ .none:=λe=>by have:=d1 j O;rw[e]at this;cases this
     have b3:=e4 (σ j) o9;refine⟨λx p F=>b3.ptr x p (d8.ptr x p F),λx c2 F=>b3.aJ x 1 (d8.aJ x ?_ F)⟩;rcases h4 j O with b5|⟨g,n,k,a3⟩;rcases h3 j O b5 with h|⟨h1,u⟩;rw[h]at c2;simp[Mem.gen]at c2;rw[od h1]at c2;omega;(rcases g9 j O g n k a3 with h|⟨d7,e7,h1,u⟩;rw[h]at c2;simp[Mem.gen]at c2;(rw[cN h1]at c2;rw[cN a3];rcases u with u|u<;>omega))
   ·have T:=d5 b A;have a6:a5 b=ρ b:=lr A;have b3:=Carry.same (m:=m') (m':=X) (ρ:=ρ) (ρ':=a5) (o:=b) T a6;exact⟨λx p F=>b3.ptr x p (d8.ptr x p F),λx c2 F=>b3.aJ x 1 (d8.aJ x (by rw[<-T];exact c2) F)⟩
 refine hK a5 _ w' (o2.put j8 ?_ ?_)
 ·have j6:=a7.cur;have H:=a7.clean;revert b7 j6 H;cases r with
  |d v=>intro b7 _ _;exact lU.mono (λb A=>⟨b8 b A,rfl⟩) b7
  |eD l=>rintro⟨V,T,R⟩ _ _;exact⟨V,T,R.mono (λb A=>⟨b8 b A,rfl⟩)⟩
  |jC j l=>rintro⟨y,V,T,p1,R⟩ _ H;exact⟨y,V,T,f3 j 0 y (H j rfl) p1,R.mono (λb A=>⟨b8 b A,rfl⟩)⟩
  |ptr j p=>intro b7 _ H;exact f3 j p v (H j rfl) b7
  |aJ j g=>intro b7 j6 H;have b3:g=(M1 j).gen:=j6;subst b3;exact i9 j v (H j rfl) b7
  |cP f o7=>rintro⟨V,T,R⟩ _ H;exact⟨V,T,R.Se (λb A=>⟨b8 b A,rfl⟩) (λj p x C=>f3 j p x (H j C))⟩
  |undef=>intro b7 _ _;exact b7
  |nb n o6=>intro b7 _ _;exact b7
  |any=>intro _ _ _;trivial
  |rW _=>intro _ _ _;trivial
  |ep _ _ _ _=>intro _ _ _;trivial
  |sub _ _ _ _=>intro _ _ _;trivial
 ·intro b C;obtain⟨g1,h1,rfl⟩:=IS C;exact j4 g1 (a7.clean g1 h1)
theorem lT.Uh {f:FuncId} {r:TV} {a:List Mem} (h:lT P f args ms r a fr) (m:ms.length<=1000):Eh P f args (jJ 2000 ms) r (fE a fr) where
 enters:=h.enters
 hi:=λo b i=>by obtain⟨j,x,k,rfl⟩:=gj ms 2000 o b;exact absurd (show 2000+j<2000 from i) (by omega)
 Dd:=λo b=>by obtain⟨k,l⟩:=oZ _ _ h.Dd;obtain⟨j,x,c,rfl⟩:=gj ms 2000 o b;have p:=(Ye.1 c).1;have g:a[j]? =some (a[j]'(by omega)):=XY (by omega);rw[ku ms 2000 j x c,kt (by omega) g];exact l j x _ c g
 cur:=h.cur
 tf:=h.tf
 closed:=h.closed
 fU:=h.fU
 clean:=h.clean
 calls:=h.calls
variable {K:fa}
theorem xH {o:Oper} {t:Nat->TV} {f:FuncId} {xs:List TV}
  (b3:∀(E:Env) (ρ:Id->Option (Nat×Nat)) (a1:Nat->TV) (m':Id->Mem) (a:Act) (w:World),eV o t a1->Rel E ρ a1 m' a w->
   ∃a2:List Value,jW E m' ρ w a2 xs/\(Enters P f->(execOp a.eval o).run P w= .ok (.enter f a2.toArray) w))
  (h:fp P f xs (.n (o.dst.getD 0)) m K):∃z a3 a4,K z a3 a4/\aI P o t m z a3 a4:=by
 obtain⟨c,args,ms,r,l,fr,a5,I,b4⟩:=h.h;clear h;obtain⟨c9,a6⟩:=I.WK.at;obtain⟨d0,b5⟩:=oZ _ _ a5.Dd;have d1:c.length<=1000:=XI I.zq;have a7:=wO _ I.keys;generalize b6:(Id.n (o.dst.getD 0))=d at*;have Z:d∉c:=λb7=>(YA.1 a7).1 (XS.2 ⟨d,b7,rfl⟩);have a8:∀(i S:Nat) (b:Id),c[i]? =some b->c[S]? =some b->i=S:=by intro i S b g a0;have C:=(YA.1 a7).2;have a9:(c.map Id.key)[i]? =some b.key:=(by simp[g]);have b8:(c.map Id.key)[S]? =some b.key:=(by simp[a0]);exact(List.getElem?_inj (Ye.1 a9).1 C).1 (a9.trans b8.symm)
 have J:∀p,fE l fr p≠ .none->(∃(j:Nat) (a:Id) (x y:Mem),c[j]? =some a/\ms[j]? =some x/\l[j]? =some y/\p= .n (2000+j)/\fE l fr p=y/\jJ 2000 ms p=x/\pB c d p=a/\a∈c/\kd m (pB c d) (m a) x)\/(p= .n 3000/\fE l fr p=fr/\fr≠ .none/\pB c d p=d):=by intro p C;rcases w4 C with⟨rfl,C⟩|⟨j,y,g,rfl⟩;exact .inr ⟨rfl,oV _ _,C,rfl⟩;have M:=(Ye.1 g).1;have u:c[j]? =some (c[j]'(by omega)):=XY (by omega);have N:ms[j]? =some (ms[j]'(by omega)):=XY (by omega);exact .inl ⟨j,_,_,y,u,N,g,rfl,kt (by omega) g,ku ms 2000 j _ N,u0 (by omega) u,Zj u,a6 j _ _ u N⟩
 have b0:∀q∈IY (pB c d) (wx m c d l) d fr,q.1=d:=by intro q k;revert k;unfold IY;split;intro k;simp at k;intro k;simp at k;rw[k]
 refine⟨_,_,_,b4,DX (G:=wx m c d l) b3 (a5.Uh (by omega)) {mem:=?_,args:=I.args,inj:=?_,key:=?_,fresh:=?_,gen:=?_,He:=?_,AW:=?_}⟩;intro p C;obtain⟨j,x,g,rfl⟩:=gj ms 2000 p C;have M:=(Ye.1 g).1;have u:c[j]? =some (c[j]'(by omega)):=XY (by omega);rw[u0 (by omega) u,ku ms 2000 j x g];exact a6 j _ x u g
 ·intro A b9 g a0 e;rcases J A g with⟨j,a,x,y,O,Q,B,rfl,T,U,D,H,_⟩|⟨rfl,_,_,F⟩<;>rcases J b9 a0 with⟨c0,d2,d3,d4,c1,d5,d6,rfl,d7,d8,b1,c2,_⟩|⟨rfl,_,_,c3⟩
  ·rw[D,b1]at e;rw[a8 j c0 a O (e▸c1)]
  ·rw[D,c3]at e;exact absurd (e▸H) Z
  ·rw[F,b1]at e;exact absurd (e▸c2) Z
  ·rfl
 ·intro A g;rcases J A g with⟨j,a,x,y,O,Q,B,rfl,T,U,D,H,_⟩|⟨rfl,_,_,F⟩;rw[D];simp;exact .inr ⟨a,H,rfl⟩;rw[F];simp
 ·intro A V g;rcases J A g with⟨j,a,x,y,O,Q,B,rfl,T,U,D,H,X⟩|⟨rfl,_,B,F⟩;rw[U]at V;rw[V]at X;revert X;generalize m a=z;intro X;cases X;rw[F];exact⟨I.fresh B,.inr b6.symm⟩
 ·intro A V;obtain⟨j,x,g,rfl⟩:=gj ms 2000 A V;have M:=(Ye.1 g).1;have u:c[j]? =some (c[j]'(by omega)):=XY (by omega);have R:l[j]? =some (l[j]'(by omega)):=XY (by omega);have Y:Nat.beq (2000+j) 3000=false:=pX;rw[u0 (by omega) u,kt (by omega) R];simp only[wx,Y,ZG];rw[show 2000+j-2000=j by omega];have c4:l.getD j .none=l[j]'(by omega):=(by simp[List.getD,R]);have c5:c.getD j d=c[j]'(by omega):=(by simp[List.getD,u]);rw[c4,c5]
 ·intro m' A g;rcases J A g with⟨j,a,x,y,O,Q,B,rfl,T,U,D,H,_⟩|⟨rfl,Q,B,F⟩;rw[D,nE,dS _ _ _ (λq k e=>Z (by rw[<-b0 q k,e];exact H)),GK c l 2000 j a y m' a8 O B,T];rw[F,nE,Q];have:IY (pB c d) (wx m c d l) d fr=[(d,uC (pB c d) (wx m c d l) 0 fr)]:=(by cases fr<;>first|exact absurd rfl B|rfl);rw[this];exact aq _ _ _
 ·intro m' b Y;refine dS _ _ _ (λq k e=>?_);rcases XP.1 k with k|k;have c6:=e▸wv _ _ _ q k;obtain⟨j,M⟩:=ZZ c6;have d9:=(Ye.1 M).1;have R:l[j]? =some (l[j]'(by omega)):=XY (by omega);have N:ms[j]? =some (ms[j]'(by omega)):=XY (by omega);refine Y (.n (2000+j)) ?_ (u0 (by omega) M);rw[kt (by omega) R];rcases b5 j _ _ N R with h|⟨h,b2⟩;rw[h];simp;intro e;rw[e]at h;rw[<-h]at b2;simp[Mem.kind]at b2;have c7:=b0 q k;refine Y (.n 3000) ?_ (e▸c7.symm);rw[oV];intro c8;rw[c8]at k;simp[IY]at k
variable {E:Env}
theorem jW.append {b:List Value} {c f:List TV} (h:jW E m ρ w xs c) (g:jW E m ρ w b f):jW E m ρ w (xs++b) (c++f):=by
 induction h with
 |nil=>exact g
 |cons a _ i=>exact .cons a i
theorem jj {E:Env} {m':Id->Mem} {ρ:Id->Option (Nat×Nat)} {w:World} {o:Oper} {t b:Nat->TV} {a:Act} (c:eV o t b) (f:Rel E ρ b m' a w):∀(xs:List Operand),(∀x∈xs,x∈o.op.operands.toList)->jW E m' ρ w (xs.map a.eval) (xs.map (bE t))
 |[],_=> .nil
 |x::r,g=>by have h:=(az f x).1;rw[ao c (g x (by simp))]at h;exact .cons h (jj c f r (λy i=>g y (by simp[i])))
theorem yB {l:List DV} (h:dA (L E m ρ w) w xs l):jW E m ρ w xs (l.map .d):=by
 induction h with
 |nil=>exact .nil
 |cons a _ b=>exact .cons a b
theorem yC {l:List CR} (h:qF (L E m ρ w) m ρ w xs l):jW E m ρ w xs (l.map CR.tv):=by
 induction h with
 |nil=>exact .nil
 |@cons x c xs f a _ b=>refine .cons ?_ b;cases c<;>exact a
variable {fl:List Nat} {fo:Operand}
theorem B7 {o:Oper} {t:Nat->TV} {c:Call} (r:o.op= .call c) (u:c.callee= .value fo) {f n:Nat} {cap:Nat->SV} (Q:bE t fo= .d (.one (.fn f n cap)))
  (h:Ns P fl t m f c.args.toList n cap o.dst K):∃z H q,K z H q/\aI P o t m z H q:=by
 have R:fo∈o.op.operands.toList:=by rw[r];simp[Op.operands,Call.operands,u]
 have y:∀x∈c.args.toList,x∈o.op.operands.toList:=λx A=>by rw[r];simp[Op.operands,Call.operands,u];right;simpa using A
 have B:∀(E:Env) (ρ:Id->Option (Nat×Nat)) (g:Nat->TV) (m':Id->Mem) (a:Act) (w:World),eV o t g->Rel E ρ g m' a w->
   ∃xs:Nat->Value,dA (L E m' ρ w) w ((List.range n).map xs) (fG n cap)/\(execOp a.eval o).run P w=(callFunc f (c.args.toList.map a.eval++(List.range n).map xs).toArray).run P w:=by
  intro E ρ g m' a w i j;have I:=(az j fo).1;rw[ao i R,Q]at I;obtain⟨xs,S,T⟩:=Rd.jN (show Rd _ _ _ _ from I);exact⟨xs,py n cap xs T,s9 r u a w _ S⟩
 unfold Ns at h;cases J:dE fl (f+2000000)with
 |true=>rw[J]at h;refine xH (f:=f) (λE ρ g m' a w i j=>?_) h;obtain⟨xs,k,p⟩:=B E ρ g m' a w i j;exact⟨_,(jj i j _ y).append (yB k),λC=>p.trans (da C _ _)⟩
 |false=>
  rw[J]at h;cases M:dE fl (f+5000000)with
  |true=>rw[M]at h;obtain⟨l,U,q,V,h,N,O,D⟩:=rR (o:=o) c.args.toList y _ h;obtain⟨x,A,X,h⟩:=h.h;refine⟨_,_,_,h,aC λE ρ g m' a w Y i F j=>?_⟩;obtain⟨xs,k,p⟩:=B E ρ g m' a w i j;refine⟨x,?_,Rd.v A,λb h=>h.elim⟩;rw[p];exact X w _ _ ((D E ρ g m' a w i F j).append (k.mono (λb G=>⟨.inl G,rfl⟩)))
  |false=>rw[M]at h;obtain⟨l,U,q,V,h,N,O,D⟩:=rR (o:=o) c.args.toList y _ h;refine DY (l:=l++fG n cap) N O (λE ρ g m' a w i F j=>?_) h;obtain⟨xs,k,p⟩:=B E ρ g m' a w i j;exact⟨_,(D E ρ g m' a w i F j).append (k.mono (λb G=>⟨.inl G,rfl⟩)),λC=>p.trans (da C _ _)⟩
theorem Ao {o:Oper} {t:Nat->TV} {c:Call} (q:o.op= .call c) (D:c.callee= .value fo) {f:Nat} {B:List CR} (S:bE t fo= .cP f B)
  (h:FX P fl t m f c.args.toList B o.dst K):∃z M rd,K z M rd/\aI P o t m z M rd:=by
 have T:fo∈o.op.operands.toList:=by rw[q];simp[Op.operands,Call.operands,D]
 have N:∀x∈c.args.toList,x∈o.op.operands.toList:=λx U=>by rw[q];simp[Op.operands,Call.operands,D];right;simpa using U
 have C:∀(E:Env) (ρ:Id->Option (Nat×Nat)) (i:Nat->TV) (m':Id->Mem) (a:Act) (w:World),eV o t i->Rel E ρ i m' a w->
   ∃xs:List Value,qF (L E m' ρ w) m' ρ w xs B/\yw f xs (a.eval fo):=by
  intro E ρ i m' a w p j;have O:=(az j fo).1;rw[ao p T,S]at O;obtain⟨xs,u,V⟩:=O;exact⟨xs,V,u⟩
 unfold FX at h;cases F:Nat.blt f 10000000 with
 |false=>
  rw[F]at h;simp only[ZG]at h;cases G:c.args.toList with
  |cons y r=>rw[G]at h;exact h.elim
  |nil=>rw[G]at h;obtain⟨g,X,h⟩:=(show N4 _ _ _ _ _ _ from h).h;refine xH (f:=g) (λE ρ i m' a w p j=>?_) h;obtain⟨xs,A,u⟩:=C E ρ i m' a w p j;obtain⟨Y,Z,u⟩:=u.WN F;obtain rfl:g=Y:=Nat.add_right_cancel (X.symm.trans Z);refine⟨_,yC A,λH=>?_⟩;have a0:c.args=#[]:=(by rw[<-Ys (xs:=c.args),G]);rw[<-da H];simp only[execOp,q,resolve,D,u,Deferred.ofValue,Sem.run_bind,Sem.run_pure,Result.andThen_ok,invoke,a0];congr 2;apply aa1;simp
 |true=>
 rw[F]at h;simp only[ZD]at h;replace C:∀(E:Env) (ρ:Id->Option (Nat×Nat)) (i:Nat->TV) (m':Id->Mem) (a:Act) (w:World),eV o t i->Rel E ρ i m' a w->
   ∃xs:List Value,qF (L E m' ρ w) m' ρ w xs B/\(Enters P f->(execOp a.eval o).run P w= .ok (.enter f (c.args.toList.map a.eval++xs).toArray) w):=by
  intro E ρ i m' a w p j;obtain⟨xs,A,u⟩:=C E ρ i m' a w p j;exact⟨xs,A,λH=>qA q D H a w _ (u.inv F)⟩
 cases Q:dE fl (f+2000000)with
 |true=>rw[Q]at h;refine xH (f:=f) (λE ρ i m' a w p j=>?_) h;obtain⟨xs,A,I⟩:=C E ρ i m' a w p j;exact⟨_,(jj p j _ N).append (yC A),I⟩
 |false=>rw[Q]at h;obtain⟨l,a8,rd,a9,h,a1,a2,a3⟩:=rR (o:=o) c.args.toList N _ h;obtain⟨a4,a5,b0,h,a6⟩:=Bt B _ h;refine DY (l:=l++a4) (rd:=rd++a5) (λb a7=>XP.2 (.inl (a1 b a7))) a2 (λE ρ i m' a w p R j=>?_) h;obtain⟨xs,A,I⟩:=C E ρ i m' a w p j;refine⟨_,((a3 E ρ i m' a w p (R.sub (λk J=>XP.2 (.inl J))) j).sx (λo q=>q) (λe=>by rw[e];rfl)).append ((a6 E ρ m' w (R.sub (λk J=>XP.2 (.inr J))) j.toOwn xs A).sx (λo q=>by simp at q) (λe=>by rw[e];simp)),I⟩
theorem kA {t:Nat->TV}:∀(xs:List Operand) (K:List CR->Prop),iI t xs K->∃l,K l/\xs.map (bE t)=l.map CR.tv
 |[],K,h=>⟨[],h,rfl⟩
 |x::r,K,h=>by simp only[iI]at h;split at h;rename_i c a;obtain⟨l,f,g⟩:=kA r _ h;exact⟨_,f,by simp[g,a,CR.tv]⟩;rename_i b p a;obtain⟨l,f,g⟩:=kA r _ h;exact⟨_,f,by simp[g,a,CR.tv]⟩;exact h.elim
theorem FM {E:Env} {m:Id->Mem} {ρ:Id->Option (Nat×Nat)} {w:World}:∀{l:List CR} {f:List Value},jW E m ρ w f (l.map CR.tv)->qF (L E m ρ w) m ρ w f l
 |[],_,h=>by cases h;exact .nil
 |c::l,_,h=>by
  cases h with
  |cons a b=>refine .cons ?_ (FM b);cases c<;>exact a
theorem sj {o:Oper} {t:Nat->TV} {f:Nat} {first g:Array Operand} (j:o.op= .makeFunc (.func f) first g) (B:first.toList=[]) (C:Nat.blt f 10000000=true) {rd:List Nat} {K:List CR->Prop}
  (h:iI t g.toList K):∃l,K l/\aI P o t m (.cP f l) [] rd:=by
 have k:first=#[]:=by rw[<-Ys (xs:=first),B]
 have q:∀x∈g.toList,x∈o.op.operands.toList:=λx i=>by rw[j];simp[Op.operands,k];simpa using i
 obtain⟨l,h,r⟩:=kA _ _ h;refine⟨l,h,aC λE ρ I m' a w J u M y=>?_⟩;refine⟨.func (.func f) #[] (g.toList.map a.eval).toArray,?_,⟨g.toList.map a.eval,yw.plain C,?_⟩,?_⟩;simp[execOp,j,Instr.makeFunc,k];apply aa1;simp;have z:=jj u y g.toList q;rw[r]at z;exact FM z
 ·rintro b ⟨c,D,A⟩;cases c with
  |s c=>exact A.elim
  |ptr F p=>have G:CR.tv (.ptr F p)∈g.toList.map (bE t):=(by rw[r];exact XS.2 ⟨_,D,rfl⟩);obtain⟨x,i,H⟩:=XS.1 G;have:=(az y x).2 b;rw[ao u (q x i),H]at this;exact this A
theorem sk {o:Oper} {t:Nat->TV} {f:Nat} {first g:Array Operand} (j:o.op= .makeFunc (.func f) first g) (B:g.toList=[]) {rd:List Nat} {K:List CR->Prop}
  (h:iI t first.toList K):∃l,K l/\aI P o t m (.cP (f+10000000) l) [] rd:=by
 have k:g=#[]:=by rw[<-Ys (xs:=g),B]
 have q:∀x∈first.toList,x∈o.op.operands.toList:=λx i=>by rw[j];simp[Op.operands,k];simpa using i
 obtain⟨l,h,r⟩:=kA _ _ h;refine⟨l,h,aC λE ρ H m' a w I u J y=>?_⟩;refine⟨.func (.func f) (first.toList.map a.eval).toArray #[],?_,⟨first.toList.map a.eval,yw.bound f rfl,?_⟩,?_⟩;simp[execOp,j,Instr.makeFunc,k];apply aa1;simp;have z:=jj u y first.toList q;rw[r]at z;exact FM z
 ·rintro b ⟨c,C,A⟩;cases c with
  |s c=>exact A.elim
  |ptr D p=>have F:CR.tv (.ptr D p)∈first.toList.map (bE t):=(by rw[r];exact XS.2 ⟨_,C,rfl⟩);obtain⟨x,i,G⟩:=XS.1 F;have:=(az y x).2 b;rw[ao u (q x i),G]at this;exact this A
variable {E:Env} {m:Id->Mem} {g k:Nat} {e:TypeId}
theorem dO.WI {o:Id} {n:Nat} {get:Nat->Nat->CV} (h:m o= .bm g n k e get):dO E m o (g+2):=⟨by omega,.inr ⟨g,n,k,by rw[h];rfl,by omega⟩⟩
variable {ρ:Id->Option (Nat×Nat)} {a:Act} {w w':World}
theorem Rel.G8 {t:Nat->TV} (h:Rel E ρ t m a w) {o:Id} {n:Nat} {get:Nat->Nat->CV} {nr:Option (Nat×Nat)} (z:dO E m o g)
  (F:Bx E.w0.heap.size E.X w w')
  (G:∀b,L E m ρ w b->L E (bj m o (.bm g n k e get)) (bj ρ o nr) w' b/\w'.heap[b]? =w.heap[b]?)
  (H:∀f b c,f≠o->(m f).live->ρ f=some (b,c)->w'.heap[b]? =w.heap[b]?)
  (I:∀b c,nr=some (b,c)->((E.X b\/E.w0.heap.size<=b)/\b<w'.heap.size)/\∀f J,f≠o->(m f).live->ρ f≠some (b,J))
  (K:∀f,(Mem.bm g n k e get).refs f->m f≠ .none)
  (M:(∀f,m f≠ .none->Carry m (bj m o (.bm g n k e get)) ρ (bj ρ o nr) f)->iL E (bj m o (.bm g n k e get)) (bj ρ o nr) w' o (.bm g n k e get)):Rel E (bj ρ o nr) t (bj m o (.bm g n k e get)) a w':=by
 have A:(bj m o (.bm g n k e get) o).bF=some (g,n,k):=by rw[aq];rfl
 have B:m o≠ .none->∃p r u,(m o).bF=some (p,r,u)/\p<g:=λj=>z.h.resolve_left (λh=>j h.1);have D:∀f,m f≠ .none->Carry m (bj m o (.bm g n k e get)) ρ (bj ρ o nr) f:=λf j=>by by_cases C:f=o;subst C;obtain⟨p,r,u,l,y⟩:=B j;exact kq l A y;exact Carry.same (aw _ _ _ C) (aw _ _ _ C)
 refine h.one o _ nr F G H (λ_=>I) (by simp) (λf N=> .inr (K f N)) (λe=>?_) (λe=>absurd e z.one) (M D) (λj=>D o j) (λx q i O j=>?_) (λx q P c j=>?_);rcases z.h with l|⟨p,r,u,l,_⟩;exact l.2;exact absurd e (cM l).2;obtain⟨p,r,u,l,y⟩:=B j;exact wT l A y x q i O;obtain⟨p,r,u,l,y⟩:=B j;exact sR l A y x q P c
theorem Rel.G9 {t:Nat->TV} (h:Rel E ρ t m a w) (o:Id) (g n k cap:Nat) (e:TypeId) (get:Nat->Nat->CV) (arr:Array Value)
  (q:Below w.heap.size w w') (u:w.heap.size<w'.heap.size) (B:w'.heap[w.heap.size]? =some (.cells arr e (0,0))) (C:arr.size=cap*k) (D:n<=cap) (F:cap<=maxLen)
  (y:∀f,(Mem.bm g n k e get).refs f->m f≠ .none)
  (G:∀i,i<n->∀j,j<k->∃x,arr[i*k+j]? =some x/\kR (L E m ρ w) m ρ w x (get i j)) (H:dO E m o g):
  Rel E (bj ρ o (some (w.heap.size,cap))) t (bj m o (.bm g n k e get)) a w'/\dj E (bj m o (.bm g n k e get)) (bj ρ o (some (w.heap.size,cap))) w' (.slice (some ⟨w.heap.size,0,none⟩) n cap) (.aJ o g):=by
 have z:=Rr h o (.bm g n k e get) cap q u;refine⟨h.G8 H (Bx.of q h.below.size) z ?_ ?_ y (λI=>?_),?_⟩;intro f b c _ l r;exact q.block b (h.lo f b c l r).2;intro b c p;simp only[Ze,Zx]at p;obtain⟨rfl,rfl⟩:=p;exact⟨⟨.inr h.below.size,u⟩,λf J _ l r=>absurd (h.lo f _ J l r).2 (ZO _)⟩;refine .inr ⟨w.heap.size,cap,arr,aq _ _ _,B,C,D,F,λi hi j A=>?_⟩;obtain⟨x,K,p⟩:=G i hi j A;exact⟨x,K,p.mono z (λf M=>I f (y f ⟨i,j,hi,A,M⟩))⟩;simp only[dj,bB,cu,aq];exact⟨rfl,XU _,λ_=>trivial⟩
theorem Rel.OF {t:Nat->TV} (h:Rel E ρ t m a w) (o:Id) (l:(m o).live) (g n k b cap:Nat) (p:ρ o=some (b,cap)) (e:TypeId) (get:Nat->Nat->CV) (JY arr:Array Value)
  (z:w.heap[b]? =some (.cells JY e (0,0))) (A:arr.size=cap*k) (B:n<=cap) (C:cap<=maxLen)
  (r:∀c,(Mem.bm g n k e get).refs c->m c≠ .none)
  (D:∀i,i<n->∀j,j<k->∃x,arr[i*k+j]? =some x/\kR (L E m ρ w) m ρ w x (get i j)) (F:dO E m o g):
  Rel E (bj ρ o (some (b,cap))) t (bj m o (.bm g n k e get)) a (w.setRow b arr)/\dj E (bj m o (.bm g n k e get)) (bj ρ o (some (b,cap))) (w.setRow b arr) (.slice (some ⟨b,0,none⟩) n cap) (.aJ o g):=by
 obtain⟨G,u,H⟩:=BO h l p (.bm g n k e get) arr;refine⟨h.G8 F G u H ?_ r (λI=>?_),?_⟩;intro Q R f;simp only[Ze,Zx]at f;obtain⟨rfl,rfl⟩:=f;obtain⟨J,K⟩:=h.lo o b cap l p;exact⟨⟨J,by simpa using K⟩,λc M q N O=>q (h.inj c o b M cap N l O p)⟩;refine .inr ⟨b,cap,arr,aq _ _ _,setRow_heap w b _ _ e _ z,A,B,C,λi hi j y=>?_⟩;obtain⟨x,P,f⟩:=D i hi j y;exact⟨x,P,f.mono u (λc q=>I c (r c ⟨i,j,hi,y,q⟩))⟩;simp only[dj,bB,cu,aq];exact⟨rfl,XU _,λ_=>trivial⟩
theorem UM (z v:Value):Array.foldl (λ(a:Array Value) (x:Value×Nat)=>a.setIfInBounds x.snd x.fst) #[z] (#[v].zipIdx) 0 1=#[v]:=rfl
variable {P:Program} {ty:TypeId}
theorem x6 {o:Oper} {t:Nat->TV} {TT:iw} (f:cG P TT) {c:Array (Nat×Operand)} {len:Nat} (r:o.op= .buildSlice ty len c) {K:fa} (h:FY TT ty len c.toList t m o.dst K):
  ∃z u y,K z u y/\aI P o t m z u y:=by
 unfold FY at h;split at h
 ·rename_i T d I J;split at h
  ·rename_i e M;split at h
   ·rename_i A B;split at h
    ·rename_i x N O;split at h
     ·rename_i b g Q;replace h:=aM h;obtain⟨k,h⟩:=h;simp only[XJ]at k;obtain rfl:=XE k.1;have C:=XE k.2;have R:=f ty T I;have S:P.underlying ty=some (.slice e):=(by have:=R.kind;rw[M]at this;exact this);have D:c=#[(0,x)]:=(by rw[<-Ys (xs:=c),N]);refine⟨_,_,_,h,?_⟩;refine bS λE ρ b1 F a w b2 U V X l=>?_;have Y:F (.n d)= .none:=(by rw[V.at (.n d) (by simp[Id.key])];exact O);have Z:x∈o.op.operands.toList:=(by rw[r];simp[Op.operands,D]);have p:=(az l x).1;have G:=(az l x).2;rw[ao U Z,Q]at p G;obtain⟨b3,H,a0,b4,b5,a1,a2,a3⟩:=ik (f e A B) (L E F ρ w) w;have b6:=a3.length;have a4:H.cells.size=1:=(by rw[a2,C]);have a5:(a.eval x).oneCell'=true:=p.1;obtain⟨a6,a7⟩:=l.G9 (.n d) 0 1 1 1 e (λ_ _=> .aJ b g) #[a.eval x] (ec w (.cells #[a.eval x] e)) (by simp) (bV w _) (by simp) (XU _) (by simp[maxLen])
       (λa8 q=>by obtain⟨_,_,_,_,q⟩:=q;exact G a8 q)
       (λi b7 j b8=>by obtain rfl:i=0:=(by omega);obtain rfl:j=0:=(by omega);exact⟨_,rfl,p⟩) (dO.fresh Y (X d J))
      refine⟨_,_,_,_,?_,.inl rfl,a6,a7,λb9 a9=>by cases a9;rw[aq];simp⟩;simp[execOp,r,D,Instr.buildSlice,run_underlying S,bQ (f e A B),C,zeroValue,typeInfo,a0,a1,a4,newRow,Instr.fill];rw[cells_one a5];simp[UM];have b0:Array.range 1=#[0]:=rfl;rw[b0,show(Array.map (λx=>H.cells[x%1]!) #[0]).setIfInBounds 0 (a.eval x)=#[a.eval x] by simp[Array.setIfInBounds]]
     ·exact h.elim
    ·exact h.elim
   ·exact h.elim
  ·exact h.elim
 ·exact h.elim
theorem vZ {o:Oper} {t:Nat->TV} {TT:iw} (e1:cG P TT) {T:Ty} (g0:TT ty=some T) {e:Nat} (g1:T.kind= .jz e) {f:Ty} (g2:TT e=some f) {s x:Operand} {d:Nat} (j4:o.dst=some d)
  {c:Call} (b7:o.op= .call c) (b8:c.callee= .builtin .append) (g3:c.args.toList=[s,x]) (g4:c.argTypes.toList=[ty,ty]) {K:fa} (h:vy f e m (bE t s) (bE t x) K):
  ∃z e2 e3,K z e2 e3/\aI P o t m z e2 e3:=by
 have b9:c.args=#[s,x]:=by rw[<-Ys (xs:=c.args),g3]
 have g5:c.argTypes=#[ty,ty]:=by rw[<-Ys (xs:=c.argTypes),g4]
 have g6:s∈o.op.operands.toList:=by rw[b7];simp[Op.operands,Call.operands,b8,b9]
 have a6:x∈o.op.operands.toList:=by rw[b7];simp[Op.operands,Call.operands,b8,b9]
 have g7:=e1 ty T g0;have c0:P.underlying ty=some (.slice e):=by have:=g7.kind;rw[g1]at this;exact this
 have e4:=e1 e f g2;obtain⟨c1,a7,a8,M,e5,c2,_⟩:=e4.info;have e6:=yO e4 a8 c2;have c3:∀(a:Act) (w:World) (u v r:Value) (w':World),a.eval s=u->a.eval x=v->(Builtin.append_ #[ty,ty] o.type #[u,v]).run P w= .ok r w'->(execOp a.eval o).run P w= .ok (.value r) w':=by intro a w u v r w' g8 X C;simp[execOp,b7,resolve,invoke,b8,b9,g5,builtin,g8,X,C]
 unfold vy at h;split at h
 ·rename_i b g a9 g9 h0 h1;replace h:=bk h;split at h
  ·rename_i j5 n k p get h2;replace h:=bk h;split at h
   ·rename_i j6 l j7 h3 N h4;replace h:=aM h;obtain⟨e7,h⟩:=h;simp only[XJ]at e7;obtain⟨⟨O,a3⟩,⟨c4,b0⟩,h5,h6⟩:=e7;obtain rfl:=XE O;obtain rfl:=XE a3;obtain rfl:=XE c4;obtain rfl:=XE b0;obtain rfl:=XE h5;have h7:0<l:=bR h6;obtain⟨⟨e8,c5⟩,h⟩:=h;refine⟨_,_,_,h,bS λE ρ h8 G a w j8 e9 f0 j9 Q=>?_⟩;have V:G b= .bm g n f.size p get:=(by rw[f0 b (by simp)];exact h2);have c6:G a9= .bm g9 l f.size h3 N:=(by rw[f0 a9 (by simp)];exact h4);have c7:=(az Q s).1;rw[ao e9 g6,h0]at c7;simp only[dj,bB,cu,V]at c7;have a4:=c7.2.2 trivial;have c8:=(az Q x).1;rw[ao e9 a6,h1]at c8;simp only[dj,bB,cu,c6]at c8;have b1:=c8.2.2 trivial;have f1:dO E G b (g+2):= .WI V;have c9:∀d0,(TV.aJ b (g+2)).refs d0->bj G b (.bm (g+2) (n+l) f.size p λi j=>bif Nat.blt i n then get i j else N (i-n) j) d0≠ .none:=λd0 V=>by cases V;rw[aq];simp
    have f2:∀Y,(Mem.bm (g+2) (n+l) f.size p λi j=>bif Nat.blt i n then get i j else N (i-n) j).refs Y->G Y≠ .none:=by
     rintro Y ⟨i,j,H,A,C⟩;replace C:(bif Nat.blt i n then get i j else N (i-n) j).refs Y:=C;cases F:Nat.blt i n with
     |true=>rw[F]at C;exact Q.cleanM b Y (by rw[V];exact⟨i,j,bR F,A,C⟩)
     |false=>
      rw[F]at C;have k0:¬i<n:=λq=>by rw[hp q]at F;cases F
      exact Q.cleanM a9 Y (by rw[c6];exact⟨i-n,j,by omega,A,C⟩)
    have a6:=Q.mem a9;rw[c6]at a6;rcases a6 with⟨_,k1⟩|⟨b2,d1,b3,h9,i0,k2,k3,k4,f3⟩;omega;rw[h9]at b1;have i1:∀i,i<l->∀j,j<f.size->w.cell? ((⟨b2,0,none⟩:Addr).add (i*f.size+j))=some ((b3[i*f.size+j]?).getD Go.undef):=λi H j A=>by obtain⟨y,D,_⟩:=f3 i H j A;rw[ey];simp[World.cell?,i0,D]
    have d2:∀i,i<l->∀j,j<f.size->kR (L E G ρ w) G ρ w ((b3[i*f.size+j]?).getD Go.undef) (N i j):=λi H j A=>by obtain⟨y,D,C⟩:=f3 i H j A;simp only[D,Yt];exact C
    obtain⟨I,O,a3,c4,b0⟩:=nu (S:=λ_=>True) (get:=λi j=> .v ((b3[i*f.size+j]?).getD Go.undef)) i1 (λi H j A=>Rd.v (d2 i H j A).bG);have f4:∀(Z:Nat) (B:List Value) (a5:Array Value),
      B.length=n*f.size->a5.size=(Z-(n+l))*f.size->n+l<=Z->Z<=maxLen->
      (∀i,i<n->∀j,j<f.size->∃y,B[i*f.size+j]? =some y/\kR (L E G ρ w) G ρ w y (get i j))->
      ∃b4,Rel E b4 h8 (bj G b (.bm (g+2) (n+l) f.size p λi j=>bif Nat.blt i n then get i j else N (i-n) j)) a (w.drew.alloc (.cells (B.toArray++I.toArray++a5) p))/\
       dj E (bj G b (.bm (g+2) (n+l) f.size p λi j=>bif Nat.blt i n then get i j else N (i-n) j)) b4 (w.drew.alloc (.cells (B.toArray++I.toArray++a5) p)) (.slice (some ⟨w.heap.size,0,none⟩) (n+l) Z) (.aJ b (g+2)):=by
     intro Z B a5 i2 i3 i4 i5 i6;refine⟨_,Q.G9 b (g+2) (n+l) f.size Z p _ (B.toArray++I.toArray++a5) (ih w _) (by simp) (bV w.drew _) ?_ i4 i5 f2 ?_ f1⟩;simp only[abI,ZR,i2,O,i3,<-Yq];congr 1;omega;intro i H j A;by_cases F:i<n;obtain⟨y,D,C⟩:=i6 i F j A;refine⟨y,?_,?_⟩;have R:i*f.size+j<B.length:=(by rcases aam (i*f.size+j) B.length with h|h;exact h;rw[YU h]at D;simp at D);rw[YV,XL (by simp;omega),YV,XL (by simpa using R)];simpa using D;show kR _ _ _ _ y (bif _ then _ else _);rw[hp F];exact C;have D:=b0 (i-n) (by omega) j A;refine⟨(b3[(i-n)*f.size+j]?).getD Go.undef,?_,?_⟩;have R:(i-n)*f.size+j<I.length:=(by rcases aam ((i-n)*f.size+j) I.length with h|h;exact h;rw[YU h]at D;simp at D);have d3:i*f.size+j-B.length=(i-n)*f.size+j:=(by have:i*f.size=n*f.size+(i-n)*f.size:=(by rw[<-Yq];congr 1;omega);omega);have d4:¬i*f.size+j<B.length:=(by have:n*f.size<=i*f.size:=XX _ (by omega);omega);rw[YV,XL (by simp;omega),YV,XG (by simpa using d4)];simp only[ZR,YO,d3];exact D;show kR _ _ _ _ _ (bif _ then _ else _);rw[ht F];exact d2 (i-n) (by omega) j A
    have f5:=Q.mem b;rw[V]at f5;rcases f5 with⟨b5,i7⟩|⟨b6,U,J,b5,d5,f6,i8,d6,f7⟩;rw[b5]at a4;subst i7;have d7:(l:Int)<=9223372036854775807:=(by simp only[maxLen]at c5;omega);have a0:=run_append_nil (P:=P) w ty o.type p c1 a7 c0 a8 c2 ⟨b2,0,none⟩ l d1 I (by rw[M];exact O) a3 h7 d7 (by rw[e5];rw[Ya]at e8;omega);have f8:=grownCap_ge w l 0 p;have d6:=grownCap_le_maxLen w l 0 p (by omega);obtain⟨b4,a1,a2⟩:=f4 (grownCap w l 0 p) [] (Builtin.zeroCells a7.cells (grownCap w l 0 p-l)) (by simp) (by rw[cZ,e6,M,Ya]) (by omega) d6 (λi H=>absurd H (XO i));simp only[abC]at a1 a2;refine⟨_,_,_,_,c3 a w _ _ _ _ a4 b1 a0,.inl rfl,a1,?_,c9⟩;have:=a2;rw[Ya]at this|-;exact this
    ·rw[b5]at a4;by_cases d8:n+l<=U
     ·have i9:n*f.size+I.length<=J.size:=(by rw[O,f6,<-Yq];exact XX _ d8);have a0:=run_append_room (P:=P) w ty o.type p c1 c0 a8 b6 n U J d5 ⟨b2,0,none⟩ l d1 I (by rw[M];exact O) a3 c4 d8 (by rw[M];exact i9);rw[M]at a0;obtain⟨a1,a2⟩:=Q.OF b (pU V) (g+2) (n+l) f.size b6 U b5 p (λi j=>bif Nat.blt i n then get i j else N (i-n) j) J (J.toList.take (n*f.size)++I++J.toList.drop (n*f.size+I.length)).toArray d5
       (by simp;omega) d8 d6 f2 (λi H j A=>by
        by_cases F:i<n;obtain⟨y,D,C⟩:=f7 i F j A;refine⟨y,?_,by rw[hp F];exact C⟩;have R:i*f.size+j<n*f.size:=(by have:(i+1)*f.size<=n*f.size:=XX _ F;rw[Yq]at this;omega);have d9:min (n*f.size) J.size=n*f.size:=(by omega);simp only[YO,Yk,Yl,Yj,Za,d9,XL R,Y3];simpa using D
        ·have e0:i-n<l:=(by omega);refine⟨_,?_,by rw[ht F];exact d2 (i-n) e0 j A⟩;have d4:¬i*f.size+j<n*f.size:=(by have:n*f.size<=i*f.size:=XX _ (by omega);omega);have d3:i*f.size+j-n*f.size=(i-n)*f.size+j:=(by have:i*f.size=n*f.size+(i-n)*f.size:=(by rw[<-Yq];congr 1;omega);omega);have R:(i-n)*f.size+j<I.length:=(by rw[O];have:(i-n+1)*f.size<=l*f.size:=XX _ e0;rw[Yq]at this;omega);have d9:min (n*f.size) J.size=n*f.size:=(by omega);simp only[YO,Yk,Yl,Yj,Za,d9,XG d4,d3,XL R];exact b0 (i-n) e0 j A) f1
      exact⟨_,_,_,_,c3 a w _ _ _ _ a4 b1 a0,.inl rfl,a1,a2,c9⟩
     ·have d7:((n+l:Nat):Int)<=9223372036854775807:=(by simp only[maxLen]at c5;omega);have j0:∃B:List Value,B.length=n*f.size/\(∀j v,B[j]? =some v->w.cell? ((⟨b6,0,none⟩:Addr).add j)=some v)/\∀i,i<n->∀j,j<f.size->∃y,B[i*f.size+j]? =some y/\kR (L E G ρ w) G ρ w y (get i j):=(by have k5:n*f.size<=J.size:=(by rw[f6];exact XX _ i8);refine⟨J.toList.take (n*f.size),by simp;omega,λj v X=>?_,λi H j A=>?_⟩;rw[Y3]at X;split at X;rw[ey];have:J[j]? =some v:=(by simpa using X);simp[World.cell?,d5,this];simp at X;obtain⟨y,D,C⟩:=f7 i H j A;refine⟨y,?_,C⟩;have R:i*f.size+j<n*f.size:=(by have:(i+1)*f.size<=n*f.size:=XX _ H;rw[Yq]at this;omega);rw[Y3,XL R];simpa using D);obtain⟨B,f9,j1,j2⟩:=j0;have a0:=run_append_grow (P:=P) w ty o.type p c1 a7 c0 a8 c2 ⟨b6,0,none⟩ n U B (by rw[M];exact f9) j1 ⟨b2,0,none⟩ l d1 I (by rw[M];exact O) a3 (by omega) d7 (by rw[e5];exact growslice_fits (by omega) e8);have f8:=grownCap_ge w (n+l) U p;have j3:=grownCap_le_maxLen w (n+l) U p c5;obtain⟨b4,a1,a2⟩:=f4 (grownCap w (n+l) U p) B (Builtin.zeroCells a7.cells (grownCap w (n+l) U p-(n+l))) f9 (by rw[cZ,e6,M]) f8 j3 j2;exact⟨_,_,_,_,c3 a w _ _ _ _ a4 b1 a0,.inl rfl,a1,a2,c9⟩
   ·exact h.elim
  ·exact h.elim
 ·exact h.elim
variable {P:Program} {m:Id->Mem} {ty:TypeId} {T TE:Ty} {e:Nat} {x:Operand}
theorem si {o:Oper} {t:Nat->TV} {TT:iw} (l:cG P TT) (F:TT ty=some T) (G:T.kind= .jz e) (H:TT e=some TE) {y:Operand} (g:o.op= .makeSlice ty x y) {d:Nat} (I:o.dst=some d) (J:m (.n d)= .none)
  {p q:IntKind} {n c:Int} (K:bE t x= .d (.one (.v (.int p n)))) (M:bE t y= .d (.one (.v (.int q c)))) (N:0<=n/\n<=c/\(TE.bytes:Int)*c<=281474976710656/\c<=9223372036854775807):
  aI P o t m (.aJ d 0) [(.n d,.aL 0 n.toNat TE.size e λ_ j=>TE.zero.getD j (.v Go.undef))] [d]:=by
 have O:=l ty T F;have Q:P.underlying ty=some (.slice e):=by have:=O.kind;rw[G]at this;exact this
 refine bS λE R b6 r a w b7 u S U h=>?_;have V:r (.n d)= .none:=by rw[S.at (.n d) (by simp[Id.key])];exact J
 have z:=(az h x).1;have A:=(az h y).1;rw[ao u (by rw[g];simp[Op.operands]),K]at z;rw[ao u (by rw[g];simp[Op.operands]),M]at A;have X:=(Rd.bT (show Rd _ _ _ _ from z)).1;have Y:=(Rd.bT (show Rd _ _ _ _ from A)).1;obtain⟨k,b,Z,B,a0,a1,f,C⟩:=ik (l e TE H) (L E r R w) w;obtain⟨a2,a3,a4,a5⟩:=N;have a6:=run_make (P:=P) w ty e k b Q Z a1 p q n c a2 a3 (by rw[a0];exact a4) a5;have a7:=C.length;simp only[Za]at a7;obtain⟨a8,a9⟩:=h.wU (.n d) 0 n.toNat TE.size c.toNat e (λ_ j=>TE.zero.getD j (.v Go.undef)) (madeCells b.cells (c.toNat*k.size)) (ec w _) (by simp) (bV w _) (by rw[size_madeCells,B]) (by omega) (by simp only[maxLen];omega)
  (λi b8 j b0=>by have D:0<b.cells.size:=(by omega);have b1:i*TE.size+j<c.toNat*TE.size:=(by have:(i+1)*TE.size<=c.toNat*TE.size:=XX _ (by omega);rw[Yq]at this;omega);obtain⟨y,b2,b3⟩:=C.dp j (by omega);refine⟨y,?_,b3⟩;have b4:=kv b.cells c.toNat D;rw[show madeCells b.cells (c.toNat*k.size)=(dD c.toNat b.cells.toList).toArray by rw[<-b4,f,B];simp only[madeCells,f]];simp only[YO];rw[fQ _ (by simpa using D) _ _ (by simp only[Za,f];exact b1)];simp only[Za,f];rw[show(i*TE.size+j)%TE.size=j by rw[ZP,aaQ,X5 b0]];exact b2) (dO.fresh V (U d I))
 refine⟨_,_,_,_,?_,.inl rfl,a8,a9,λb9 b5=>by cases b5;rw[aq];simp⟩;simp[execOp,g,X,Y,a6]
theorem qP {o:Oper} {t:Nat->TV} {TT:iw} (c:cG P TT) (f:TT ty=some T) (g:T.kind= .jz e) (h:TT e=some TE) {b:Array (Nat×Operand)} (j:o.op= .buildSlice ty 0 b) {d:Nat} (k:o.dst=some d) (l:m (.n d)= .none)
  (p:b.toList=[]):aI P o t m (.aJ d 0) [(.n d,.aL 0 0 TE.size e λ_ _=> .v Go.undef)] [d]:=by
 have q:=c ty T f;have r:P.underlying ty=some (.slice e):=by have:=q.kind;rw[g]at this;exact this
 have u:b=#[]:=by rw[<-Ys (xs:=b),p]
 refine bS λE I J x a w K M y z A=>?_;have B:x (.n d)= .none:=by rw[y.at (.n d) (by simp[Id.key])];exact l
 obtain⟨C,D⟩:=A.wU (.n d) 0 0 TE.size 0 e (λ_ _=> .v Go.undef) #[] (ec w (.cells #[] e)) (by simp) (bV w _) (by simp) (by omega) (by simp[maxLen]) (λi F=>absurd F (XO i)) (dO.fresh B (z d k));refine⟨_,_,_,_,?_,.inl rfl,C,D,λN G=>by cases G;rw[aq];simp⟩;simp[execOp,j,u,Instr.buildSlice,run_underlying r,bQ (c e TE h),Instr.fill,newRow];have H:Array.range 0=#[]:=by apply aa1;simp
 rw[H,Array.map_empty]
theorem uu {o:Oper} {t:Nat->TV} {TT:iw} (f:cG P TT) (H:TT ty=some T) {e:TypeId} (I:T.kind= .jz e) (l:TT e=some TE) {c:Array (Nat×Operand)} {len:Nat} (q:o.op= .buildSlice ty len c) {d:Nat} (J:o.dst=some d) (M:m (.n d)= .none) {K:List SV->Prop}
  (b3:len*TE.size<=65536) (r:0<TE.size) (N:0<len) (O:gi t (λ_=>some TE.size) c.toList=true) (h:oe t (λi=>some (i*TE.size)) (gU len TE.zero) c.toList K):
  ∃b,K b/\aI P o t m (.aJ d 0) [(.n d,.aL 0 len TE.size e λi j=>b.getD (i*TE.size+j) (.v Go.undef))] [d]:=by
 have Q:=f ty T H;have R:P.underlying ty=some (.slice e):=by have:=Q.kind;rw[I]at this;exact this
 obtain⟨b,hK,S,U⟩:=rF (t:=t) (λi=>some (i*TE.size,TE.size)) c.toList (gU len TE.zero) K O h;refine⟨b,hK,?_⟩;refine bS λE u b4 g a w b5 V X Y y=>?_;have Z:g (.n d)= .none:=by rw[X.at (.n d) (by simp[Id.key])];exact M
 obtain⟨b6,z,a0,b7,b8,a1,k,A⟩:=ik (f e TE l) (L E g u w) w;have B:=A.length;simp at B;rw[jL,<-B,k]at S;obtain⟨C,a2,D⟩:=U E g u w a (dD len z.cells.toList) (λp a3=>by have F:=(az y p.2).1;rw[ao V (oP (by rw[q];rfl) p a3)]at F;exact F) (mQ A len);have G:=kv z.cells len;rw[k]at G;have a4:len*TE.size≠0:=Nat.ne_of_gt (Nat.mul_pos N r);have a5:(execOp a.eval o).run P w= .ok (.value (.slice (some ⟨w.heap.size,0,none⟩) len len)) (w.alloc (.cells C.toArray e)):=by have a6:¬(16777216<len*TE.size):=(by omega);simp[execOp,q,Instr.buildSlice,run_underlying R,bQ (f e TE l),a6,zeroValue,typeInfo,a0,a1,k,newRow];rw[XG a4,G,a2];simp
 have b9:=D.length;obtain⟨a7,a8⟩:=y.wU (.n d) 0 len TE.size len e (λi j=>b.getD (i*TE.size+j) (.v Go.undef)) C.toArray (ec w _) (by simp) (bV w _) (by simp;omega) (XU _)
  (by have:len<=len*TE.size:=Nat.le_mul_of_pos_right _ r;simp only[maxLen];omega)
  (λi a9 j c0=>by have:(i+1)*TE.size<=len*TE.size:=XX _ a9;rw[Yq]at this;obtain⟨x,b0,b1⟩:=D.dp (i*TE.size+j) (by omega);exact⟨x,by simpa using b0,b1⟩) (dO.fresh Z (Y d J))
 exact⟨_,_,_,_,a5,.inl rfl,a7,a8,λc1 b2=>by cases b2;rw[aq];simp⟩
variable {c:Call}
theorem ED {o:Oper} {t:Nat->TV} {TT:iw} (G:cG P TT) (H:TT ty=some T) (i:o.op= .call c) (j:c.callee= .builtin .len) (I:c.args.toList=[x]) (J:c.argTypes.toList=[ty]):
  (∀e (K:fa),T.kind= .jz e->w7 m (bE t x) (λn b=>K (au n) [] b)->∃z k b,K z k b/\aI P o t m z k b)/\
  (∀n e,T.kind= .arr n e->aI P o t m (au n) [] []):=by
 have l:c.args=#[x]:=by rw[<-Ys (xs:=c.args),I]
 have M:c.argTypes=#[ty]:=by rw[<-Ys (xs:=c.argTypes),J]
 have N:x∈o.op.operands.toList:=by rw[i];simp[Op.operands,Call.operands,j,l]
 have p:=G ty T H;have q:∀(a:Act) (w:World) (u:Value) (r:Value),a.eval x=u->(Builtin.len_ #[ty] o.type #[u]).run P w= .ok r w->(execOp a.eval o).run P w= .ok (.value r) w:=by intro a w u r O Q;simp[execOp,i,resolve,invoke,j,l,M,builtin,O,Q]
 refine⟨λe K f h=>?_,λn e f=>?_⟩;obtain⟨n,b,h,R⟩:=A6 N h;refine⟨_,_,_,h,aC λE y A B a w S C D F=>?_⟩;obtain⟨V,X,U,_,_⟩:=R E y A B a w C D F;have g:P.underlying ty=some (.slice e):=(by have:=p.kind;rw[f]at this;exact this);exact⟨_,q a w _ (.int .i64 n) U (by simp[Builtin.len_,run_underlying g,goInt]),Rd.v rfl,λ_ h=>h.elim⟩;have g:P.underlying ty=some (.array n e):=(by have:=p.kind;rw[f]at this;exact this);refine aC λE y A B a w S C D F=>?_;exact⟨_,q a w _ (.int .i64 n) rfl (by simp[Builtin.len_,run_underlying g,goInt]),Rd.v rfl,λ_ h=>h.elim⟩
theorem x5 {o:Oper} {t:Nat->TV} {TT:iw} (j:cG P TT) (k:TT ty=some T) (l:T.kind= .jz e) (b:o.op= .call c) (f:c.callee= .builtin .cap) (p:c.args.toList=[x]) (q:c.argTypes.toList=[ty])
  (r:bE t x= .d (.one (.v (.slice none 0 0)))):aI P o t m (au 0) [] []:=by
 have g:c.args=#[x]:=by rw[<-Ys (xs:=c.args),p]
 have u:c.argTypes=#[ty]:=by rw[<-Ys (xs:=c.argTypes),q]
 have y:x∈o.op.operands.toList:=by rw[b];simp[Op.operands,Call.operands,f,g]
 have z:P.underlying ty=some (.slice e):=by have:=(j ty T k).kind;rw[l]at this;exact this
 refine aC λE D F G a w H A I B=>?_;have i:=(az B x).1;rw[ao A y,r]at i;have C:=(Rd.bT (show Rd _ _ _ _ from i)).1;exact⟨.int .i64 0,by simp[execOp,b,resolve,invoke,f,g,u,builtin,C,Builtin.cap_,run_underlying z,goInt],Rd.v rfl,λ_ h=>h.elim⟩
theorem xe {t:Nat->TV} {a:Act}:∀(r:List Operand) (i:Nat) (v:Value) (f:TV),(r.map a.eval)[i]? =some v->(r.map (bE t))[i]? =some f->∃y∈r,v=a.eval y/\f=bE t y:=by
 intro r i v f b c;rw[ZA]at b c;cases g:r[i]? with
 |none=>rw[g]at b;simp at b
 |some y=>rw[g]at b c;simp at b c;exact⟨y,Zj g,b.symm,c.symm⟩
variable {k:IntKind}
theorem pO {o:Oper} {t:Nat->TV} {r:List Operand} (z:o.op= .call c) (N:c.args.toList=x::r) {B:Int} (M:bE t x= .d (.one (.v (.int k B)))) {K:Int->Prop}:
  (c.callee= .builtin .min->LY k B (r.map (bE t)) K->∃n,K n/\aI P o t m (.d (.one (.v (.int k n)))) [] [])/\
  (c.callee= .builtin .max->L6 k B (r.map (bE t)) K->∃n,K n/\aI P o t m (.d (.one (.v (.int k n)))) [] []):=by
 have A:c.args=(x::r).toArray:=by rw[<-Ys (xs:=c.args),N]
 constructor
 ·intro f h;have g:∀y∈x::r,y∈o.op.operands.toList:=(by intro y b;rw[z];simp[Op.operands,Call.operands,f,A];simpa using b);obtain⟨n,C,D⟩:=Hh (P:=P) _ _ _ _ h;refine⟨n,C,aC λE F O G a w Q j R l=>?_⟩;have u:=(az l x).1;rw[ao j (g x (by simp)),M]at u;have H:=(Rd.bT (show Rd _ _ _ _ from u)).1;have I:=D E G F w (r.map a.eval) (by simp) (λi v J p q=>by
   obtain⟨y,b,rfl,rfl⟩:=xe r i v J p q;have:=(az l y).1
   rwa [ao j (g y (by simp[b]))]at this) w
  refine⟨.int k n,?_,Rd.v rfl,λ_ h=>h.elim⟩;simp[execOp,z,resolve,invoke,f,A,builtin,Builtin.min_,H,I]
 ·intro f h;have g:∀y∈x::r,y∈o.op.operands.toList:=(by intro y b;rw[z];simp[Op.operands,Call.operands,f,A];simpa using b);obtain⟨n,C,D⟩:=Hm (P:=P) _ _ _ _ h;refine⟨n,C,aC λE F O G a w Q j R l=>?_⟩;have u:=(az l x).1;rw[ao j (g x (by simp)),M]at u;have H:=(Rd.bT (show Rd _ _ _ _ from u)).1;have I:=D E G F w (r.map a.eval) (by simp) (λi v J p q=>by
   obtain⟨y,b,rfl,rfl⟩:=xe r i v J p q;have:=(az l y).1
   rwa [ao j (g y (by simp[b]))]at this) w
  refine⟨.int k n,?_,Rd.v rfl,λ_ h=>h.elim⟩;simp[execOp,z,resolve,invoke,f,A,builtin,Builtin.max_,H,I]
theorem uv {o:Oper} {t:Nat->TV} (l:o.op= .nilCheck x):
  (∀b p,bE t x= .ptr b p->(m b).dr=true->aI P o t m (.ptr b p) [] [b.key])/\
  (∀f y,bE t x= .cP f y->aI P o t m (.cP f y) [] [])/\
  (∀f n c,bE t x= .d (.one (.fn f n c))->aI P o t m (.d (.one (.fn f n c))) [] [])/\
  (∀n c,bE t x= .d (.one (.ad n c))->aI P o t m (.d (.one (.ad n c))) [] []):=by
 have r:x∈o.op.operands.toList:=by rw[l];simp[Op.operands]
 refine⟨λb p h F=>?_,λf y h=>?_,λf n c h=>?_,λn c h=>?_⟩;refine aC λE z A B a w C i u j=>?_;have g:=az j x;rw[ao i r,h]at g;have D:=g.1;rw[<-u.at b]at F;simp only[dj]at D;rw[bO F]at D;obtain⟨I,c,J,k⟩:=D;exact⟨a.eval x,by simp[execOp,l,k],g⟩;(refine aC λE z A B a w C i u j=>?_;have g:=az j x;rw[ao i r,h]at g;obtain⟨G,k,_⟩:=g.1;refine⟨a.eval x,?_,g⟩;generalize H:a.eval x=q at*;cases k<;>simp[execOp,l,H])
 ·refine aC λE z A B a w C i u j=>?_;have g:=az j x;rw[ao i r,h]at g;obtain⟨G,k,_⟩:=Rd.jN (show Rd _ _ _ _ from g.1);exact⟨a.eval x,by simp[execOp,l,k],g⟩
 ·refine aC λE z A B a w C i u j=>?_;have g:=az j x;rw[ao i r,h]at g;obtain⟨b,K,G,k,_⟩:=Rd.mD (show Rd _ _ _ _ from g.1);exact⟨a.eval x,by simp[execOp,l,k],g⟩
variable {dst src:TypeId}
theorem vX {o:Oper} {t:Nat->TV} {TT:iw} (c:cG P TT) (f:TT dst=some T) {g:IntKind} (h:T.kind= .int k) (b:o.op= .convert src dst x) {n:Int} (i:bE t x= .d (.one (.v (.int g n)))) (hs:∃d,P.underlying src=some d):
  aI P o t m (.d (.one (.v (.int k (k.wrap n))))) [] []:=by
 have j:x∈o.op.operands.toList:=by rw[b];simp[Op.operands]
 have l:P.underlying dst=some (.int k):=by have:=(c dst T f).kind;rw[h]at this;exact this
 obtain⟨d,hs⟩:=hs;refine kZ j i rfl (λa w e=>?_);simp[execOp,b,e,convert,run_underlying hs,run_underlying l,Conv.intToInt]
variable {a:TV} {K:fa}
theorem Ma (h:Mb T m a K):pV T m a K:=by
 unfold Mb at h;split at h
 ·rename_i o f;replace h:=bk h;split at h
  ·rename_i g l;obtain⟨c,b,i,j,h⟩:=h.h;unfold pV;dsimp only;refine C6 ?_;rw[l];have k:f<g.length:=(by rcases aam f g.length with q|q;exact q;rw[YU q]at b;cases b);show(bif Nat.ble (f+T.size) g.length then C8 T ((g.drop f).take T.size) _ else False);rw[j,D2 (show f+1<=g.length by omega)];have e:(g.drop f).take 1=[c]:=by
    rw[Y8 k];rw[XY k]at b;injection b with b
    rw[abz,aas,b]
   rw[e];rw[ZD];unfold C8;rw[i];exact CV.Aa.2 h
  ·exact h.elim
 ·obtain⟨b,h⟩:=aM h;obtain⟨c,i,j,p,h⟩:=h.h;unfold pV;dsimp only;rw[p,b,ZD];show mZ T [_] _;unfold mZ;rw[j];subst i;exact TV.pe.2 h
 ·exact h.elim
theorem IB {v:TV} (h:EC T m a v K):Ah T m a v K:=by
 unfold EC at h;split at h
 ·rename_i o b;replace h:=bk h;split at h
  ·rename_i i k;obtain⟨f,h⟩:=aM h;have g:∀c:CV,NW i b c (λj=>K .any [(o,.obj j)] [o.key])->qg m (.ptr o b) c K:=λc h=>by obtain⟨j,l,p,h⟩:=h.h;unfold qg;dsimp only;refine C6 ?_;rw[k];show(bif Nat.blt b i.length then _ else False);rw[hp p,l];exact h
   unfold TV.Xw at h;split at h;show(bif Nat.beq 1 T.size then _ else False);rw[f];exact g _ h;show(bif Nat.beq 1 T.size then _ else False);rw[f];exact g _ h;show(bif Nat.beq 1 T.size then _ else False);rw[f];exact g _ h;exact h.elim
  ·exact h.elim
 ·exact h.elim
theorem x4 {o:Oper} {t:Nat->TV} {TT:iw} (g:cG P TT) (h:TT dst=some T) (i:T.kind= .int k) (c:o.op= .convert src dst x) {f:FloatKind} {b:Nat} (j:bE t x= .d (.one (.v (.float f b)))) (hs:∃d,P.underlying src=some d)
  {z:Int} (l:(f.decode b).toInt .zero=some z) (h2:k.min<=z) (p:z<=k.max):aI P o t m (.d (.one (.v (.int k z)))) [] []:=by
 have q:x∈o.op.operands.toList:=by rw[c];simp[Op.operands]
 have r:P.underlying dst=some (.int k):=by have:=(g dst T h).kind;rw[i]at this;exact this
 obtain⟨d,hs⟩:=hs;refine kZ q j rfl (λa w e=>?_);simp[execOp,c,e,convert,run_underlying hs,run_underlying r,Conv.floatToInt,l,h2,p]
theorem x3 {o:Oper} {t:Nat->TV} (b:o.op= .convert src dst x) {n:Int} (c:bE t x= .d (.one (.v (.int k n)))) (hs:∃d,P.underlying src=some d) (f:P.underlying dst=some (.float .f64)):
  aI P o t m (.d (.one (.v (.float .f64 (FloatKind.f64.nearest n))))) [] []:=by
 have g:x∈o.op.operands.toList:=by rw[b];simp[Op.operands]
 obtain⟨d,hs⟩:=hs;refine kZ g c rfl (λa w e=>?_);simp[execOp,b,e,convert,run_underlying hs,run_underlying f,Conv.intToFloat]
theorem lG {x:TV} {K:TV->Prop} (h:x.force K):K x:=TV.pe.1 h
set_option maxHeartbeats 1600000 in
theorem Sn {TT:iw} (D:cG P TT) {o:Oper} {t:Nat->TV} {a5:List Nat} (h:WH P TT a5 o t m K):∃x c1 rd,K x c1 rd/\aI P o t m x c1 rd:=by
 unfold WH at h;split at h;rename_i x j;exact⟨_,_,_,lG h,tF (.inl j)⟩;rename_i x j;exact⟨_,_,_,lG h,tF (.inr j)⟩
 ·rename_i c x y j;split at h
  ·rename_i q c2;have h:=h.elim;cases q with
   |true=>exact⟨_,_,_,lG (show(bE t x).force (λx=>K x [] []) from h),tE (m:=m) j c2⟩
   |false=>exact⟨_,_,_,lG (show(bE t y).force (λx=>K x [] []) from h),tE (m:=m) j c2⟩
  ·exact h.elim
 ·rename_i e j;split at h;rename_i T d G M;split at h;rename_i U;exact⟨_,_,_,h,Ap D G j M U⟩;exact h.elim;exact h.elim
 ·rename_i e x j;split at h;rename_i T d G M;split at h;rename_i U;split at h;rename_i b3 p u;exact⟨_,_,_,h,np (c:= .ptr b3 p) j M U u⟩;rename_i b3 g u;exact⟨_,_,_,h,np (c:= .aJ b3 g) j M U u⟩;rename_i f a9 u;exact⟨_,_,_,h,np (c:= .cP f a9) j M U u⟩;obtain⟨l,C,E⟩:=EE (P:=P) (m:=m) j M U h;exact⟨_,_,_,C,E⟩;exact h.elim;exact h.elim
 ·rename_i ty d2 j;split at h;rename_i T A;split at h;rename_i c3 B;replace h:=aM h;obtain⟨J,h⟩:=h;obtain⟨Q,C,E⟩:=ux (m:=m) D A B j J h;exact⟨_,_,_,C,E⟩;rename_i n e B;split at h;rename_i TE G;replace h:=aM h;obtain⟨J,h⟩:=h;obtain⟨Q,C,E⟩:=uy (m:=m) D A B G j J h;exact⟨_,_,_,C,E⟩;exact h.elim;exact h.elim;exact h.elim
 ·rename_i ty b0 d2 j;cases c4:dE a5 (o.dst.getD 0+7000000)with
  |true=>rw[c4]at h;exact x6 D j h
  |false=>
  rw[c4]at h;simp only[ZG]at h;split at h
  ·rename_i T d A M;split at h
   ·rename_i e B;split at h
    ·rename_i TE G;replace h:=aM h;obtain⟨J,h⟩:=h;simp only[XJ]at J;split at h;split at h;rename_i d3 U;exact⟨_,_,_,h,qP D A B G j M U d3⟩;exact h.elim
     ·rename_i c5;cases Y:dE a5 (d+6000000)with
      |true=>rw[Y]at h;simp only[ZD]at h;split at h;rename_i U;obtain⟨Q,C,E⟩:=uu (m:=m) D A B G j M U (XI J.1.1) (bR J.1.2) (Nat.pos_of_ne_zero c5) J.2 h;exact⟨_,_,_,C,E⟩;exact h.elim
      |false=>rw[Y]at h;obtain⟨Q,C,E⟩:=qQ (m:=m) D A B G j (XI J.1.1) (bR J.1.2) (Nat.pos_of_ne_zero c5) J.2 h;exact⟨_,_,_,C,E⟩
    ·exact h.elim
   ·exact h.elim
  ·exact h.elim
 ·rename_i ty x j;split at h
  ·rename_i T A;cases Y:dE a5 (o.dst.getD 0+3000000)with
   |true=>rw[Y]at h;exact tG D A j (Ma h)
   |false=>rw[Y]at h;exact tG D A j h
  ·exact h.elim
 ·rename_i ty x y j;split at h
  ·rename_i T A;cases Y:dE a5 (Kk x+4000000)with
   |true=>rw[Y]at h;exact qN D A j (IB h)
   |false=>rw[Y]at h;exact qN D A j h
  ·exact h.elim
 ·rename_i x j;obtain⟨b4,d4,d5,d6⟩:=uv (P:=P) (t:=t) (m:=m) j;split at h;rename_i b p u;replace h:=bk h;split at h;rename_i Q F;exact⟨_,_,_,h,b4 b p u (by rw[F];rfl)⟩;rename_i Q F;exact⟨_,_,_,h,b4 b p u (by rw[F];rfl)⟩;rename_i Q F;exact⟨_,_,_,h,b4 b p u (by rw[F];rfl)⟩;exact h.elim;rename_i f a9 u;exact⟨_,_,_,h,d4 f a9 u⟩;rename_i f n c u;exact⟨_,_,_,h,d5 f n c u⟩;rename_i n c u;exact⟨_,_,_,h,d6 n c u⟩;exact h.elim
 ·rename_i d7 ty x y b1 j;split at h;rename_i d8 f3 u a1;split at h;obtain⟨b,C,E⟩:=h.h;exact⟨_,_,_,E,(MQ j u a1 C).1 rfl⟩;obtain⟨b,C,E⟩:=h.h;exact⟨_,_,_,E,(MQ j u a1 C).2 rfl⟩;exact h.elim;rename_i p q u a1;split at h;rename_i T A;split at h;obtain⟨b5,h⟩:=h;exact⟨_,_,_,h,(zr j u a1 b5).1 rfl⟩;obtain⟨b5,h⟩:=h;exact⟨_,_,_,h,(zr j u a1 b5).2 rfl⟩;exact h.elim;exact h.elim;rename_i _ _ a1;split at h;rename_i T A;split at h;rename_i e B;exact qO (neg:=false) D A B j a1 (.inl ⟨rfl,rfl⟩) h;rename_i e B;exact qO (neg:=true) D A B j a1 (.inr ⟨rfl,rfl⟩) h;exact h.elim;exact h.elim;obtain⟨z,C,E⟩:=Qi (m:=m) j h;exact⟨_,_,_,C,E⟩
 ·rename_i d7 ty x j;have c6:x∈o.op.operands.toList:=(by rw[j];simp[Op.operands]);split at h;rename_i b u;split at h;exact⟨_,_,_,h,kZ c6 u rfl (λa w e=>by simp[execOp,j,e,Op.unary])⟩;exact h.elim;rename_i n neg u;split at h;exact⟨_,_,_,h,Ak j u⟩;exact h.elim;rename_i k n u;split at h;exact⟨_,_,_,h,kZ c6 u rfl (λa w e=>by simp[execOp,j,e,Op.unary,Op.intArith])⟩;exact h.elim;exact h.elim
 ·rename_i src dst x j;split at h;rename_i T A;split at h;rename_i k n B u;obtain⟨Z,h⟩:=h;exact⟨_,_,_,h,vX D A B j u Z⟩;rename_i k f4 b B u;obtain⟨z,C,E,a0,Z,h⟩:=h.h;exact⟨_,_,_,h,x4 D A B j u Z C E a0⟩;rename_i k n B u;obtain⟨⟨Z,d9⟩,h⟩:=h;exact⟨_,_,_,h,x3 j u Z d9⟩;exact h.elim;exact h.elim
 ·rename_i ty x y j;split at h;rename_i T d A M;split at h;rename_i e B U;split at h;rename_i TE n c G u a1;obtain⟨F,h⟩:=h;exact⟨_,_,_,h,si D A B G j M U u a1 F⟩;exact h.elim;exact h.elim;exact h.elim
 ·rename_i ty x a8 I j;split at h;rename_i T A;split at h;rename_i e B;split at h;rename_i TE G;split at h;rename_i b g u;have O:=h;unfold w7 at O;replace O:=bk O;split at O;rename_i a2 n k a3 V F;replace O:=aM O;obtain⟨_,O⟩:=O;exact kE D A B G j (.inl ⟨u,rfl,n,by rw[F];rfl,rfl⟩) O;rename_i a2 n k a3 V F;replace O:=aM O;obtain⟨_,O⟩:=O;exact kE D A B G j (.inl ⟨u,rfl,n,by rw[F];rfl,rfl⟩) O;exact O.elim;rename_i b g f5 f6 u;exact kE D A B G j (.inr u) h;obtain⟨z,C,E⟩:=Aj (P:=P) (m:=m) D A B j G h;exact⟨_,_,_,C,E⟩;exact h.elim;exact h.elim;exact h.elim
 ·rename_i ty x a8 I f7 j;split at h;rename_i T A;split at h;rename_i e B;split at h;rename_i TE G;exact x2 D A B G j h;exact h.elim;exact h.elim;exact h.elim
 ·rename_i f first c7 j;split at h
  ·rename_i c8;cases Y:(dE a5 (f+1000000)||Nt t m c7.toList)with
   |true=>rw[Y]at h;replace h:=aM h;obtain⟨e0,h⟩:=h;obtain⟨l,C,E⟩:=sj (P:=P) (m:=m) (rd:=sZ t c7.toList) j c8 e0 h;exact⟨_,_,_,C,E⟩
   |false=>rw[Y]at h;obtain⟨l,f8,rd,C,E⟩:=uw (P:=P) j c8 h;exact⟨_,_,_,C,E⟩
  ·split at h;rename_i e1;obtain⟨l,C,E⟩:=sk (P:=P) (m:=m) (rd:=sZ t first.toList) j e1 h;exact⟨_,_,_,C,E⟩;exact h.elim
 ·rename_i ty x f j;split at h;rename_i T A;split at h;rename_i c3 B;split at h;rename_i e2 e3 e4 J;replace h:=aM h;obtain⟨Z,h⟩:=h;obtain⟨b6,c9,e5⟩:=sm (t:=t) (m:=m) D A B J (bR Z) j;split at h;rename_i b p u;replace h:=bk h;split at h;rename_i Q F;exact⟨_,_,_,h,b6 b p u (by rw[F];rfl)⟩;rename_i Q F;exact⟨_,_,_,h,b6 b p u (by rw[F];rfl)⟩;rename_i Q F;exact⟨_,_,_,h,b6 b p u (by rw[F];rfl)⟩;exact h.elim;rename_i b g i p u;replace h:=bk h;split at h;rename_i a2 n k e V F;replace h:=aM h;obtain⟨H,h⟩:=h;obtain rfl:=XE H;exact⟨_,_,_,h,c9 b g i p n k u (by rw[F];rfl)⟩;rename_i a2 n k e V F;replace h:=aM h;obtain⟨H,h⟩:=h;obtain rfl:=XE H;exact⟨_,_,_,h,c9 b g i p n k u (by rw[F];rfl)⟩;exact h.elim;rename_i n b2 u;exact⟨_,_,_,h,e5 n b2 u⟩;exact h.elim;exact h.elim;exact h.elim;exact h.elim
 ·rename_i ty x f j;split at h;rename_i T A;split at h;rename_i c3 B;split at h;rename_i e2 e3 e4 J;split at h;rename_i f9 Q e6 u;replace h:=aM h;obtain⟨Z,h⟩:=h;simp only[XJ]at Z;obtain⟨z,C,E⟩:=Am (m:=m) D A B J e6 (XE Z.1) j u (XI Z.2) h;exact⟨_,_,_,C,E⟩;exact h.elim;exact h.elim;exact h.elim;exact h.elim
 ·rename_i ty x i j;split at h
  ·rename_i T A;split at h
   ·rename_i b0 e B;split at h
    ·rename_i TE G;split at h;rename_i b p a6 n u I;replace h:=bk h;split at h;rename_i Q F;obtain⟨R,h⟩:=h;exact⟨_,_,_,h,(dI (m:=m) D A B G j I R).1 b p u (by rw[F];rfl)⟩;rename_i Q F;obtain⟨R,h⟩:=h;exact⟨_,_,_,h,(dI (m:=m) D A B G j I R).1 b p u (by rw[F];rfl)⟩;rename_i Q F;obtain⟨R,h⟩:=h;exact⟨_,_,_,h,(dI (m:=m) D A B G j I R).1 b p u (by rw[F];rfl)⟩;exact h.elim
     ·rename_i q b2 a6 n u I;obtain⟨R,h⟩:=h;cases b7:Nat.ble (b0*TE.size) q with
      |true=>rw[b7]at h;exact⟨_,_,_,h,(dI (m:=m) D A B G j I R).2.2 q b2 _ u (by have C:=XI b7;have E:(n.toNat+1)*TE.size<=b0*TE.size:=XX _ (by omega);rw[aak]at E;omega)⟩
      |false=>rw[b7]at h;exact⟨_,_,_,h,(dI (m:=m) D A B G j I R).2.2 q b2 _ u (XU _)⟩
     ·rename_i b g r p a6 n u I;replace h:=bk h;split at h;rename_i a2 a7 b8 a3 V F;replace h:=aM h;obtain⟨H,h⟩:=h;obtain rfl:=XE H;obtain⟨R,h⟩:=h;exact⟨_,_,_,h,(dI (m:=m) D A B G j I R).2.1 b g r p a7 b8 u (by rw[F];rfl)⟩;rename_i a2 a7 b8 a3 V F;replace h:=aM h;obtain⟨H,h⟩:=h;obtain rfl:=XE H;obtain⟨R,h⟩:=h;exact⟨_,_,_,h,(dI (m:=m) D A B G j I R).2.1 b g r p a7 b8 u (by rw[F];rfl)⟩;exact h.elim
     ·exact h.elim
    ·exact h.elim
   ·rename_i e B;split at h;rename_i TE G;split at h;rename_i n k V a6 q u I;replace h:=aM h;obtain⟨C,h⟩:=h;have C:=XE C;obtain⟨⟨E,a0⟩,h⟩:=h;exact⟨_,_,_,h,(fA (m:=m) D A B G j I).1 n k V u C E a0⟩;rename_i b g a6 q u I;replace h:=bk h;split at h;rename_i a2 n k a3 V F;replace h:=aM h;obtain⟨H,h⟩:=h;simp only[XJ]at H;obtain rfl:=XE H.1;have C:=XE H.2;obtain⟨⟨E,a0⟩,h⟩:=h;exact⟨_,_,_,h,(fA (m:=m) D A B G j I).2.1 b g n k u (by rw[F];rfl) C E a0⟩;rename_i a2 n k a3 V F;replace h:=aM h;obtain⟨H,h⟩:=h;simp only[XJ]at H;obtain rfl:=XE H.1;have C:=XE H.2;obtain⟨⟨E,a0⟩,h⟩:=h;exact⟨_,_,_,h,(fA (m:=m) D A B G j I).2.1 b g n k u (by rw[F];rfl) C E a0⟩;exact h.elim;rename_i b g a8 a7 a6 q u I;replace h:=bk h;split at h;rename_i a2 n k a3 V F;replace h:=aM h;obtain⟨H,h⟩:=h;simp only[XJ]at H;obtain rfl:=XE H.1;have C:=XE H.2;obtain⟨⟨E,a0⟩,h⟩:=h;exact⟨_,_,_,h,(fA (m:=m) D A B G j I).2.2 b g a8 a7 n k u (by rw[F];rfl) C E a0⟩;rename_i a2 n k a3 V F;replace h:=aM h;obtain⟨H,h⟩:=h;simp only[XJ]at H;obtain rfl:=XE H.1;have C:=XE H.2;obtain⟨⟨E,a0⟩,h⟩:=h;exact⟨_,_,_,h,(fA (m:=m) D A B G j I).2.2 b g a8 a7 n k u (by rw[F];rfl) C E a0⟩;exact h.elim;exact h.elim;exact h.elim
   ·exact h.elim
  ·exact h.elim
 ·rename_i ty x i j;split at h;rename_i T A;split at h;rename_i b0 e B;split at h;rename_i TE G;split at h;rename_i Q a6 n u I;obtain⟨R,h⟩:=h;obtain⟨z,C,E⟩:=Al (m:=m) D A B G j u I R h;exact⟨_,_,_,C,E⟩;exact h.elim;exact h.elim;exact h.elim;exact h.elim
 ·rename_i x i j;split at h;rename_i d8 u;split at h;rename_i v e7;exact⟨_,_,_,lG h,vW j u e7⟩;exact h.elim;exact h.elim
 ·rename_i c j;split at h;rename_i f X;split at h;rename_i e8 n g0 J;exact B7 j X J h;rename_i e8 a9 J;exact Ao j X J h;exact h.elim
  ·rename_i b X;split at h;rename_i x ty S a4;split at h;rename_i T A;obtain⟨e9,f0⟩:=ED (t:=t) (m:=m) D A j X S a4;split at h;rename_i e B;exact e9 e K B h;rename_i n e B;exact⟨_,_,_,h,f0 n e B⟩;exact h.elim;exact h.elim;rename_i x ty S a4;split at h;rename_i T A;split at h;rename_i e B u;exact⟨_,_,_,h,x5 D A B j X S a4 u⟩;exact h.elim;exact h.elim;rename_i x ty S a4;split at h;rename_i T A;split at h;rename_i e B;split at h;rename_i TE b g a8 n G u;replace h:=bk h;split at h;rename_i a2 N k a3 V F;replace h:=aM h;obtain⟨H,h⟩:=h;simp only[XJ]at H;obtain rfl:=XE H.1.1;obtain rfl:=XE H.1.2;obtain rfl:=XE H.2;exact⟨_,_,_,h,An D A B G j X S a4 u F⟩;exact h.elim;exact h.elim;exact h.elim;exact h.elim;rename_i x r S;split at h;rename_i k f1 u;obtain⟨n,C,E⟩:=(pO (P:=P) (m:=m) j S u).1 X h;exact⟨_,_,_,C,E⟩;exact h.elim;rename_i x r S;split at h;rename_i k f1 u;obtain⟨n,C,E⟩:=(pO (P:=P) (m:=m) j S u).2 X h;exact⟨_,_,_,C,E⟩;exact h.elim
   ·rename_i s x ty b1 S a4;split at h
    ·rename_i T d A M;split at h
     ·rename_i e B;split at h
      ·rename_i TE G;cases d0:dE a5 (d+8000000)with
       |true=>rw[d0]at h;replace h:=aM (show bif Nat.beq b1 ty then vy TE e m (bE t s) (bE t x) K else False from h);obtain⟨f2,h⟩:=h;obtain rfl:=XE f2;exact vZ D A B G M j X S a4 h
       |false=>
       rw[d0]at h;simp only[ZG]at h;cases H:Nat.beq b1 ty with
       |true=>rw[H]at h;obtain rfl:=XE H;exact pP D A B G M j X S a4 ⟨e,by have:=(D _ T A).kind;rw[B]at this;exact this⟩ h
       |false=>
        rw[H]at h;replace h:(match TT b1 with
         |some b9=>(match b9.kind with
          | .int .i64=>vw TE e d m (bE t s) (bE t x) K
          | .jz _=>rU TE e d m (bE t s) (bE t x) K
          |_=>False)
         |none=>False):=h
        split at h;rename_i b9 d1;split at h;rename_i c0;exact vY D A B G d1 c0 M j X S a4 h;rename_i a3 c0;exact pP D A B G M j X S a4 ⟨a3,by have:=(D _ b9 d1).kind;rw[c0]at this;exact this⟩ h;exact h.elim;exact h.elim
      ·exact h.elim
     ·exact h.elim
    ·exact h.elim
   ·exact h.elim
  ·exact h.elim
 ·exact h.elim
def tmpsOf:List Operand->List Nat
 |[]=>[]
 | .tmp s::r=>s::tmpsOf r
 |_::r=>tmpsOf r
def nO:List Nat->Nat
 |[]=>0
 |s::r=>2^(2*s)|||nO r
def nP:List Nat->Nat
 |[]=>0
 |s::r=>2^(2*s+1)|||nP r
def MZ:Option Nat->List Nat
 |some d=>[d]
 |none=>[]
def U9 (N:Nat):Option Nat->Bool
 |some d=>Nat.blt d N
 |none=>true
def Qj:Bool->Bool->Bool
 |true,true=>true
 |false,false=>true
 |_,_=>false
abbrev Trace:=List (Nat×Nat)
def DV.deep (v:DV) (K:DV->Prop):Prop:=
 match v with
 | .one c=>c.deep λc=>K (.one c)
 | .agg l=>xr l λl=>K (.agg l)
theorem DV.eO {v:DV} {K:DV->Prop}:v.deep K↔K v:=by
 cases v with
 |one c=>exact SV.eO (K:=λc=>K (.one c))
 |agg l=>exact lK (K:=λc=>K (.agg c))
def Bp:List DV->(List DV->Prop)->Prop
 |[],K=>K []
 |c::r,K=>c.deep λc=>Bp r λr=>K (c::r)
theorem xt:∀{l:List DV} {K:List DV->Prop},Bp l K↔K l
 |[],_=>ZB
 |c::r,K=>by simp only[Bp];rw[DV.eO,xt]
def TV.deep (x:TV) (K:TV->Prop):Prop:=
 match x with
 | .d v=>v.deep λv=>K (.d v)
 | .eD l=>Bp l λl=>K (.eD l)
 | .any=>K .any
 | .undef=>K .undef
 | .ptr o p=>K (.ptr o p)
 | .aJ o g=>K (.aJ o g)
 | .ep o g i f=>K (.ep o g i f)
 | .sub o g a n=>K (.sub o g a n)
 | .nb n neg=>K (.nb n neg)
 | .cP f c=>K (.cP f c)
 | .jC o b=>K (.jC o b)
 | .rW h=>K (.rW h)
variable {x:TV}
theorem TV.eO {K:TV->Prop}:x.deep K↔K x:=by
 cases x with
 |d v=>exact DV.eO (K:=λc=>K (.d c))
 |eD l=>exact xt (K:=λc=>K (.eD c))
 |_=>exact ZB
def CV.deep (c:CV) (K:CV->Prop):Prop:=
 match c with
 | .s c=>c.deep λc=>K (.s c)
 | .ptr o p=>K (.ptr o p)
 | .aJ o g=>K (.aJ o g)
 | .cP f a=>K (.cP f a)
theorem CV.eO {c:CV} {K:CV->Prop}:c.deep K↔K c:=by
 cases c with
 |s c=>exact SV.eO (K:=λc=>K (.s c))
 |_=>exact ZB
def Bq:Nat->List CV->(List CV->Prop)->Prop
 |0,l,K=>K l
 |_+1,[],K=>K []
 |n+1,c::r,K=>c.deep λc=>Bq n r λr=>K (c::r)
theorem xu:∀{n:Nat} {l:List CV} {K:List CV->Prop},Bq n l K↔K l
 |0,_,_=>ZB
 |_+1,[],_=>ZB
 |n+1,c::r,K=>by simp only[Bq];rw[CV.eO,xu]
def Mem.deep (x:Mem) (K:Mem->Prop):Prop:=
 match x with
 | .none=>K .none
 | .dead=>K .dead
 | .ro l=>xr l λl=>K (.ro l)
 | .box l=>xr l λl=>K (.box l)
 | .aL g n k e get=>K (.aL g n k e get)
 | .obj l=>Bq 2 l λl=>K (.obj l)
 | .bm g n k e get=>K (.bm g n k e get)
 | .map a=>K (.map a)
theorem Mem.eO {x:Mem} {K:Mem->Prop}:x.deep K↔K x:=by
 cases x with
 |ro l=>exact lK (K:=λc=>K (.ro c))
 |box l=>exact lK (K:=λc=>K (.box c))
 |obj l=>exact xu (K:=λc=>K (.obj c))
 |_=>exact ZB
def yY (t:Nat->TV) (d:Option Nat) (x:TV) (K:(Nat->TV)->Prop):Prop:=
 x.deep λx=>match d with
 |some k=>K (bj t k x)
 |none=>K t
theorem oO {t:Nat->TV} {d:Option Nat} {K:(Nat->TV)->Prop}:yY t d x K↔K (pE t d x):=by
 unfold yY;rw[TV.eO];cases d<;>exact ZB
def CE (m:Id->Mem) (a:List (Id×Mem)) (K:(Id->Mem)->Prop):Prop:=
 match a with
 |[]=>K m
 |p::r=>match p with
  |(o,x)=>x.deep λx=>CE (bj m o x) r K
theorem jq:∀{a:List (Id×Mem)} {m:Id->Mem} {K:(Id->Mem)->Prop},CE m a K↔K (cK m a)
 |[],_,_=>ZB
 |(o,x)::r,m,K=>by simp only[CE,cK];rw[Mem.eO];exact jq
def xo (draw:Bool) (o:Oper) (a:List Nat) (b:List (Id×Mem)) (rd:List Nat) (tr:Trace) (K:Trace->Prop):Prop:=
 match draw with
 |true=>K ((nO (a++tmpsOf o.op.operands.toList)|||nP rd,nO (MZ o.dst)|||nP (b.map λp=>p.1.key))::tr)
 |false=>K tr
def entry (draw:Bool) (o:Oper) (a:List Nat) (b:List (Id×Mem)) (rd:List Nat) (tr:Trace):Trace:=
 bif draw then(nO (a++tmpsOf o.op.operands.toList)|||nP rd,nO (MZ o.dst)|||nP (b.map λp=>p.1.key))::tr else tr
variable {draw:Bool} {tr:Trace}
theorem mK {o:Oper} {a:List Nat} {b:List (Id×Mem)} {rd:List Nat} {K:Trace->Prop}:xo draw o a b rd tr K↔K (entry draw o a b rd tr):=by
 cases draw<;>exact ZB
structure BN (P:Program) (o:Oper) (t:Nat->TV) (m:Id->Mem) (K:fa):Prop where
 h:∃z mo rd,K z mo rd/\aI P o t m z mo rd
def Re (o:Oper):Nat:=match o.dst with
 |some d=>d+9000000
 |none=>match o.op with
  | .mapUpdate _ x _ _=>Kk x+9500000
  |_=>0
def OV (P:Program) (TT:iw) (fl:List Nat) (o:Oper) (t:Nat->TV) (m:Id->Mem) (K:fa):Prop:=bif dE fl (Re o)then BN P o t m K else WH P TT fl o t m K
variable {P:Program} {m:Id->Mem} {fl:List Nat}
theorem GR {TT:iw} (f:cG P TT) {o:Oper} {t:Nat->TV} {K:fa} (h:OV P TT fl o t m K):∃x a b,K x a b/\aI P o t m x a b:=by
 unfold OV at h;cases c:dE fl (Re o)with
 |true=>rw[c]at h;exact BN.h h
 |false=>rw[c]at h;exact Sn f h
def E4 (P:Program) (TT:iw) (fl:List Nat) (N:Nat) (h:Array Oper) (draw:Bool) (o:Oper) (c:(Nat->TV)->(Id->Mem)->Trace->((Nat->TV)->(Id->Mem)->Trace->Prop)->Prop) (t:Nat->TV) (m:Id->Mem) (tr:Trace) (K:(Nat->TV)->(Id->Mem)->Trace->Prop):Prop:=
 bif U9 N o.dst then
   match o.guard with
   |none=>OV P TT fl o t m λx a f=>yY t o.dst x λt'=>CE m a λm'=>xo draw o [] a f tr λtr=>c t' m' tr K
   |some (j,i)=>match (h[j]?).bind (·.dst)with
    |some g=>match t g with
     | .d (.one (.v (.bool b)))=>af b λb=>bif Qj b i then
        OV P TT fl o (bj t g (aE b)) m λx a f=>yY (bj t g (aE b)) o.dst x λt'=>CE m a λm'=>xo draw o [g] a f tr λtr=>c t' m' tr K
       else yY (bj t g (aE b)) o.dst .undef λt'=>xo draw o [g] [] [] tr λtr=>c t' m tr K
     | .undef=>yY t o.dst .undef λt'=>xo draw o [g] [] [] tr λtr=>c t' m tr K
     |_=>False
    |none=>False
  else False
def Lh (P:Program) (TT:iw) (fl:List Nat) (N:Nat) (a:Array Oper) (draw:Bool) (b:List Oper):(Nat->TV)->(Id->Mem)->Trace->((Nat->TV)->(Id->Mem)->Trace->Prop)->Prop:=
 List.rec (motive:=λ_=>(Nat->TV)->(Id->Mem)->Trace->((Nat->TV)->(Id->Mem)->Trace->Prop)->Prop) (λt m tr K=>K t m tr) (λo _ c=>E4 P TT fl N a draw o c) b
variable {N:Nat}
theorem IZ {TT:iw} {a:Array Oper} {o:Oper} {r:List Oper} {t:Nat->TV} {K:(Nat->TV)->(Id->Mem)->Trace->Prop}:
  Lh P TT fl N a draw (o::r) t m tr K=E4 P TT fl N a draw o (Lh P TT fl N a draw r) t m tr K:=rfl
structure kb where
 dst:Option Nat
 x:TV
 mo:List (Id×Mem)
 Sh:List Nat
 Si:List Nat
def kb.mask (e:kb):Nat×Nat:=(nO e.Sh|||nP e.Si,nO (MZ e.dst)|||nP (e.mo.map λp=>p.1.key))
def N0 (P:Program) (N:Nat) (f:Array Oper) (o:Oper) (e:kb) (t:Nat->TV) (m:Id->Mem):Prop:=
 ∀(E:Env) (g:Id->Option (Nat×Nat)) (t':Nat->TV) (m':Id->Mem) (a:Act) (w:World),E.P=P->E.N=N->(∀s∈e.Sh,t' s=t s)->gO e.Si m m'->Rel E g t' m' a w->
  ∀(K:Act->World->Prop) (Q:Exit->Act->World->Prop),(∀h b c,Rel E h (pE t' e.dst e.x) (cK m' e.mo) b c->K b c)->
   if Region.wanted o (yielded f a.tmps)then o.wp P a w K Q else K (a.put o.dst Go.undef) w
inductive rZ (P:Program) (N:Nat) (ops:Array Oper):List Oper->List kb->(Nat->TV)->(Id->Mem)->(Nat->TV)->(Id->Mem)->Prop where
 |nil (t:Nat->TV) (m:Id->Mem):rZ P N ops [] [] t m t m
 |cons {o:Oper} {e:kb} {os:List Oper} {es:List kb} {t t':Nat->TV} {m m':Id->Mem} (h:N0 P N ops o e t m) (hr:rZ P N ops os es (pE t e.dst e.x) (cK m e.mo) t' m'):rZ P N ops (o::os) (e::es) t m t' m'
variable {p q:Prop}
theorem Nx (h:bif true then p else q):p:=h
theorem JK (h:bif false then p else q):q:=h
theorem qt:∀{l:List Operand} {s:Nat},Operand.tmp s∈l->s∈tmpsOf l
 |[],_,h=>by simp at h
 |x::r,s,h=>by rcases XD.1 h with rfl|h;simp[tmpsOf];(have:=qt h;cases x<;>simp[tmpsOf,this])
theorem qb {c:Array Oper} {tmps:Array Value} {j g:Nat} (h:(c[j]?).bind (·.dst)=some g):
  (∀b,tmps.getD g Go.undef= .bool b->yielded c tmps j=some b)/\(tmps.getD g Go.undef=Go.undef->yielded c tmps j=none):=by
 unfold yielded;rw[h];simp only[Option.bind_some,YC];cases f:tmps[g]? with
 |none=>exact⟨λb a=>by simp[Go.undef]at a,λ_=>rfl⟩
 |some v=>simp only[Yt];exact⟨λb a=>by rw[a],λa=>by rw[a];rfl⟩
theorem sN {P:Program} {TT:iw} (R:cG P TT) {fl:List Nat} {N:Nat} {A:Array Oper} {draw:Bool}:∀(S:List Oper) (t:Nat->TV) (m:Id->Mem) (tr:Trace) (K:(Nat->TV)->(Id->Mem)->Trace->Prop),Lh P TT fl N A draw S t m tr K->
  ∃l t' m',rZ P N A S l t m t' m'/\K t' m' (bif draw then(l.map kb.mask).reverse++tr else tr)/\(∀(i:Nat) (o:Oper) (e:kb),S[i]? =some o->l[i]? =some e->e.dst=o.dst)
 |[],t,m,tr,K,h=>⟨[],t,m,.nil t m,by cases draw<;>exact h,by simp⟩
 |o::r,t,m,tr,K,h=>by
  rw[IZ]at h;unfold E4 at h;replace h:=aM h;obtain⟨a0,h⟩:=h;have H:∀k,o.dst=some k->k<N:=(by intro k q;rw[q]at a0;exact bR a0);have I:∀(e:kb) (J:List Nat) (rd:List Nat),N0 P N A o e t m->e.dst=o.dst->e.Sh=J++tmpsOf o.op.operands.toList->e.Si=rd->
    Lh P TT fl N A draw r (pE t e.dst e.x) (cK m e.mo) (entry draw o J e.mo rd tr) K->
    ∃l t' m',rZ P N A (o::r) l t m t' m'/\K t' m' (bif draw then(l.map kb.mask).reverse++tr else tr)/\(∀(i:Nat) (M:Oper) (e:kb),(o::r)[i]? =some M->l[i]? =some e->e.dst=M.dst):=by
   intro e J rd a2 a1 hS u a3;obtain⟨l,t',m',a4,O,a5⟩:=sN R r _ _ _ K a3;refine⟨e::l,t',m',.cons a2 a4,?_,?_⟩
   ·have a6:e.mask=(nO (J++tmpsOf o.op.operands.toList)|||nP rd,nO (MZ o.dst)|||nP (e.mo.map λp=>p.1.key)):=(by unfold kb.mask;rw[hS,u,a1]);cases draw with
    |false=>exact O
    |true=>simp only[entry,ZD]at O|-;rw[<-a6]at O;simpa using O
   ·intro i M a7 T U;cases i with
    |zero=>simp at T U;subst T;subst U;exact a1
    |succ i=>exact a5 i M a7 (by simpa using T) (by simpa using U)
  cases B:o.guard with
  |none=>simp only[B]at h;obtain⟨x,V,rd,h,X⟩:=GR R h;rw[oO,jq,mK]at h;refine I ⟨o.dst,x,V,tmpsOf o.op.operands.toList,rd⟩ [] rd ?_ rfl rfl rfl h;intro E y t' m' a w C z hS u f K Q hK;rw[XL (by simp[Region.wanted,B])];exact X E y t' m' a w C (λs c=>hS s (qt c)) u (λk q=>by rw[z];exact H k q) f K Q hK
  |some a8=>
   obtain⟨j,D⟩:=a8;simp only[B]at h;cases F:(A[j]?).bind (·.dst)with
   |none=>simp only[F]at h
   |some g=>
    simp only[F]at h;split at h
    ·rename_i b G;have h:=h.elim;have a9:t g=aE b:=G;have b0:bj t g (aE b)=t:=(by rw[<-a9];exact et t g);rw[b0]at h;cases hw:Qj b D with
     |true=>rw[hw]at h;have Y:b=D:=(by revert hw;cases b<;>cases D<;>simp[Qj]);obtain⟨x,V,rd,h,X⟩:=GR R (Nx h);rw[oO,jq,mK]at h;refine I ⟨o.dst,x,V,[g]++tmpsOf o.op.operands.toList,rd⟩ [g] rd ?_ rfl rfl rfl h;intro E y t' m' a w C z hS u f K Q hK;have c:=f.slots g;rw[hS g (by simp),G]at c;have Z:=(Rd.bT (show Rd _ _ _ _ from c)).1;rw[XL (by simp[Region.wanted,B,(qb F).1 b Z,Y])];exact X E y t' m' a w C (λs c=>hS s (by simp[qt c])) u (λk q=>by rw[z];exact H k q) f K Q hK
     |false=>rw[hw]at h;have Y:b≠D:=(by revert hw;cases b<;>cases D<;>simp[Qj]);have h:=(oO (t:=t) (d:=o.dst) (x:= .undef)).1 (JK h);rw[mK]at h;refine I ⟨o.dst,.undef,[],[g]++tmpsOf o.op.operands.toList,[]⟩ [g] [] ?_ rfl rfl rfl h;intro E y t' m' a w C z hS u f K Q hK;have c:=f.slots g;rw[hS g (by simp),G]at c;have Z:=(Rd.bT (show Rd _ _ _ _ from c)).1;rw[XG (by simp[Region.wanted,B,(qb F).1 b Z,Y])];exact hK y _ w (f.put (λk q=>by rw[z];exact H k q) rfl (λ_ h=>h.elim))
    ·rename_i G;have h:=(oO (t:=t) (d:=o.dst) (x:= .undef)).1 h;rw[mK]at h;refine I ⟨o.dst,.undef,[],[g]++tmpsOf o.op.operands.toList,[]⟩ [g] [] ?_ rfl rfl rfl h;intro E y t' m' a w C z hS u f K Q hK;have c:=f.slots g;rw[hS g (by simp),G]at c;rw[XG (by simp[Region.wanted,B,(qb F).2 c])];exact hK y _ w (f.put (λk q=>by rw[z];exact H k q) rfl (λ_ h=>h.elim))
    ·exact h.elim
variable {t':Nat->TV} {m':Id->Mem}
theorem zt {j:Array Oper} {c:List Oper} {q:List kb} {t:Nat->TV} (h:rZ P N j c q t m t' m'):
  ∀(E:Env) (b:Id->Option (Nat×Nat)) (a:Act) (w:World),E.P=P->E.N=N->Rel E b t m a w->∀(Q:Exit->Act->World->Prop),(∀k f g,Rel E k t' m' f g->Q .normal f g)->wpList P j Q c a w:=by
 induction h with
 |nil t m=>intro E b a w _ _ l Q p;exact p b a w l
 |@cons o e c q t t' m m' x A y=>intro E b a w r u l Q p;have i:=x E b t m a w r u (λ_ _=>rfl) (λ_ _=>rfl) l (wpList P j Q c) Q (λk f g z=>y E k f g r u z Q p);unfold wpList;split;rename_i hw;rw[XL hw]at i;exact .inl i;rename_i hw;rw[XG hw]at i;exact i
def rP (acc:List Nat) (o:Oper):Nat:=
 o.after.toList.foldl (λs e=>bif Region.binds .any e then s|||2^e.on|||acc.getD e.on 0 else s) 0
def D3:List Oper->List Nat->List Nat
 |[],a=>a
 |o::b,a=>D3 b (a++[rP a o])
def DM (a b:Nat×Nat):Bool:=!(((a.2&&&(b.1|||b.2))|||(a.1&&&b.2))==0)
def Wp (a:List Oper) (tr:Trace):Bool:=
 let b:=D3 a []
 (List.range a.length).all λj=>
  ((a[j]?).map λo=>o.after.toList.all λe=>!Region.binds .any e||Nat.blt e.on j).getD false&&
  (List.range j).all λi=>!(DM (tr.getD i (0,0)) (tr.getD j (0,0)))||(b.getD j 0).testBit i
theorem kC:∀{l:List Nat} {s:Nat},s∈l->(nO l).testBit (2*s)=true
 |[],_,h=>by simp at h
 |x::r,s,h=>by simp only[nO,aaf];rcases XD.1 h with rfl|h;simp[Nat.testBit_two_pow_self];simp[kC h]
theorem kD:∀{l:List Nat} {s:Nat},s∈l->(nP l).testBit (2*s+1)=true
 |[],_,h=>by simp at h
 |x::r,s,h=>by simp only[nP,aaf];rcases XD.1 h with rfl|h;simp[Nat.testBit_two_pow_self];simp[kD h]
theorem H4 {a b:Nat×Nat} (p:Nat) (h:(a.2.testBit p=true/\(b.1.testBit p=true\/b.2.testBit p=true))\/(a.1.testBit p=true/\b.2.testBit p=true)):DM a b=true:=by
 unfold DM;cases i:((a.2&&&(b.1|||b.2))|||(a.1&&&b.2))==0 with
 |false=>rfl
 |true=>
  have j:((a.2&&&(b.1|||b.2))|||(a.1&&&b.2))=0:=(by simpa using i);have f:=XT (λn=>Nat.testBit n p) j;simp only[aaf,Nat.testBit_and,Nat.zero_testBit]at f;rcases h with⟨g,c⟩|⟨g,c⟩;(rcases c with c|c<;>simp[g,c]at f)
  ·simp[g,c]at f
def wS (e:kb) (s:Nat):Prop:=e.dst=some s
def wM (e:kb) (o:Id):Prop:=o∈e.mo.map (·.1)
variable {a:kb} {s:Nat}
theorem th {b:kb} (h:wS a s/\(s∈b.Sh\/wS b s)\/s∈a.Sh/\wS b s):DM a.mask b.mask=true:=by
 have hw:∀e:kb,wS e s->e.mask.2.testBit (2*s)=true:=λe f=>by unfold wS at f;simp only[kb.mask,f,MZ,aaf];simp[kC (l:=[s]) (s:=s) (by simp)]
 have i:∀e:kb,s∈e.Sh->e.mask.1.testBit (2*s)=true:=λe f=>by simp only[kb.mask,aaf,kC f,Bool.true_or]
 refine H4 (2*s) ?_;rcases h with⟨g,c|c⟩|⟨g,c⟩;exact .inl ⟨hw a g,.inl (i b c)⟩;exact .inl ⟨hw a g,.inr (hw b c)⟩;exact .inr ⟨i a g,hw b c⟩
theorem xy {b:kb} {s:Id} (h:wM a s/\(s.key∈b.Si\/wM b s)\/s.key∈a.Si/\wM b s):DM a.mask b.mask=true:=by
 have hw:∀e:kb,wM e s->e.mask.2.testBit (2*s.key+1)=true:=λe f=>by unfold wM at f;obtain⟨p,j,rfl⟩:=XS.1 f;simp only[kb.mask,aaf,kD (XS.2 ⟨p,j,rfl⟩),Bool.or_true]
 have i:∀e:kb,s.key∈e.Si->e.mask.1.testBit (2*s.key+1)=true:=λe f=>by simp only[kb.mask,aaf,kD f,Bool.or_true]
 refine H4 (2*s.key+1) ?_;rcases h with⟨g,c|c⟩|⟨g,c⟩;exact .inl ⟨hw a g,.inl (i b c)⟩;exact .inl ⟨hw a g,.inr (hw b c)⟩;exact .inr ⟨i a g,hw b c⟩
def fT:List kb->(Nat->Bool)->Nat->(Nat->TV)->Nat->TV
 |[],_,_,t=>t
 |e::a,S,k,t=>fT a S (k+1) (if S k then pE t e.dst e.x else t)
def fM:List kb->(Nat->Bool)->Nat->(Id->Mem)->Id->Mem
 |[],_,_,m=>m
 |e::a,S,k,m=>fM a S (k+1) (if S k then cK m e.mo else m)
theorem u3 {t:Nat->TV} {d:Option Nat} (h:d≠some s):pE t d x s=t s:=by
 cases d with
 |none=>rfl
 |some k=>exact aw _ _ _ (λe=>h (by rw[e]))
theorem u4 {t:Nat->TV} {d:Option Nat} (h:d=some s):pE t d x s=x:=by
 subst h;exact aq _ _ _
theorem mq:∀{a:List (Id×Mem)} {m:Id->Mem} {o:Id},o∉a.map (·.1)->cK m a o=m o
 |[],_,_,_=>rfl
 |(b,x)::r,m,o,h=>by simp only[Yz,XD,not_or]at h;simp only[cK];rw[mq h.2,aw _ _ _ h.1]
theorem AN:∀{b:List (Id×Mem)} {m m':Id->Mem} {o:Id},o∈b.map (·.1)->cK m b o=cK m' b o
 |[],_,_,_,h=>by simp at h
 |(c,x)::r,m,m',o,h=>by simp only[cK];by_cases a:o∈r.map (·.1);exact AN a;rw[mq a,mq a];have e:o=c:=(by simp only[Yz,XD]at h;rcases h with h|h;exact h;exact absurd h a);subst e;rw[aq,aq]
theorem xl:∀(b:List kb) (S S':Nat->Bool) (k:Nat) (t t':Nat->TV) (s:Nat),t s=t' s->(∀i e,b[i]? =some e->wS e s->S (k+i)=S' (k+i))->fT b S k t s=fT b S' k t' s
 |[],_,_,_,_,_,_,h,_=>h
 |e::b,S,S',k,t,t',s,h,hw=>by
  simp only[fT];refine xl b S S' (k+1) _ _ s ?_ (λi g j a=>by
   have:=hw (i+1) g (by simpa using j) a
   rwa [show k+(i+1)=k+1+i by omega]at this)
  by_cases a:wS e s;have c:=hw 0 e rfl a;simp only[YG]at c;rw[c];split;rw[u4 a,u4 a];exact h;have f:e.dst≠some s:=a;have l:(if S k=true then pE t e.dst e.x else t) s=t s:=(by split;exact u3 f;rfl);have m:(if S' k=true then pE t' e.dst e.x else t') s=t' s:=(by split;exact u3 f;rfl);rw[l,m,h]
theorem xm:∀(a:List kb) (S S':Nat->Bool) (k:Nat) (m m':Id->Mem) (o:Id),m o=m' o->(∀i e,a[i]? =some e->wM e o->S (k+i)=S' (k+i))->fM a S k m o=fM a S' k m' o
 |[],_,_,_,_,_,_,h,_=>h
 |e::a,S,S',k,m,m',o,h,hw=>by
  simp only[fM];refine xm a S S' (k+1) _ _ o ?_ (λi g j b=>by
   have:=hw (i+1) g (by simpa using j) b
   rwa [show k+(i+1)=k+1+i by omega]at this)
  by_cases b:wM e o;have c:=hw 0 e rfl b;simp only[YG]at c;rw[c];split;exact AN b;exact h;have f:o∉e.mo.map (·.1):=b;have l:(if S k=true then cK m e.mo else m) o=m o:=(by split;exact mq f;rfl);have p:(if S' k=true then cK m' e.mo else m') o=m' o:=(by split;exact mq f;rfl);rw[l,p,h]
theorem FF (a:List kb) (S:Nat->Bool) (k:Nat) (t:Nat->TV) (s:Nat) (h:∀i e,a[i]? =some e->wS e s->S (k+i)=false):fT a S k t s=t s:=by
 induction a generalizing k t with
 |nil=>rfl
 |cons e a f=>
  simp only[fT];rw[f (k+1) _ (λi g j b=>by
   have:=h (i+1) g (by simpa using j) b
   rwa [show k+(i+1)=k+1+i by omega]at this)]
  by_cases b:wS e s;have c:=h 0 e rfl b;simp only[YG]at c;rw[c];rfl;split;exact u3 b;rfl
theorem FG (a:List kb) (S:Nat->Bool) (k:Nat) (m:Id->Mem) (o:Id) (h:∀i e,a[i]? =some e->wM e o->S (k+i)=false):fM a S k m o=m o:=by
 induction a generalizing k m with
 |nil=>rfl
 |cons e a f=>
  simp only[fM];rw[f (k+1) _ (λi g j b=>by
   have:=h (i+1) g (by simpa using j) b
   rwa [show k+(i+1)=k+1+i by omega]at this)]
  by_cases b:wM e o;have c:=h 0 e rfl b;simp only[YG]at c;rw[c];rfl;split;exact mq b;rfl
theorem HN:∀(a:List kb) (S:Nat->Bool) (k:Nat) (t:Nat->TV) (s:Nat) (i:Nat) (e:kb),a[i]? =some e->wS e s->S (k+i)=true->(∀j b,a[j]? =some b->i<j->wS b s->S (k+j)=false)->fT a S k t s=e.x
 |[],_,_,_,_,i,e,h,_,_,_=>by simp at h
 |m::a,S,k,t,s,0,e,h,hw,c,f=>by
  simp at h;subst h;simp only[fT];rw[FF a S (k+1) _ s (λj b g l=>by
   have:=f (j+1) b (by simpa using g) (by omega) l
   rwa [show k+(j+1)=k+1+j by omega]at this)]
  simp only[YG]at c;rw[c];exact u4 hw
 |m::a,S,k,t,s,i+1,e,h,hw,c,f=>by
  simp only[fT];exact HN a S (k+1) _ s i e (by simpa using h) hw (by rwa [show k+(i+1)=k+1+i by omega]at c) (λj b g o l=>by
   have:=f (j+1) b (by simpa using g) (by omega) l
   rwa [show k+(j+1)=k+1+j by omega]at this)
theorem HO:∀(a:List kb) (S:Nat->Bool) (k:Nat) (m m':Id->Mem) (o:Id) (i:Nat) (e:kb),a[i]? =some e->wM e o->S (k+i)=true->(∀j b,a[j]? =some b->i<j->wM b o->S (k+j)=false)->fM a S k m o=cK m' e.mo o
 |[],_,_,_,_,_,i,e,h,_,_,_=>by simp at h
 |p::a,S,k,m,m',o,0,e,h,hw,c,f=>by
  simp at h;subst h;simp only[fM];rw[FG a S (k+1) _ o (λj b g l=>by
   have:=f (j+1) b (by simpa using g) (by omega) l
   rwa [show k+(j+1)=k+1+j by omega]at this)]
  simp only[YG]at c;rw[c];exact AN hw
 |p::a,S,k,m,m',o,i+1,e,h,hw,c,f=>by
  simp only[fM];exact HO a S (k+1) _ m' o i e (by simpa using h) hw (by rwa [show k+(i+1)=k+1+i by omega]at c) (λj b g q l=>by
   have:=f (j+1) b (by simpa using g) (by omega) l
   rwa [show k+(j+1)=k+1+j by omega]at this)
theorem rZ.length {b:Array Oper} {os:List Oper} {a:List kb} {t:Nat->TV} (h:rZ P N b os a t m t' m'):a.length=os.length:=by
 induction h with
 |nil=>rfl
 |cons _ _ c=>simp[c]
theorem rZ.final {c:Array Oper} {os:List Oper} {a:List kb} {t:Nat->TV} (h:rZ P N c os a t m t' m'):∀(S:Nat->Bool) (k:Nat),(∀i,i<a.length->S (k+i)=true)->fT a S k t=t'/\fM a S k m=m':=by
 induction h with
 |nil=>intro S k _;exact⟨rfl,rfl⟩
 |@cons o e os a t t' m m' g j f=>
  intro S k hS;have b:=hS 0 (by simp);simp only[YG]at b;simp only[fT,fM,b,aaD];exact f S (k+1) (λi hi=>by
   have:=hS (i+1) (by simpa using hi)
   rwa [show k+(i+1)=k+1+i by omega]at this)
theorem rZ.at {P:Program} {N:Nat} {c:Array Oper} {os:List Oper} {a:List kb} {t t':Nat->TV} {m m':Id->Mem} (h:rZ P N c os a t m t' m'):∀(k i:Nat) (o:Oper) (e:kb),os[i]? =some o->a[i]? =some e->
  N0 P N c o e (fT a (λj=>decide (j<k+i)) k t) (fM a (λj=>decide (j<k+i)) k m):=by
 induction h with
 |nil=>intro k i o e h;simp at h
 |@cons r f os a t t' m m' g u l=>
  intro k i o e b hi;cases i with
  |zero=>simp at b hi;subst b;subst hi;have p:fT (f::a) (λj=>decide (j<k+0)) k t=t:=(by funext s;exact FF _ _ _ _ _ (λi _ _ _=>by simp));have q:fM (f::a) (λj=>decide (j<k+0)) k m=m:=(by funext s;exact FG _ _ _ _ _ (λi _ _ _=>by simp));rw[p,q];exact g
  |succ i=>
   have:=l (k+1) i o e (by simpa using b) (by simpa using hi);simp only[fT,fM,show k<k+(i+1) from by omega,decide_true,aaD]
   rwa [show k+1+i=k+(i+1) by omega]at this
theorem ur (acc:List Nat) (l:List Edge) (p:Nat):∀(s:Nat),(l.foldl (λs e=>bif Region.binds .any e then s|||2^e.on|||acc.getD e.on 0 else s) s).testBit p=true->
  s.testBit p=true\/∃e∈l,Region.binds .any e=true/\(p=e.on\/(acc.getD e.on 0).testBit p=true):=by
 induction l with
 |nil=>intro s h;exact .inl h
 |cons e l b=>
  intro s h;simp only[Z3]at h;rcases b _ h with h1|⟨c,f,g⟩
  ·cases a:Region.binds .any e with
   |false=>rw[a]at h1;exact .inl h1
   |true=>rw[a]at h1;simp only[ZD,aaf,Zl]at h1;rcases h1 with(h1|h1)|h1;exact .inl h1;right;refine⟨e,by simp,a,.inl ?_⟩;rw[Nat.testBit_two_pow]at h1;have:e.on=p:=(by simpa using h1);exact this.symm;exact .inr ⟨e,by simp,a,.inr h1⟩
  ·exact .inr ⟨c,by simp[f],g⟩
theorem ue {g:List Oper} (S:Nat->Prop) (hS:∀i (o:Oper),g[i]? =some o->S i->∀e∈o.after.toList,Region.binds .any e=true->S e.on):
  ∀(n:Nat) (done a:List Oper) (acc:List Nat),a.length=n->g=done++a->acc.length=done.length->
   (∀i (o:Oper),i<done.length->g[i]? =some o->(∀e∈o.after.toList,Region.binds .any e=true->S e.on)->∀p,(acc.getD i 0).testBit p=true->S p)->
   ∀i (o:Oper),g[i]? =some o->(∀e∈o.after.toList,Region.binds .any e=true->S e.on)->∀p,((D3 a acc).getD i 0).testBit p=true->S p:=by
 intro n;induction n with
 |zero=>intro done a acc j k u l i o b m p c;have:a=[]:=Y0 j;subst this;rw[D3]at c;refine l i o ?_ b m p c;have:=(Ye.1 b).1;rw[k]at this;simpa using this
 |succ n y=>
  intro done a acc j k u l
  match a,j with
  |f::a,j=>
   rw[D3];refine y (done++[f]) a (acc++[rP acc f]) (by simpa using j) (by simp[k]) (by simp[u]) ?_;intro i o w b m p c;by_cases z:i<done.length;have:(acc++[rP acc f]).getD i 0=acc.getD i 0:=(by simp[List.getD,Yl,show i<acc.length by omega]);rw[this]at c;exact l i o z b m p c
   ·have A:i=done.length:=(by simp at w;omega);subst A;have B:(acc++[rP acc f]).getD done.length 0=rP acc f:=(by simp[List.getD,<-u]);rw[B]at c;have C:o=f:=(by rw[k]at b;simp at b;exact b.symm);subst C;rcases ur acc o.after.toList p 0 c with D|⟨e,E,F,q⟩;simp at D
    ·have x:=m e E F;rcases q with rfl|q;exact x
     ·
      have w:e.on<done.length:=(by rcases aam e.on acc.length with h|h;omega;simp[List.getD,YU h]at q);have r:∃t,g[e.on]? =some t:=⟨_,XY (by rw[k];simp;omega)⟩;obtain⟨t,r⟩:=r;exact l e.on t w r (hS e.on t r x) p q
variable {i:Nat}
theorem mem_ready {h:Region.Mode} {a:Array Oper} {j:Array Bool}:i∈Region.ready h a j↔i<a.size/\j.getD i true=false/\∀o,a[i]? =some o->∀e∈o.after.toList,Region.binds h e=true->j.getD e.on false=true:=by
 unfold Region.ready;simp only[aaq,X6,XJ,Yx];constructor;rintro⟨c,k,b⟩;refine⟨c,k,λo f e l g=>?_⟩;rw[f]at b;simp only[aaA,Yt,abJ]at b;have:=b e (aby.1 l);simpa[g]using this
 ·rintro⟨c,k,b⟩;refine⟨c,k,?_⟩;have f:a[i]? =some a[i]:=(by simp[c]);rw[f];simp only[aaA,Yt,abJ];intro e l;cases g:Region.binds h e with
  |false=>rfl
  |true=>simpa[g]using b a[i] f e (aby.2 l) g
def ri (n:Nat) (a:Array Bool):Nat:=((List.range n).filter λi=>!a.getD i true).length
theorem Fw {n:Nat} {a:Array Bool} (hs:a.size=n) (hi:i<n) (m:a.getD i true=false):ri n (a.setIfInBounds i true)+1=ri n a:=by
 unfold ri;have f:∀j,(a.setIfInBounds i true).getD j true=if j=i then true else a.getD j true:=by intro j;simp only[YC,Z4];by_cases h:i=j;subst h;simp[hs,hi];have:j≠i:=λe=>h e.symm;simp[h,this]
 have o:∀(l:List Nat),l.Nodup->((l.filter λj=>!(a.setIfInBounds i true).getD j true).length+if i∈l then 1 else 0)=(l.filter λj=>!a.getD j true).length:=by
  intro l;induction l with
  |nil=>intro _;rfl
  |cons x l p=>
   intro q;have g:=YA.1 q;have k:=p g.2;by_cases b:x=i;subst b;have r:x∉l:=g.1;rw[XG r]at k;have c:(!(a.setIfInBounds x true).getD x true)=false:=(by rw[f];simp);have t:(!a.getD x true)=true:=(by rw[m];rfl);simp only[abb,c,t,aaD,XV,XD,true_or];simp only[Y6,aaa];omega
   ·have c:(!(a.setIfInBounds i true).getD x true)=(!a.getD x true):=(by rw[f,XG b]);simp only[abb,c];have u:(i∈x::l)↔i∈l:=(by rw[XD];exact⟨λh=>h.resolve_left (λe=>b e.symm),.inr⟩);simp only[u];cases w:(!a.getD x true)with
    |true=>simp only[aaD,XV];omega
    |false=>simp only[Y6,aaa];exact k
 have:=o (List.range n) aag;rw[XL (by simpa using hi)]at this;exact this
theorem Fv {n:Nat} {a:Array Bool} (h:ri n a=0) (i:Nat) (hi:i<n):a.getD i true=true:=by
 unfold ri at h;have c:=Y0 h;have b:=List.filter_eq_nil_iff.1 c i (by simpa using hi);cases f:a.getD i true with
 |true=>rfl
 |false=>rw[f]at b;simp at b
theorem MR {P:Program} {N:Nat} {g:Array Oper} {c:List kb} {t b0:Nat->TV} {m m':Id->Mem} (h:rZ P N g g.toList c t m b0 m') (a1:Wp g.toList (c.map kb.mask)=true)
  {E:Env} (c1:E.P=P) (c2:E.N=N) {Q:Exit->Act->World->Prop} (c3:∀a2 T U,Rel E a2 b0 m' T U->Q .normal T U):
  ∀(G:Nat) (f:Array Bool) (I:Id->Option (Nat×Nat)) (a:Act) (w:World),f.size=g.size->ri g.size f=G->
   (∀i (o:Oper),g.toList[i]? =some o->f.getD i false=true->∀e∈o.after.toList,Region.binds .any e=true->f.getD e.on false=true)->
   Rel E I (fT c (λi=>f.getD i false) 0 t) (fM c (λi=>f.getD i false) 0 m) a w->wpAny P .any g Q G f a w:=by
 have e3:c.length=g.size:=by rw[h.length];simp
 have a3:∀j,j<g.size->(∀o,g.toList[j]? =some o->∀e∈o.after.toList,Region.binds .any e=true->e.on<j)/\
   ∀i,i<j->∀V k,c[i]? =some V->c[j]? =some k->DM V.mask k.mask=true->((D3 g.toList []).getD j 0).testBit i=true:=by
  intro j y;unfold Wp at a1;simp only[Zz,X6,XJ]at a1;obtain⟨a4,c4⟩:=a1 j (by simpa using y);refine⟨λo z e x r=>?_,λi A V k a5 J K=>?_⟩;rw[z]at a4;simp only[aaA,Yt,Zz]at a4;have:=a4 e x;rw[r]at this;exact bR (by simpa using this);have:=c4 i A;have c5:(c.map kb.mask).getD i (0,0)=V.mask:=(by simp[List.getD,a5]);have c6:(c.map kb.mask).getD j (0,0)=k.mask:=(by simp[List.getD,J]);rw[c5,c6,K]at this;simpa using this
 intro G;induction G with
 |zero=>intro f I a w B b1 M X;have b2:∀i,i<g.size->f.getD i true=true:=Fv b1;refine⟨?_,?_⟩;rw[aah];intro i A;have:=mem_ready.1 A;rw[b2 i this.1]at this;simp at this;have b3:=h.final (λi=>f.getD i false) 0 (λi A=>by rw[Ya];have:=b2 i (by omega);have O:i<f.size:=(by omega);simp only[YC,ZV O,Yt]at this|-;exact this);rw[b3.1,b3.2]at X;exact c3 I a w X
 |succ G c7=>
  intro f I a w B b1 M X;have b4:∀i,i<g.size->f.getD i false=f.getD i true:=λi A=>by have O:i<f.size:=(by omega);simp[YC,ZV O]
  refine⟨λc8=>?_,λi A=>?_⟩
  ·
   exfalso;have c9:∃i,i<g.size/\f.getD i true=false:=by
    refine Xz λd0=>?_;have e4:ri g.size f=0:=by
     unfold ri;rw[List.length_eq_zero_iff,List.filter_eq_nil_iff];intro i A;cases r:f.getD i true with
     |true=>simp
     |false=>exact absurd ⟨i,by simpa using A,r⟩ d0
    omega
   have d1:∀n,(∃i,i<=n/\i<g.size/\f.getD i true=false)->∃i,i<g.size/\f.getD i true=false/\∀j,j<i->f.getD j true=true:=by
    intro n;induction n with
    |zero=>rintro⟨i,a5,J,a6⟩;exact⟨i,J,a6,λj y=>by omega⟩
    |succ n d2=>
     rintro⟨i,a5,J,a6⟩;by_cases b5:∃i,i<=n/\i<g.size/\f.getD i true=false;exact d2 b5
     ·refine⟨i,J,a6,λj y=>?_⟩;cases r:f.getD j true with
      |true=>rfl
      |false=>exact absurd ⟨j,by omega,by omega,r⟩ b5
   obtain⟨b6,d3,d4⟩:=c9;obtain⟨i,A,Y,d5⟩:=d1 b6 ⟨b6,XU _,d3,d4⟩;have:i∈Region.ready .any g f:=mem_ready.2 ⟨A,Y,λo z e x r=>by have O:=(a3 i A).1 o (by simpa using z) e x r;rw[b4 _ (by omega)];exact d5 _ O⟩;rw[c8]at this;simp at this
  ·obtain⟨H,Y,b7⟩:=mem_ready.1 A;have a7:f.getD i false=false:=(by rw[b4 i H];exact Y);have a8:g[i]? =some g[i]:=(by simp[H]);have a9:g.toList[i]? =some g[i]:=(by simp[H]);have C:c[i]? =some c[i]:=(by simp[show i<c.length by omega]);have d6:∀p,((D3 g.toList []).getD i 0).testBit p=true->f.getD p false=true:=
    ue (λj=>f.getD j false=true) (λj o z y e x r=>M j o z y e x r) _ [] g.toList [] rfl rfl rfl (λ_ _ h=>absurd h (XO _)) i g[i] a9 (λe x r=>b7 g[i] a8 e x r)
   have d7:∀j,j<g.size->f.getD j false=true->∀p,((D3 g.toList []).getD j 0).testBit p=true->f.getD p false=true:=(by intro j y R;have b8:g.toList[j]? =some g[j]:=(by simp[y]);exact ue (λj=>f.getD j false=true) (λj o z y e x r=>M j o z y e x r) _ [] g.toList [] rfl rfl rfl (λ_ _ h=>absurd h (XO _)) j g[j] b8 (λe x r=>M j g[j] b8 R e x r));have b9:∀j k,j<i->c[j]? =some k->DM k.mask c[i].mask=true->f.getD j false=true:=λj k q l K=>d6 j ((a3 i H).2 j q k c[i] l C K);have Z:∀j k,i<j->c[j]? =some k->DM c[i].mask k.mask=true->f.getD j false=false:=λj k S l K=>by
    have y:j<g.size:=(by have:=(Ye.1 l).1;omega);cases r:f.getD j false with
    |false=>rfl
    |true=>have:=d7 j y r i ((a3 j y).2 i S c[i] k C l K);rw[a7]at this;simp at this
   have c0:=h.at 0 i g[i] c[i] a9 C;rw[Ya]at c0;have d8:∀s∈c[i].Sh,fT c (λi=>f.getD i false) 0 t s=fT c (λj=>decide (j<i)) 0 t s:=λs B=>
    xl c _ _ 0 t t s rfl (λj k l u=>by
     rw[Ya];rcases Z0 j i with q|q|q;rw[b9 j k q l (th (s:=s) (.inl ⟨u,.inl B⟩))];simp[q];subst q;rw[a7];simp
     ·rw[Z j k q l (th (s:=s) (.inr ⟨B,u⟩))];simp;omega)
   have d9:∀b:Id,b.key∈c[i].Si->fM c (λi=>f.getD i false) 0 m b=fM c (λj=>decide (j<i)) 0 m b:=λb r=>
    xm c _ _ 0 m m b rfl (λj k l u=>by
     rw[Ya];rcases Z0 j i with q|q|q;rw[b9 j k q l (xy (s:=b) (.inl ⟨u,.inl r⟩))];simp[q];subst q;rw[a7];simp
     ·rw[Z j k q l (xy (s:=b) (.inr ⟨r,u⟩))];simp;omega)
   have D:∀j,(f.setIfInBounds i true).getD j false=if j=i then true else f.getD j false:=(by intro j;simp only[YC,Z4];by_cases h:i=j;subst h;simp[B,H];have:j≠i:=λe=>h e.symm;simp[h,this]);have e0:fT c (λj=>(f.setIfInBounds i true).getD j false) 0 t=pE (fT c (λi=>f.getD i false) 0 t) c[i].dst c[i].x:=(by funext s;by_cases u:wS c[i] s;rw[u4 u];refine HN c _ 0 t s i c[i] C u (by rw[Ya,D];simp) (λj k l S F=>?_);rw[Ya,D,iN];exact Z j k S l (th (s:=s) (.inl ⟨u,.inr F⟩));rw[u3 u];refine xl c _ _ 0 t t s rfl (λj k l F=>?_);rw[Ya,D];by_cases q:j=i;subst q;rw[C]at l;simp at l;subst l;exact absurd F u;rw[XG q]);have e1:fM c (λj=>(f.setIfInBounds i true).getD j false) 0 m=cK (fM c (λi=>f.getD i false) 0 m) c[i].mo:=(by funext s;by_cases u:wM c[i] s;refine HO c _ 0 m _ s i c[i] C u (by rw[Ya,D];simp) (λj k l S F=>?_);rw[Ya,D,iN];exact Z j k S l (xy (s:=s) (.inl ⟨u,.inr F⟩));rw[mq u];refine xm c _ _ 0 m m s rfl (λj k l F=>?_);rw[Ya,D];by_cases q:j=i;subst q;rw[C]at l;simp at l;subst l;exact absurd F u;rw[XG q]);have a0:=c0 E I _ _ a w c1 c2 d8 d9 X (wpAny P .any g Q G (f.setIfInBounds i true)) Q (λa2 T U e2=>by
    refine c7 _ a2 T U (by simp[B]) (by have:=Fw B H Y;omega) ?_ (by rw[e0,e1];exact e2);intro j o z R e x r;rw[D]at R|-;by_cases l:e.on=i;rw[XL l]
    ·rw[XG l];by_cases q:j=i;subst q;rw[a9]at z;simp at z;subst z;exact b7 g[j] a8 e x r
     ·rw[XG q]at R;exact M j o z R e x r)
   unfold wpOp;rw[a8];simp only;split;rename_i hw;rw[XL hw]at a0;exact .inl a0;rename_i hw;rw[XG hw]at a0;exact a0
end Go.Vm
