import Derived.Test.YtobmlkopbmakcaaGreatLB
set_option linter.unusedVariables false
set_option linter.unusedSimpArgs false
set_option maxRecDepth 20000
namespace Go.Vm
open Go Go.RowKit
theorem km:∀(ms:List Mem) (k j:Nat) (x:Mem),ms[j]? =some x->jF k ms (.n (k+j))=x
 |[],_,_,_,h=>by simp at h
 |y::r,k,0,x,h=>by have e:y=x:=(by simpa using h);simp only[jF,YR];rw[ar,e]
 |y::r,k,j+1,x,h=>by have a:r[j]? =some x:=(by simpa using h);simp only[jF];rw[av _ _ _ (by intro e;injection e;omega),show k+(j+1)=(k+1)+j by omega];exact km r (k+1) j x a
theorem gj:∀(ms:List Mem) (k:Nat) (o:Id),jF k ms o≠ .none->∃j x,ms[j]? =some x/\o= .n (k+j)
 |[],_,_,h=>absurd rfl h
 |y::r,k,o,h=>by by_cases e:o= .n k;exact⟨0,y,by simp,e⟩;simp only[jF]at h;rw[av _ _ _ e]at h;obtain⟨j,x,a,b⟩:=gj r (k+1) o h;exact⟨j+1,x,by simpa using a,by rw[b];congr 1;omega⟩
variable {ms:List Mem} {fr x:Mem} {j:Nat}
theorem kl (a:ms.length<=1000) (h:ms[j]? =some x):fF ms fr (.n (2000+j))=x:=by
 have b:=(Ye.1 h).1;rw[fF,av _ _ _ (by intro e;injection e;omega)];exact km ms 2000 j x h
theorem pe (ms:List Mem) (fr:Mem):fF ms fr (.n 3000)=fr:=ar _ _ _
theorem w1 {o:Id} (h:fF ms fr o≠ .none):(o= .n 3000/\fr≠ .none)\/∃j x,ms[j]? =some x/\o= .n (2000+j):=by
 by_cases e:o= .n 3000;subst e;rw[pe]at h;exact .inl ⟨rfl,h⟩;rw[fF,av _ _ _ e]at h;exact .inr (gj ms 2000 o h)
theorem uY {a:List Id} {d:Id} (c:j<1000) {o:Id} (h:a[j]? =some o):pJ a d (.n (2000+j))=o:=by
 have b:Nat.beq (2000+j) 3000=false:=rV;simp only[pJ,b,ZM];rw[show 2000+j-2000=j by omega];simp[List.getD,h]
theorem nL:∀(a b:List (Id×Mem)) (m:Id->Mem),cI m (a++b)=cI (cI m a) b
 |[],_,_=>rfl
 |_::a,b,m=>by simp only[YG,cI];exact nL a b _
theorem dY:∀(l:List (Id×Mem)) (m:Id->Mem) (o:Id),(∀p∈l,p.1≠o)->cI m l o=m o
 |[],_,_,_=>rfl
 |p::l,m,o,h=>by simp only[cI];rw[dY l _ o (λq a=>h q (by simp[a])),av _ _ _ (λe=>h p (by simp) e.symm)]
theorem wm {σ:Id->Id} {G:Id->Nat}:∀(a:List Id) (ms:List Mem) (k:Nat) (p:Id×Mem),p∈yd σ G k a ms->p.1∈a
 |[],_,_,p,h=>by simp[yd]at h
 |o::a,[],_,p,h=>by simp[yd]at h
 |o::a,x::ms,k,p,h=>by simp only[yd]at h;rcases XF.1 h with rfl|h;simp;exact XK _ (wm a ms (k+1) p h)
theorem GR {σ:Id->Id} {G:Id->Nat}:∀(b:List Id) (ms:List Mem) (k j:Nat) (o:Id) (y:Mem) (m:Id->Mem),(∀(i c:Nat) (a:Id),b[i]? =some a->b[c]? =some a->i=c)->b[j]? =some o->ms[j]? =some y->
  cI m (yd σ G k b ms) o=uy σ G (G (.n (k+j))) y
 |[],_,_,_,_,_,_,_,h,_=>by simp at h
 |_::_,[],_,_,_,_,_,_,_,h=>by simp at h
 |f::b,x::ms,k,0,o,y,m,g,l,r=>by have u:f=o:=(by simpa using l);have w:x=y:=(by simpa using r);subst u w;simp only[yd,cI,YR];rw[dY _ _ _ (λp z e=>by have t:=wm b ms (k+1) p z;rw[e]at t;obtain⟨i,A⟩:=ZT t;have:=g 0 (i+1) f (by simp) (by simpa using A);omega),ar]
 |f::b,x::ms,k,j+1,o,y,m,g,l,r=>by simp only[yd,cI];rw[show k+(j+1)=(k+1)+j by omega];exact GR b ms (k+1) j o y _ (λi c a p q=>by have:=g (i+1) (c+1) a (by simpa using p) (by simpa using q);omega) (by simpa using l) (by simpa using r)
theorem wI:∀(l:List Nat),AW l=true->l.Nodup
 |[],_=>WQ
 |k::r,h=>by simp only[AW,XH,YK,List.any_eq_false]at h;refine Yy.2 ⟨λa=>h.1 k a (Zs k),wI r h.2⟩
theorem zR.at {m:Id->Mem} {σ:Id->Id} {b:List Id} {ms:List Mem} (h:zR m σ b ms):b.length=ms.length/\∀(j:Nat) (o:Id) (x:Mem),b[j]? =some o->ms[j]? =some x->kd m σ (m o) x:=by
 induction h with
 |nil=>exact⟨rfl,λj o x h=>by simp at h⟩
 |cons a _ g=>
  refine⟨by simp[g.1],λj o x c f=>?_⟩;cases j with
  |zero=>simp at c f;subst c f;exact a
  |succ j=>exact g.2 j o x (by simpa using c) (by simpa using f)
theorem pk:∀(ms a:List Mem),Dd ms a=true->a.length=ms.length/\∀(j:Nat) (x y:Mem),ms[j]? =some x->a[j]? =some y->y= .dead\/(y.kind=x.kind/\0<x.kind)
 |[],[],_=>⟨rfl,λj x y h=>by simp at h⟩
 |[],_::_,h=>by simp[Dd]at h
 |_::_,[],h=>by simp[Dd]at h
 |l::r,f::g,h=>by
  simp only[Dd,XH,Zo]at h;obtain⟨i,k⟩:=pk r g h.2;refine⟨by simp[i],λj x y b c=>?_⟩;cases j with
  |zero=>
   simp at b c;subst b c;rcases h.1 with h|h;(left;revert h;cases f<;>simp[Mem.Mg])
   ·exact .inr ⟨XE h.1,bU h.2⟩
  |succ j=>exact k j x y (by simpa using b) (by simpa using c)
theorem Jm:x.kind=1↔x.dw=true:=by cases x<;>simp[Mem.kind,Mem.dw]
variable {k:Nat}
theorem Jn:x.kind=k+2↔∃g n,x.bK=some (g,n,k):=by
 cases x<;>simp[Mem.kind,Mem.bK]
variable {S S':Nat->Prop} {m m':Id->Mem} {ρ ρ':Id->Option (Nat×Nat)} {w w':World} {σ:Id->Id} {xs:List Value}
theorem qP.RF (g:∀b,S b->S' b/\w'.heap[b]? =w.heap[b]?) {cs:List CR} (h:qP S m ρ w xs cs):
  (∀o p x,(∃c∈cs,c.refs o)->bh m ρ x o p->bh m' ρ' x (σ o) p)->qP S' m' ρ' w' xs (nJ σ cs):=by
 induction h with
 |nil=>intro _;exact .nil
 |@cons x c xs cs a _ i=>
  intro f;refine .cons ?_ (i (λo p x ⟨j,k,l⟩=>f o p x ⟨j,by simp[k],l⟩));cases c with
  |s c=>exact Rd.mono g a
  |ptr o p=>exact f o p x ⟨.ptr o p,by simp,rfl⟩ a
variable {G:Id->Nat} {c:CV}
theorem kR.RF (a:∀b,S b->S' b/\w'.heap[b]? =w.heap[b]?) {x:Value} (h:kR S m ρ w x c) (j:c.cur m)
  (i:∀o p x,c.refs o->bh m ρ x o p->bh m' ρ' x (σ o) p) (k:∀o x,c.refs o->bF m ρ x o (m o).gen->bF m' ρ' x (σ o) (G o)):kR S' m' ρ' w' x (CD σ G c):=by
 cases c with
 |s c=>exact Rd.mono a h
 |ptr o p=>exact i o p x rfl h
 |aL o g=>exact k o x rfl (by rw[<-(show g=(m o).gen from j)];exact h)
 |cV f t=>obtain⟨l,q,r⟩:=h;exact⟨l,q,r.RF a i⟩
theorem fU.RF (l:∀b,S b->S' b/\w'.heap[b]? =w.heap[b]?) {cs:List CV} (h:fU S m ρ w xs cs):(∀c∈cs,c.cur m)->
  (∀o p x,(∃c∈cs,c.refs o)->bh m ρ x o p->bh m' ρ' x (σ o) p)->(∀o x,(∃c∈cs,c.refs o)->bF m ρ x o (m o).gen->bF m' ρ' x (σ o) (G o))->fU S' m' ρ' w' xs (sM σ G cs):=by
 induction h with
 |nil=>intro _ _ _;exact .nil
 |@cons x c xs cs a _ q=>
  intro g j k;exact .cons (a.RF l (g c (by simp)) (λo p x f=>j o p x ⟨c,by simp,f⟩) (λo x f=>k o x ⟨c,by simp,f⟩))
   (q (λi r=>g i (by simp[r])) (λo p x ⟨i,g,f⟩=>j o p x ⟨i,by simp[g],f⟩) (λo x ⟨i,g,f⟩=>k o x ⟨i,by simp[g],f⟩))
variable {m0:Id->Mem} {ρ0:Id->Option (Nat×Nat)}
theorem qP.fit (k:∀b,S b->S' b):∀{cs f:List CR} (_:tD σ cs f) {xs:List Value} (_:qP S m' ρ w xs cs),
  (∀o p x,(∃c∈f,c.refs o)->bh m' ρ x (σ o) p->bh m0 ρ0 x o p)->qP S' m0 ρ0 w xs f:=by
 intro cs f m;induction m with
 |nil=>intro xs h _;cases h;exact .nil
 |@cons c g l z h _ q=>
  intro xs r i;cases r with
  |cons a b=>
   refine .cons ?_ (q b (λo p x ⟨g,t,u⟩=>i o p x ⟨g,by simp[t],u⟩));cases h with
   |s h=>exact h _ _ _ (Rd.mono (λb y=>⟨k b y,rfl⟩) a)
   |@ptr o j p h=>subst h;exact i j p _ ⟨.ptr j p,by simp,rfl⟩ a
theorem kR.fit (k:∀b,S b->S' b) {a:CV} (q:ug m σ c a) {x:Value} (h:kR S m' ρ w x c)
  (l:∀o p x,a.refs o->bh m' ρ x (σ o) p->bh m0 ρ0 x o p) (r:∀o x,a.refs o->bF m' ρ x (σ o) (m (σ o)).gen->bF m0 ρ0 x o 1):kR S' m0 ρ0 w x a:=by
 cases q with
 |s t=>exact t _ _ _ (Rd.mono (λb u=>⟨k b u,rfl⟩) h)
 |@ptr o i p j=>subst j;exact l i p _ rfl h
 |@aL o i g j y=>subst j y;exact r i _ rfl h
 |@cV f c a z=>obtain⟨A,B,C⟩:=h;exact⟨A,B,qP.fit k z C l⟩
theorem fU.fit (r:∀b,S b->S' b):∀{cs i:List CV} (_:iV m σ cs i) {xs:List Value} (_:fU S m' ρ w xs cs),
  (∀o p x,(∃c∈i,c.refs o)->bh m' ρ x (σ o) p->bh m0 ρ0 x o p)->(∀o x,(∃c∈i,c.refs o)->bF m' ρ x (σ o) (m (σ o)).gen->bF m0 ρ0 x o 1)->fU S' m0 ρ0 w xs i:=by
 intro cs i t;induction t with
 |nil=>intro xs h _ _;cases h;exact .nil
 |@cons c g l z h _ u=>
  intro xs y k q;cases y with
  |cons a b=>
   exact .cons (a.fit r h (λo p x f=>k o p x ⟨g,by simp,f⟩) (λo x f=>q o x ⟨g,by simp,f⟩))
    (u b (λo p x ⟨g,j,f⟩=>k o p x ⟨g,by simp[j],f⟩) (λo x ⟨g,j,f⟩=>q o x ⟨g,by simp[j],f⟩))
theorem gO.UZ {cs f:List SV} (h:gO cs f):∀{xs:List Value},eJ S w xs cs->eJ S w xs f:=by
 induction h with
 |nil=>intro xs h;exact h
 |cons a _ g=>intro xs h;cases h with|cons b c=>exact .cons (a _ _ _ b) (g c)
theorem iV.of_map:∀{l:List SV} {f:List CV} {S S':Nat->Prop} {m' m0:Id->Mem} {ρ ρ0:Id->Option (Nat×Nat)} {w:World},iV m σ (l.map .s) f->(∀b,S b->S' b)->∀{xs:List Value},eJ S w xs l->fU S' m0 ρ0 w xs f:=by
 intro l;induction l with
 |nil=>intro f S S' m' m0 ρ ρ0 w h _ xs g;cases h;cases g;exact .nil
 |cons c l j=>
  intro f S S' m' m0 ρ ρ0 w h i xs g;cases h with
  |cons a b=>
   cases g with
   |cons p q=>
    refine .cons ?_ (j (m':=m') (ρ:=ρ) b i q);cases a with
    |s k=>exact k _ _ _ (Rd.mono (λb o=>⟨i b o,rfl⟩) p)
variable {y:Mem}
theorem kd.live (h:kd m σ x y):y.live->x.live:=by cases h<;>exact id
theorem kd.dw (h:kd m σ x y):(x.dw=true/\y.dw=true/\y.kind=1)\/∃g n k,x.bK=some (g,n,k)/\y.bK=some (1,n,k)/\y.kind=k+2:=by
 cases h<;>first|exact .inl ⟨rfl,rfl,rfl⟩|exact .inr ⟨_,_,_,rfl,rfl,rfl⟩
variable {g:Nat}
theorem IX:(uy σ G g x).live↔x.live:=by cases x<;>exact ZC
theorem IW:uy σ G g x= .none↔x= .none:=by cases x<;>simp[uy]
theorem IY:(uy σ G g x).dw=x.dw:=by cases x<;>rfl
theorem IZ {g' n:Nat} (h:x.bK=some (g',n,k)):(uy σ G g x).bK=some (g,n,k):=by
 cases x<;>simp[Mem.bK]at h<;>(obtain⟨_,rfl,rfl⟩:=h;rfl)
theorem wX {σ:Id->Id}:∀{cs:List CR} {c:CR},c∈nJ σ cs->∃a∈cs,c=Qy σ a
 |[],_,h=>by simp[nJ]at h
 |a::r,c,h=>by simp only[nJ]at h;rcases XF.1 h with rfl|h;exact⟨a,by simp,rfl⟩;obtain⟨b,f,g⟩:=wX h;exact⟨b,by simp[f],g⟩
theorem wW {σ:Id->Id} {G:Id->Nat}:∀{cs:List CV} {c:CV},c∈sM σ G cs->∃a∈cs,c=CD σ G a
 |[],_,h=>by simp[sM]at h
 |a::r,c,h=>by simp only[sM]at h;rcases XF.1 h with rfl|h;exact⟨a,by simp,rfl⟩;obtain⟨b,f,g⟩:=wW h;exact⟨b,by simp[f],g⟩
theorem tO {cs:List CR} {o:Id} (h:∃c∈nJ σ cs,c.refs o):∃a,(∃c∈cs,c.refs a)/\o=σ a:=by
 obtain⟨c,f,b⟩:=h;obtain⟨g,i,rfl⟩:=wX f;cases g with
 |s c=>exact b.elim
 |ptr a p=>exact⟨a,⟨_,i,rfl⟩,(show σ a=o from b).symm⟩
theorem wq {o:Id} (h:(CD σ G c).refs o):∃a,c.refs a/\o=σ a:=by
 cases c with
 |s c=>exact h.elim
 |ptr a p=>exact⟨a,rfl,(show σ a=o from h).symm⟩
 |aL a g=>exact⟨a,rfl,(show σ a=o from h).symm⟩
 |cV f b=>exact tO h
theorem IV {o:Id} (h:(uy σ G g x).refs o):∃a,x.refs a/\o=σ a:=by
 cases x with
 |obj u=>obtain⟨c,m,b⟩:=h;obtain⟨p,q,rfl⟩:=wW m;obtain⟨a,f,l⟩:=wq b;exact⟨a,⟨p,q,f⟩,l⟩
 |br w n k e y=>obtain⟨i,j,r,t,b⟩:=h;obtain⟨a,f,l⟩:=wq b;exact⟨a,⟨i,j,r,t,f⟩,l⟩
 |_=>exact h.elim
theorem IU {x:TV} {o:Id} (h:(La σ G x).refs o):∃a,x.refs a/\o=σ a:=by
 cases x with
 |ptr a p=>exact⟨a,rfl,(show σ a=o from h).symm⟩
 |jw a p=>exact⟨a,rfl,(show σ a=o from h).symm⟩
 |aL a g=>exact⟨a,rfl,(show σ a=o from h).symm⟩
 |cV f b=>exact tO h
 |_=>exact h.elim
def Lo:Id->Prop
 | .n k=>k<2000
 | .s k _=>k<2000
structure Eo (P:Program) (f:FuncId) (args:List TV) (M0:Id->Mem) (r:TV) (M1:Id->Mem):Prop where
 enters:Enters P f
 hi:∀o,M0 o≠ .none->¬Lo o
 De:∀o,M0 o≠ .none->M1 o= .dead\/((M1 o).kind=(M0 o).kind/\0<(M0 o).kind)
 cur:r.cur M1
 th:∀o,(M1 o).cur M1
 closed:∀o o',(M0 o).refs o'->M0 o'≠ .none
 fS:∀x∈args,∀o',x.refs o'->M0 o'≠ .none
 clean:∀o,r.refs o->M1 o≠ .none
 calls:∀(E:Env) (vs:List Value),E.P=P->E.m0=M0->Own E E.ρ0 E.m0 E.w0->jV E E.m0 E.ρ0 E.w0 vs args->
  Calls P f vs.toArray E.w0 λe w'=>∃v ρ',e= .returned v/\Own E ρ' M1 w'/\dm E M1 ρ' w' v r
structure Qe (m:Id->Mem) (σ:Id->Id) (G:Id->Nat) (xs args:List TV) (M0 M1:Id->Mem) (mo:List (Id×Mem)) (rd:List Nat) (dst:Option Nat):Prop where
 mem:∀o,M0 o≠ .none->kd m σ (m (σ o)) (M0 o)
 args:lP m σ xs args
 inj:∀o o',M1 o≠ .none->M1 o'≠ .none->σ o=σ o'->o=o'
 key:∀o,M1 o≠ .none->(σ o).key∈rd
 fresh:∀o,M0 o= .none->M1 o≠ .none->m (σ o)= .none/\(Lo (σ o)\/σ o= .n (dst.getD 0))
 gen:∀o,M0 o≠ .none->G o=bif Nat.beq (M1 o).gen 1 then(m (σ o)).gen else(m (σ o)).gen+2
 Hl:∀m' o,M1 o≠ .none->cI m' mo (σ o)=uy σ G (G o) (M1 o)
 A2:∀m' b,(∀o,M1 o≠ .none->σ o≠b)->cI m' mo b=m' b
theorem Env.Pe (E:Env) {o:Id} (h:Lo o):E.m0 o= .none:=by
 cases o with
 |n k=>exact E.Vv k h
 |s k i=>exact E.VV k i h
variable {M1:Id->Mem} {ρ2:Id->Option (Nat×Nat)}
section
open Classical
noncomputable def K5 (σ:Id->Id) (M1:Id->Mem) (ρ ρ2:Id->Option (Nat×Nat)) (b:Id):Option (Nat×Nat):=if h:∃o,M1 o≠ .none/\σ o=b then ρ2 h.choose else ρ b
theorem OA (c:∀o a,M1 o≠ .none->M1 a≠ .none->σ o=σ a->o=a) {o:Id} (h:M1 o≠ .none):K5 σ M1 ρ ρ2 (σ o)=ρ2 o:=by
 have b:∃a,M1 a≠ .none/\σ a=σ o:=⟨o,h,rfl⟩;unfold K5;rw[dif_pos b,c _ _ b.choose_spec.1 h b.choose_spec.2]
theorem lv {b:Id} (h:∀o,M1 o≠ .none->σ o≠b):K5 σ M1 ρ ρ2 b=ρ b:=by
 unfold K5;rw[dif_neg (λ⟨o,a,c⟩=>h o a c)]
noncomputable def Vn (σ:Id->Id) (a:Id->Mem) (ρ:Id->Option (Nat×Nat)) (o:Id):Option (Nat×Nat):=if a o= .none then none else ρ (σ o)
end
variable {P:Program} {args:List TV}
set_option maxHeartbeats 2000000 in
theorem DX {o:Oper} {t:Nat->TV} {f:FuncId} {xs:List TV} {J:Id->Mem} {r:TV} {i2:List (Id×Mem)} {rd:List Nat}
  (j7:∀(E:Env) (ρ:Id->Option (Nat×Nat)) (e5:Nat->TV) (m':Id->Mem) (a:Act) (w:World),fe o t e5->Rel E ρ e5 m' a w->
   ∃d0:List Value,jV E m' ρ w d0 xs/\(Enters P f->(execOp a.eval o).run P w= .ok (.enter f d0.toArray) w))
  (a7:Eo P f args J r M1) (c0:Qe m σ G xs args J M1 i2 rd o.dst):aG P o t m (La σ G r) i2 rd:=by
 intro E ρ e5 m' a w p1 l8 l9 j8 I p2 Q m0;obtain⟨d0,i3,j9⟩:=j7 E ρ e5 m' a w l8 I;have c5:∀j,J j≠ .none->M1 j≠ .none:=λj B=>by rcases a7.De j B with h|⟨h,k0⟩;rw[h];simp;intro e;rw[e]at h;rw[<-h]at k0;simp[Mem.kind]at k0
 have g2:∀j,M1 j≠ .none->m' (σ j)=m (σ j):=λj B=>l9 (σ j) (c0.key j B);have d1:∀j,J j≠ .none->kd m σ (m' (σ j)) (J j):=λj B=>by rw[g2 j (c5 j B)];exact c0.mem j B
 have k1:=c0.inj;let ρ0:=Vn σ J ρ;have e0:∀j,J j≠ .none->ρ0 j=ρ (σ j):=λj h=>XD h;have i4:∀j,Lo j->J j= .none:=λj h=>Xz λB=>a7.hi j B h;let Y:Env:=⟨P,0,w,L E m' ρ w,λb A=>xS I A,λb=>∃j,J j≠ .none/\(m' (σ j)).live/\∃c,ρ (σ j)=some (b,c),λb ⟨a,_,l,c,r⟩=>(I.lo _ b c l r).2,J,ρ0,λk g3=>i4 (.n k) (show k<2000 by omega),λk g3=>i4 (.n k) g3,λk i g3=>i4 (.s k i) g3,w.heap.size⟩;have g4:∀j p x,J j≠ .none->bh m' ρ x (σ j) p->bh J ρ0 x j p:=by intro j p x B F;rcases(d1 j B).dw with⟨U,a8,_⟩|⟨g,n,k,U,_,_⟩;rw[bQ U]at F;rw[bQ a8,e0 j B];exact F;exact absurd F (hV U)
 have i5:∀j x,J j≠ .none->bF m' ρ x (σ j) (m (σ j)).gen->bF J ρ0 x j 1:=by intro j x B F;rw[<-g2 j (c5 j B)]at F;rcases(d1 j B).dw with⟨U,a8,_⟩|⟨g,n,k,U,a8,_⟩;rw[fH U]at F;rw[fH a8];exact F;rw[bB U,cO U]at F;rw[bB a8];refine⟨F.1,XP _,λ_=>?_⟩;have:=F.2.2 rfl;simp only[cE]at this|-;rw[e0 j B];exact this
 have e9:∀{M:Id->Mem} {j:Id},(M j).live->M j≠ .none:=λl e=>by rw[e]at l;exact l
 have g5:∀j b c,(J j).live->ρ0 j=some (b,c)->(m' (σ j)).live/\ρ (σ j)=some (b,c):=by intro j b c l d2;rw[e0 j (e9 l)]at d2;exact⟨(d1 j (e9 l)).live l,d2⟩
 have c6:∀b,L E m' ρ w b->L Y J ρ0 w b:=by intro b A;refine⟨.inl A,λj c l d2=>?_⟩;obtain⟨a9,b0⟩:=g5 j b c l d2;exact A.2 _ c a9 b0
 have m1:Own Y Y.ρ0 Y.m0 Y.w0:=by
  refine{below:=Bx.refl _ _ _,inj:=?_,lo:=?_,cleanM:=a7.closed,mem:=?_,carry:=λj _=>⟨λ_ _ h=>h,λ_ _ h=>h⟩};intro D a0 b c a1 e6 f0 R b2;obtain⟨m2,m3⟩:=g5 D b c e6 R;obtain⟨m4,m5⟩:=g5 a0 b a1 f0 b2;exact k1 D a0 (c5 _ (e9 e6)) (c5 _ (e9 f0)) (I.inj _ _ b c a1 m2 m4 m3 m5);intro j b c l d2;obtain⟨a9,b0⟩:=g5 j b c l d2;exact⟨.inl ⟨j,e9 l,a9,c,b0⟩,(I.lo _ b c a9 b0).2⟩
  ·intro j;show iJ Y J ρ0 w j (J j);by_cases B:J j= .none;rw[B];trivial;have a2:=I.mem (σ j);have H:∀K,(J j).refs K->J K≠ .none:=a7.closed j;have i6:=d1 j B;have d3:=e0 j B;revert a2 i6 H;generalize J j=y;generalize m' (σ j)=x;intro a2 H i6;cases i6 with
   |ro b6=>obtain⟨b,c,V,e,h1,O,u,N⟩:=a2;exact⟨b,c,V,e,by rw[d3,h1],c6 b O,u,b6.UZ (N.mono (λb A=>⟨c6 b A,rfl⟩))⟩
   |box b6=>obtain⟨b,c,V,e,h1,u,N⟩:=a2;exact⟨b,c,V,e,by rw[d3,h1],u,b6.UZ (N.mono (λb A=>⟨c6 b A,rfl⟩))⟩
   |tp b6=>obtain⟨b,c,V,e,h1,u,N⟩:=a2;exact⟨b,c,V,e,by rw[d3,h1],u,iV.of_map (m':=m') (ρ:=ρ) b6 c6 N⟩
   |obj b6=>obtain⟨b,c,V,e,h1,u,N⟩:=a2;refine⟨b,c,V,e,by rw[d3,h1],u,fU.fit c6 b6 N (λK p x ⟨a1,b3,C⟩=>g4 K p x (H K ⟨a1,b3,C⟩)) (λK x ⟨a1,b3,C⟩=>i5 K x (H K ⟨a1,b3,C⟩))⟩
   |@aJ g n k e i7 m6 b6=>rcases a2 with⟨h1,u⟩|⟨b,c7,d4,h1,u,N,Z,c8,e1⟩;exact .inl ⟨by rw[d3,h1],u⟩;refine .inr ⟨b,c7,d4,by rw[d3,h1],u,N,Z,c8,λi b1 q S=>?_⟩;obtain⟨x,b4,C⟩:=e1 i b1 q S;exact⟨x,b4,b6 i b1 q S _ _ _ (C.mono (λb A=>⟨c6 b A,rfl⟩))⟩
   |@br g n k e i7 m6 b6=>rcases a2 with⟨h1,u⟩|⟨b,c7,d4,h1,u,N,Z,c8,e1⟩;exact .inl ⟨by rw[d3,h1],u⟩;refine .inr ⟨b,c7,d4,by rw[d3,h1],u,N,Z,c8,λi b1 q S=>?_⟩;obtain⟨x,b4,C⟩:=e1 i b1 q S;exact⟨x,b4,C.fit c6 (b6 i b1 q S) (λK p x C=>g4 K p x (H K ⟨i,q,b1,S,C⟩)) (λK x C=>i5 K x (H K ⟨i,q,b1,S,C⟩))⟩
 have m7:jV Y Y.m0 Y.ρ0 Y.w0 d0 args:=by
  have g6:=c0.args;have H:=a7.fS;revert i3 g6 H;generalize args=as;intro i3 g6 H;clear j9 c0 a7 j7;induction i3 generalizing as with
  |nil=>cases g6;exact .nil
  |@cons v p3 d0 p4 h1 _ m8=>
   cases g6 with
   |@cons _ a1 _ e2 f1 U=>
    refine .cons ?_ (m8 e2 U (λx b4 j C=>H x (by simp[b4]) j C));have i8:=H a1 (by simp);cases f1 with
    |d m9=>exact m9 _ _ _ (nf.mono (λb A=>⟨c6 b A,rfl⟩) h1)
    |@ptr o j p c1=>subst c1;exact g4 j p _ (i8 j rfl) h1
    |@aL o j g c1 c2=>subst c1 c2;exact i5 j _ (i8 j rfl) h1
    |@cV f c a1 b3=>obtain⟨V,T,R⟩:=h1;exact⟨V,T,qP.fit c6 b3 R (λj p x C=>g4 j p x (i8 j C))⟩
 have n0:=a7.calls Y d0 rfl rfl m1 m7;unfold Oper.wp;rw[j9 a7.enters];refine Calls.mono n0 ?_;rintro e w' ⟨v,ρ2,rfl,c3,b7⟩;let X:=cI m' i2;let a5:=K5 σ M1 ρ ρ2;have d5:∀b,(∀j,M1 j≠ .none->σ j≠b)->X b=m' b:=λb A=>c0.A2 m' b A;have d6:∀j,M1 j≠ .none->X (σ j)=uy σ G (G j) (M1 j)/\a5 (σ j)=ρ2 j:=λj B=>⟨c0.Hl m' j B,OA k1 B⟩;have f2:∀b,(∃j,M1 j≠ .none/\σ j=b)\/∀j,M1 j≠ .none->σ j≠b:=λb=>by by_cases h:∃j,M1 j≠ .none/\σ j=b;exact .inl h;exact .inr λj h1 u=>h ⟨j,h1,u⟩
 have n1:∀j,J j≠ .none->G j=bif Nat.beq (M1 j).gen 1 then(m' (σ j)).gen else(m' (σ j)).gen+2:=λj B=>by rw[g2 j (c5 j B)];exact c0.gen j B
 have f3:∀j p x,M1 j≠ .none->bh M1 ρ2 x j p->bh X a5 x (σ j) p:=by intro j p x B F;obtain⟨T,a6⟩:=d6 j B;simp only[bh,T,a6]at F|-;revert F;generalize M1 j=z;cases z<;>exact id
 have i9:∀j x,M1 j≠ .none->bF M1 ρ2 x j (M1 j).gen->bF X a5 x (σ j) (G j):=by intro j x B F;obtain⟨T,a6⟩:=d6 j B;simp only[bF,cE,T,a6]at F|-;revert F;generalize M1 j=z;cases z<;>first|exact id|(intro F;exact⟨F.1,XP _,λ_=>F.2.2 rfl⟩)
 have j0:∀b,Y.X b->E.X b\/E.w0.heap.size<=b:=λb ⟨a,_,l,c,r⟩=>(I.lo _ b c l r).1;have n3:∀b,Y.X b->b<w.heap.size:=Y.hX;have j1:w.heap.size<=w'.heap.size:=c3.below.size;have g7:∀j b c,(M1 j).live->ρ2 j=some (b,c)->(Y.X b\/w.heap.size<=b)/\b<w'.heap.size:=c3.lo;have f4:∀b,(X b).live->(∃j,M1 j≠ .none/\σ j=b/\(M1 j).live/\a5 b=ρ2 j)\/((∀j,M1 j≠ .none->σ j≠b)/\(m' b).live/\a5 b=ρ b):=by intro b l;rcases f2 b with⟨j,B,rfl⟩|A;obtain⟨T,a6⟩:=d6 j B;exact .inl ⟨j,B,rfl,by rw[T]at l;exact IX.1 l,a6⟩;rw[d5 b A]at l;exact .inr ⟨A,l,lv A⟩
 have g8:∀b,(∀j,M1 j≠ .none->σ j≠b)->∀j,J j≠ .none->b≠σ j:=λb A j B e=>A j (c5 j B) e.symm;have b8:∀b,L Y M1 ρ2 w' b->L E X a5 w' b:=by intro b A;have f5:b<w'.heap.size:=(by rcases A.1 with h|h|h;exact Yl (xS I h) j1;exact Yl (n3 b h) j1;exact h.2);refine⟨?_,λf6 c l f7=>?_⟩;rcases A.1 with h|h|h;exact(show L E m' ρ w b from h).1.imp id (λh=>h.imp id (λh=>⟨h.1,f5⟩));rcases j0 b h with h|h;exact .inr (.inl h);exact .inr (.inr ⟨h,f5⟩);exact .inr (.inr ⟨Yf I.below.size h.1,f5⟩);rcases f4 f6 l with⟨j,B,_,e2,e⟩|⟨n4,e2,e⟩;exact A.2 j c e2 (by rw[<-e];exact f7);rw[e]at f7;rcases A.1 with h|⟨a,e3,a9,a1,b0⟩|h;exact(show L E m' ρ w b from h).2 f6 c e2 f7;exact g8 f6 n4 a e3 (I.inj f6 _ b c a1 e2 a9 f7 b0);have:=(I.lo f6 b c e2 f7).2;exact Zg _ (Yl this h.1)
 have k2:∀b,b<w.heap.size->¬Y.X b->w'.heap[b]? =w.heap[b]?:=λb A b4=>c3.below.block b A b4;have k3:∀b,L E m' ρ w b->¬Y.X b:=λb A ⟨a,_,a9,c,b0⟩=>A.2 _ c a9 b0;have c9:∀b,L E m' ρ w b->L E X a5 w' b/\w'.heap[b]? =w.heap[b]?:=by intro b A;refine⟨b8 b ⟨.inl A,λj c l d2=>?_⟩,k2 b (xS I A) (k3 b A)⟩;rcases(g7 j b c l d2).1 with h|h;exact k3 b A h;exact Zg _ (Yl (xS I A) h)
 have g9:∀j,J j≠ .none->∀g n k,(m' (σ j)).bK=some (g,n,k)->X (σ j)= .dead\/∃d7 e7,(X (σ j)).bK=some (d7,e7,k)/\(g<d7/\1<d7\/d7=g/\a5 (σ j)=ρ (σ j)/\(n=e7\/(ρ (σ j)=none/\n=0))):=by
  intro j B g n k a3;obtain⟨f8,j2⟩:=d6 j (c5 j B);rcases(d1 j B).dw with⟨U,_,_⟩|⟨k4,k5,k6,U,a8,e8⟩;(exfalso;revert U a3;cases m' (σ j)<;>simp[Mem.dw,Mem.bK])
  ·rw[a3]at U;obtain⟨rfl,rfl,rfl⟩:g=k4/\n=k5/\k=k6:=(by simpa using U);rcases a7.De j B with j3|⟨h1,_⟩;left;rw[f8,j3];rfl
   ·right;rw[e8]at h1;obtain⟨n5,k7,h0⟩:=Jn.1 h1;have h2:=n1 j B;rw[cO h0,cO a3]at h2;refine⟨G j,k7,by rw[f8];exact IZ h0,?_⟩;by_cases k8:n5=1
    ·right;subst k8;rw[show Nat.beq 1 1=true from rfl,ZG]at h2;have d8:=c3.carry j B;have k9:∀v,cE ρ0 v j n->v.oneCell'=true->cE ρ2 v j k7:=(by intro v n6 n7;have O:bF J ρ0 v j 1:=(bB a8).2 ⟨n7,XP _,λ_=>n6⟩;have u:=d8.aL v (cO h0) O;exact((bB h0).1 u).2.2 rfl);refine⟨h2,?_⟩;have n8:=jD a3 (I.mem (σ j));rw[j2];rcases n8 with⟨R,b2⟩|⟨n9,c7,d4,e,R,_⟩
     ·have:=k9 (.slice none 0 0) (by simp only[cE,e0 j B,R]) rfl;revert this;simp only[cE];cases S:ρ2 j with
      |none=>intro _;exact⟨R.symm,.inr ⟨R,b2⟩⟩
      |some l0=>intro c1;simp at c1
     ·have:=k9 (.slice (some ⟨n9,0,none⟩) n c7) (by simp only[cE,e0 j B,R]) rfl;revert this;simp only[cE];cases S:ρ2 j with
      |none=>intro c1;simp at c1
      |some l0=>obtain⟨e8,p5⟩:=l0;intro c1;simp at c1;obtain⟨rfl,rfl,rfl⟩:=c1;exact⟨R.symm,.inl rfl⟩
    ·left;rw[rV k8,ZM]at h2;omega
 have h3:∀j,J j≠ .none->(m' (σ j)).dw=true->X (σ j)= .dead\/((X (σ j)).dw=true/\∀p x,bh m' ρ x (σ j) p->bh X a5 x (σ j) p):=by intro j B b5;obtain⟨f8,j2⟩:=d6 j (c5 j B);rcases(d1 j B).dw with⟨_,a8,e8⟩|⟨k4,k5,k6,U,_,_⟩;rcases a7.De j B with j3|⟨h1,_⟩;left;rw[f8,j3];rfl;right;rw[e8]at h1;have l5:=Jm.1 h1;have l6:(X (σ j)).dw=true:=(by rw[f8,IY];exact l5);refine⟨l6,λp v F=>?_⟩;have d8:=c3.carry j B;have O:bh J ρ0 v j p:=(by rw[bQ a8,e0 j B];exact(bQ b5).1 F);have u:=d8.ptr v p O;rw[bQ l5]at u;rw[bQ l6,j2];exact u;(exfalso;revert U b5;cases m' (σ j)<;>simp[Mem.dw,Mem.bK])
 have h4:∀j,J j≠ .none->(m' (σ j)).dw=true\/∃g n k,(m' (σ j)).bK=some (g,n,k):=by intro j B;rcases(d1 j B).dw with⟨U,_⟩|⟨g,n,k,U,_⟩;exact .inl U;exact .inr ⟨g,n,k,U⟩
 have h5:∀b,m' b≠ .none->(∃j,J j≠ .none/\σ j=b)\/∀j,M1 j≠ .none->σ j≠b:=λb B=>by rcases f2 b with⟨j,h1,rfl⟩|h;by_cases O:J j= .none;exact absurd ((g2 j h1).trans (c0.fresh j O h1).1) B;exact .inl ⟨j,O,rfl⟩;exact .inr h
 have e4:∀b,m' b≠ .none->Carry m' X ρ a5 b:=by
  intro b B;rcases h5 b B with⟨j,O,rfl⟩|A
  ·rcases h4 j O with b5|⟨g,n,k,a3⟩;rcases h3 j O b5 with h|⟨h1,u⟩;refine⟨λx p F=>?_,λx q S=>?_⟩;simp only[bh,h];exact F.bO;simp only[bF,h];exact⟨S.1,trivial⟩;exact⟨λx p F=>u p x F,λx q S=>(fH h1).2 ((fH b5).1 S)⟩
   ·rcases g9 j O g n k a3 with h|⟨d7,e7,h1,u⟩;refine⟨λx p F=>?_,λx q S=>?_⟩;simp only[bh,h];exact F.bO;simp only[bF,h];exact⟨S.1,trivial⟩
    ·refine⟨λx p F=>absurd F (hV a3),λx q S=>?_⟩;obtain⟨f1,h6,o0⟩:=(bB a3).1 S;refine(bB h1).2 ⟨f1,?_,λe=>?_⟩;(rcases u with u|u<;>omega)
     ·rcases u with u|⟨u,N,Z⟩;omega;have:=o0 (by omega);simp only[cE]at this|-;rw[N];rcases Z with Z|⟨Z,c8⟩;rw[<-Z];exact this;rw[Z]at this|-;exact this
  ·exact Carry.same (d5 b A) (lv A)
 have j4:∀j,M1 j≠ .none->X (σ j)≠ .none:=λj B=>by rw[(d6 j B).1];exact λe=>B (IW.1 e)
 have l7:∀b,m' b≠ .none->X b≠ .none:=by intro b B;rcases h5 b B with⟨j,O,rfl⟩|A;exact j4 j (c5 j O);rw[d5 b A];exact B
 have o1:Rel E a5 e5 X a w':=by
  refine{below:=?_,defers:=I.defers.mono c9,size:=I.size,inj:=?_,lo:=?_,clean:=λi b C=>l7 b (I.clean i b C),cleanM:=?_,mem:=?_,slots:=?slots,carry:=?carry};exact I.below.trans (c3.below.mono I.below.size (λb f5 b4=>(j0 b b4).resolve_right (λh=>absurd f5 (Xm.2 h))));intro D a0 b c a1 e6 f0 R b2;rcases f4 D e6 with⟨h7,h8,h9,c4,T⟩|⟨h8,c4,T⟩;rw[T]at R;rcases f4 a0 f0 with⟨j5,i0,b9,d9,a6⟩|⟨i0,d9,a6⟩;rw[a6]at b2;rw[<-h9,<-b9,c3.inj h7 j5 b c a1 c4 d9 R b2];rw[a6]at b2;exfalso;rcases(g7 h7 b c c4 R).1 with⟨f9,e3,a9,g0,b0⟩|h;exact g8 a0 i0 f9 e3 (I.inj a0 _ b a1 g0 d9 a9 b2 b0);exact Zg _ (Yl (I.lo a0 b a1 d9 b2).2 h);rw[T]at R;rcases f4 a0 f0 with⟨j5,i0,b9,d9,a6⟩|⟨i0,d9,a6⟩;rw[a6]at b2;exfalso;rcases(g7 j5 b a1 d9 b2).1 with⟨f9,e3,a9,g0,b0⟩|h;exact g8 D h8 f9 e3 (I.inj D _ b c g0 c4 a9 R b0);exact Zg _ (Yl (I.lo D b c c4 R).2 h);rw[a6]at b2;exact I.inj D a0 b c a1 c4 d9 R b2;intro D b c e6 R;rcases f4 D e6 with⟨h7,h8,h9,c4,T⟩|⟨h8,c4,T⟩;rw[T]at R;obtain⟨h1,u⟩:=g7 h7 b c c4 R;refine⟨?_,u⟩;rcases h1 with h1|h1;exact j0 b h1;exact .inr (Yf I.below.size h1);rw[T]at R;obtain⟨h1,u⟩:=I.lo D b c c4 R;exact⟨h1,Yl u j1⟩;intro D a0 C;rcases f2 D with⟨j,B,rfl⟩|A;rw[(d6 j B).1]at C;obtain⟨g1,h1,rfl⟩:=IV C;exact j4 g1 (c3.cleanM j g1 h1);rw[d5 D A]at C;exact l7 a0 (I.cleanM D a0 C)
  ·intro D;have o2:∀j,M1 j≠ .none->iJ E X a5 w' (σ j) (X (σ j)):=by
    intro j B;obtain⟨h9,b9⟩:=d6 j B;have a2:=c3.mem j;have H:∀K,(M1 j).refs K->M1 K≠ .none:=λK C=>c3.cleanM j K C;have i1:(M1 j).cur M1:=a7.th j;rw[h9];revert a2 H i1;generalize M1 j=y;intro a2 H i1;cases y with
    |none=>trivial
    |dead=>trivial
    |ro l=>obtain⟨b,c,V,e,h1,O,u,N⟩:=a2;exact⟨b,c,V,e,by rw[b9,h1],b8 b O,u,N.mono (λb A=>⟨b8 b A,rfl⟩)⟩
    |box l=>obtain⟨b,c,V,e,h1,u,N⟩:=a2;exact⟨b,c,V,e,by rw[b9,h1],u,N.mono (λb A=>⟨b8 b A,rfl⟩)⟩
    |obj l=>obtain⟨b,c,V,e,h1,u,N⟩:=a2;exact⟨b,c,V,e,by rw[b9,h1],u,fU.RF (λb A=>⟨b8 b A,rfl⟩) N i1 (λK p x C=>f3 K p x (H K C)) (λK x C=>i9 K x (H K C))⟩
    |aJ g n k e i7=>rcases a2 with⟨h1,u⟩|⟨b,c7,d4,h1,u,N,Z,c8,e1⟩;exact .inl ⟨by rw[b9,h1],u⟩;refine .inr ⟨b,c7,d4,by rw[b9,h1],u,N,Z,c8,λi b1 q S=>?_⟩;obtain⟨x,b4,C⟩:=e1 i b1 q S;exact⟨x,b4,C.mono (λb A=>⟨b8 b A,rfl⟩)⟩
    |br g n k e i7=>rcases a2 with⟨h1,u⟩|⟨b,c7,d4,h1,u,N,Z,c8,e1⟩;exact .inl ⟨by rw[b9,h1],u⟩;refine .inr ⟨b,c7,d4,by rw[b9,h1],u,N,Z,c8,λi b1 q S=>?_⟩;obtain⟨x,b4,C⟩:=e1 i b1 q S;exact⟨x,b4,kR.RF (λb A=>⟨b8 b A,rfl⟩) C (i1 i b1 q S) (λK p x C=>f3 K p x (H K ⟨i,q,b1,S,C⟩)) (λK x C=>i9 K x (H K ⟨i,q,b1,S,C⟩))⟩
    |map p6=>obtain⟨b,c,o3,o4,h1,u,N⟩:=a2;exact⟨b,c,o3,o4,by rw[b9,h1],u,N⟩
   rcases f2 D with⟨j,B,rfl⟩|A;exact o2 j B;rw[d5 D A];refine(I.mem D).mono c9 (lv A) (λl b c C=>?_) (λa0 C=>e4 a0 (I.cleanM D a0 C));exact k2 b (I.lo D b c l C).2 (λ⟨f9,e3,a9,g0,b0⟩=>g8 D A f9 e3 (I.inj D _ b c g0 l a9 C b0))
  case slots=>
   intro i;have a4:=I.slots i;have H:=I.clean i;generalize e5 i=v at a4 H;cases v with
   |any=>trivial
   |undef=>exact a4
   |d v=>exact nf.mono c9 a4
   |eG d0=>obtain⟨V,h1,u⟩:=a4;exact⟨V,h1,u.mono c9⟩
   |ptr D p=>exact(e4 D (H D rfl)).ptr _ p a4
   |aL D g=>exact(e4 D (H D rfl)).aL _ g a4
   |nb n o5=>exact a4
   |cV f o6=>exact jZ.mono c9 (λD C=>e4 D (H D C)) a4
   |jw D d0=>obtain⟨y,xs,h1,u,N⟩:=a4;exact⟨y,xs,h1,(e4 D (H D rfl)).ptr _ 0 u,N.mono c9⟩
   |r3 p7=>obtain⟨xs,h1,u⟩:=a4;exact⟨xs,h1,u.mono c9 (λD C=>e4 D (H D C))⟩
   |ep D q p8 p9=>rcases h5 D (H D rfl)with⟨j,O,rfl⟩|A;rcases h4 j O with b5|⟨g,n,k,a3⟩;rcases h3 j O b5 with h|⟨h1,u⟩;simp only[dm,h];exact zn h1;rcases g9 j O g n k a3 with h|⟨d7,e7,h1,u⟩;simp only[dm,h];obtain⟨f1,h6⟩:=(dv a3).1 a4;refine(dv h1).2 ⟨by rcases u with u|u<;>omega,λe=>?_⟩;rcases u with u|⟨u,N,Z⟩;omega;obtain⟨U,b,c,a8,e8⟩:=h6 (by omega);rw[N];rcases Z with Z|⟨Z,c8⟩;exact⟨by omega,b,c,a8,e8⟩;omega;exact dm.mono c9 (λa0 u=>by cases u;exact⟨d5 _ A,lv A⟩) a4
   |sub D q lo q0=>rcases h5 D (H D rfl)with⟨j,O,rfl⟩|A;rcases h4 j O with b5|⟨g,n,k,a3⟩;rcases h3 j O b5 with h|⟨h1,u⟩;simp only[dm,fj,h];exact⟨a4.1,trivial⟩;exact(lY h1).2 ((lY b5).1 a4);rcases g9 j O g n k a3 with h|⟨d7,e7,h1,u⟩;simp only[dm,fj,h];exact⟨a4.1,trivial⟩;obtain⟨o7,f1,h6⟩:=(dq a3).1 a4;refine(dq h1).2 ⟨o7,by rcases u with u|u<;>omega,λe=>?_⟩;rcases u with u|⟨u,N,Z⟩;omega;obtain⟨U,a8⟩:=h6 (by omega);simp only[hj]at a8|-;rw[N];exact⟨by omega,a8⟩;exact dm.mono c9 (λa0 u=>by cases u;exact⟨d5 _ A,lv A⟩) a4
  case carry=>
   intro b B;have d8:=I.carry b B;rcases f2 b with⟨j,h1,rfl⟩|A
   ·by_cases O:J j= .none
    ·refine absurd ?_ B;rcases(c0.fresh j O h1).2 with q|q;exact E.Pe q
     ·rw[q];refine E.yj _ ?_;cases S:o.dst with
      |none=>exact XS _
      |some k=>exact ZN (j8 k S)
    ·have o8:m' (σ j)≠ .none:=λe=>by have:=d1 j O;rw[e]at this;cases this
     have b3:=e4 (σ j) o8;refine⟨λx p F=>b3.ptr x p (d8.ptr x p F),λx c2 F=>b3.aL x 1 (d8.aL x ?_ F)⟩;rcases h4 j O with b5|⟨g,n,k,a3⟩;rcases h3 j O b5 with h|⟨h1,u⟩;rw[h]at c2;simp[Mem.gen]at c2;rw[om h1]at c2;omega;(rcases g9 j O g n k a3 with h|⟨d7,e7,h1,u⟩;rw[h]at c2;simp[Mem.gen]at c2;(rw[cO h1]at c2;rw[cO a3];rcases u with u|u<;>omega))
   ·have T:=d5 b A;have a6:a5 b=ρ b:=lv A;have b3:=Carry.same (m:=m') (m':=X) (ρ:=ρ) (ρ':=a5) (o:=b) T a6;exact⟨λx p F=>b3.ptr x p (d8.ptr x p F),λx c2 F=>b3.aL x 1 (d8.aL x (by rw[<-T];exact c2) F)⟩
 refine m0 a5 _ w' (o1.put j8 ?_ ?_)
 ·have j6:=a7.cur;have H:=a7.clean;revert b7 j6 H;cases r with
  |d v=>intro b7 _ _;exact nf.mono (λb A=>⟨b8 b A,rfl⟩) b7
  |eG l=>rintro⟨V,T,R⟩ _ _;exact⟨V,T,R.mono (λb A=>⟨b8 b A,rfl⟩)⟩
  |jw j l=>rintro⟨y,V,T,o9,R⟩ _ H;exact⟨y,V,T,f3 j 0 y (H j rfl) o9,R.mono (λb A=>⟨b8 b A,rfl⟩)⟩
  |ptr j p=>intro b7 _ H;exact f3 j p v (H j rfl) b7
  |aL j g=>intro b7 j6 H;have b3:g=(M1 j).gen:=j6;subst b3;exact i9 j v (H j rfl) b7
  |cV f o6=>rintro⟨V,T,R⟩ _ H;exact⟨V,T,R.RF (λb A=>⟨b8 b A,rfl⟩) (λj p x C=>f3 j p x (H j C))⟩
  |undef=>intro b7 _ _;exact b7
  |nb n o5=>intro b7 _ _;exact b7
  |any=>intro _ _ _;trivial
  |r3 _=>intro _ _ _;trivial
  |ep _ _ _ _=>intro _ _ _;trivial
  |sub _ _ _ _=>intro _ _ _;trivial
 ·intro b C;obtain⟨g1,h1,rfl⟩:=IU C;exact j4 g1 (a7.clean g1 h1)
theorem oC.Tj {f:FuncId} {r:TV} {a:List Mem} (h:oC P f args ms r a fr) (m:ms.length<=1000):Eo P f args (jF 2000 ms) r (fF a fr) where
 enters:=h.enters
 hi:=λo b i=>by obtain⟨j,x,k,rfl⟩:=gj ms 2000 o b;exact absurd (show 2000+j<2000 from i) (by omega)
 De:=λo b=>by obtain⟨k,l⟩:=pk _ _ h.De;obtain⟨j,x,c,rfl⟩:=gj ms 2000 o b;have p:=(Ye.1 c).1;have g:a[j]? =some (a[j]'(by omega)):=XV (by omega);rw[km ms 2000 j x c,kl (by omega) g];exact l j x _ c g
 cur:=h.cur
 th:=h.th
 closed:=h.closed
 fS:=h.fS
 clean:=h.clean
 calls:=h.calls
variable {K:fh}
theorem xG {o:Oper} {t:Nat->TV} {f:FuncId} {xs:List TV}
  (b3:∀(E:Env) (ρ:Id->Option (Nat×Nat)) (a1:Nat->TV) (m':Id->Mem) (a:Act) (w:World),fe o t a1->Rel E ρ a1 m' a w->
   ∃a2:List Value,jV E m' ρ w a2 xs/\(Enters P f->(execOp a.eval o).run P w= .ok (.enter f a2.toArray) w))
  (h:eu P f xs (.n (o.dst.getD 0)) m K):∃z a3 a4,K z a3 a4/\aG P o t m z a3 a4:=by
 obtain⟨c,args,ms,r,l,fr,a5,I,b4⟩:=h.h;clear h;obtain⟨c9,a6⟩:=I.Vs.at;obtain⟨d0,b5⟩:=pk _ _ a5.De;have d1:c.length<=1000:=XJ I.zl;have a7:=wI _ I.keys;generalize b6:(Id.n (o.dst.getD 0))=d at*;have Z:d∉c:=λb7=>(Yy.1 a7).1 (XQ.2 ⟨d,b7,rfl⟩);have a8:∀(i S:Nat) (b:Id),c[i]? =some b->c[S]? =some b->i=S:=by intro i S b g a0;have C:=(Yy.1 a7).2;have a9:(c.map Id.key)[i]? =some b.key:=(by simp[g]);have b8:(c.map Id.key)[S]? =some b.key:=(by simp[a0]);exact(List.getElem?_inj (Ye.1 a9).1 C).1 (a9.trans b8.symm)
 have J:∀p,fF l fr p≠ .none->(∃(j:Nat) (a:Id) (x y:Mem),c[j]? =some a/\ms[j]? =some x/\l[j]? =some y/\p= .n (2000+j)/\fF l fr p=y/\jF 2000 ms p=x/\pJ c d p=a/\a∈c/\kd m (pJ c d) (m a) x)\/(p= .n 3000/\fF l fr p=fr/\fr≠ .none/\pJ c d p=d):=by intro p C;rcases w1 C with⟨rfl,C⟩|⟨j,y,g,rfl⟩;exact .inr ⟨rfl,pe _ _,C,rfl⟩;have M:=(Ye.1 g).1;have u:c[j]? =some (c[j]'(by omega)):=XV (by omega);have N:ms[j]? =some (ms[j]'(by omega)):=XV (by omega);exact .inl ⟨j,_,_,y,u,N,g,rfl,kl (by omega) g,km ms 2000 j _ N,uY (by omega) u,Ze u,a6 j _ _ u N⟩
 have b0:∀q∈I0 (pJ c d) (wo m c d l) d fr,q.1=d:=by intro q k;revert k;unfold I0;split;intro k;simp at k;intro k;simp at k;rw[k]
 refine⟨_,_,_,b4,DX (G:=wo m c d l) b3 (a5.Tj (by omega)) {mem:=?_,args:=I.args,inj:=?_,key:=?_,fresh:=?_,gen:=?_,Hl:=?_,A2:=?_}⟩;intro p C;obtain⟨j,x,g,rfl⟩:=gj ms 2000 p C;have M:=(Ye.1 g).1;have u:c[j]? =some (c[j]'(by omega)):=XV (by omega);rw[uY (by omega) u,km ms 2000 j x g];exact a6 j _ x u g
 ·intro A b9 g a0 e;rcases J A g with⟨j,a,x,y,O,Q,B,rfl,T,U,D,H,_⟩|⟨rfl,_,_,F⟩<;>rcases J b9 a0 with⟨c0,d2,d3,d4,c1,d5,d6,rfl,d7,d8,b1,c2,_⟩|⟨rfl,_,_,c3⟩
  ·rw[D,b1]at e;rw[a8 j c0 a O (e▸c1)]
  ·rw[D,c3]at e;exact absurd (e▸H) Z
  ·rw[F,b1]at e;exact absurd (e▸c2) Z
  ·rfl
 ·intro A g;rcases J A g with⟨j,a,x,y,O,Q,B,rfl,T,U,D,H,_⟩|⟨rfl,_,_,F⟩;rw[D];simp;exact .inr ⟨a,H,rfl⟩;rw[F];simp
 ·intro A V g;rcases J A g with⟨j,a,x,y,O,Q,B,rfl,T,U,D,H,X⟩|⟨rfl,_,B,F⟩;rw[U]at V;rw[V]at X;revert X;generalize m a=z;intro X;cases X;rw[F];exact⟨I.fresh B,.inr b6.symm⟩
 ·intro A V;obtain⟨j,x,g,rfl⟩:=gj ms 2000 A V;have M:=(Ye.1 g).1;have u:c[j]? =some (c[j]'(by omega)):=XV (by omega);have R:l[j]? =some (l[j]'(by omega)):=XV (by omega);have Y:Nat.beq (2000+j) 3000=false:=rV;rw[uY (by omega) u,kl (by omega) R];simp only[wo,Y,ZM];rw[show 2000+j-2000=j by omega];have c4:l.getD j .none=l[j]'(by omega):=(by simp[List.getD,R]);have c5:c.getD j d=c[j]'(by omega):=(by simp[List.getD,u]);rw[c4,c5]
 ·intro m' A g;rcases J A g with⟨j,a,x,y,O,Q,B,rfl,T,U,D,H,_⟩|⟨rfl,Q,B,F⟩;rw[D,nL,dY _ _ _ (λq k e=>Z (by rw[<-b0 q k,e];exact H)),GR c l 2000 j a y m' a8 O B,T];rw[F,nL,Q];have:I0 (pJ c d) (wo m c d l) d fr=[(d,uy (pJ c d) (wo m c d l) 0 fr)]:=(by cases fr<;>first|exact absurd rfl B|rfl);rw[this];exact ar _ _ _
 ·intro m' b Y;refine dY _ _ _ (λq k e=>?_);rcases XN.1 k with k|k;have c6:=e▸wm _ _ _ q k;obtain⟨j,M⟩:=ZT c6;have d9:=(Ye.1 M).1;have R:l[j]? =some (l[j]'(by omega)):=XV (by omega);have N:ms[j]? =some (ms[j]'(by omega)):=XV (by omega);refine Y (.n (2000+j)) ?_ (uY (by omega) M);rw[kl (by omega) R];rcases b5 j _ _ N R with h|⟨h,b2⟩;rw[h];simp;intro e;rw[e]at h;rw[<-h]at b2;simp[Mem.kind]at b2;have c7:=b0 q k;refine Y (.n 3000) ?_ (e▸c7.symm);rw[pe];intro c8;rw[c8]at k;simp[I0]at k
variable {E:Env}
theorem jV.append {b:List Value} {c f:List TV} (h:jV E m ρ w xs c) (g:jV E m ρ w b f):jV E m ρ w (xs++b) (c++f):=by
 induction h with
 |nil=>exact g
 |cons a _ i=>exact .cons a i
theorem jh {E:Env} {m':Id->Mem} {ρ:Id->Option (Nat×Nat)} {w:World} {o:Oper} {t b:Nat->TV} {a:Act} (c:fe o t b) (f:Rel E ρ b m' a w):∀(xs:List Operand),(∀x∈xs,x∈o.op.operands.toList)->jV E m' ρ w (xs.map a.eval) (xs.map (bG t))
 |[],_=> .nil
 |x::r,g=>by have h:=(ax f x).1;rw[aq c (g x (by simp))]at h;exact .cons h (jh c f r (λy i=>g y (by simp[i])))
theorem yz {l:List DV} (h:dT (L E m ρ w) w xs l):jV E m ρ w xs (l.map .d):=by
 induction h with
 |nil=>exact .nil
 |cons a _ b=>exact .cons a b
theorem yA {l:List CR} (h:qP (L E m ρ w) m ρ w xs l):jV E m ρ w xs (l.map CR.tv):=by
 induction h with
 |nil=>exact .nil
 |@cons x c xs f a _ b=>refine .cons ?_ b;cases c<;>exact a
variable {fl:List Nat} {fo:Operand}
theorem B8 {o:Oper} {t:Nat->TV} {c:Call} (r:o.op= .call c) (u:c.callee= .value fo) {f n:Nat} {cap:Nat->SV} (Q:bG t fo= .d (.one (.fn f n cap)))
  (h:Nj P fl t m f c.args.toList n cap o.dst K):∃z H q,K z H q/\aG P o t m z H q:=by
 have R:fo∈o.op.operands.toList:=by rw[r];simp[Op.operands,Call.operands,u]
 have y:∀x∈c.args.toList,x∈o.op.operands.toList:=λx A=>by rw[r];simp[Op.operands,Call.operands,u];right;simpa using A
 have B:∀(E:Env) (ρ:Id->Option (Nat×Nat)) (g:Nat->TV) (m':Id->Mem) (a:Act) (w:World),fe o t g->Rel E ρ g m' a w->
   ∃xs:Nat->Value,dT (L E m' ρ w) w ((List.range n).map xs) (gn n cap)/\(execOp a.eval o).run P w=(callFunc f (c.args.toList.map a.eval++(List.range n).map xs).toArray).run P w:=by
  intro E ρ g m' a w i j;have I:=(ax j fo).1;rw[aq i R,Q]at I;obtain⟨xs,S,T⟩:=Rd.od (show Rd _ _ _ _ from I);exact⟨xs,tC n cap xs T,te r u a w _ S⟩
 unfold Nj at h;cases J:dK fl (f+2000000)with
 |true=>rw[J]at h;refine xG (f:=f) (λE ρ g m' a w i j=>?_) h;obtain⟨xs,k,p⟩:=B E ρ g m' a w i j;exact⟨_,(jh i j _ y).append (yz k),λC=>p.trans (dN C _ _)⟩
 |false=>
  rw[J]at h;cases M:dK fl (f+5000000)with
  |true=>rw[M]at h;obtain⟨l,U,q,V,h,N,O,D⟩:=rX (o:=o) c.args.toList y _ h;obtain⟨x,A,X,h⟩:=h.h;refine⟨_,_,_,h,aB λE ρ g m' a w Y i F j=>?_⟩;obtain⟨xs,k,p⟩:=B E ρ g m' a w i j;refine⟨x,?_,Rd.v A,λb h=>h.elim⟩;rw[p];exact X w _ _ ((D E ρ g m' a w i F j).append (k.mono (λb G=>⟨.inl G,rfl⟩)))
  |false=>rw[M]at h;obtain⟨l,U,q,V,h,N,O,D⟩:=rX (o:=o) c.args.toList y _ h;refine DY (l:=l++gn n cap) N O (λE ρ g m' a w i F j=>?_) h;obtain⟨xs,k,p⟩:=B E ρ g m' a w i j;exact⟨_,(D E ρ g m' a w i F j).append (k.mono (λb G=>⟨.inl G,rfl⟩)),λC=>p.trans (dN C _ _)⟩
theorem Al {o:Oper} {t:Nat->TV} {c:Call} (q:o.op= .call c) (D:c.callee= .value fo) {f:Nat} {B:List CR} (S:bG t fo= .cV f B)
  (h:FZ P fl t m f c.args.toList B o.dst K):∃z M rd,K z M rd/\aG P o t m z M rd:=by
 have T:fo∈o.op.operands.toList:=by rw[q];simp[Op.operands,Call.operands,D]
 have N:∀x∈c.args.toList,x∈o.op.operands.toList:=λx U=>by rw[q];simp[Op.operands,Call.operands,D];right;simpa using U
 have C:∀(E:Env) (ρ:Id->Option (Nat×Nat)) (i:Nat->TV) (m':Id->Mem) (a:Act) (w:World),fe o t i->Rel E ρ i m' a w->
   ∃xs:List Value,qP (L E m' ρ w) m' ρ w xs B/\yu f xs (a.eval fo):=by
  intro E ρ i m' a w p j;have O:=(ax j fo).1;rw[aq p T,S]at O;obtain⟨xs,u,V⟩:=O;exact⟨xs,V,u⟩
 unfold FZ at h;cases F:Nat.blt f 10000000 with
 |false=>
  rw[F]at h;simp only[ZM]at h;cases G:c.args.toList with
  |cons y r=>rw[G]at h;exact h.elim
  |nil=>rw[G]at h;obtain⟨g,X,h⟩:=(show NS _ _ _ _ _ _ from h).h;refine xG (f:=g) (λE ρ i m' a w p j=>?_) h;obtain⟨xs,A,u⟩:=C E ρ i m' a w p j;obtain⟨Y,Z,u⟩:=u.Vt F;obtain rfl:g=Y:=Nat.add_right_cancel (X.symm.trans Z);refine⟨_,yA A,λH=>?_⟩;have a0:c.args=#[]:=(by rw[<-Yr (xs:=c.args),G]);rw[<-dN H];simp only[execOp,q,resolve,D,u,Deferred.ofValue,Sem.run_bind,Sem.run_pure,Result.andThen_ok,invoke,a0];congr 2;apply Xc;simp
 |true=>
 rw[F]at h;simp only[ZG]at h;replace C:∀(E:Env) (ρ:Id->Option (Nat×Nat)) (i:Nat->TV) (m':Id->Mem) (a:Act) (w:World),fe o t i->Rel E ρ i m' a w->
   ∃xs:List Value,qP (L E m' ρ w) m' ρ w xs B/\(Enters P f->(execOp a.eval o).run P w= .ok (.enter f (c.args.toList.map a.eval++xs).toArray) w):=by
  intro E ρ i m' a w p j;obtain⟨xs,A,u⟩:=C E ρ i m' a w p j;exact⟨xs,A,λH=>xm q D H a w _ (u.inv F)⟩
 cases Q:dK fl (f+2000000)with
 |true=>rw[Q]at h;refine xG (f:=f) (λE ρ i m' a w p j=>?_) h;obtain⟨xs,A,I⟩:=C E ρ i m' a w p j;exact⟨_,(jh p j _ N).append (yA A),I⟩
 |false=>rw[Q]at h;obtain⟨l,a8,rd,a9,h,a1,a2,a3⟩:=rX (o:=o) c.args.toList N _ h;obtain⟨a4,a5,b0,h,a6⟩:=BC B _ h;refine DY (l:=l++a4) (rd:=rd++a5) (λb a7=>XN.2 (.inl (a1 b a7))) a2 (λE ρ i m' a w p R j=>?_) h;obtain⟨xs,A,I⟩:=C E ρ i m' a w p j;refine⟨_,((a3 E ρ i m' a w p (R.sub (λk J=>XN.2 (.inl J))) j).sx (λo q=>q) (λe=>by rw[e];rfl)).append ((a6 E ρ m' w (R.sub (λk J=>XN.2 (.inr J))) j.toOwn xs A).sx (λo q=>by simp at q) (λe=>by rw[e];simp)),I⟩
theorem kr {t:Nat->TV}:∀(xs:List Operand) (K:List CR->Prop),iH t xs K->∃l,K l/\xs.map (bG t)=l.map CR.tv
 |[],K,h=>⟨[],h,rfl⟩
 |x::r,K,h=>by simp only[iH]at h;split at h;rename_i c a;obtain⟨l,f,g⟩:=kr r _ h;exact⟨_,f,by simp[g,a,CR.tv]⟩;rename_i b p a;obtain⟨l,f,g⟩:=kr r _ h;exact⟨_,f,by simp[g,a,CR.tv]⟩;exact h.elim
theorem FP {E:Env} {m:Id->Mem} {ρ:Id->Option (Nat×Nat)} {w:World}:∀{l:List CR} {f:List Value},jV E m ρ w f (l.map CR.tv)->qP (L E m ρ w) m ρ w f l
 |[],_,h=>by cases h;exact .nil
 |c::l,_,h=>by
  cases h with
  |cons a b=>refine .cons ?_ (FP b);cases c<;>exact a
theorem sm {o:Oper} {t:Nat->TV} {f:Nat} {first g:Array Operand} (j:o.op= .makeFunc (.func f) first g) (B:first.toList=[]) (C:Nat.blt f 10000000=true) {rd:List Nat} {K:List CR->Prop}
  (h:iH t g.toList K):∃l,K l/\aG P o t m (.cV f l) [] rd:=by
 have k:first=#[]:=by rw[<-Yr (xs:=first),B]
 have q:∀x∈g.toList,x∈o.op.operands.toList:=λx i=>by rw[j];simp[Op.operands,k];simpa using i
 obtain⟨l,h,r⟩:=kr _ _ h;refine⟨l,h,aB λE ρ I m' a w J u M y=>?_⟩;refine⟨.func (.func f) #[] (g.toList.map a.eval).toArray,?_,⟨g.toList.map a.eval,yu.plain C,?_⟩,?_⟩;simp[execOp,j,Instr.makeFunc,k];apply Xc;simp;have z:=jh u y g.toList q;rw[r]at z;exact FP z
 ·rintro b ⟨c,D,A⟩;cases c with
  |s c=>exact A.elim
  |ptr F p=>have G:CR.tv (.ptr F p)∈g.toList.map (bG t):=(by rw[r];exact XQ.2 ⟨_,D,rfl⟩);obtain⟨x,i,H⟩:=XQ.1 G;have:=(ax y x).2 b;rw[aq u (q x i),H]at this;exact this A
theorem sn {o:Oper} {t:Nat->TV} {f:Nat} {first g:Array Operand} (j:o.op= .makeFunc (.func f) first g) (B:g.toList=[]) {rd:List Nat} {K:List CR->Prop}
  (h:iH t first.toList K):∃l,K l/\aG P o t m (.cV (f+10000000) l) [] rd:=by
 have k:g=#[]:=by rw[<-Yr (xs:=g),B]
 have q:∀x∈first.toList,x∈o.op.operands.toList:=λx i=>by rw[j];simp[Op.operands,k];simpa using i
 obtain⟨l,h,r⟩:=kr _ _ h;refine⟨l,h,aB λE ρ H m' a w I u J y=>?_⟩;refine⟨.func (.func f) (first.toList.map a.eval).toArray #[],?_,⟨first.toList.map a.eval,yu.bound f rfl,?_⟩,?_⟩;simp[execOp,j,Instr.makeFunc,k];apply Xc;simp;have z:=jh u y first.toList q;rw[r]at z;exact FP z
 ·rintro b ⟨c,C,A⟩;cases c with
  |s c=>exact A.elim
  |ptr D p=>have F:CR.tv (.ptr D p)∈first.toList.map (bG t):=(by rw[r];exact XQ.2 ⟨_,C,rfl⟩);obtain⟨x,i,G⟩:=XQ.1 F;have:=(ax y x).2 b;rw[aq u (q x i),G]at this;exact this A
variable {E:Env} {m:Id->Mem} {g k:Nat} {e:TypeId}
theorem dS.Vr {o:Id} {n:Nat} {get:Nat->Nat->CV} (h:m o= .br g n k e get):dS E m o (g+2):=⟨by omega,.inr ⟨g,n,k,by rw[h];rfl,by omega⟩⟩
variable {ρ:Id->Option (Nat×Nat)} {a:Act} {w w':World}
theorem Rel.Ha {t:Nat->TV} (h:Rel E ρ t m a w) {o:Id} {n:Nat} {get:Nat->Nat->CV} {nr:Option (Nat×Nat)} (z:dS E m o g)
  (F:Bx E.w0.heap.size E.X w w')
  (G:∀b,L E m ρ w b->L E (bo m o (.br g n k e get)) (bo ρ o nr) w' b/\w'.heap[b]? =w.heap[b]?)
  (H:∀f b c,f≠o->(m f).live->ρ f=some (b,c)->w'.heap[b]? =w.heap[b]?)
  (I:∀b c,nr=some (b,c)->((E.X b\/E.w0.heap.size<=b)/\b<w'.heap.size)/\∀f J,f≠o->(m f).live->ρ f≠some (b,J))
  (K:∀f,(Mem.br g n k e get).refs f->m f≠ .none)
  (M:(∀f,m f≠ .none->Carry m (bo m o (.br g n k e get)) ρ (bo ρ o nr) f)->iJ E (bo m o (.br g n k e get)) (bo ρ o nr) w' o (.br g n k e get)):Rel E (bo ρ o nr) t (bo m o (.br g n k e get)) a w':=by
 have A:(bo m o (.br g n k e get) o).bK=some (g,n,k):=by rw[ar];rfl
 have B:m o≠ .none->∃p r u,(m o).bK=some (p,r,u)/\p<g:=λj=>z.h.resolve_left (λh=>j h.1);have D:∀f,m f≠ .none->Carry m (bo m o (.br g n k e get)) ρ (bo ρ o nr) f:=λf j=>by by_cases C:f=o;subst C;obtain⟨p,r,u,l,y⟩:=B j;exact kk l A y;exact Carry.same (av _ _ _ C) (av _ _ _ C)
 refine h.one o _ nr F G H (λ_=>I) (by simp) (λf N=> .inr (K f N)) (λe=>?_) (λe=>absurd e z.one) (M D) (λj=>D o j) (λx q i O j=>?_) (λx q P c j=>?_);rcases z.h with l|⟨p,r,u,l,_⟩;exact l.2;exact absurd e (cM l).2;obtain⟨p,r,u,l,y⟩:=B j;exact wN l A y x q i O;obtain⟨p,r,u,l,y⟩:=B j;exact sP l A y x q P c
theorem Rel.Hb {t:Nat->TV} (h:Rel E ρ t m a w) (o:Id) (g n k cap:Nat) (e:TypeId) (get:Nat->Nat->CV) (p:Array Value)
  (u:Below w.heap.size w w') (y:w.heap.size<w'.heap.size) (D:w'.heap[w.heap.size]? =some (.cells p e (0,0))) (F:p.size=cap*k) (G:n<=cap) (H:cap<=maxLen)
  (z:∀f,(Mem.br g n k e get).refs f->m f≠ .none)
  (I:∀i,i<n->∀j,j<k->∃x,p[i*k+j]? =some x/\kR (L E m ρ w) m ρ w x (get i j)) (J:dS E m o g):
  Rel E (bo ρ o (some (w.heap.size,cap))) t (bo m o (.br g n k e get)) a w'/\dm E (bo m o (.br g n k e get)) (bo ρ o (some (w.heap.size,cap))) w' (.slice (some ⟨w.heap.size,0,none⟩) n cap) (.aL o g):=by
 have A:=QU h o (.br g n k e get) cap u y;refine⟨h.Ha J (Bx.of u h.below.size) A ?_ ?_ z (λK=>?_),?_⟩;intro f b c _ l r;exact u.block b (h.lo f b c l r).2;intro b c q;simp only[Y9,Zq]at q;obtain⟨rfl,rfl⟩:=q;exact⟨⟨.inr h.below.size,y⟩,λf M _ l r=>absurd (h.lo f _ M l r).2 (Zg _)⟩;refine .inr ⟨w.heap.size,cap,p,ar _ _ _,D,F,G,H,λi B j C=>?_⟩;obtain⟨x,N,q⟩:=I i B j C;exact⟨x,N,q.mono A (λf O=>K f (z f ⟨i,j,B,C,O⟩))⟩;simp only[dm,bF,cE,ar];exact⟨rfl,XP _,λ_=>trivial⟩
theorem Rel.Oq {t:Nat->TV} (h:Rel E ρ t m a w) (o:Id) (p:(m o).live) (g n k b cap:Nat) (q:ρ o=some (b,cap)) (e:TypeId) (get:Nat->Nat->CV) (B f:Array Value)
  (C:w.heap[b]? =some (.cells B e (0,0))) (D:f.size=cap*k) (F:n<=cap) (G:cap<=maxLen)
  (u:∀c,(Mem.br g n k e get).refs c->m c≠ .none)
  (H:∀i,i<n->∀j,j<k->∃x,f[i*k+j]? =some x/\kR (L E m ρ w) m ρ w x (get i j)) (I:dS E m o g):
  Rel E (bo ρ o (some (b,cap))) t (bo m o (.br g n k e get)) a (w.setRow b f)/\dm E (bo m o (.br g n k e get)) (bo ρ o (some (b,cap))) (w.setRow b f) (.slice (some ⟨b,0,none⟩) n cap) (.aL o g):=by
 obtain⟨J,y,K⟩:=BR h p q (.br g n k e get) f;refine⟨h.Ha I J y K ?_ u (λM=>?_),?_⟩;intro T U l;simp only[Y9,Zq]at l;obtain⟨rfl,rfl⟩:=l;obtain⟨N,O⟩:=h.lo o b cap p q;exact⟨⟨N,by simpa using O⟩,λc P r Q R=>r (h.inj c o b P cap Q p R q)⟩;refine .inr ⟨b,cap,f,ar _ _ _,setRow_heap w b _ _ e _ C,D,F,G,λi z j A=>?_⟩;obtain⟨x,S,l⟩:=H i z j A;exact⟨x,S,l.mono y (λc r=>M c (u c ⟨i,j,z,A,r⟩))⟩;simp only[dm,bF,cE,ar];exact⟨rfl,XP _,λ_=>trivial⟩
theorem TJ (z v:Value):Array.foldl (λ(a:Array Value) (x:Value×Nat)=>a.setIfInBounds x.snd x.fst) #[z] (#[v].zipIdx) 0 1=#[v]:=rfl
variable {P:Program} {ty:TypeId}
theorem x5 {o:Oper} {t:Nat->TV} {TT:iu} (f:cC P TT) {c:Array (Nat×Operand)} {len:Nat} (r:o.op= .buildSlice ty len c) {K:fh} (h:F0 TT ty len c.toList t m o.dst K):
  ∃z u y,K z u y/\aG P o t m z u y:=by
 unfold F0 at h;split at h
 ·rename_i T d I J;split at h
  ·rename_i e M;split at h
   ·rename_i A B;split at h
    ·rename_i x N O;split at h
     ·rename_i b g Q;replace h:=aM h;obtain⟨k,h⟩:=h;simp only[XH]at k;obtain rfl:=XE k.1;have C:=XE k.2;have R:=f ty T I;have S:P.underlying ty=some (.slice e):=(by have:=R.kind;rw[M]at this;exact this);have D:c=#[(0,x)]:=(by rw[<-Yr (xs:=c),N]);refine⟨_,_,_,h,?_⟩;refine bW λE ρ b1 F a w b2 U V X l=>?_;have Y:F (.n d)= .none:=(by rw[V.at (.n d) (by simp[Id.key])];exact O);have Z:x∈o.op.operands.toList:=(by rw[r];simp[Op.operands,D]);have p:=(ax l x).1;have G:=(ax l x).2;rw[aq U Z,Q]at p G;obtain⟨b3,H,a0,b4,b5,a1,a2,a3⟩:=ij (f e A B) (L E F ρ w) w;have b6:=a3.length;have a4:H.cells.size=1:=(by rw[a2,C]);have a5:(a.eval x).oneCell'=true:=p.1;obtain⟨a6,a7⟩:=l.Hb (.n d) 0 1 1 1 e (λ_ _=> .aL b g) #[a.eval x] (ek w (.cells #[a.eval x] e)) (by simp) (bX w _) (by simp) (XP _) (by simp[maxLen])
       (λa8 q=>by obtain⟨_,_,_,_,q⟩:=q;exact G a8 q)
       (λi b7 j b8=>by obtain rfl:i=0:=(by omega);obtain rfl:j=0:=(by omega);exact⟨_,rfl,p⟩) (dS.fresh Y (X d J))
      refine⟨_,_,_,_,?_,.inl rfl,a6,a7,λb9 a9=>by cases a9;rw[ar];simp⟩;simp[execOp,r,D,Instr.buildSlice,run_underlying S,bT (f e A B),C,zeroValue,typeInfo,a0,a1,a4,newRow,Instr.fill];rw[cells_one a5];simp[TJ];have b0:Array.range 1=#[0]:=rfl;rw[b0,show(Array.map (λx=>H.cells[x%1]!) #[0]).setIfInBounds 0 (a.eval x)=#[a.eval x] by simp[Array.setIfInBounds]]
     ·exact h.elim
    ·exact h.elim
   ·exact h.elim
  ·exact h.elim
 ·exact h.elim
theorem vW {o:Oper} {t:Nat->TV} {TT:iu} (e1:cC P TT) {T:Ty} (g0:TT ty=some T) {e:Nat} (g1:T.kind= .ju e) {f:Ty} (g2:TT e=some f) {s x:Operand} {d:Nat} (j4:o.dst=some d)
  {c:Call} (b7:o.op= .call c) (b8:c.callee= .builtin .append) (g3:c.args.toList=[s,x]) (g4:c.argTypes.toList=[ty,ty]) {K:fh} (h:vv f e m (bG t s) (bG t x) K):
  ∃z e2 e3,K z e2 e3/\aG P o t m z e2 e3:=by
 have b9:c.args=#[s,x]:=by rw[<-Yr (xs:=c.args),g3]
 have g5:c.argTypes=#[ty,ty]:=by rw[<-Yr (xs:=c.argTypes),g4]
 have g6:s∈o.op.operands.toList:=by rw[b7];simp[Op.operands,Call.operands,b8,b9]
 have a6:x∈o.op.operands.toList:=by rw[b7];simp[Op.operands,Call.operands,b8,b9]
 have g7:=e1 ty T g0;have c0:P.underlying ty=some (.slice e):=by have:=g7.kind;rw[g1]at this;exact this
 have e4:=e1 e f g2;obtain⟨c1,a7,a8,M,e5,c2,_⟩:=e4.info;have e6:=yH e4 a8 c2;have c3:∀(a:Act) (w:World) (u v r:Value) (w':World),a.eval s=u->a.eval x=v->(Builtin.append_ #[ty,ty] o.type #[u,v]).run P w= .ok r w'->(execOp a.eval o).run P w= .ok (.value r) w':=by intro a w u v r w' g8 X C;simp[execOp,b7,resolve,invoke,b8,b9,g5,builtin,g8,X,C]
 unfold vv at h;split at h
 ·rename_i b g a9 g9 h0 h1;replace h:=bp h;split at h
  ·rename_i j5 n k p get h2;replace h:=bp h;split at h
   ·rename_i j6 l j7 h3 N h4;replace h:=aM h;obtain⟨e7,h⟩:=h;simp only[XH]at e7;obtain⟨⟨O,a3⟩,⟨c4,b0⟩,h5,h6⟩:=e7;obtain rfl:=XE O;obtain rfl:=XE a3;obtain rfl:=XE c4;obtain rfl:=XE b0;obtain rfl:=XE h5;have h7:0<l:=bU h6;obtain⟨⟨e8,c5⟩,h⟩:=h;refine⟨_,_,_,h,bW λE ρ h8 G a w j8 e9 f0 j9 Q=>?_⟩;have V:G b= .br g n f.size p get:=(by rw[f0 b (by simp)];exact h2);have c6:G a9= .br g9 l f.size h3 N:=(by rw[f0 a9 (by simp)];exact h4);have c7:=(ax Q s).1;rw[aq e9 g6,h0]at c7;simp only[dm,bF,cE,V]at c7;have a4:=c7.2.2 trivial;have c8:=(ax Q x).1;rw[aq e9 a6,h1]at c8;simp only[dm,bF,cE,c6]at c8;have b1:=c8.2.2 trivial;have f1:dS E G b (g+2):= .Vr V;have c9:∀d0,(TV.aL b (g+2)).refs d0->bo G b (.br (g+2) (n+l) f.size p λi j=>bif Nat.blt i n then get i j else N (i-n) j) d0≠ .none:=λd0 V=>by cases V;rw[ar];simp
    have f2:∀Y,(Mem.br (g+2) (n+l) f.size p λi j=>bif Nat.blt i n then get i j else N (i-n) j).refs Y->G Y≠ .none:=by
     rintro Y ⟨i,j,H,A,C⟩;replace C:(bif Nat.blt i n then get i j else N (i-n) j).refs Y:=C;cases F:Nat.blt i n with
     |true=>rw[F]at C;exact Q.cleanM b Y (by rw[V];exact⟨i,j,bU F,A,C⟩)
     |false=>
      rw[F]at C;have k0:¬i<n:=λq=>by rw[iI q]at F;cases F
      exact Q.cleanM a9 Y (by rw[c6];exact⟨i-n,j,by omega,A,C⟩)
    have a6:=Q.mem a9;rw[c6]at a6;rcases a6 with⟨_,k1⟩|⟨b2,d1,b3,h9,i0,k2,k3,k4,f3⟩;omega;rw[h9]at b1;have i1:∀i,i<l->∀j,j<f.size->w.cell? ((⟨b2,0,none⟩:Addr).add (i*f.size+j))=some ((b3[i*f.size+j]?).getD Go.undef):=λi H j A=>by obtain⟨y,D,_⟩:=f3 i H j A;rw[eE];simp[World.cell?,i0,D]
    have d2:∀i,i<l->∀j,j<f.size->kR (L E G ρ w) G ρ w ((b3[i*f.size+j]?).getD Go.undef) (N i j):=λi H j A=>by obtain⟨y,D,C⟩:=f3 i H j A;simp only[D,Yt];exact C
    obtain⟨I,O,a3,c4,b0⟩:=nB (S:=λ_=>True) (get:=λi j=> .v ((b3[i*f.size+j]?).getD Go.undef)) i1 (λi H j A=>Rd.v (d2 i H j A).bO);have f4:∀(Z:Nat) (B:List Value) (a5:Array Value),
      B.length=n*f.size->a5.size=(Z-(n+l))*f.size->n+l<=Z->Z<=maxLen->
      (∀i,i<n->∀j,j<f.size->∃y,B[i*f.size+j]? =some y/\kR (L E G ρ w) G ρ w y (get i j))->
      ∃b4,Rel E b4 h8 (bo G b (.br (g+2) (n+l) f.size p λi j=>bif Nat.blt i n then get i j else N (i-n) j)) a (w.drew.alloc (.cells (B.toArray++I.toArray++a5) p))/\
       dm E (bo G b (.br (g+2) (n+l) f.size p λi j=>bif Nat.blt i n then get i j else N (i-n) j)) b4 (w.drew.alloc (.cells (B.toArray++I.toArray++a5) p)) (.slice (some ⟨w.heap.size,0,none⟩) (n+l) Z) (.aL b (g+2)):=by
     intro Z B a5 i2 i3 i4 i5 i6;refine⟨_,Q.Hb b (g+2) (n+l) f.size Z p _ (B.toArray++I.toArray++a5) (ie w _) (by simp) (bX w.drew _) ?_ i4 i5 f2 ?_ f1⟩;simp only[aan,Z5,i2,O,i3,<-Ym];congr 1;omega;intro i H j A;by_cases F:i<n;obtain⟨y,D,C⟩:=i6 i F j A;refine⟨y,?_,?_⟩;have R:i*f.size+j<B.length:=(by rcases Wu (i*f.size+j) B.length with h|h;exact h;rw[YY h]at D;simp at D);rw[YZ,XG (by simp;omega),YZ,XG (by simpa using R)];simpa using D;show kR _ _ _ _ y (bif _ then _ else _);rw[iI F];exact C;have D:=b0 (i-n) (by omega) j A;refine⟨(b3[(i-n)*f.size+j]?).getD Go.undef,?_,?_⟩;have R:(i-n)*f.size+j<I.length:=(by rcases Wu ((i-n)*f.size+j) I.length with h|h;exact h;rw[YY h]at D;simp at D);have d3:i*f.size+j-B.length=(i-n)*f.size+j:=(by have:i*f.size=n*f.size+(i-n)*f.size:=(by rw[<-Ym];congr 1;omega);omega);have d4:¬i*f.size+j<B.length:=(by have:n*f.size<=i*f.size:=XX _ (by omega);omega);rw[YZ,XG (by simp;omega),YZ,XD (by simpa using d4)];simp only[Z5,YN,d3];exact D;show kR _ _ _ _ _ (bif _ then _ else _);rw[hM F];exact d2 (i-n) (by omega) j A
    have f5:=Q.mem b;rw[V]at f5;rcases f5 with⟨b5,i7⟩|⟨b6,U,J,b5,d5,f6,i8,d6,f7⟩;rw[b5]at a4;subst i7;have d7:(l:Int)<=9223372036854775807:=(by simp only[maxLen]at c5;omega);have a0:=run_append_nil (P:=P) w ty o.type p c1 a7 c0 a8 c2 ⟨b2,0,none⟩ l d1 I (by rw[M];exact O) a3 h7 d7 (by rw[e5];rw[X6]at e8;omega);have f8:=grownCap_ge w l 0 p;have d6:=grownCap_le_maxLen w l 0 p (by omega);obtain⟨b4,a1,a2⟩:=f4 (grownCap w l 0 p) [] (Builtin.zeroCells a7.cells (grownCap w l 0 p-l)) (by simp) (by rw[da,e6,M,X6]) (by omega) d6 (λi H=>absurd H (XL i));simp only[aaf]at a1 a2;refine⟨_,_,_,_,c3 a w _ _ _ _ a4 b1 a0,.inl rfl,a1,?_,c9⟩;have:=a2;rw[X6]at this|-;exact this
    ·rw[b5]at a4;by_cases d8:n+l<=U
     ·have i9:n*f.size+I.length<=J.size:=(by rw[O,f6,<-Ym];exact XX _ d8);have a0:=run_append_room (P:=P) w ty o.type p c1 c0 a8 b6 n U J d5 ⟨b2,0,none⟩ l d1 I (by rw[M];exact O) a3 c4 d8 (by rw[M];exact i9);rw[M]at a0;obtain⟨a1,a2⟩:=Q.Oq b (pX V) (g+2) (n+l) f.size b6 U b5 p (λi j=>bif Nat.blt i n then get i j else N (i-n) j) J (J.toList.take (n*f.size)++I++J.toList.drop (n*f.size+I.length)).toArray d5
       (by simp;omega) d8 d6 f2 (λi H j A=>by
        by_cases F:i<n;obtain⟨y,D,C⟩:=f7 i F j A;refine⟨y,?_,by rw[iI F];exact C⟩;have R:i*f.size+j<n*f.size:=(by have:(i+1)*f.size<=n*f.size:=XX _ F;rw[Ym]at this;omega);have d9:min (n*f.size) J.size=n*f.size:=(by omega);simp only[YN,Yk,Yo,Yu,Y8,d9,XG R,Y2];simpa using D
        ·have e0:i-n<l:=(by omega);refine⟨_,?_,by rw[hM F];exact d2 (i-n) e0 j A⟩;have d4:¬i*f.size+j<n*f.size:=(by have:n*f.size<=i*f.size:=XX _ (by omega);omega);have d3:i*f.size+j-n*f.size=(i-n)*f.size+j:=(by have:i*f.size=n*f.size+(i-n)*f.size:=(by rw[<-Ym];congr 1;omega);omega);have R:(i-n)*f.size+j<I.length:=(by rw[O];have:(i-n+1)*f.size<=l*f.size:=XX _ e0;rw[Ym]at this;omega);have d9:min (n*f.size) J.size=n*f.size:=(by omega);simp only[YN,Yk,Yo,Yu,Y8,d9,XD d4,d3,XG R];exact b0 (i-n) e0 j A) f1
      exact⟨_,_,_,_,c3 a w _ _ _ _ a4 b1 a0,.inl rfl,a1,a2,c9⟩
     ·have d7:((n+l:Nat):Int)<=9223372036854775807:=(by simp only[maxLen]at c5;omega);have j0:∃B:List Value,B.length=n*f.size/\(∀j v,B[j]? =some v->w.cell? ((⟨b6,0,none⟩:Addr).add j)=some v)/\∀i,i<n->∀j,j<f.size->∃y,B[i*f.size+j]? =some y/\kR (L E G ρ w) G ρ w y (get i j):=(by have k5:n*f.size<=J.size:=(by rw[f6];exact XX _ i8);refine⟨J.toList.take (n*f.size),by simp;omega,λj v X=>?_,λi H j A=>?_⟩;rw[Y2]at X;split at X;rw[eE];have:J[j]? =some v:=(by simpa using X);simp[World.cell?,d5,this];simp at X;obtain⟨y,D,C⟩:=f7 i H j A;refine⟨y,?_,C⟩;have R:i*f.size+j<n*f.size:=(by have:(i+1)*f.size<=n*f.size:=XX _ H;rw[Ym]at this;omega);rw[Y2,XG R];simpa using D);obtain⟨B,f9,j1,j2⟩:=j0;have a0:=run_append_grow (P:=P) w ty o.type p c1 a7 c0 a8 c2 ⟨b6,0,none⟩ n U B (by rw[M];exact f9) j1 ⟨b2,0,none⟩ l d1 I (by rw[M];exact O) a3 (by omega) d7 (by rw[e5];exact growslice_fits (by omega) e8);have f8:=grownCap_ge w (n+l) U p;have j3:=grownCap_le_maxLen w (n+l) U p c5;obtain⟨b4,a1,a2⟩:=f4 (grownCap w (n+l) U p) B (Builtin.zeroCells a7.cells (grownCap w (n+l) U p-(n+l))) f9 (by rw[da,e6,M]) f8 j3 j2;exact⟨_,_,_,_,c3 a w _ _ _ _ a4 b1 a0,.inl rfl,a1,a2,c9⟩
   ·exact h.elim
  ·exact h.elim
 ·exact h.elim
variable {P:Program} {m:Id->Mem} {ty:TypeId} {T TE:Ty} {e:Nat} {x:Operand}
theorem sk {o:Oper} {t:Nat->TV} {TT:iu} (l:cC P TT) (F:TT ty=some T) (G:T.kind= .ju e) (H:TT e=some TE) {y:Operand} (g:o.op= .makeSlice ty x y) {d:Nat} (I:o.dst=some d) (J:m (.n d)= .none)
  {p q:IntKind} {n c:Int} (K:bG t x= .d (.one (.v (.int p n)))) (M:bG t y= .d (.one (.v (.int q c)))) (N:0<=n/\n<=c/\(TE.bytes:Int)*c<=281474976710656/\c<=9223372036854775807):
  aG P o t m (.aL d 0) [(.n d,.aJ 0 n.toNat TE.size e λ_ j=>TE.zero.getD j (.v Go.undef))] [d]:=by
 have O:=l ty T F;have Q:P.underlying ty=some (.slice e):=by have:=O.kind;rw[G]at this;exact this
 refine bW λE R b6 r a w b7 u S U h=>?_;have V:r (.n d)= .none:=by rw[S.at (.n d) (by simp[Id.key])];exact J
 have z:=(ax h x).1;have A:=(ax h y).1;rw[aq u (by rw[g];simp[Op.operands]),K]at z;rw[aq u (by rw[g];simp[Op.operands]),M]at A;have X:=(Rd.cm (show Rd _ _ _ _ from z)).1;have Y:=(Rd.cm (show Rd _ _ _ _ from A)).1;obtain⟨k,b,Z,B,a0,a1,f,C⟩:=ij (l e TE H) (L E r R w) w;obtain⟨a2,a3,a4,a5⟩:=N;have a6:=run_make (P:=P) w ty e k b Q Z a1 p q n c a2 a3 (by rw[a0];exact a4) a5;have a7:=C.length;simp only[Y8]at a7;obtain⟨a8,a9⟩:=h.wO (.n d) 0 n.toNat TE.size c.toNat e (λ_ j=>TE.zero.getD j (.v Go.undef)) (madeCells b.cells (c.toNat*k.size)) (ek w _) (by simp) (bX w _) (by rw[size_madeCells,B]) (by omega) (by simp only[maxLen];omega)
  (λi b8 j b0=>by have D:0<b.cells.size:=(by omega);have b1:i*TE.size+j<c.toNat*TE.size:=(by have:(i+1)*TE.size<=c.toNat*TE.size:=XX _ (by omega);rw[Ym]at this;omega);obtain⟨y,b2,b3⟩:=C.du j (by omega);refine⟨y,?_,b3⟩;have b4:=kn b.cells c.toNat D;rw[show madeCells b.cells (c.toNat*k.size)=(dI c.toNat b.cells.toList).toArray by rw[<-b4,f,B];simp only[madeCells,f]];simp only[YN];rw[fP _ (by simpa using D) _ _ (by simp only[Y8,f];exact b1)];simp only[Y8,f];rw[show(i*TE.size+j)%TE.size=j by rw[Ws,Xo,X3 b0]];exact b2) (dS.fresh V (U d I))
 refine⟨_,_,_,_,?_,.inl rfl,a8,a9,λb9 b5=>by cases b5;rw[ar];simp⟩;simp[execOp,g,X,Y,a6]
theorem qY {o:Oper} {t:Nat->TV} {TT:iu} (c:cC P TT) (f:TT ty=some T) (g:T.kind= .ju e) (h:TT e=some TE) {b:Array (Nat×Operand)} (j:o.op= .buildSlice ty 0 b) {d:Nat} (k:o.dst=some d) (l:m (.n d)= .none)
  (p:b.toList=[]):aG P o t m (.aL d 0) [(.n d,.aJ 0 0 TE.size e λ_ _=> .v Go.undef)] [d]:=by
 have q:=c ty T f;have r:P.underlying ty=some (.slice e):=by have:=q.kind;rw[g]at this;exact this
 have u:b=#[]:=by rw[<-Yr (xs:=b),p]
 refine bW λE I J x a w K M y z A=>?_;have B:x (.n d)= .none:=by rw[y.at (.n d) (by simp[Id.key])];exact l
 obtain⟨C,D⟩:=A.wO (.n d) 0 0 TE.size 0 e (λ_ _=> .v Go.undef) #[] (ek w (.cells #[] e)) (by simp) (bX w _) (by simp) (by omega) (by simp[maxLen]) (λi F=>absurd F (XL i)) (dS.fresh B (z d k));refine⟨_,_,_,_,?_,.inl rfl,C,D,λN G=>by cases G;rw[ar];simp⟩;simp[execOp,j,u,Instr.buildSlice,run_underlying r,bT (c e TE h),Instr.fill,newRow];have H:Array.range 0=#[]:=by apply Xc;simp
 rw[H,Array.map_empty]
theorem uk {o:Oper} {t:Nat->TV} {TT:iu} (f:cC P TT) (H:TT ty=some T) {e:TypeId} (I:T.kind= .ju e) (l:TT e=some TE) {c:Array (Nat×Operand)} {len:Nat} (q:o.op= .buildSlice ty len c) {d:Nat} (J:o.dst=some d) (M:m (.n d)= .none) {K:List SV->Prop}
  (b4:len*TE.size<=65536) (r:0<TE.size) (N:0<len) (O:gi t (λ_=>some TE.size) c.toList=true) (h:oo t (λi=>some (i*TE.size)) (gU len TE.zero) c.toList K):
  ∃b,K b/\aG P o t m (.aL d 0) [(.n d,.aJ 0 len TE.size e λi j=>b.getD (i*TE.size+j) (.v Go.undef))] [d]:=by
 have Q:=f ty T H;have R:P.underlying ty=some (.slice e):=by have:=Q.kind;rw[I]at this;exact this
 obtain⟨b,S,U,V⟩:=rK (t:=t) (λi=>some (i*TE.size,TE.size)) c.toList (gU len TE.zero) K O h;refine⟨b,S,?_⟩;refine bW λE u b5 g a w b6 X Y Z y=>?_;have a0:g (.n d)= .none:=by rw[Y.at (.n d) (by simp[Id.key])];exact M
 obtain⟨b7,z,a1,b8,b9,a2,k,A⟩:=ij (f e TE l) (L E g u w) w;have B:=A.length;simp at B;rw[jI,<-B,k]at U;obtain⟨C,a3,D⟩:=V E g u w a (dI len z.cells.toList) (λp a4=>by have F:=(ax y p.2).1;rw[aq X (pa (by rw[q];rfl) p a4)]at F;exact F) (mP A len);have G:=kn z.cells len;rw[k]at G;have a5:len*TE.size≠0:=Nat.ne_of_gt (Nat.mul_pos N r);have a6:(execOp a.eval o).run P w= .ok (.value (.slice (some ⟨w.heap.size,0,none⟩) len len)) (w.alloc (.cells C.toArray e)):=by have a7:¬(16777216<len*TE.size):=(by omega);simp[execOp,q,Instr.buildSlice,run_underlying R,bT (f e TE l),a7,zeroValue,typeInfo,a1,a2,k,newRow];rw[XD a5,G,a3];simp
 have c0:=D.length;obtain⟨a8,a9⟩:=y.wO (.n d) 0 len TE.size len e (λi j=>b.getD (i*TE.size+j) (.v Go.undef)) C.toArray (ek w _) (by simp) (bX w _) (by simp;omega) (XP _)
  (by have:len<=len*TE.size:=Nat.le_mul_of_pos_right _ r;simp only[maxLen];omega)
  (λi b0 j c1=>by have:(i+1)*TE.size<=len*TE.size:=XX _ b0;rw[Ym]at this;obtain⟨x,b1,b2⟩:=D.du (i*TE.size+j) (by omega);exact⟨x,by simpa using b1,b2⟩) (dS.fresh a0 (Z d J))
 exact⟨_,_,_,_,a6,.inl rfl,a8,a9,λc2 b3=>by cases b3;rw[ar];simp⟩
variable {c:Call}
theorem ER {o:Oper} {t:Nat->TV} {TT:iu} (G:cC P TT) (H:TT ty=some T) (i:o.op= .call c) (j:c.callee= .builtin .len) (I:c.args.toList=[x]) (J:c.argTypes.toList=[ty]):
  (∀e (K:fh),T.kind= .ju e->w5 m (bG t x) (λn b=>K (an n) [] b)->∃z k b,K z k b/\aG P o t m z k b)/\
  (∀n e,T.kind= .arr n e->aG P o t m (an n) [] []):=by
 have l:c.args=#[x]:=by rw[<-Yr (xs:=c.args),I]
 have M:c.argTypes=#[ty]:=by rw[<-Yr (xs:=c.argTypes),J]
 have N:x∈o.op.operands.toList:=by rw[i];simp[Op.operands,Call.operands,j,l]
 have p:=G ty T H;have q:∀(a:Act) (w:World) (u:Value) (r:Value),a.eval x=u->(Builtin.len_ #[ty] o.type #[u]).run P w= .ok r w->(execOp a.eval o).run P w= .ok (.value r) w:=by intro a w u r O Q;simp[execOp,i,resolve,invoke,j,l,M,builtin,O,Q]
 refine⟨λe K f h=>?_,λn e f=>?_⟩;obtain⟨n,b,h,R⟩:=Bd N h;refine⟨_,_,_,h,aB λE y A B a w S C D F=>?_⟩;obtain⟨V,X,U,_,_⟩:=R E y A B a w C D F;have g:P.underlying ty=some (.slice e):=(by have:=p.kind;rw[f]at this;exact this);exact⟨_,q a w _ (.int .i64 n) U (by simp[Builtin.len_,run_underlying g,goInt]),Rd.v rfl,λ_ h=>h.elim⟩;have g:P.underlying ty=some (.array n e):=(by have:=p.kind;rw[f]at this;exact this);refine aB λE y A B a w S C D F=>?_;exact⟨_,q a w _ (.int .i64 n) rfl (by simp[Builtin.len_,run_underlying g,goInt]),Rd.v rfl,λ_ h=>h.elim⟩
theorem x4 {o:Oper} {t:Nat->TV} {TT:iu} (j:cC P TT) (k:TT ty=some T) (l:T.kind= .ju e) (b:o.op= .call c) (f:c.callee= .builtin .cap) (p:c.args.toList=[x]) (q:c.argTypes.toList=[ty])
  (r:bG t x= .d (.one (.v (.slice none 0 0)))):aG P o t m (an 0) [] []:=by
 have g:c.args=#[x]:=by rw[<-Yr (xs:=c.args),p]
 have u:c.argTypes=#[ty]:=by rw[<-Yr (xs:=c.argTypes),q]
 have y:x∈o.op.operands.toList:=by rw[b];simp[Op.operands,Call.operands,f,g]
 have z:P.underlying ty=some (.slice e):=by have:=(j ty T k).kind;rw[l]at this;exact this
 refine aB λE D F G a w H A I B=>?_;have i:=(ax B x).1;rw[aq A y,r]at i;have C:=(Rd.cm (show Rd _ _ _ _ from i)).1;exact⟨.int .i64 0,by simp[execOp,b,resolve,invoke,f,g,u,builtin,C,Builtin.cap_,run_underlying z,goInt],Rd.v rfl,λ_ h=>h.elim⟩
theorem w9 {t:Nat->TV} {a:Act}:∀(r:List Operand) (i:Nat) (v:Value) (f:TV),(r.map a.eval)[i]? =some v->(r.map (bG t))[i]? =some f->∃y∈r,v=a.eval y/\f=bG t y:=by
 intro r i v f b c;rw[Zt]at b c;cases g:r[i]? with
 |none=>rw[g]at b;simp at b
 |some y=>rw[g]at b c;simp at b c;exact⟨y,Ze g,b.symm,c.symm⟩
variable {k:IntKind}
theorem pU {o:Oper} {t:Nat->TV} {r:List Operand} (z:o.op= .call c) (N:c.args.toList=x::r) {B:Int} (M:bG t x= .d (.one (.v (.int k B)))) {K:Int->Prop}:
  (c.callee= .builtin .min->LN k B (r.map (bG t)) K->∃n,K n/\aG P o t m (.d (.one (.v (.int k n)))) [] [])/\
  (c.callee= .builtin .max->LW k B (r.map (bG t)) K->∃n,K n/\aG P o t m (.d (.one (.v (.int k n)))) [] []):=by
 have A:c.args=(x::r).toArray:=by rw[<-Yr (xs:=c.args),N]
 constructor
 ·intro f h;have g:∀y∈x::r,y∈o.op.operands.toList:=(by intro y b;rw[z];simp[Op.operands,Call.operands,f,A];simpa using b);obtain⟨n,C,D⟩:=Ho (P:=P) _ _ _ _ h;refine⟨n,C,aB λE F O G a w Q j R l=>?_⟩;have u:=(ax l x).1;rw[aq j (g x (by simp)),M]at u;have H:=(Rd.cm (show Rd _ _ _ _ from u)).1;have I:=D E G F w (r.map a.eval) (by simp) (λi v J p q=>by
   obtain⟨y,b,rfl,rfl⟩:=w9 r i v J p q;have:=(ax l y).1
   rwa [aq j (g y (by simp[b]))]at this) w
  refine⟨.int k n,?_,Rd.v rfl,λ_ h=>h.elim⟩;simp[execOp,z,resolve,invoke,f,A,builtin,Builtin.min_,H,I]
 ·intro f h;have g:∀y∈x::r,y∈o.op.operands.toList:=(by intro y b;rw[z];simp[Op.operands,Call.operands,f,A];simpa using b);obtain⟨n,C,D⟩:=Hs (P:=P) _ _ _ _ h;refine⟨n,C,aB λE F O G a w Q j R l=>?_⟩;have u:=(ax l x).1;rw[aq j (g x (by simp)),M]at u;have H:=(Rd.cm (show Rd _ _ _ _ from u)).1;have I:=D E G F w (r.map a.eval) (by simp) (λi v J p q=>by
   obtain⟨y,b,rfl,rfl⟩:=w9 r i v J p q;have:=(ax l y).1
   rwa [aq j (g y (by simp[b]))]at this) w
  refine⟨.int k n,?_,Rd.v rfl,λ_ h=>h.elim⟩;simp[execOp,z,resolve,invoke,f,A,builtin,Builtin.max_,H,I]
theorem um {o:Oper} {t:Nat->TV} (l:o.op= .nilCheck x):
  (∀b p,bG t x= .ptr b p->(m b).dw=true->aG P o t m (.ptr b p) [] [b.key])/\
  (∀f y,bG t x= .cV f y->aG P o t m (.cV f y) [] [])/\
  (∀f n c,bG t x= .d (.one (.fn f n c))->aG P o t m (.d (.one (.fn f n c))) [] [])/\
  (∀n c,bG t x= .d (.one (.ad n c))->aG P o t m (.d (.one (.ad n c))) [] []):=by
 have r:x∈o.op.operands.toList:=by rw[l];simp[Op.operands]
 refine⟨λb p h F=>?_,λf y h=>?_,λf n c h=>?_,λn c h=>?_⟩;refine aB λE z A B a w C i u j=>?_;have g:=ax j x;rw[aq i r,h]at g;have D:=g.1;rw[<-u.at b]at F;simp only[dm]at D;rw[bQ F]at D;obtain⟨I,c,J,k⟩:=D;exact⟨a.eval x,by simp[execOp,l,k],g⟩;(refine aB λE z A B a w C i u j=>?_;have g:=ax j x;rw[aq i r,h]at g;obtain⟨G,k,_⟩:=g.1;refine⟨a.eval x,?_,g⟩;generalize H:a.eval x=q at*;cases k<;>simp[execOp,l,H])
 ·refine aB λE z A B a w C i u j=>?_;have g:=ax j x;rw[aq i r,h]at g;obtain⟨G,k,_⟩:=Rd.od (show Rd _ _ _ _ from g.1);exact⟨a.eval x,by simp[execOp,l,k],g⟩
 ·refine aB λE z A B a w C i u j=>?_;have g:=ax j x;rw[aq i r,h]at g;obtain⟨b,K,G,k,_⟩:=Rd.qJ (show Rd _ _ _ _ from g.1);exact⟨a.eval x,by simp[execOp,l,k],g⟩
variable {dst src:TypeId}
theorem vU {o:Oper} {t:Nat->TV} {TT:iu} (c:cC P TT) (f:TT dst=some T) {g:IntKind} (h:T.kind= .int k) (b:o.op= .convert src dst x) {n:Int} (i:bG t x= .d (.one (.v (.int g n)))) (hs:∃d,P.underlying src=some d):
  aG P o t m (.d (.one (.v (.int k (k.wrap n))))) [] []:=by
 have j:x∈o.op.operands.toList:=by rw[b];simp[Op.operands]
 have l:P.underlying dst=some (.int k):=by have:=(c dst T f).kind;rw[h]at this;exact this
 obtain⟨d,hs⟩:=hs;refine lg j i rfl (λa w e=>?_);simp[execOp,b,e,convert,run_underlying hs,run_underlying l,Conv.intToInt]
variable {a:TV} {K:fh}
theorem L3 (h:L4 T m a K):pY T m a K:=by
 unfold L4 at h;split at h
 ·rename_i o f;replace h:=bp h;split at h
  ·rename_i g l;obtain⟨c,b,i,j,h⟩:=h.h;unfold pY;dsimp only;refine C8 ?_;rw[l];have k:f<g.length:=(by rcases Wu f g.length with q|q;exact q;rw[YY q]at b;cases b);show(bif Nat.ble (f+T.size) g.length then Da T ((g.drop f).take T.size) _ else False);rw[j,Ii (show f+1<=g.length by omega)];have e:(g.drop f).take 1=[c]:=by
    rw[Y6 k];rw[XV k]at b;injection b with b
    rw[W1,Z9,b]
   rw[e];rw[ZG];unfold Da;rw[i];exact CV.zX.2 h
  ·exact h.elim
 ·obtain⟨b,h⟩:=aM h;obtain⟨c,i,j,p,h⟩:=h.h;unfold pY;dsimp only;rw[p,b,ZG];show mZ T [_] _;unfold mZ;rw[j];subst i;exact TV.pr.2 h
 ·exact h.elim
theorem IF {v:TV} (h:EP T m a v K):Ae T m a v K:=by
 unfold EP at h;split at h
 ·rename_i o b;replace h:=bp h;split at h
  ·rename_i i k;obtain⟨f,h⟩:=aM h;have g:∀c:CV,NJ i b c (λj=>K .any [(o,.obj j)] [o.key])->qm m (.ptr o b) c K:=λc h=>by obtain⟨j,l,p,h⟩:=h.h;unfold qm;dsimp only;refine C8 ?_;rw[k];show(bif Nat.blt b i.length then _ else False);rw[iI p,l];exact h
   unfold TV.VZ at h;split at h;show(bif Nat.beq 1 T.size then _ else False);rw[f];exact g _ h;show(bif Nat.beq 1 T.size then _ else False);rw[f];exact g _ h;show(bif Nat.beq 1 T.size then _ else False);rw[f];exact g _ h;exact h.elim
  ·exact h.elim
 ·exact h.elim
theorem x3 {o:Oper} {t:Nat->TV} {TT:iu} (g:cC P TT) (h:TT dst=some T) (i:T.kind= .int k) (c:o.op= .convert src dst x) {f:FloatKind} {b:Nat} (j:bG t x= .d (.one (.v (.float f b)))) (hs:∃d,P.underlying src=some d)
  {z:Int} (l:(f.decode b).toInt .zero=some z) (h2:k.min<=z) (p:z<=k.max):aG P o t m (.d (.one (.v (.int k z)))) [] []:=by
 have q:x∈o.op.operands.toList:=by rw[c];simp[Op.operands]
 have r:P.underlying dst=some (.int k):=by have:=(g dst T h).kind;rw[i]at this;exact this
 obtain⟨d,hs⟩:=hs;refine lg q j rfl (λa w e=>?_);simp[execOp,c,e,convert,run_underlying hs,run_underlying r,Conv.floatToInt,l,h2,p]
theorem x2 {o:Oper} {t:Nat->TV} (b:o.op= .convert src dst x) {n:Int} (c:bG t x= .d (.one (.v (.int k n)))) (hs:∃d,P.underlying src=some d) (f:P.underlying dst=some (.float .f64)):
  aG P o t m (.d (.one (.v (.float .f64 (FloatKind.f64.nearest n))))) [] []:=by
 have g:x∈o.op.operands.toList:=by rw[b];simp[Op.operands]
 obtain⟨d,hs⟩:=hs;refine lg g c rfl (λa w e=>?_);simp[execOp,b,e,convert,run_underlying hs,run_underlying f,Conv.intToFloat]
theorem lG {x:TV} {K:TV->Prop} (h:x.force K):K x:=TV.pr.1 h
set_option maxHeartbeats 1600000 in
theorem RK {TT:iu} (D:cC P TT) {o:Oper} {t:Nat->TV} {a5:List Nat} (h:Vp P TT a5 o t m K):∃x c1 rd,K x c1 rd/\aG P o t m x c1 rd:=by
 unfold Vp at h;split at h;rename_i x j;exact⟨_,_,_,lG h,tG (.inl j)⟩;rename_i x j;exact⟨_,_,_,lG h,tG (.inr j)⟩
 ·rename_i c x y j;split at h
  ·rename_i q c2;have h:=h.elim;cases q with
   |true=>exact⟨_,_,_,lG (show(bG t x).force (λx=>K x [] []) from h),tF (m:=m) j c2⟩
   |false=>exact⟨_,_,_,lG (show(bG t y).force (λx=>K x [] []) from h),tF (m:=m) j c2⟩
  ·exact h.elim
 ·rename_i e j;split at h;rename_i T d G M;split at h;rename_i U;exact⟨_,_,_,h,Am D G j M U⟩;exact h.elim;exact h.elim
 ·rename_i e x j;split at h;rename_i T d G M;split at h;rename_i U;split at h;rename_i b3 p u;exact⟨_,_,_,h,ny (c:= .ptr b3 p) j M U u⟩;rename_i b3 g u;exact⟨_,_,_,h,ny (c:= .aL b3 g) j M U u⟩;rename_i f a9 u;exact⟨_,_,_,h,ny (c:= .cV f a9) j M U u⟩;obtain⟨l,C,E⟩:=ES (P:=P) (m:=m) j M U h;exact⟨_,_,_,C,E⟩;exact h.elim;exact h.elim
 ·rename_i ty d2 j;split at h;rename_i T A;split at h;rename_i c3 B;replace h:=aM h;obtain⟨J,h⟩:=h;obtain⟨Q,C,E⟩:=uq (m:=m) D A B j J h;exact⟨_,_,_,C,E⟩;rename_i n e B;split at h;rename_i TE G;replace h:=aM h;obtain⟨J,h⟩:=h;obtain⟨Q,C,E⟩:=ur (m:=m) D A B G j J h;exact⟨_,_,_,C,E⟩;exact h.elim;exact h.elim;exact h.elim
 ·rename_i ty b0 d2 j;cases c4:dK a5 (o.dst.getD 0+7000000)with
  |true=>rw[c4]at h;exact x5 D j h
  |false=>
  rw[c4]at h;simp only[ZM]at h;split at h
  ·rename_i T d A M;split at h
   ·rename_i e B;split at h
    ·rename_i TE G;replace h:=aM h;obtain⟨J,h⟩:=h;simp only[XH]at J;split at h;split at h;rename_i d3 U;exact⟨_,_,_,h,qY D A B G j M U d3⟩;exact h.elim
     ·rename_i c5;cases Y:dK a5 (d+6000000)with
      |true=>rw[Y]at h;simp only[ZG]at h;split at h;rename_i U;obtain⟨Q,C,E⟩:=uk (m:=m) D A B G j M U (XJ J.1.1) (bU J.1.2) (Nat.pos_of_ne_zero c5) J.2 h;exact⟨_,_,_,C,E⟩;exact h.elim
      |false=>rw[Y]at h;obtain⟨Q,C,E⟩:=qZ (m:=m) D A B G j (XJ J.1.1) (bU J.1.2) (Nat.pos_of_ne_zero c5) J.2 h;exact⟨_,_,_,C,E⟩
    ·exact h.elim
   ·exact h.elim
  ·exact h.elim
 ·rename_i ty x j;split at h
  ·rename_i T A;cases Y:dK a5 (o.dst.getD 0+3000000)with
   |true=>rw[Y]at h;exact tH D A j (L3 h)
   |false=>rw[Y]at h;exact tH D A j h
  ·exact h.elim
 ·rename_i ty x y j;split at h
  ·rename_i T A;cases Y:dK a5 (Kc x+4000000)with
   |true=>rw[Y]at h;exact qW D A j (IF h)
   |false=>rw[Y]at h;exact qW D A j h
  ·exact h.elim
 ·rename_i x j;obtain⟨b4,d4,d5,d6⟩:=um (P:=P) (t:=t) (m:=m) j;split at h;rename_i b p u;replace h:=bp h;split at h;rename_i Q F;exact⟨_,_,_,h,b4 b p u (by rw[F];rfl)⟩;rename_i Q F;exact⟨_,_,_,h,b4 b p u (by rw[F];rfl)⟩;rename_i Q F;exact⟨_,_,_,h,b4 b p u (by rw[F];rfl)⟩;exact h.elim;rename_i f a9 u;exact⟨_,_,_,h,d4 f a9 u⟩;rename_i f n c u;exact⟨_,_,_,h,d5 f n c u⟩;rename_i n c u;exact⟨_,_,_,h,d6 n c u⟩;exact h.elim
 ·rename_i d7 ty x y b1 j;split at h;rename_i d8 f3 u a1;split at h;obtain⟨b,C,E⟩:=h.h;exact⟨_,_,_,E,(MJ j u a1 C).1 rfl⟩;obtain⟨b,C,E⟩:=h.h;exact⟨_,_,_,E,(MJ j u a1 C).2 rfl⟩;exact h.elim;rename_i p q u a1;split at h;rename_i T A;split at h;obtain⟨b5,h⟩:=h;exact⟨_,_,_,h,(zm j u a1 b5).1 rfl⟩;obtain⟨b5,h⟩:=h;exact⟨_,_,_,h,(zm j u a1 b5).2 rfl⟩;exact h.elim;exact h.elim;rename_i _ _ a1;split at h;rename_i T A;split at h;rename_i e B;exact qX (neg:=false) D A B j a1 (.inl ⟨rfl,rfl⟩) h;rename_i e B;exact qX (neg:=true) D A B j a1 (.inr ⟨rfl,rfl⟩) h;exact h.elim;exact h.elim;obtain⟨z,C,E⟩:=P1 (m:=m) j h;exact⟨_,_,_,C,E⟩
 ·rename_i d7 ty x j;have c6:x∈o.op.operands.toList:=(by rw[j];simp[Op.operands]);split at h;rename_i b u;split at h;exact⟨_,_,_,h,lg c6 u rfl (λa w e=>by simp[execOp,j,e,Op.unary])⟩;exact h.elim;rename_i n neg u;split at h;exact⟨_,_,_,h,Ah j u⟩;exact h.elim;rename_i k n u;split at h;exact⟨_,_,_,h,lg c6 u rfl (λa w e=>by simp[execOp,j,e,Op.unary,Op.intArith])⟩;exact h.elim;exact h.elim
 ·rename_i src dst x j;split at h;rename_i T A;split at h;rename_i k n B u;obtain⟨Z,h⟩:=h;exact⟨_,_,_,h,vU D A B j u Z⟩;rename_i k f4 b B u;obtain⟨z,C,E,a0,Z,h⟩:=h.h;exact⟨_,_,_,h,x3 D A B j u Z C E a0⟩;rename_i k n B u;obtain⟨⟨Z,d9⟩,h⟩:=h;exact⟨_,_,_,h,x2 j u Z d9⟩;exact h.elim;exact h.elim
 ·rename_i ty x y j;split at h;rename_i T d A M;split at h;rename_i e B U;split at h;rename_i TE n c G u a1;obtain⟨F,h⟩:=h;exact⟨_,_,_,h,sk D A B G j M U u a1 F⟩;exact h.elim;exact h.elim;exact h.elim
 ·rename_i ty x a8 I j;split at h;rename_i T A;split at h;rename_i e B;split at h;rename_i TE G;split at h;rename_i b g u;have O:=h;unfold w5 at O;replace O:=bp O;split at O;rename_i a2 n k a3 V F;replace O:=aM O;obtain⟨_,O⟩:=O;exact kA D A B G j (.inl ⟨u,rfl,n,by rw[F];rfl,rfl⟩) O;rename_i a2 n k a3 V F;replace O:=aM O;obtain⟨_,O⟩:=O;exact kA D A B G j (.inl ⟨u,rfl,n,by rw[F];rfl,rfl⟩) O;exact O.elim;rename_i b g f5 f6 u;exact kA D A B G j (.inr u) h;obtain⟨z,C,E⟩:=Ag (P:=P) (m:=m) D A B j G h;exact⟨_,_,_,C,E⟩;exact h.elim;exact h.elim;exact h.elim
 ·rename_i ty x a8 I f7 j;split at h;rename_i T A;split at h;rename_i e B;split at h;rename_i TE G;exact xZ D A B G j h;exact h.elim;exact h.elim;exact h.elim
 ·rename_i f first c7 j;split at h
  ·rename_i c8;cases Y:(dK a5 (f+1000000)||Nk t m c7.toList)with
   |true=>rw[Y]at h;replace h:=aM h;obtain⟨e0,h⟩:=h;obtain⟨l,C,E⟩:=sm (P:=P) (m:=m) (rd:=sW t c7.toList) j c8 e0 h;exact⟨_,_,_,C,E⟩
   |false=>rw[Y]at h;obtain⟨l,f8,rd,C,E⟩:=uo (P:=P) j c8 h;exact⟨_,_,_,C,E⟩
  ·split at h;rename_i e1;obtain⟨l,C,E⟩:=sn (P:=P) (m:=m) (rd:=sW t first.toList) j e1 h;exact⟨_,_,_,C,E⟩;exact h.elim
 ·rename_i ty x f j;split at h;rename_i T A;split at h;rename_i c3 B;split at h;rename_i e2 e3 e4 J;replace h:=aM h;obtain⟨Z,h⟩:=h;obtain⟨b6,c9,e5⟩:=so (t:=t) (m:=m) D A B J (bU Z) j;split at h;rename_i b p u;replace h:=bp h;split at h;rename_i Q F;exact⟨_,_,_,h,b6 b p u (by rw[F];rfl)⟩;rename_i Q F;exact⟨_,_,_,h,b6 b p u (by rw[F];rfl)⟩;rename_i Q F;exact⟨_,_,_,h,b6 b p u (by rw[F];rfl)⟩;exact h.elim;rename_i b g i p u;replace h:=bp h;split at h;rename_i a2 n k e V F;replace h:=aM h;obtain⟨H,h⟩:=h;obtain rfl:=XE H;exact⟨_,_,_,h,c9 b g i p n k u (by rw[F];rfl)⟩;rename_i a2 n k e V F;replace h:=aM h;obtain⟨H,h⟩:=h;obtain rfl:=XE H;exact⟨_,_,_,h,c9 b g i p n k u (by rw[F];rfl)⟩;exact h.elim;rename_i n b2 u;exact⟨_,_,_,h,e5 n b2 u⟩;exact h.elim;exact h.elim;exact h.elim;exact h.elim
 ·rename_i ty x f j;split at h;rename_i T A;split at h;rename_i c3 B;split at h;rename_i e2 e3 e4 J;split at h;rename_i f9 Q e6 u;replace h:=aM h;obtain⟨Z,h⟩:=h;simp only[XH]at Z;obtain⟨z,C,E⟩:=Aj (m:=m) D A B J e6 (XE Z.1) j u (XJ Z.2) h;exact⟨_,_,_,C,E⟩;exact h.elim;exact h.elim;exact h.elim;exact h.elim
 ·rename_i ty x i j;split at h
  ·rename_i T A;split at h
   ·rename_i b0 e B;split at h
    ·rename_i TE G;split at h;rename_i b p a6 n u I;replace h:=bp h;split at h;rename_i Q F;obtain⟨R,h⟩:=h;exact⟨_,_,_,h,(dM (m:=m) D A B G j I R).1 b p u (by rw[F];rfl)⟩;rename_i Q F;obtain⟨R,h⟩:=h;exact⟨_,_,_,h,(dM (m:=m) D A B G j I R).1 b p u (by rw[F];rfl)⟩;rename_i Q F;obtain⟨R,h⟩:=h;exact⟨_,_,_,h,(dM (m:=m) D A B G j I R).1 b p u (by rw[F];rfl)⟩;exact h.elim
     ·rename_i q b2 a6 n u I;obtain⟨R,h⟩:=h;cases b7:Nat.ble (b0*TE.size) q with
      |true=>rw[b7]at h;exact⟨_,_,_,h,(dM (m:=m) D A B G j I R).2.2 q b2 _ u (by have C:=XJ b7;have E:(n.toNat+1)*TE.size<=b0*TE.size:=XX _ (by omega);rw[aah]at E;omega)⟩
      |false=>rw[b7]at h;exact⟨_,_,_,h,(dM (m:=m) D A B G j I R).2.2 q b2 _ u (XP _)⟩
     ·rename_i b g r p a6 n u I;replace h:=bp h;split at h;rename_i a2 a7 b8 a3 V F;replace h:=aM h;obtain⟨H,h⟩:=h;obtain rfl:=XE H;obtain⟨R,h⟩:=h;exact⟨_,_,_,h,(dM (m:=m) D A B G j I R).2.1 b g r p a7 b8 u (by rw[F];rfl)⟩;rename_i a2 a7 b8 a3 V F;replace h:=aM h;obtain⟨H,h⟩:=h;obtain rfl:=XE H;obtain⟨R,h⟩:=h;exact⟨_,_,_,h,(dM (m:=m) D A B G j I R).2.1 b g r p a7 b8 u (by rw[F];rfl)⟩;exact h.elim
     ·exact h.elim
    ·exact h.elim
   ·rename_i e B;split at h;rename_i TE G;split at h;rename_i n k V a6 q u I;replace h:=aM h;obtain⟨C,h⟩:=h;have C:=XE C;obtain⟨⟨E,a0⟩,h⟩:=h;exact⟨_,_,_,h,(fA (m:=m) D A B G j I).1 n k V u C E a0⟩;rename_i b g a6 q u I;replace h:=bp h;split at h;rename_i a2 n k a3 V F;replace h:=aM h;obtain⟨H,h⟩:=h;simp only[XH]at H;obtain rfl:=XE H.1;have C:=XE H.2;obtain⟨⟨E,a0⟩,h⟩:=h;exact⟨_,_,_,h,(fA (m:=m) D A B G j I).2.1 b g n k u (by rw[F];rfl) C E a0⟩;rename_i a2 n k a3 V F;replace h:=aM h;obtain⟨H,h⟩:=h;simp only[XH]at H;obtain rfl:=XE H.1;have C:=XE H.2;obtain⟨⟨E,a0⟩,h⟩:=h;exact⟨_,_,_,h,(fA (m:=m) D A B G j I).2.1 b g n k u (by rw[F];rfl) C E a0⟩;exact h.elim;rename_i b g a8 a7 a6 q u I;replace h:=bp h;split at h;rename_i a2 n k a3 V F;replace h:=aM h;obtain⟨H,h⟩:=h;simp only[XH]at H;obtain rfl:=XE H.1;have C:=XE H.2;obtain⟨⟨E,a0⟩,h⟩:=h;exact⟨_,_,_,h,(fA (m:=m) D A B G j I).2.2 b g a8 a7 n k u (by rw[F];rfl) C E a0⟩;rename_i a2 n k a3 V F;replace h:=aM h;obtain⟨H,h⟩:=h;simp only[XH]at H;obtain rfl:=XE H.1;have C:=XE H.2;obtain⟨⟨E,a0⟩,h⟩:=h;exact⟨_,_,_,h,(fA (m:=m) D A B G j I).2.2 b g a8 a7 n k u (by rw[F];rfl) C E a0⟩;exact h.elim;exact h.elim;exact h.elim
   ·exact h.elim
  ·exact h.elim
 ·rename_i ty x i j;split at h;rename_i T A;split at h;rename_i b0 e B;split at h;rename_i TE G;split at h;rename_i Q a6 n u I;obtain⟨R,h⟩:=h;obtain⟨z,C,E⟩:=Ai (m:=m) D A B G j u I R h;exact⟨_,_,_,C,E⟩;exact h.elim;exact h.elim;exact h.elim;exact h.elim
 ·rename_i x i j;split at h;rename_i d8 u;split at h;rename_i v e7;exact⟨_,_,_,lG h,vT j u e7⟩;exact h.elim;exact h.elim
 ·rename_i c j;split at h;rename_i f X;split at h;rename_i e8 n g0 J;exact B8 j X J h;rename_i e8 a9 J;exact Al j X J h;exact h.elim
  ·rename_i b X;split at h;rename_i x ty S a4;split at h;rename_i T A;obtain⟨e9,f0⟩:=ER (t:=t) (m:=m) D A j X S a4;split at h;rename_i e B;exact e9 e K B h;rename_i n e B;exact⟨_,_,_,h,f0 n e B⟩;exact h.elim;exact h.elim;rename_i x ty S a4;split at h;rename_i T A;split at h;rename_i e B u;exact⟨_,_,_,h,x4 D A B j X S a4 u⟩;exact h.elim;exact h.elim;rename_i x ty S a4;split at h;rename_i T A;split at h;rename_i e B;split at h;rename_i TE b g a8 n G u;replace h:=bp h;split at h;rename_i a2 N k a3 V F;replace h:=aM h;obtain⟨H,h⟩:=h;simp only[XH]at H;obtain rfl:=XE H.1.1;obtain rfl:=XE H.1.2;obtain rfl:=XE H.2;exact⟨_,_,_,h,Ak D A B G j X S a4 u F⟩;exact h.elim;exact h.elim;exact h.elim;exact h.elim;rename_i x r S;split at h;rename_i k f1 u;obtain⟨n,C,E⟩:=(pU (P:=P) (m:=m) j S u).1 X h;exact⟨_,_,_,C,E⟩;exact h.elim;rename_i x r S;split at h;rename_i k f1 u;obtain⟨n,C,E⟩:=(pU (P:=P) (m:=m) j S u).2 X h;exact⟨_,_,_,C,E⟩;exact h.elim
   ·rename_i s x ty b1 S a4;split at h
    ·rename_i T d A M;split at h
     ·rename_i e B;split at h
      ·rename_i TE G;cases d0:dK a5 (d+8000000)with
       |true=>rw[d0]at h;replace h:=aM (show bif Nat.beq b1 ty then vv TE e m (bG t s) (bG t x) K else False from h);obtain⟨f2,h⟩:=h;obtain rfl:=XE f2;exact vW D A B G M j X S a4 h
       |false=>
       rw[d0]at h;simp only[ZM]at h;cases H:Nat.beq b1 ty with
       |true=>rw[H]at h;obtain rfl:=XE H;exact pV D A B G M j X S a4 ⟨e,by have:=(D _ T A).kind;rw[B]at this;exact this⟩ h
       |false=>
        rw[H]at h;replace h:(match TT b1 with
         |some b9=>(match b9.kind with
          | .int .i64=>vu TE e d m (bG t s) (bG t x) K
          | .ju _=>r0 TE e d m (bG t s) (bG t x) K
          |_=>False)
         |none=>False):=h
        split at h;rename_i b9 d1;split at h;rename_i c0;exact vV D A B G d1 c0 M j X S a4 h;rename_i a3 c0;exact pV D A B G M j X S a4 ⟨a3,by have:=(D _ b9 d1).kind;rw[c0]at this;exact this⟩ h;exact h.elim;exact h.elim
      ·exact h.elim
     ·exact h.elim
    ·exact h.elim
   ·exact h.elim
  ·exact h.elim
 ·exact h.elim
def tmpsOf:List Operand->List Nat
 |[]=>[]
 | .tmp s::r=>s::tmpsOf r
 |_::r=>tmpsOf r
def nV:List Nat->Nat
 |[]=>0
 |s::r=>2^(2*s)|||nV r
def nW:List Nat->Nat
 |[]=>0
 |s::r=>2^(2*s+1)|||nW r
def MS:Option Nat->List Nat
 |some d=>[d]
 |none=>[]
def TZ (N:Nat):Option Nat->Bool
 |some d=>Nat.blt d N
 |none=>true
def P2:Bool->Bool->Bool
 |true,true=>true
 |false,false=>true
 |_,_=>false
abbrev Trace:=List (Nat×Nat)
def DV.deep (v:DV) (K:DV->Prop):Prop:=
 match v with
 | .one c=>c.deep λc=>K (.one c)
 | .agg l=>xq l λl=>K (.agg l)
theorem DV.eW {v:DV} {K:DV->Prop}:v.deep K↔K v:=by
 cases v with
 |one c=>exact SV.eW (K:=λc=>K (.one c))
 |agg l=>exact lJ (K:=λc=>K (.agg c))
def Bz:List DV->(List DV->Prop)->Prop
 |[],K=>K []
 |c::r,K=>c.deep λc=>Bz r λr=>K (c::r)
theorem xr:∀{l:List DV} {K:List DV->Prop},Bz l K↔K l
 |[],_=>ZC
 |c::r,K=>by simp only[Bz];rw[DV.eW,xr]
def TV.deep (x:TV) (K:TV->Prop):Prop:=
 match x with
 | .d v=>v.deep λv=>K (.d v)
 | .eG l=>Bz l λl=>K (.eG l)
 | .any=>K .any
 | .undef=>K .undef
 | .ptr o p=>K (.ptr o p)
 | .aL o g=>K (.aL o g)
 | .ep o g i f=>K (.ep o g i f)
 | .sub o g a n=>K (.sub o g a n)
 | .nb n neg=>K (.nb n neg)
 | .cV f c=>K (.cV f c)
 | .jw o b=>K (.jw o b)
 | .r3 h=>K (.r3 h)
variable {x:TV}
theorem TV.eW {K:TV->Prop}:x.deep K↔K x:=by
 cases x with
 |d v=>exact DV.eW (K:=λc=>K (.d c))
 |eG l=>exact xr (K:=λc=>K (.eG c))
 |_=>exact ZC
def CV.deep (c:CV) (K:CV->Prop):Prop:=
 match c with
 | .s c=>c.deep λc=>K (.s c)
 | .ptr o p=>K (.ptr o p)
 | .aL o g=>K (.aL o g)
 | .cV f a=>K (.cV f a)
theorem CV.eW {c:CV} {K:CV->Prop}:c.deep K↔K c:=by
 cases c with
 |s c=>exact SV.eW (K:=λc=>K (.s c))
 |_=>exact ZC
def BA:Nat->List CV->(List CV->Prop)->Prop
 |0,l,K=>K l
 |_+1,[],K=>K []
 |n+1,c::r,K=>c.deep λc=>BA n r λr=>K (c::r)
theorem xt:∀{n:Nat} {l:List CV} {K:List CV->Prop},BA n l K↔K l
 |0,_,_=>ZC
 |_+1,[],_=>ZC
 |n+1,c::r,K=>by simp only[BA];rw[CV.eW,xt]
def Mem.deep (x:Mem) (K:Mem->Prop):Prop:=
 match x with
 | .none=>K .none
 | .dead=>K .dead
 | .ro l=>xq l λl=>K (.ro l)
 | .box l=>xq l λl=>K (.box l)
 | .aJ g n k e a=>K (.aJ g n k e a)
 | .obj l=>BA 2 l λl=>K (.obj l)
 | .br g n k e a=>K (.br g n k e a)
 | .map b=>K (.map b)
theorem Mem.eW {x:Mem} {K:Mem->Prop}:x.deep K↔K x:=by
 cases x with
 |ro l=>exact lJ (K:=λc=>K (.ro c))
 |box l=>exact lJ (K:=λc=>K (.box c))
 |obj l=>exact xt (K:=λc=>K (.obj c))
 |_=>exact ZC
def yR (t:Nat->TV) (d:Option Nat) (x:TV) (K:(Nat->TV)->Prop):Prop:=
 x.deep λx=>match d with
 |some k=>K (bo t k x)
 |none=>K t
theorem oZ {t:Nat->TV} {d:Option Nat} {K:(Nat->TV)->Prop}:yR t d x K↔K (pM t d x):=by
 unfold yR;rw[TV.eW];cases d<;>exact ZC
def CI (m:Id->Mem) (a:List (Id×Mem)) (K:(Id->Mem)->Prop):Prop:=
 match a with
 |[]=>K m
 |p::r=>match p with
  |(o,x)=>x.deep λx=>CI (bo m o x) r K
theorem jm:∀{a:List (Id×Mem)} {m:Id->Mem} {K:(Id->Mem)->Prop},CI m a K↔K (cI m a)
 |[],_,_=>ZC
 |(o,x)::r,m,K=>by simp only[CI,cI];rw[Mem.eW];exact jm
def xn (draw:Bool) (o:Oper) (a:List Nat) (b:List (Id×Mem)) (rd:List Nat) (tr:Trace) (K:Trace->Prop):Prop:=
 match draw with
 |true=>K ((nV (a++tmpsOf o.op.operands.toList)|||nW rd,nV (MS o.dst)|||nW (b.map λp=>p.1.key))::tr)
 |false=>K tr
def entry (draw:Bool) (o:Oper) (a:List Nat) (b:List (Id×Mem)) (rd:List Nat) (tr:Trace):Trace:=
 bif draw then(nV (a++tmpsOf o.op.operands.toList)|||nW rd,nV (MS o.dst)|||nW (b.map λp=>p.1.key))::tr else tr
variable {draw:Bool} {tr:Trace}
theorem mI {o:Oper} {a:List Nat} {b:List (Id×Mem)} {rd:List Nat} {K:Trace->Prop}:xn draw o a b rd tr K↔K (entry draw o a b rd tr):=by
 cases draw<;>exact ZC
structure xX (P:Program) (o:Oper) (t:Nat->TV) (m:Id->Mem) (K:fh):Prop where
 h:∃z mo rd,K z mo rd/\aG P o t m z mo rd
def QK (o:Oper):Nat:=match o.dst with
 |some d=>d+9000000
 |none=>match o.op with
  | .mapUpdate _ x _ _=>Kc x+9500000
  |_=>0
def OO (P:Program) (TT:iu) (fl:List Nat) (o:Oper) (t:Nat->TV) (m:Id->Mem) (K:fh):Prop:=bif dK fl (QK o)then xX P o t m K else Vp P TT fl o t m K
variable {P:Program} {m:Id->Mem} {fl:List Nat}
theorem GY {TT:iu} (f:cC P TT) {o:Oper} {t:Nat->TV} {K:fh} (h:OO P TT fl o t m K):∃x a b,K x a b/\aG P o t m x a b:=by
 unfold OO at h;cases c:dK fl (QK o)with
 |true=>rw[c]at h;exact xX.h h
 |false=>rw[c]at h;exact RK f h
def Fj (P:Program) (TT:iu) (fl:List Nat) (N:Nat) (h:Array Oper) (draw:Bool) (o:Oper) (c:(Nat->TV)->(Id->Mem)->Trace->((Nat->TV)->(Id->Mem)->Trace->Prop)->Prop) (t:Nat->TV) (m:Id->Mem) (tr:Trace) (K:(Nat->TV)->(Id->Mem)->Trace->Prop):Prop:=
 bif TZ N o.dst then
   match o.guard with
   |none=>OO P TT fl o t m λx a f=>yR t o.dst x λt'=>CI m a λm'=>xn draw o [] a f tr λtr=>c t' m' tr K
   |some (j,i)=>match (h[j]?).bind (·.dst)with
    |some g=>match t g with
     | .d (.one (.v (.bool b)))=>ab b λb=>bif P2 b i then
        OO P TT fl o (bo t g (aD b)) m λx a f=>yR (bo t g (aD b)) o.dst x λt'=>CI m a λm'=>xn draw o [g] a f tr λtr=>c t' m' tr K
       else yR (bo t g (aD b)) o.dst .undef λt'=>xn draw o [g] [] [] tr λtr=>c t' m tr K
     | .undef=>yR t o.dst .undef λt'=>xn draw o [g] [] [] tr λtr=>c t' m tr K
     |_=>False
    |none=>False
  else False
def Ld (P:Program) (TT:iu) (fl:List Nat) (N:Nat) (a:Array Oper) (draw:Bool) (b:List Oper):(Nat->TV)->(Id->Mem)->Trace->((Nat->TV)->(Id->Mem)->Trace->Prop)->Prop:=
 List.rec (motive:=λ_=>(Nat->TV)->(Id->Mem)->Trace->((Nat->TV)->(Id->Mem)->Trace->Prop)->Prop) (λt m tr K=>K t m tr) (λo _ c=>Fj P TT fl N a draw o c) b
variable {N:Nat}
theorem I1 {TT:iu} {a:Array Oper} {o:Oper} {r:List Oper} {t:Nat->TV} {K:(Nat->TV)->(Id->Mem)->Trace->Prop}:
  Ld P TT fl N a draw (o::r) t m tr K=Fj P TT fl N a draw o (Ld P TT fl N a draw r) t m tr K:=rfl
structure ka where
 dst:Option Nat
 x:TV
 mo:List (Id×Mem)
 RH:List Nat
 RI:List Nat
def ka.mask (e:ka):Nat×Nat:=(nV e.RH|||nW e.RI,nV (MS e.dst)|||nW (e.mo.map λp=>p.1.key))
def NO (P:Program) (N:Nat) (f:Array Oper) (o:Oper) (e:ka) (t:Nat->TV) (m:Id->Mem):Prop:=
 ∀(E:Env) (g:Id->Option (Nat×Nat)) (t':Nat->TV) (m':Id->Mem) (a:Act) (w:World),E.P=P->E.N=N->(∀s∈e.RH,t' s=t s)->hE e.RI m m'->Rel E g t' m' a w->
  ∀(K:Act->World->Prop) (Q:Exit->Act->World->Prop),(∀h b c,Rel E h (pM t' e.dst e.x) (cI m' e.mo) b c->K b c)->
   if Region.wanted o (yielded f a.tmps)then o.wp P a w K Q else K (a.put o.dst Go.undef) w
inductive r4 (P:Program) (N:Nat) (ops:Array Oper):List Oper->List ka->(Nat->TV)->(Id->Mem)->(Nat->TV)->(Id->Mem)->Prop where
 |nil (t:Nat->TV) (m:Id->Mem):r4 P N ops [] [] t m t m
 |cons {o:Oper} {e:ka} {os:List Oper} {es:List ka} {t t':Nat->TV} {m m':Id->Mem} (h:NO P N ops o e t m) (hr:r4 P N ops os es (pM t e.dst e.x) (cI m e.mo) t' m'):r4 P N ops (o::os) (e::es) t m t' m'
variable {p q:Prop}
theorem Np (h:bif true then p else q):p:=h
theorem JE (h:bif false then p else q):q:=h
theorem qE:∀{l:List Operand} {s:Nat},Operand.tmp s∈l->s∈tmpsOf l
 |[],_,h=>by simp at h
 |x::r,s,h=>by rcases XF.1 h with rfl|h;simp[tmpsOf];(have:=qE h;cases x<;>simp[tmpsOf,this])
theorem qi {c:Array Oper} {tmps:Array Value} {j g:Nat} (h:(c[j]?).bind (·.dst)=some g):
  (∀b,tmps.getD g Go.undef= .bool b->yielded c tmps j=some b)/\(tmps.getD g Go.undef=Go.undef->yielded c tmps j=none):=by
 unfold yielded;rw[h];simp only[Option.bind_some,Yz];cases f:tmps[g]? with
 |none=>exact⟨λb a=>by simp[Go.undef]at a,λ_=>rfl⟩
 |some v=>simp only[Yt];exact⟨λb a=>by rw[a],λa=>by rw[a];rfl⟩
theorem sN {P:Program} {TT:iu} (S:cC P TT) {fl:List Nat} {N:Nat} {B:Array Oper} {draw:Bool}:∀(T:List Oper) (t:Nat->TV) (m:Id->Mem) (tr:Trace) (K:(Nat->TV)->(Id->Mem)->Trace->Prop),Ld P TT fl N B draw T t m tr K->
  ∃l t' m',r4 P N B T l t m t' m'/\K t' m' (bif draw then(l.map ka.mask).reverse++tr else tr)/\(∀(i:Nat) (o:Oper) (e:ka),T[i]? =some o->l[i]? =some e->e.dst=o.dst)
 |[],t,m,tr,K,h=>⟨[],t,m,.nil t m,by cases draw<;>exact h,by simp⟩
 |o::r,t,m,tr,K,h=>by
  rw[I1]at h;unfold Fj at h;replace h:=aM h;obtain⟨a1,h⟩:=h;have I:∀k,o.dst=some k->k<N:=(by intro k q;rw[q]at a1;exact bU a1);have J:∀(e:ka) (M:List Nat) (rd:List Nat),NO P N B o e t m->e.dst=o.dst->e.RH=M++tmpsOf o.op.operands.toList->e.RI=rd->
    Ld P TT fl N B draw r (pM t e.dst e.x) (cI m e.mo) (entry draw o M e.mo rd tr) K->
    ∃l t' m',r4 P N B (o::r) l t m t' m'/\K t' m' (bif draw then(l.map ka.mask).reverse++tr else tr)/\(∀(i:Nat) (O:Oper) (e:ka),(o::r)[i]? =some O->l[i]? =some e->e.dst=O.dst):=by
   intro e M rd a3 a2 hS u a4;obtain⟨l,t',m',a5,R,a6⟩:=sN S r _ _ _ K a4;refine⟨e::l,t',m',.cons a3 a5,?_,?_⟩
   ·have a7:e.mask=(nV (M++tmpsOf o.op.operands.toList)|||nW rd,nV (MS o.dst)|||nW (e.mo.map λp=>p.1.key)):=(by unfold ka.mask;rw[hS,u,a2]);cases draw with
    |false=>exact R
    |true=>simp only[entry,ZG]at R|-;rw[<-a7]at R;simpa using R
   ·intro i O a8 U V;cases i with
    |zero=>simp at U V;subst U;subst V;exact a2
    |succ i=>exact a6 i O a8 (by simpa using U) (by simpa using V)
  cases C:o.guard with
  |none=>simp only[C]at h;obtain⟨x,X,rd,h,Y⟩:=GY S h;rw[oZ,jm,mI]at h;refine J ⟨o.dst,x,X,tmpsOf o.op.operands.toList,rd⟩ [] rd ?_ rfl rfl rfl h;intro E y t' m' a w D z hS u f K Q A;rw[XG (by simp[Region.wanted,C])];exact Y E y t' m' a w D (λs c=>hS s (qE c)) u (λk q=>by rw[z];exact I k q) f K Q A
  |some a9=>
   obtain⟨j,F⟩:=a9;simp only[C]at h;cases G:(B[j]?).bind (·.dst)with
   |none=>simp only[G]at h
   |some g=>
    simp only[G]at h;split at h
    ·rename_i b H;have h:=h.elim;have b0:t g=aD b:=H;have b1:bo t g (aD b)=t:=(by rw[<-b0];exact fw t g);rw[b1]at h;cases hw:P2 b F with
     |true=>rw[hw]at h;have Z:b=F:=(by revert hw;cases b<;>cases F<;>simp[P2]);obtain⟨x,X,rd,h,Y⟩:=GY S (Np h);rw[oZ,jm,mI]at h;refine J ⟨o.dst,x,X,[g]++tmpsOf o.op.operands.toList,rd⟩ [g] rd ?_ rfl rfl rfl h;intro E y t' m' a w D z hS u f K Q A;have c:=f.slots g;rw[hS g (by simp),H]at c;have a0:=(Rd.cm (show Rd _ _ _ _ from c)).1;rw[XG (by simp[Region.wanted,C,(qi G).1 b a0,Z])];exact Y E y t' m' a w D (λs c=>hS s (by simp[qE c])) u (λk q=>by rw[z];exact I k q) f K Q A
     |false=>rw[hw]at h;have Z:b≠F:=(by revert hw;cases b<;>cases F<;>simp[P2]);have h:=(oZ (t:=t) (d:=o.dst) (x:= .undef)).1 (JE h);rw[mI]at h;refine J ⟨o.dst,.undef,[],[g]++tmpsOf o.op.operands.toList,[]⟩ [g] [] ?_ rfl rfl rfl h;intro E y t' m' a w D z hS u f K Q A;have c:=f.slots g;rw[hS g (by simp),H]at c;have a0:=(Rd.cm (show Rd _ _ _ _ from c)).1;rw[XD (by simp[Region.wanted,C,(qi G).1 b a0,Z])];exact A y _ w (f.put (λk q=>by rw[z];exact I k q) rfl (λ_ h=>h.elim))
    ·rename_i H;have h:=(oZ (t:=t) (d:=o.dst) (x:= .undef)).1 h;rw[mI]at h;refine J ⟨o.dst,.undef,[],[g]++tmpsOf o.op.operands.toList,[]⟩ [g] [] ?_ rfl rfl rfl h;intro E y t' m' a w D z hS u f K Q A;have c:=f.slots g;rw[hS g (by simp),H]at c;rw[XD (by simp[Region.wanted,C,(qi G).2 c])];exact A y _ w (f.put (λk q=>by rw[z];exact I k q) rfl (λ_ h=>h.elim))
    ·exact h.elim
variable {t':Nat->TV} {m':Id->Mem}
theorem zo {j:Array Oper} {c:List Oper} {q:List ka} {t:Nat->TV} (h:r4 P N j c q t m t' m'):
  ∀(E:Env) (b:Id->Option (Nat×Nat)) (a:Act) (w:World),E.P=P->E.N=N->Rel E b t m a w->∀(Q:Exit->Act->World->Prop),(∀k f g,Rel E k t' m' f g->Q .normal f g)->wpList P j Q c a w:=by
 induction h with
 |nil t m=>intro E b a w _ _ l Q p;exact p b a w l
 |@cons o e c q t t' m m' x A y=>intro E b a w r u l Q p;have i:=x E b t m a w r u (λ_ _=>rfl) (λ_ _=>rfl) l (wpList P j Q c) Q (λk f g z=>y E k f g r u z Q p);unfold wpList;split;rename_i hw;rw[XG hw]at i;exact .inl i;rename_i hw;rw[XD hw]at i;exact i
def rW (acc:List Nat) (o:Oper):Nat:=
 o.after.toList.foldl (λs e=>bif Region.binds .any e then s|||2^e.on|||acc.getD e.on 0 else s) 0
def D5:List Oper->List Nat->List Nat
 |[],a=>a
 |o::b,a=>D5 b (a++[rW a o])
def DO (a b:Nat×Nat):Bool:=!(((a.2&&&(b.1|||b.2))|||(a.1&&&b.2))==0)
def U9 (a:List Oper) (tr:Trace):Bool:=
 let b:=D5 a []
 (List.range a.length).all λj=>
  ((a[j]?).map λo=>o.after.toList.all λe=>!Region.binds .any e||Nat.blt e.on j).getD false&&
  (List.range j).all λi=>!(DO (tr.getD i (0,0)) (tr.getD j (0,0)))||(b.getD j 0).testBit i
theorem kx:∀{l:List Nat} {s:Nat},s∈l->(nV l).testBit (2*s)=true
 |[],_,h=>by simp at h
 |x::r,s,h=>by simp only[nV,Z8];rcases XF.1 h with rfl|h;simp[Nat.testBit_two_pow_self];simp[kx h]
theorem ky:∀{l:List Nat} {s:Nat},s∈l->(nW l).testBit (2*s+1)=true
 |[],_,h=>by simp at h
 |x::r,s,h=>by simp only[nW,Z8];rcases XF.1 h with rfl|h;simp[Nat.testBit_two_pow_self];simp[ky h]
theorem Ib {a b:Nat×Nat} (p:Nat) (h:(a.2.testBit p=true/\(b.1.testBit p=true\/b.2.testBit p=true))\/(a.1.testBit p=true/\b.2.testBit p=true)):DO a b=true:=by
 unfold DO;cases i:((a.2&&&(b.1|||b.2))|||(a.1&&&b.2))==0 with
 |false=>rfl
 |true=>
  have j:((a.2&&&(b.1|||b.2))|||(a.1&&&b.2))=0:=(by simpa using i);have f:=X5 (λn=>Nat.testBit n p) j;simp only[Z8,Nat.testBit_and,Nat.zero_testBit]at f;rcases h with⟨g,c⟩|⟨g,c⟩;(rcases c with c|c<;>simp[g,c]at f)
  ·simp[g,c]at f
def wS (e:ka) (s:Nat):Prop:=e.dst=some s
def wM (e:ka) (o:Id):Prop:=o∈e.mo.map (·.1)
variable {a:ka} {s:Nat}
theorem tk {b:ka} (h:wS a s/\(s∈b.RH\/wS b s)\/s∈a.RH/\wS b s):DO a.mask b.mask=true:=by
 have hw:∀e:ka,wS e s->e.mask.2.testBit (2*s)=true:=λe f=>by unfold wS at f;simp only[ka.mask,f,MS,Z8];simp[kx (l:=[s]) (s:=s) (by simp)]
 have i:∀e:ka,s∈e.RH->e.mask.1.testBit (2*s)=true:=λe f=>by simp only[ka.mask,Z8,kx f,Bool.true_or]
 refine Ib (2*s) ?_;rcases h with⟨g,c|c⟩|⟨g,c⟩;exact .inl ⟨hw a g,.inl (i b c)⟩;exact .inl ⟨hw a g,.inr (hw b c)⟩;exact .inr ⟨i a g,hw b c⟩
theorem xy {b:ka} {s:Id} (h:wM a s/\(s.key∈b.RI\/wM b s)\/s.key∈a.RI/\wM b s):DO a.mask b.mask=true:=by
 have hw:∀e:ka,wM e s->e.mask.2.testBit (2*s.key+1)=true:=λe f=>by unfold wM at f;obtain⟨p,j,rfl⟩:=XQ.1 f;simp only[ka.mask,Z8,ky (XQ.2 ⟨p,j,rfl⟩),Bool.or_true]
 have i:∀e:ka,s.key∈e.RI->e.mask.1.testBit (2*s.key+1)=true:=λe f=>by simp only[ka.mask,Z8,ky f,Bool.or_true]
 refine Ib (2*s.key+1) ?_;rcases h with⟨g,c|c⟩|⟨g,c⟩;exact .inl ⟨hw a g,.inl (i b c)⟩;exact .inl ⟨hw a g,.inr (hw b c)⟩;exact .inr ⟨i a g,hw b c⟩
def fT:List ka->(Nat->Bool)->Nat->(Nat->TV)->Nat->TV
 |[],_,_,t=>t
 |e::a,S,k,t=>fT a S (k+1) (if S k then pM t e.dst e.x else t)
def fM:List ka->(Nat->Bool)->Nat->(Id->Mem)->Id->Mem
 |[],_,_,m=>m
 |e::a,S,k,m=>fM a S (k+1) (if S k then cI m e.mo else m)
theorem u0 {t:Nat->TV} {d:Option Nat} (h:d≠some s):pM t d x s=t s:=by
 cases d with
 |none=>rfl
 |some k=>exact av _ _ _ (λe=>h (by rw[e]))
theorem u1 {t:Nat->TV} {d:Option Nat} (h:d=some s):pM t d x s=x:=by
 subst h;exact ar _ _ _
theorem mj:∀{a:List (Id×Mem)} {m:Id->Mem} {o:Id},o∉a.map (·.1)->cI m a o=m o
 |[],_,_,_=>rfl
 |(b,x)::r,m,o,h=>by simp only[Yg,XF,not_or]at h;simp only[cI];rw[mj h.2,av _ _ _ h.1]
theorem AP:∀{b:List (Id×Mem)} {m m':Id->Mem} {o:Id},o∈b.map (·.1)->cI m b o=cI m' b o
 |[],_,_,_,h=>by simp at h
 |(c,x)::r,m,m',o,h=>by simp only[cI];by_cases a:o∈r.map (·.1);exact AP a;rw[mj a,mj a];have e:o=c:=(by simp only[Yg,XF]at h;rcases h with h|h;exact h;exact absurd h a);subst e;rw[ar,ar]
theorem xj:∀(b:List ka) (S S':Nat->Bool) (k:Nat) (t t':Nat->TV) (s:Nat),t s=t' s->(∀i e,b[i]? =some e->wS e s->S (k+i)=S' (k+i))->fT b S k t s=fT b S' k t' s
 |[],_,_,_,_,_,_,h,_=>h
 |e::b,S,S',k,t,t',s,h,hw=>by
  simp only[fT];refine xj b S S' (k+1) _ _ s ?_ (λi g j a=>by
   have:=hw (i+1) g (by simpa using j) a
   rwa [show k+(i+1)=k+1+i by omega]at this)
  by_cases a:wS e s;have c:=hw 0 e rfl a;simp only[YR]at c;rw[c];split;rw[u1 a,u1 a];exact h;have f:e.dst≠some s:=a;have l:(if S k=true then pM t e.dst e.x else t) s=t s:=(by split;exact u0 f;rfl);have m:(if S' k=true then pM t' e.dst e.x else t') s=t' s:=(by split;exact u0 f;rfl);rw[l,m,h]
theorem xk:∀(a:List ka) (S S':Nat->Bool) (k:Nat) (m m':Id->Mem) (o:Id),m o=m' o->(∀i e,a[i]? =some e->wM e o->S (k+i)=S' (k+i))->fM a S k m o=fM a S' k m' o
 |[],_,_,_,_,_,_,h,_=>h
 |e::a,S,S',k,m,m',o,h,hw=>by
  simp only[fM];refine xk a S S' (k+1) _ _ o ?_ (λi g j b=>by
   have:=hw (i+1) g (by simpa using j) b
   rwa [show k+(i+1)=k+1+i by omega]at this)
  by_cases b:wM e o;have c:=hw 0 e rfl b;simp only[YR]at c;rw[c];split;exact AP b;exact h;have f:o∉e.mo.map (·.1):=b;have l:(if S k=true then cI m e.mo else m) o=m o:=(by split;exact mj f;rfl);have p:(if S' k=true then cI m' e.mo else m') o=m' o:=(by split;exact mj f;rfl);rw[l,p,h]
theorem FJ (a:List ka) (S:Nat->Bool) (k:Nat) (t:Nat->TV) (s:Nat) (h:∀i e,a[i]? =some e->wS e s->S (k+i)=false):fT a S k t s=t s:=by
 induction a generalizing k t with
 |nil=>rfl
 |cons e a f=>
  simp only[fT];rw[f (k+1) _ (λi g j b=>by
   have:=h (i+1) g (by simpa using j) b
   rwa [show k+(i+1)=k+1+i by omega]at this)]
  by_cases b:wS e s;have c:=h 0 e rfl b;simp only[YR]at c;rw[c];rfl;split;exact u0 b;rfl
theorem FK (a:List ka) (S:Nat->Bool) (k:Nat) (m:Id->Mem) (o:Id) (h:∀i e,a[i]? =some e->wM e o->S (k+i)=false):fM a S k m o=m o:=by
 induction a generalizing k m with
 |nil=>rfl
 |cons e a f=>
  simp only[fM];rw[f (k+1) _ (λi g j b=>by
   have:=h (i+1) g (by simpa using j) b
   rwa [show k+(i+1)=k+1+i by omega]at this)]
  by_cases b:wM e o;have c:=h 0 e rfl b;simp only[YR]at c;rw[c];rfl;split;exact mj b;rfl
theorem HT:∀(a:List ka) (S:Nat->Bool) (k:Nat) (t:Nat->TV) (s:Nat) (i:Nat) (e:ka),a[i]? =some e->wS e s->S (k+i)=true->(∀j b,a[j]? =some b->i<j->wS b s->S (k+j)=false)->fT a S k t s=e.x
 |[],_,_,_,_,i,e,h,_,_,_=>by simp at h
 |m::a,S,k,t,s,0,e,h,hw,c,f=>by
  simp at h;subst h;simp only[fT];rw[FJ a S (k+1) _ s (λj b g l=>by
   have:=f (j+1) b (by simpa using g) (by omega) l
   rwa [show k+(j+1)=k+1+j by omega]at this)]
  simp only[YR]at c;rw[c];exact u1 hw
 |m::a,S,k,t,s,i+1,e,h,hw,c,f=>by
  simp only[fT];exact HT a S (k+1) _ s i e (by simpa using h) hw (by rwa [show k+(i+1)=k+1+i by omega]at c) (λj b g o l=>by
   have:=f (j+1) b (by simpa using g) (by omega) l
   rwa [show k+(j+1)=k+1+j by omega]at this)
theorem HU:∀(a:List ka) (S:Nat->Bool) (k:Nat) (m m':Id->Mem) (o:Id) (i:Nat) (e:ka),a[i]? =some e->wM e o->S (k+i)=true->(∀j b,a[j]? =some b->i<j->wM b o->S (k+j)=false)->fM a S k m o=cI m' e.mo o
 |[],_,_,_,_,_,i,e,h,_,_,_=>by simp at h
 |p::a,S,k,m,m',o,0,e,h,hw,c,f=>by
  simp at h;subst h;simp only[fM];rw[FK a S (k+1) _ o (λj b g l=>by
   have:=f (j+1) b (by simpa using g) (by omega) l
   rwa [show k+(j+1)=k+1+j by omega]at this)]
  simp only[YR]at c;rw[c];exact AP hw
 |p::a,S,k,m,m',o,i+1,e,h,hw,c,f=>by
  simp only[fM];exact HU a S (k+1) _ m' o i e (by simpa using h) hw (by rwa [show k+(i+1)=k+1+i by omega]at c) (λj b g q l=>by
   have:=f (j+1) b (by simpa using g) (by omega) l
   rwa [show k+(j+1)=k+1+j by omega]at this)
theorem r4.length {c:Array Oper} {a:List Oper} {b:List ka} {t:Nat->TV} (h:r4 P N c a b t m t' m'):b.length=a.length:=by
 induction h with
 |nil=>rfl
 |cons _ _ f=>simp[f]
theorem r4.final {f:Array Oper} {b:List Oper} {a:List ka} {t:Nat->TV} (h:r4 P N f b a t m t' m'):∀(S:Nat->Bool) (k:Nat),(∀i,i<a.length->S (k+i)=true)->fT a S k t=t'/\fM a S k m=m':=by
 induction h with
 |nil=>intro S k _;exact⟨rfl,rfl⟩
 |@cons o e b a t t' m m' l p g=>
  intro S k hS;have c:=hS 0 (by simp);simp only[YR]at c;simp only[fT,fM,c,WH];exact g S (k+1) (λi j=>by
   have:=hS (i+1) (by simpa using j)
   rwa [show k+(i+1)=k+1+i by omega]at this)
theorem r4.at {P:Program} {N:Nat} {g:Array Oper} {b:List Oper} {a:List ka} {t t':Nat->TV} {m m':Id->Mem} (h:r4 P N g b a t m t' m'):∀(k i:Nat) (o:Oper) (e:ka),b[i]? =some o->a[i]? =some e->
  NO P N g o e (fT a (λj=>decide (j<k+i)) k t) (fM a (λj=>decide (j<k+i)) k m):=by
 induction h with
 |nil=>intro k i o e h;simp at h
 |@cons w l b a t t' m m' p x q=>
  intro k i o e c f;cases i with
  |zero=>simp at c f;subst c;subst f;have r:fT (l::a) (λj=>decide (j<k+0)) k t=t:=(by funext s;exact FJ _ _ _ _ _ (λi _ _ _=>by simp));have u:fM (l::a) (λj=>decide (j<k+0)) k m=m:=(by funext s;exact FK _ _ _ _ _ (λi _ _ _=>by simp));rw[r,u];exact p
  |succ i=>
   have:=q (k+1) i o e (by simpa using c) (by simpa using f);simp only[fT,fM,show k<k+(i+1) from by omega,decide_true,WH]
   rwa [show k+1+i=k+(i+1) by omega]at this
theorem ui (acc:List Nat) (l:List Edge) (p:Nat):∀(s:Nat),(l.foldl (λs e=>bif Region.binds .any e then s|||2^e.on|||acc.getD e.on 0 else s) s).testBit p=true->
  s.testBit p=true\/∃e∈l,Region.binds .any e=true/\(p=e.on\/(acc.getD e.on 0).testBit p=true):=by
 induction l with
 |nil=>intro s h;exact .inl h
 |cons e l b=>
  intro s h;simp only[ZP]at h;rcases b _ h with h1|⟨c,f,g⟩
  ·cases a:Region.binds .any e with
   |false=>rw[a]at h1;exact .inl h1
   |true=>rw[a]at h1;simp only[ZG,Z8,Zo]at h1;rcases h1 with(h1|h1)|h1;exact .inl h1;right;refine⟨e,by simp,a,.inl ?_⟩;rw[Nat.testBit_two_pow]at h1;have:e.on=p:=(by simpa using h1);exact this.symm;exact .inr ⟨e,by simp,a,.inr h1⟩
  ·exact .inr ⟨c,by simp[f],g⟩
theorem ub {g:List Oper} (S:Nat->Prop) (hS:∀i (o:Oper),g[i]? =some o->S i->∀e∈o.after.toList,Region.binds .any e=true->S e.on):
  ∀(n:Nat) (done a:List Oper) (acc:List Nat),a.length=n->g=done++a->acc.length=done.length->
   (∀i (o:Oper),i<done.length->g[i]? =some o->(∀e∈o.after.toList,Region.binds .any e=true->S e.on)->∀p,(acc.getD i 0).testBit p=true->S p)->
   ∀i (o:Oper),g[i]? =some o->(∀e∈o.after.toList,Region.binds .any e=true->S e.on)->∀p,((D5 a acc).getD i 0).testBit p=true->S p:=by
 intro n;induction n with
 |zero=>intro done a acc j k u l i o b m p c;have:a=[]:=Y1 j;subst this;rw[D5]at c;refine l i o ?_ b m p c;have:=(Ye.1 b).1;rw[k]at this;simpa using this
 |succ n y=>
  intro done a acc j k u l
  match a,j with
  |f::a,j=>
   rw[D5];refine y (done++[f]) a (acc++[rW acc f]) (by simpa using j) (by simp[k]) (by simp[u]) ?_;intro i o w b m p c;by_cases z:i<done.length;have:(acc++[rW acc f]).getD i 0=acc.getD i 0:=(by simp[List.getD,Yo,show i<acc.length by omega]);rw[this]at c;exact l i o z b m p c
   ·have A:i=done.length:=(by simp at w;omega);subst A;have B:(acc++[rW acc f]).getD done.length 0=rW acc f:=(by simp[List.getD,<-u]);rw[B]at c;have C:o=f:=(by rw[k]at b;simp at b;exact b.symm);subst C;rcases ui acc o.after.toList p 0 c with D|⟨e,E,F,q⟩;simp at D
    ·have x:=m e E F;rcases q with rfl|q;exact x
     ·
      have w:e.on<done.length:=(by rcases Wu e.on acc.length with h|h;omega;simp[List.getD,YY h]at q);have r:∃t,g[e.on]? =some t:=⟨_,XV (by rw[k];simp;omega)⟩;obtain⟨t,r⟩:=r;exact l e.on t w r (hS e.on t r x) p q
variable {i:Nat}
theorem mem_ready {h:Region.Mode} {a:Array Oper} {j:Array Bool}:i∈Region.ready h a j↔i<a.size/\j.getD i true=false/\∀o,a[i]? =some o->∀e∈o.after.toList,Region.binds h e=true->j.getD e.on false=true:=by
 unfold Region.ready;simp only[Wx,X4,XH,YK];constructor;rintro⟨c,k,b⟩;refine⟨c,k,λo f e l g=>?_⟩;rw[f]at b;simp only[WI,Yt,aao]at b;have:=b e (aab.1 l);simpa[g]using this
 ·rintro⟨c,k,b⟩;refine⟨c,k,?_⟩;have f:a[i]? =some a[i]:=(by simp[c]);rw[f];simp only[WI,Yt,aao];intro e l;cases g:Region.binds h e with
  |false=>rfl
  |true=>simpa[g]using b a[i] f e (aab.2 l) g
def rz (n:Nat) (a:Array Bool):Nat:=((List.range n).filter λi=>!a.getD i true).length
theorem FD {n:Nat} {a:Array Bool} (hs:a.size=n) (hi:i<n) (m:a.getD i true=false):rz n (a.setIfInBounds i true)+1=rz n a:=by
 unfold rz;have f:∀j,(a.setIfInBounds i true).getD j true=if j=i then true else a.getD j true:=by intro j;simp only[Yz,ZV];by_cases h:i=j;subst h;simp[hs,hi];have:j≠i:=λe=>h e.symm;simp[h,this]
 have o:∀(l:List Nat),l.Nodup->((l.filter λj=>!(a.setIfInBounds i true).getD j true).length+if i∈l then 1 else 0)=(l.filter λj=>!a.getD j true).length:=by
  intro l;induction l with
  |nil=>intro _;rfl
  |cons x l p=>
   intro q;have g:=Yy.1 q;have k:=p g.2;by_cases b:x=i;subst b;have r:x∉l:=g.1;rw[XD r]at k;have c:(!(a.setIfInBounds x true).getD x true)=false:=(by rw[f];simp);have t:(!a.getD x true)=true:=(by rw[m];rfl);simp only[Xk,c,t,WH,XZ,XF,true_or];simp only[Y4,Z3];omega
   ·have c:(!(a.setIfInBounds i true).getD x true)=(!a.getD x true):=(by rw[f,XD b]);simp only[Xk,c];have u:(i∈x::l)↔i∈l:=(by rw[XF];exact⟨λh=>h.resolve_left (λe=>b e.symm),.inr⟩);simp only[u];cases w:(!a.getD x true)with
    |true=>simp only[WH,XZ];omega
    |false=>simp only[Y4,Z3];exact k
 have:=o (List.range n) Wn;rw[XG (by simpa using hi)]at this;exact this
theorem FC {n:Nat} {a:Array Bool} (h:rz n a=0) (i:Nat) (hi:i<n):a.getD i true=true:=by
 unfold rz at h;have c:=Y1 h;have b:=List.filter_eq_nil_iff.1 c i (by simpa using hi);cases f:a.getD i true with
 |true=>rfl
 |false=>rw[f]at b;simp at b
theorem MK {P:Program} {N:Nat} {g:Array Oper} {c:List ka} {t b0:Nat->TV} {m m':Id->Mem} (h:r4 P N g g.toList c t m b0 m') (a1:U9 g.toList (c.map ka.mask)=true)
  {E:Env} (c1:E.P=P) (c2:E.N=N) {Q:Exit->Act->World->Prop} (c3:∀a2 T U,Rel E a2 b0 m' T U->Q .normal T U):
  ∀(G:Nat) (f:Array Bool) (I:Id->Option (Nat×Nat)) (a:Act) (w:World),f.size=g.size->rz g.size f=G->
   (∀i (o:Oper),g.toList[i]? =some o->f.getD i false=true->∀e∈o.after.toList,Region.binds .any e=true->f.getD e.on false=true)->
   Rel E I (fT c (λi=>f.getD i false) 0 t) (fM c (λi=>f.getD i false) 0 m) a w->wpAny P .any g Q G f a w:=by
 have e3:c.length=g.size:=by rw[h.length];simp
 have a3:∀j,j<g.size->(∀o,g.toList[j]? =some o->∀e∈o.after.toList,Region.binds .any e=true->e.on<j)/\
   ∀i,i<j->∀V k,c[i]? =some V->c[j]? =some k->DO V.mask k.mask=true->((D5 g.toList []).getD j 0).testBit i=true:=by
  intro j y;unfold U9 at a1;simp only[Zj,X4,XH]at a1;obtain⟨a4,c4⟩:=a1 j (by simpa using y);refine⟨λo z e x r=>?_,λi A V k a5 J K=>?_⟩;rw[z]at a4;simp only[WI,Yt,Zj]at a4;have:=a4 e x;rw[r]at this;exact bU (by simpa using this);have:=c4 i A;have c5:(c.map ka.mask).getD i (0,0)=V.mask:=(by simp[List.getD,a5]);have c6:(c.map ka.mask).getD j (0,0)=k.mask:=(by simp[List.getD,J]);rw[c5,c6,K]at this;simpa using this
 intro G;induction G with
 |zero=>intro f I a w B b1 M X;have b2:∀i,i<g.size->f.getD i true=true:=FC b1;refine⟨?_,?_⟩;rw[Wp];intro i A;have:=mem_ready.1 A;rw[b2 i this.1]at this;simp at this;have b3:=h.final (λi=>f.getD i false) 0 (λi A=>by rw[X6];have:=b2 i (by omega);have O:i<f.size:=(by omega);simp only[Yz,Z0 O,Yt]at this|-;exact this);rw[b3.1,b3.2]at X;exact c3 I a w X
 |succ G c7=>
  intro f I a w B b1 M X;have b4:∀i,i<g.size->f.getD i false=f.getD i true:=λi A=>by have O:i<f.size:=(by omega);simp[Yz,Z0 O]
  refine⟨λc8=>?_,λi A=>?_⟩
  ·
   exfalso;have c9:∃i,i<g.size/\f.getD i true=false:=by
    refine Xz λd0=>?_;have e4:rz g.size f=0:=by
     unfold rz;rw[List.length_eq_zero_iff,List.filter_eq_nil_iff];intro i A;cases r:f.getD i true with
     |true=>simp
     |false=>exact absurd ⟨i,by simpa using A,r⟩ d0
    omega
   have d1:∀n,(∃i,i<=n/\i<g.size/\f.getD i true=false)->∃i,i<g.size/\f.getD i true=false/\∀j,j<i->f.getD j true=true:=by
    intro n;induction n with
    |zero=>rintro⟨i,a5,J,a6⟩;exact⟨i,J,a6,λj y=>by omega⟩
    |succ n d2=>
     rintro⟨i,a5,J,a6⟩;by_cases b5:∃i,i<=n/\i<g.size/\f.getD i true=false;exact d2 b5
     ·refine⟨i,J,a6,λj y=>?_⟩;cases r:f.getD j true with
      |true=>rfl
      |false=>exact absurd ⟨j,by omega,by omega,r⟩ b5
   obtain⟨b6,d3,d4⟩:=c9;obtain⟨i,A,Y,d5⟩:=d1 b6 ⟨b6,XP _,d3,d4⟩;have:i∈Region.ready .any g f:=mem_ready.2 ⟨A,Y,λo z e x r=>by have O:=(a3 i A).1 o (by simpa using z) e x r;rw[b4 _ (by omega)];exact d5 _ O⟩;rw[c8]at this;simp at this
  ·obtain⟨H,Y,b7⟩:=mem_ready.1 A;have a7:f.getD i false=false:=(by rw[b4 i H];exact Y);have a8:g[i]? =some g[i]:=(by simp[H]);have a9:g.toList[i]? =some g[i]:=(by simp[H]);have C:c[i]? =some c[i]:=(by simp[show i<c.length by omega]);have d6:∀p,((D5 g.toList []).getD i 0).testBit p=true->f.getD p false=true:=
    ub (λj=>f.getD j false=true) (λj o z y e x r=>M j o z y e x r) _ [] g.toList [] rfl rfl rfl (λ_ _ h=>absurd h (XL _)) i g[i] a9 (λe x r=>b7 g[i] a8 e x r)
   have d7:∀j,j<g.size->f.getD j false=true->∀p,((D5 g.toList []).getD j 0).testBit p=true->f.getD p false=true:=(by intro j y R;have b8:g.toList[j]? =some g[j]:=(by simp[y]);exact ub (λj=>f.getD j false=true) (λj o z y e x r=>M j o z y e x r) _ [] g.toList [] rfl rfl rfl (λ_ _ h=>absurd h (XL _)) j g[j] b8 (λe x r=>M j g[j] b8 R e x r));have b9:∀j k,j<i->c[j]? =some k->DO k.mask c[i].mask=true->f.getD j false=true:=λj k q l K=>d6 j ((a3 i H).2 j q k c[i] l C K);have Z:∀j k,i<j->c[j]? =some k->DO c[i].mask k.mask=true->f.getD j false=false:=λj k S l K=>by
    have y:j<g.size:=(by have:=(Ye.1 l).1;omega);cases r:f.getD j false with
    |false=>rfl
    |true=>have:=d7 j y r i ((a3 j y).2 i S c[i] k C l K);rw[a7]at this;simp at this
   have c0:=h.at 0 i g[i] c[i] a9 C;rw[X6]at c0;have d8:∀s∈c[i].RH,fT c (λi=>f.getD i false) 0 t s=fT c (λj=>decide (j<i)) 0 t s:=λs B=>
    xj c _ _ 0 t t s rfl (λj k l u=>by
     rw[X6];rcases Z4 j i with q|q|q;rw[b9 j k q l (tk (s:=s) (.inl ⟨u,.inl B⟩))];simp[q];subst q;rw[a7];simp
     ·rw[Z j k q l (tk (s:=s) (.inr ⟨B,u⟩))];simp;omega)
   have d9:∀b:Id,b.key∈c[i].RI->fM c (λi=>f.getD i false) 0 m b=fM c (λj=>decide (j<i)) 0 m b:=λb r=>
    xk c _ _ 0 m m b rfl (λj k l u=>by
     rw[X6];rcases Z4 j i with q|q|q;rw[b9 j k q l (xy (s:=b) (.inl ⟨u,.inl r⟩))];simp[q];subst q;rw[a7];simp
     ·rw[Z j k q l (xy (s:=b) (.inr ⟨r,u⟩))];simp;omega)
   have D:∀j,(f.setIfInBounds i true).getD j false=if j=i then true else f.getD j false:=(by intro j;simp only[Yz,ZV];by_cases h:i=j;subst h;simp[B,H];have:j≠i:=λe=>h e.symm;simp[h,this]);have e0:fT c (λj=>(f.setIfInBounds i true).getD j false) 0 t=pM (fT c (λi=>f.getD i false) 0 t) c[i].dst c[i].x:=(by funext s;by_cases u:wS c[i] s;rw[u1 u];refine HT c _ 0 t s i c[i] C u (by rw[X6,D];simp) (λj k l S F=>?_);rw[X6,D,iN];exact Z j k S l (tk (s:=s) (.inl ⟨u,.inr F⟩));rw[u0 u];refine xj c _ _ 0 t t s rfl (λj k l F=>?_);rw[X6,D];by_cases q:j=i;subst q;rw[C]at l;simp at l;subst l;exact absurd F u;rw[XD q]);have e1:fM c (λj=>(f.setIfInBounds i true).getD j false) 0 m=cI (fM c (λi=>f.getD i false) 0 m) c[i].mo:=(by funext s;by_cases u:wM c[i] s;refine HU c _ 0 m _ s i c[i] C u (by rw[X6,D];simp) (λj k l S F=>?_);rw[X6,D,iN];exact Z j k S l (xy (s:=s) (.inl ⟨u,.inr F⟩));rw[mj u];refine xk c _ _ 0 m m s rfl (λj k l F=>?_);rw[X6,D];by_cases q:j=i;subst q;rw[C]at l;simp at l;subst l;exact absurd F u;rw[XD q]);have a0:=c0 E I _ _ a w c1 c2 d8 d9 X (wpAny P .any g Q G (f.setIfInBounds i true)) Q (λa2 T U e2=>by
    refine c7 _ a2 T U (by simp[B]) (by have:=FD B H Y;omega) ?_ (by rw[e0,e1];exact e2);intro j o z R e x r;rw[D]at R|-;by_cases l:e.on=i;rw[XG l]
    ·rw[XD l];by_cases q:j=i;subst q;rw[a9]at z;simp at z;subst z;exact b7 g[j] a8 e x r
     ·rw[XD q]at R;exact M j o z R e x r)
   unfold wpOp;rw[a8];simp only;split;rename_i hw;rw[XG hw]at a0;exact .inl a0;rename_i hw;rw[XD hw]at a0;exact a0
end Go.Vm
