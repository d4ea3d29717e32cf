import Derived.Test.YtobmlkopbmakcaaGreatMF
import Derived.Test.YtobmlkopbmakcaaGreatMD
set_option linter.unusedVariables false
set_option linter.unusedSimpArgs false
set_option maxRecDepth 20000
namespace Go.Vm
open Go Go.RowKit Go.Proofs
namespace Sg
def lD (o1 o2 o3 k g gr:Nat) (v:LV) (nb:Nat->List Nat) (nx:List Nat):List (Id×Mem):=
 (.n o1,.obj [.s (aN v),.aJ (.n o2) g,.aJ (.n o3) g])::(.n o2,.bm g v.length 1 22 λi _=> .aJ (.s k i) gr)::(.n o3,.aL g nx.length 1 3 (nG nx))::
  (DA k v.length (λi=> .aL gr (nb i).length 1 3 (nG (nb i)))++[])
def r6 (o1 o2 o3 k g gr:Nat) (v:LV) (nb:Nat->List Nat) (nx:List Nat):Id->Mem:=
 MP (aQ [(.n o1,.obj [.s (aN v),.aJ (.n o2) g,.aJ (.n o3) g]),(.n o2,.bm g v.length 1 22 λi _=> .aJ (.s k i) gr),(.n o3,.aL g nx.length 1 3 (nG nx))]) k v.length λi=> .aL gr (nb i).length 1 3 (nG (nb i))
variable {i:Nat}
section
variable {o1 o2 o3 k g gr:Nat} {v:LV} {nb:Nat->List Nat} {nx:List Nat}
theorem cd (h:i<v.length):r6 o1 o2 o3 k g gr v nb nx (.s k i)= .aL gr (nb i).length 1 3 (nG (nb i)):=vq h
theorem vp (h:i<v.length):aQ (lD o1 o2 o3 k g gr v nb nx) (.s k i)= .aL gr (nb i).length 1 3 (nG (nb i)):=by
 show aQ (DA k v.length (λi=> .aL gr (nb i).length 1 3 (nG (nb i)))++[]) (.s k i)=_;rw[Fm _ _ _ _ _ h]
theorem bP (o:Id) (h:r6 o1 o2 o3 k g gr v nb nx o≠ .none):o= .n o1\/o= .n o2\/o= .n o3\/∃i,i<v.length/\o= .s k i:=by
 refine Xz λq=>h ?_;simp only[not_or,not_exists,not_and]at q;obtain⟨a,b,c,f⟩:=q;unfold r6;rw[xk f];simp only[aQ];rw[aw _ _ _ a,aw _ _ _ b,aw _ _ _ c]
end
structure JV (m:Id->Mem) (a b c k:Nat) (v:LV) (nb:Nat->List Nat) (nx:List Nat):Prop where
 obj:m (.n a)= .obj [.s (aN v),.aJ (.n b) (m (.n b)).gen,.aJ (.n c) (m (.n c)).gen]
 sf:∃g get,m (.n b)= .bm g v.length 1 22 get/\∀i,i<v.length->get i 0= .aJ (.s k i) (m (.s k i)).gen
 bA:∃g get,m (.n c)= .aL g nx.length 1 3 get/\∀i,i<nx.length->aD (get i 0) (nG nx i 0)
 row:∀i,i<v.length->∃g get,m (.s k i)= .aL g (nb i).length 1 3 get/\∀j,j<(nb i).length->aD (get j 0) (nG (nb i) j 0)
variable {k:Nat}
theorem nU {m m':Id->Mem} {a b c:Nat} {v:LV} {nb:Nat->List Nat} {nx:List Nat} (h:JV m a b c k v nb nx)
  (p:m' (.n b)= .bm 0 v.length 1 22 λi _=> .aJ (.s k i) 0) (q:m' (.n c)= .aL 0 nx.length 1 3 (nG nx)) (r:∀i,i<v.length->m' (.s k i)= .aL 0 (nb i).length 1 3 (nG (nb i))):fk m m' (lD a b c k 0 0 v nb nx):=by
 refine .cons ?_ (.cons ?_ (.cons ?_ (.fam (λi f=>?_) .nil)));rw[h.obj];exact .obj (.cons (.s (aD.refl _)) (.cons (.aJ (by rw[p];simp) rfl (by rw[p];rfl)) (.cons (.aJ (by rw[q];simp) rfl (by rw[q];rfl)) .nil)));obtain⟨g,t,e,l⟩:=h.sf;rw[e];refine .bm (λi f j o=>?_) (λh=>absurd h (by decide));obtain rfl:j=0:=(by omega);rw[l i f];exact .aJ (by rw[r i f];simp) rfl (by rw[r i f];rfl);obtain⟨g,t,e,l⟩:=h.bA;rw[e];refine .aL (λi f j o=>?_) (λh=>absurd h (by decide));obtain rfl:j=0:=(by omega);exact l i f;obtain⟨g,t,e,l⟩:=h.row i f;rw[e];refine .aL (λj o u w=>?_) (λh=>absurd h (by decide));obtain rfl:u=0:=(by omega);exact l j o
theorem Xe (v:LV) (nb Jc:Nat->List Nat) (nx:List Nat) (p:List DV) (g gr:Nat):Ec (.ptr (.n 2000) 0::p.map .d) (r6 2000 2001 2002 2003 1 1 v nb nx) (.eD []) (r6 2000 2001 2002 2003 g gr v Jc nx) where
 hi o a:=by rcases bP o a with rfl|rfl|rfl|⟨i,hi,rfl⟩<;>simp[Lo]
 Dd o a:=by rcases bP o a with rfl|rfl|rfl|⟨i,hi,rfl⟩;exact .inr ⟨rfl,Nat.zero_lt_one⟩;exact .inr ⟨rfl,Nat.succ_pos 2⟩;exact .inr ⟨rfl,Nat.succ_pos 2⟩;right;rw[cd hi,cd hi];exact⟨rfl,Nat.succ_pos 2⟩
 cur:=trivial
 tf o:=by by_cases a:r6 2000 2001 2002 2003 g gr v Jc nx o= .none;rw[a];trivial;rcases bP o a with rfl|rfl|rfl|⟨i,hi,rfl⟩;intro c f;simp only[XD,YD,ZY]at f;rcases f with rfl|rfl|rfl;trivial;exact rfl;exact rfl;intro i hi j l;show gr=(r6 2000 2001 2002 2003 g gr v Jc nx (.s 2003 i)).gen;rw[cd hi];rfl;trivial;rw[cd hi];trivial
 closed o m a:=by
  by_cases k:r6 2000 2001 2002 2003 1 1 v nb nx o= .none;rw[k]at a;exact a.elim
  ·rcases bP o k with rfl|rfl|rfl|⟨i,hi,rfl⟩
   ·obtain⟨c,f,b⟩:=a;simp only[XD,YD,ZY]at f;rcases f with rfl|rfl|rfl;exact b.elim;(cases b;exact λh=>by cases h)
    ·cases b;exact λh=>by cases h
   ·obtain⟨i,j,hi,l,b⟩:=a;cases b;rw[cd hi];simp
   ·exact a.elim
   ·rw[cd hi]at a;exact a.elim
 fU x q m a:=by
  rcases XD.1 q with rfl|h;(cases a;exact λh=>by cases h)
  ·obtain⟨y,_,rfl⟩:=XS.1 h;exact a.elim
 clean o a:=a.elim
 pq o m a:=by
  by_cases k:r6 2000 2001 2002 2003 g gr v Jc nx o= .none;rw[k]at a;exact a.elim
  ·rcases bP o k with rfl|rfl|rfl|⟨i,hi,rfl⟩
   ·obtain⟨c,f,b⟩:=a;simp only[XD,YD,ZY]at f;rcases f with rfl|rfl|rfl;exact b.elim;(cases b;exact λh=>by cases h)
    ·cases b;exact λh=>by cases h
   ·obtain⟨i,j,hi,l,b⟩:=a;cases b;rw[cd hi];simp
   ·exact a.elim
   ·rw[cd hi]at a;exact a.elim
def Av (a b c k:Nat):Id->Id
 | .n j=>bif Nat.beq j 2000 then .n a else bif Nat.beq j 2001 then .n b else bif Nat.beq j 2002 then .n c else .n j
 | .s _ i=> .s k i
def s7 (m M1:Id->Mem) (a:Id->Id) (o:Id):Nat:=bif Nat.beq (M1 o).gen 1 then(m (a o)).gen else(m (a o)).gen+2
def Hf (m M1:Id->Mem) (a b c k:Nat) (v:LV) (nb:Nat->List Nat) (nx:List Nat):List (Id×Mem):=
 (.n a,.obj [.s (aN v),.aJ (.n b) (s7 m M1 (Av a b c k) (.n 2001)),.aJ (.n c) (s7 m M1 (Av a b c k) (.n 2002))])::(.n b,.bm (s7 m M1 (Av a b c k) (.n 2001)) v.length 1 22 λi _=> .aJ (.s k i) (s7 m M1 (Av a b c k) (.s 2003 i)))::
  (.n c,.aL (s7 m M1 (Av a b c k) (.n 2002)) nx.length 1 3 (nG nx))::(DA k v.length (λi=> .aL (s7 m M1 (Av a b c k) (.s 2003 i)) (nb i).length 1 3 (nG (nb i)))++[])
theorem dS:∀(l:List (Id×Mem)) (m:Id->Mem) (o:Id),(∀p∈l,p.1≠o)->cK m l o=m o
 |[],_,_,_=>rfl
 |p::l,m,o,h=>by simp only[cK];rw[dS l _ o (λq a=>h q (by simp[a])),aw _ _ _ (λe=>h p (by simp) e.symm)]
theorem CD (k n:Nat) (f:Nat->Mem) (m:Id->Mem) (i:Nat) (hi:i<n):cK m (DA k n f) (.s k i)=f i:=by
 have b:∀(l:List Nat) (m:Id->Mem),l.Nodup->i∈l->cK m (l.map λi=>((.s k i,f i):Id×Mem)) (.s k i)=f i:=λl=>by
  induction l with
  |nil=>intro m _ h;cases h
  |cons x l c=>intro m a h;simp only[Yz,cK];by_cases e:i=x;subst e;rw[dS _ _ _ (λp g q=>by obtain⟨y,j,rfl⟩:=XS.1 g;cases q;exact(YA.1 a).1 j),aq];exact c _ (YA.1 a).2 ((XD.1 h).resolve_left e)
 exact b (List.range n) m aag (X6.2 hi)
theorem iG {n:Nat} {f:Nat->Mem} {o:Id} (h:∀i,i<n->o≠ .s k i):∀p∈DA k n f++[],p.1≠o:=λp a e=>by
 rw[Y4]at a;obtain⟨i,b,rfl⟩:=XS.1 a;exact h i (X6.1 b) e.symm
section
variable {m m':Id->Mem} {a b c k:Nat} {v:LV} {nb Jc:Nat->List Nat} {nx:List Nat} {M1:Id->Mem}
theorem Q7 (f:a≠b) (g:a≠c):cK m' (Hf m M1 a b c k v nb nx) (.n a)= .obj [.s (aN v),.aJ (.n b) (s7 m M1 (Av a b c k) (.n 2001)),.aJ (.n c) (s7 m M1 (Av a b c k) (.n 2002))]:=by
 simp only[Hf,cK];rw[dS _ _ _ (iG (λi _ h=>by cases h)),aw _ _ _ (by intro h;cases h;exact g rfl),aw _ _ _ (by intro h;cases h;exact f rfl),aq]
theorem LU (f:b≠c):cK m' (Hf m M1 a b c k v nb nx) (.n b)= .bm (s7 m M1 (Av a b c k) (.n 2001)) v.length 1 22 λi _=> .aJ (.s k i) (s7 m M1 (Av a b c k) (.s 2003 i)):=by
 simp only[Hf,cK];rw[dS _ _ _ (iG (λi _ h=>by cases h)),aw _ _ _ (by intro h;cases h;exact f rfl),aq]
theorem LS:cK m' (Hf m M1 a b c k v nb nx) (.n c)= .aL (s7 m M1 (Av a b c k) (.n 2002)) nx.length 1 3 (nG nx):=by
 simp only[Hf,cK];rw[dS _ _ _ (iG (λi _ h=>by cases h)),aq]
theorem AX (hi:i<v.length):cK m' (Hf m M1 a b c k v nb nx) (.s k i)= .aL (s7 m M1 (Av a b c k) (.s 2003 i)) (nb i).length 1 3 (nG (nb i)):=by
 simp only[Hf,cK];rw[Y4,CD _ _ _ _ _ hi]
theorem AY {o:Id} (f:o≠ .n a) (h2:o≠ .n b) (g:o≠ .n c) (h:∀i,i<v.length->o≠ .s k i):cK m' (Hf m M1 a b c k v nb nx) o=m' o:=by
 simp only[Hf,cK];rw[dS _ _ _ (iG h),aw _ _ _ g,aw _ _ _ h2,aw _ _ _ f]
theorem LW (h:a≠b:=by decide) (j:a≠c:=by decide) (g:b≠c:=by decide):JV (cK m' (Hf m M1 a b c k v nb nx)) a b c k v nb nx where
 obj:=by rw[Q7 h j,LU g,LS];rfl
 sf:=by rw[LU g];refine⟨_,_,rfl,λi f=>?_⟩;rw[AX f];rfl
 bA:=by rw[LS];exact⟨_,_,rfl,λi f=>aD.refl _⟩
 row i f:=by rw[AX f];exact⟨_,_,rfl,λi f=>aD.refl _⟩
theorem U4 (h:JV m a b c k v nb nx) (u:a≠b) (w:a≠c) (x:b≠c) (g gr:Nat) {p:List DV} {xs:List TV} (z:lQ m (Av a b c k) xs (.ptr (.n 2000) 0::p.map .d)) (A:Option Nat):
  QC m (Av a b c k) (s7 m (r6 2000 2001 2002 2003 g gr v Jc nx) (Av a b c k)) xs (.ptr (.n 2000) 0::p.map .d) (r6 2000 2001 2002 2003 1 1 v nb nx) (r6 2000 2001 2002 2003 g gr v Jc nx)
   (Hf m (r6 2000 2001 2002 2003 g gr v Jc nx) a b c k v Jc nx) [a,b,c,k] A where
 mem o l:=by rcases bP o l with rfl|rfl|rfl|⟨i,f,rfl⟩;show kd m _ (m (.n a)) (.obj [.s (aN v),.aJ (.n 2001) 1,.aJ (.n 2002) 1]);rw[h.obj];exact .obj (.cons (.s (aD.refl _)) (.cH (.cH .nil)));obtain⟨g,y,e,q⟩:=h.sf;show kd m _ (m (.n b)) _;rw[e];refine .bm (λi f j t=>?_);obtain rfl:j=0:=(by omega);rw[q i f];exact .aJ rfl rfl;obtain⟨g,y,e,q⟩:=h.bA;show kd m _ (m (.n c)) _;rw[e];refine .aL (λi f j t=>?_);obtain rfl:j=0:=(by omega);exact q i f;obtain⟨g,y,e,q⟩:=h.row i f;show kd m _ (m (.s k i)) _;rw[e,cd f];refine .aL (λj t B K=>?_);obtain rfl:B=0:=(by omega);exact q j t
 args:=z
 inj o C q D e:=by have s0:Av a b c k (.n 2000)= .n a:=rfl;have E:Av a b c k (.n 2001)= .n b:=rfl;have F:Av a b c k (.n 2002)= .n c:=rfl;have G:∀i,Av a b c k (.s 2003 i)= .s k i:=λ_=>rfl;have H:=u.symm;have I:=w.symm;have J:=x.symm;rcases bP o q with rfl|rfl|rfl|⟨i,f,rfl⟩<;>rcases bP C D with rfl|rfl|rfl|⟨j,t,rfl⟩<;>simp only[s0,E,F,G,Id.n.injEq,Id.s.injEq,reduceCtorEq,abU]at e<;>first|rfl|exact absurd e u|exact absurd e w|exact absurd e x|exact absurd e H|exact absurd e I|exact absurd e J|rw[e]
 key o l:=by rcases bP o l with rfl|rfl|rfl|⟨i,f,rfl⟩;exact XW ..;exact XK _ (XW ..);exact XK _ (XK _ (XW ..));exact XK _ (XK _ (XK _ (XW ..)))
 fresh o r q:=by exfalso;rcases bP o q with rfl|rfl|rfl|⟨i,f,rfl⟩;cases r;cases r;cases r;rw[cd f]at r;cases r
 gen o l:=rfl
 He m' o l:=by rcases bP o l with rfl|rfl|rfl|⟨i,f,rfl⟩;exact(Q7 u w).trans rfl;exact(LU x).trans rfl;exact LS.trans rfl;rw[cd f];exact(AX f).trans rfl
 AW m' o l:=by refine AY (λe=>l (.n 2000) (by intro h;cases h) e.symm) (λe=>l (.n 2001) (by intro h;cases h) e.symm) (λe=>l (.n 2002) (by intro h;cases h) e.symm) (λi f e=>l (.s 2003 i) (by rw[cd f];simp) e.symm)
end
abbrev Oa (v:LV) (p:Nat) (l:List Nat) (i j:Nat):Int:=Vf v p (l.getD i 0) (l.getD j 0)
def x7 (v:LV) (p:Nat) (l:List Nat):List Nat:=((List.range l.length).map (tH l.length (Oa v p l))).map λi=>l.getD i 0
theorem B9 (v:LV) (p:Nat) (l:List Nat):(x7 v p l).length=l.length:=by simp[x7]
theorem yK {v:LV} {p:Nat} {l:List Nat} (h:nh l.length (Oa v p l)):(x7 v p l).Perm l:=by
 refine((jl h).1.map λi=>l.getD i 0).trans (abS ?_);apply Z7;simp;intro i b a;simp[List.getD,a]
def dZ (nb:Nat->List Nat) (p:Nat) (l:List Nat):Nat->List Nat:=λx=>if x=p then l else nb x
theorem Jz (v:LV) (nb:Nat->List Nat) (nx:List Nat) (p:Nat) (k:p<v.length) (B:v.length<=40000) (t:∀y∈nb p,y<v.length) (u:nh (nb p).length (Oa v p (nb p))) (C:(nb p).length<=40000):
  Eh Tryz.prog 144 (.ptr (.n 2000) 0::[DV.one (i64 p)].map .d) (r6 2000 2001 2002 2003 1 1 v nb nx) (.eD []) (r6 2000 2001 2002 2003 1 1 v (dZ nb p (x7 v p (nb p))) nx):=by
 refine om je mixed Tryz.func144 rfl rfl [9000012] (XI rfl) (XI rfl) (Xe v nb _ nx [.one (i64 p)] 1 1) ?_;have m:∀i,i<(nb p).length->(nb p).getD i 0<v.length:=λi a=>t _ (by simp[List.getD,a]);refine ak.o ?_;refine⟨⟨.aJ (.s 2003 p) 1,rfl,?_⟩⟩;refine BN.mk' (so (cv:= .cP 202 [.ptr 2 0,.ptr 3 0]) (ks:=[2,2000,3]) (b:= .s 2003 p) (g:=1) (n:=(nb p).length) (get:=nG (nb p)) (q:=2) (cap:=λj=>match j with|0=> .ad 1 λ_=> .ad 1 λ_=>aN v|_=> .ad 1 λj=>[i64 p].getD (0+j) (.v Go.undef))
  (cf:=Oa v p (nb p)) rfl rfl rfl Uq rfl (enters_of Tryz.func201 rfl) rfl rfl ((aw _ _ _ (by intro h;cases h)).trans ((aw _ _ _ (by intro h;cases h)).trans (cd k))) rfl
  (.cP rfl (λj c=>?_)) (show 2003∉[2,2000,3] by decide) u (by omega) (λi j a c=>EF v p _ _ _ _ rfl rfl k (m i a) (m j c))) ?_
 ·match j,c with
  |0,_=>exact .obj (by simp[Id.key]) rfl (XU 1) (λj c=>by obtain rfl:j=0:=(by omega);exact .obj (by simp[Id.key]) rfl (by simp) (λj c=>by obtain rfl:j=0:=(by omega);exact .s _))
  |1,_=>exact lR.box (o:= .n 3) (p:=0) (q:=1) (l:=[i64 p]) (by simp[Id.key]) (.inl rfl) (XU 1)
 refine ak.n ?_;generalize f:bj (bj (bj (r6 2000 2001 2002 2003 1 1 v nb nx) (Id.n 2) (Mem.obj [CV.ptr (Id.n 2000) 0])) (Id.n 3) (Mem.box [i64 p])) (Id.s 2003 p) (Mem.aL 1 (nb p).length 1 3 λi j=>nG (nb p) (tH (nb p).length (Oa v p (nb p)) i) j)=M;have r:∀i,i<v.length->∃get,M (.s 2003 i)= .aL 1 (dZ nb p (x7 v p (nb p)) i).length 1 3 get/\∀j,j<(dZ nb p (x7 v p (nb p)) i).length->aD (get j 0) (nG (dZ nb p (x7 v p (nb p)) i) j 0):=λi a=>by rw[<-f];unfold dZ;by_cases e:i=p;subst e;rw[XL rfl,aq,B9];refine⟨_,rfl,λj c=>aD.of_eq ?_⟩;simp[x7,List.getD,c];rw[XG e,aw _ _ _ (by intro h;cases h;exact e rfl),aw _ _ _ (by intro h;cases h),aw _ _ _ (by intro h;cases h),cd a];exact⟨_,rfl,λj c=>aD.refl _⟩
 refine⟨λo=>o,.none,λo w=>?_,λo D _ _ e=>e,λ_ _=>rfl⟩;rcases bP o w with rfl|rfl|rfl|⟨i,a,rfl⟩;rw[<-f];exact .obj (.cons (.s (aD.refl _)) (.cons (.aJ rfl rfl rfl) (.cons (.aJ rfl rfl rfl) .nil)));have x:M (.n 2001)= .bm 1 v.length 1 22 λi _=> .aJ (.s 2003 i) 1:=(by rw[<-f];rfl);show jf M _ _ (M (.n 2001)) _;rw[x];refine .bm (λh=>h) (λi a j c=> .aJ rfl ?_ ?_);obtain⟨get,e,_⟩:=r i a;rw[e];rfl;rw[cd a];rfl;rw[<-f];exact .aL (λh=>h) (λ_ _ _ _=>aD.refl _);obtain⟨get,e,z⟩:=r i a;show jf M _ _ (M (.s 2003 i)) _;rw[e,cd a];refine .aL (λh=>h) (λj c A E=>?_);obtain rfl:A=0:=(by omega);exact z j c
def rp (nb:Nat->List Nat) (d:Dt):Nat->List Nat:=dZ (dZ nb d.1 (nb d.1++[d.2])) d.2 (dZ nb d.1 (nb d.1++[d.2]) d.2++[d.1])
def dB (E:List Dt):Nat->List Nat:=E.foldl rp (λ_=>[])
def E9 (n:Nat) (O:List Dt):List Nat:=O.foldl (λl d=>l.set d.1 d.2) (List.replicate n 0)
theorem zi (E:List Dt) (d:Dt):dB (E++[d])=rp (dB E) d:=by unfold dB;rw[abF];rfl
theorem LG (n:Nat) (E:List Dt) (d:Dt):E9 n (E++[d])=(E9 n E).set d.1 d.2:=by unfold E9;rw[abF];rfl
theorem vb (n:Nat) (O:List Dt):(E9 n O).length=n:=by
 have:∀(O:List Dt) (l:List Nat),(O.foldl (λl d=>l.set d.1 d.2) l).length=l.length:=λO=>by
  induction O with
  |nil=>intro l;rfl
  |cons d O a=>intro l;rw[Z3,a,abk]
 unfold E9;rw[this,List.length_replicate]
variable {nb:Nat->List Nat} {B p:Nat}
theorem jv {l:List Nat} (h:∀x,(nb x).length<=B) (a:l.length<=B) (x:Nat):(dZ nb p l x).length<=B:=by
 unfold dZ;split;exact a;exact h x
theorem Mp {d:Dt} (h:∀x,(nb x).length<=B) (x:Nat):(rp nb d x).length<=B+2:=by
 have a:=jv (p:=d.1) (l:=nb d.1++[d.2]) (B:=B+1) (λx=>Yg (h x) (by omega)) (by have:=h d.1;simp;omega);refine jv (B:=B+2) (λx=>Yg (a x) (by omega)) ?_ x;have:=a d.2;simp;omega
theorem rq (E:List Dt):∀x,(dB E x).length<=2*E.length:=by
 have a:∀(E:List Dt) (nb:Nat->List Nat) (B:Nat),(∀x,(nb x).length<=B)->∀x,(E.foldl rp nb x).length<=B+2*E.length:=λE=>by
  induction E with
  |nil=>intro nb B h x;exact h x
  |cons d E b=>intro nb B h x;rw[Z3];have:=b (rp nb d) (B+2) (Mp h) x;simp only[XV];omega
 intro x;have:=a E (λ_=>[]) 0 (λx=>XU 0) x;unfold dB;omega
def ni (a n:Nat):List Dt:=(List.range n).map λi=>(a+i,a+(i+1)%n)
def iQ:Nat->List (LV)->List Dt
 |_,[]=>[]
 |a,r::L=>ni a r.length++iQ (a+r.length) L
def r5:List (LV)->List Dt
 |[]=>[]
 |r::H=>ni 0 r.length++(iQ r.length H).map iM
theorem AH (a n:Nat):(ni a n).length=n:=by simp[ni]
variable {a:Nat}
theorem Ld {n i:Nat} (h:i<n):(ni a n).take (i+1)=(ni a n).take i++[(a+i,a+(i+1)%n)]:=by
 rw[YL];congr 1;simp[ni,h]
theorem wu:∀(L:List (LV)) (a:Nat) (r:LV),iQ a (L++[r])=iQ a L++ni (a+aP L) r.length
 |[],a,r=>by simp[iQ,aP]
 |x::L,a,r=>by simp only[YM,iQ,wu L,Yk];rw[show a+x.length+aP L=a+aP (x::L) by simp[aP];omega]
theorem Lc (L:List (LV)) (r:LV):r5 (L++[r])=r5 L++(ni (aP L) r.length).map (if L.length=0 then id else iM):=by
 cases L with
 |nil=>simp[r5,iQ,aP]
 |cons x L=>simp only[YM,r5,wu,YB,Yk];rw[show x.length+aP L=aP (x::L) by simp[aP],XG (by simp)]
theorem uZ:∀(L:List (LV)) (a:Nat),(iQ a L).length=aP L
 |[],a=>rfl
 |x::L,a=>by simp only[iQ,XQ,AH,uZ L];simp[aP]
variable {k:Nat}
theorem Iy {α:Type} {L:List (List α)} (h:k<L.length):L.take (k+1)=L.take k++[L.getD k []]:=by
 rw[YL];simp[List.getD,h]
structure GZ (m:Id->Mem) (a b c k:Nat) (v:LV) (nb:Nat->List Nat) (nx:List Nat):Prop where
 obj:m (.n a)= .obj [.s (aN v),.aJ (.n b) 0,.aJ (.n c) 0]
 sf:m (.n b)= .bm 0 v.length 1 22 λi _=> .aJ (.s k i) 0
 bA:m (.n c)= .aL 0 nx.length 1 3 (nG nx)
 row:∀i,i<v.length->m (.s k i)= .aL 0 (nb i).length 1 3 (nG (nb i))
variable {y:Nat}
section
variable {m:Id->Mem} {a b c k:Nat} {v:LV} {nb:Nat->List Nat} {nx:List Nat}
theorem GZ.BS (h:GZ m a b c k v nb nx):JV m a b c k v nb nx where
 obj:=by rw[h.obj,h.sf,h.bA];rfl
 sf:=⟨_,_,h.sf,λi hi=>by rw[h.row i hi];rfl⟩
 bA:=⟨_,_,h.bA,λi hi=>aD.refl _⟩
 row i hi:=⟨_,_,h.row i hi,λj f=>aD.refl _⟩
theorem GZ.push (h:GZ m a b c k v nb nx) (l:a≠b) (o:b≠c) {gr:Nat} {get:Nat->Nat->SV} {f:Nat->Nat->CV} (q:∀j,j<(nb p).length+1->aD (get j 0) (nG (nb p++[y]) j 0)) (r:∀i,i<v.length->f i 0= .aJ (.s k i) (if i=p then gr else 0)):
  JV (bj (bj m (.s k p) (.aL gr ((nb p).length+1) 1 3 get)) (.n b) (.bm 0 v.length 1 22 f)) a b c k v (dZ nb p (nb p++[y])) nx:=by
 have ne:∀(i j:Nat),(Id.s k i)≠ .n j:=λi j h=>by cases h
 have t:(Id.n a)≠ .n b:=λh=>by cases h;exact l rfl
 have g:(Id.n c)≠ .n b:=λh=>by cases h;exact o rfl
 have row:∀i,i<v.length->∃get',bj (bj m (.s k p) (.aL gr ((nb p).length+1) 1 3 get)) (.n b) (.bm 0 v.length 1 22 f) (.s k i)= .aL (if i=p then gr else 0) (dZ nb p (nb p++[y]) i).length 1 3 get'/\∀j,j<(dZ nb p (nb p++[y]) i).length->aD (get' j 0) (nG (dZ nb p (nb p++[y]) i) j 0):=λi hi=>by rw[aw _ _ _ (ne i b)];unfold dZ;by_cases e:i=p;subst e;rw[XL rfl,XL rfl,aq,XQ];exact⟨_,rfl,q⟩;rw[XG e,XG e,aw _ _ _ (by intro h;cases h;exact e rfl),h.row i hi];exact⟨_,rfl,λj x=>aD.refl _⟩
 refine⟨?_,?_,?_,λi hi=>?_⟩;rw[aw _ _ _ t,aw _ _ _ (ne p a).symm,aq,aw _ _ _ g,aw _ _ _ (ne p c).symm,h.obj,h.bA];rfl;rw[aq];refine⟨_,_,rfl,λi hi=>?_⟩;obtain⟨u,e,_⟩:=row i hi;rw[e,r i hi];rfl;rw[aw _ _ _ g,aw _ _ _ (ne p c).symm,h.bA];exact⟨_,_,rfl,λi hi=>aD.refl _⟩;obtain⟨u,e,w⟩:=row i hi;exact⟨_,_,e,w⟩
theorem GZ.next (h:GZ m a b c k v nb nx) (g:a≠c) (l:b≠c) {get:Nat->Nat->SV} (o:∀j,j<nx.length->aD (get j 0) (nG (nx.set p y) j 0)):
  JV (bj m (.n c) (.aL 0 nx.length 1 3 get)) a b c k v nb (nx.set p y):=by
 have ne:∀(i j:Nat),(Id.s k i)≠ .n j:=λi j h=>by cases h
 have q:(Id.n a)≠ .n c:=λh=>by cases h;exact g rfl
 have f:(Id.n b)≠ .n c:=λh=>by cases h;exact l rfl
 refine⟨?_,?_,?_,λi hi=>?_⟩;rw[aw _ _ _ q,aw _ _ _ f,aq,h.obj,h.sf];rfl;rw[aw _ _ _ f,h.sf];refine⟨_,_,rfl,λi hi=>?_⟩;rw[aw _ _ _ (ne i c),h.row i hi];rfl;rw[aq,abk];exact⟨_,_,rfl,o⟩;rw[aw _ _ _ (ne i c),h.row i hi];exact⟨_,_,rfl,λj r=>aD.refl _⟩
end
theorem BW {q:Nat} {l:List Nat}:y∈dZ nb q l p↔(p=q/\y∈l)\/(p≠q/\y∈nb p):=by
 unfold dZ;by_cases e:p=q;rw[XL e];simp[e];rw[XG e];simp[e]
theorem xa {d:Dt}:y∈rp nb d p↔y∈nb p\/d=(p,y)\/d=(y,p):=by
 obtain⟨a,b⟩:=d;unfold rp;simp only[BW,XP,Yr,Zx,ne_eq];constructor;rintro(⟨rfl,(⟨rfl,h|rfl⟩|⟨_,h⟩)|rfl⟩|⟨_,⟨rfl,h|rfl⟩|⟨_,h⟩⟩);exact .inl h;exact .inr (.inl ⟨rfl,rfl⟩);exact .inl h;exact .inr (.inr ⟨rfl,rfl⟩);exact .inl h;exact .inr (.inl ⟨rfl,rfl⟩);exact .inl h;rintro(h|⟨rfl,rfl⟩|⟨rfl,rfl⟩);by_cases c:p=b;subst c;by_cases f:p=a;subst f;exact .inl ⟨rfl,.inl (.inl ⟨rfl,.inl h⟩)⟩;exact .inl ⟨rfl,.inl (.inr ⟨f,h⟩)⟩;by_cases f:p=a;subst f;exact .inr ⟨c,.inl ⟨rfl,.inl h⟩⟩;exact .inr ⟨c,.inr ⟨f,h⟩⟩;by_cases c:a=b;subst c;exact .inl ⟨rfl,.inr rfl⟩;exact .inr ⟨c,.inl ⟨rfl,.inr rfl⟩⟩;exact .inl ⟨rfl,.inr rfl⟩
theorem nW {E:List Dt}:y∈dB E p↔(p,y)∈E\/(y,p)∈E:=by
 have a:∀(E:List Dt) (nb:Nat->List Nat),y∈E.foldl rp nb p↔y∈nb p\/(p,y)∈E\/(y,p)∈E:=λE=>by
  induction E with
  |nil=>intro nb;simp
  |cons d E b=>
   intro nb;rw[Z3,b,xa];simp only[XD];constructor;(rintro((h|h|h)|h|h)<;>simp[h])
   ·rintro(h|(h|h)|(h|h))<;>simp[h]
 have:=a E (λ_=>[]);simpa[dB]using this
theorem WB (v:LV) (nb:Nat->List Nat) (nx:List Nat) (x:DV) (xs:List DV):Ec [.d x] (λ_=> .none) (.jC (.n 3000) xs) (r6 3000 3001 3002 3003 0 0 v nb nx) where
 hi o a:=absurd rfl a
 Dd o a:=absurd rfl a
 cur:=trivial
 tf o:=by by_cases a:r6 3000 3001 3002 3003 0 0 v nb nx o= .none;rw[a];trivial;rcases bP o a with rfl|rfl|rfl|⟨i,hi,rfl⟩;intro c b;simp only[XD,YD,ZY]at b;rcases b with rfl|rfl|rfl;trivial;exact rfl;exact rfl;intro i hi j l;show 0=(r6 3000 3001 3002 3003 0 0 v nb nx (.s 3003 i)).gen;rw[cd hi];rfl;trivial;rw[cd hi];trivial
 closed o g a:=a.elim
 fU x m g a:=by rw[Yr.1 m]at a;exact a.elim
 clean o a:=by cases a;exact λh=>by cases h
 pq o g a:=by
  by_cases k:r6 3000 3001 3002 3003 0 0 v nb nx o= .none;rw[k]at a;exact a.elim
  ·rcases bP o k with rfl|rfl|rfl|⟨i,hi,rfl⟩
   ·obtain⟨c,b,f⟩:=a;simp only[XD,YD,ZY]at b;rcases b with rfl|rfl|rfl;exact f.elim;(cases f;exact λh=>by cases h)
    ·cases f;exact λh=>by cases h
   ·obtain⟨i,j,hi,l,f⟩:=a;cases f;rw[cd hi];simp
   ·exact a.elim
   ·rw[cd hi]at a;exact a.elim
theorem Jy (x:Mem) (v:LV) (nb:Nat->List Nat) (nx:List Nat):GZ (aQ ([((1:Id),x)]++lD 34 29 32 1503 0 0 v nb nx)) 34 29 32 1503 v nb nx:=
 ⟨rfl,rfl,rfl,λi a=>vp (o1:=34) (o2:=29) (o3:=32) (k:=1503) (g:=0) (gr:=0) (nb:=nb) (nx:=nx) a⟩
variable {m:Id->Mem}
theorem tY {v:LV} {nx:List Nat} (x:Mem) (h:JV m 34 29 32 1503 v nb nx):fk m (aQ ([((1:Id),x)]++lD 34 29 32 1503 0 0 v nb nx)) (lD 34 29 32 1503 0 0 v nb nx):=
 nU h (Jy x v nb nx).sf (Jy x v nb nx).bA (Jy x v nb nx).row
theorem vf (l:List Nat) (y j:Nat) (a:j<l.length+1):aD (bif Nat.blt j l.length then nG l j 0 else[i64 (y:Int)].getD ((j-l.length)*1+0) (.v Go.undef)) (nG (l++[y]) j 0):=by
 refine aD.bif (λh=>aD.of_eq ?_) (λh=>aD.of_eq ?_);show i64 _=i64 _;simp[List.getD,Yl,h];obtain rfl:j=l.length:=(by omega);rw[Zb];show i64 _=i64 _;simp[List.getD]
theorem Fj (l:List Nat) (p y j:Nat) (a:j<l.length):aD (bif Nat.beq j p&&Nat.ble 0 0&&Nat.blt 0 (0+[i64 (y:Int)].length)then[i64 (y:Int)].getD (0-0) (.v Go.undef)else nG l j 0) (nG (l.set p y) j 0):=by
 refine aD.of_eq ?_;by_cases e:j=p;subst e;rw[ZE];show i64 _=i64 _;simp[List.getD,a]
 ·have:Nat.beq j p=false:=by
   cases h:Nat.beq j p with
   |false=>rfl
   |true=>exact absurd (XE h) e
  rw[this];show i64 _=i64 _;simp[List.getD,Zf e]
theorem vn (k p i gr:Nat):(bif Nat.beq i p&&Nat.beq 0 0 then CV.aJ (.s k p) gr else CV.aJ (.s k i) 0)=CV.aJ (.s k i) (if i=p then gr else 0):=by
 cases h:Nat.beq i p with
 |false=>rw[XG (λe=>by rw[e,ZE]at h;cases h)];rfl
 |true=>rw[XE h,XL rfl];rfl
theorem MG {v:LV} {nx:List Nat} {j:Nat} (h:¬(j=34\/j=29\/j=32)) (l:List (Id×Mem)) (a:∀p∈l,p.1≠ .n j):aQ (l++lD 34 29 32 1503 0 0 v nb nx) (.n j)= .none:=by
 rw[qs _ _ _ a];unfold lD;simp only[aQ];rw[aw _ _ _ (by intro q;cases q;exact h (.inl rfl)),aw _ _ _ (by intro q;cases q;exact h (.inr (.inl rfl))),aw _ _ _ (by intro q;cases q;exact h (.inr (.inr rfl))),yk _ _ _ _ _ (λi _ q=>by cases q)];rfl
theorem JV.bj {b c:Nat} {v:LV} {nx:List Nat} (h:JV m a b c k v nb nx) (j:Nat) (x:Mem) (p:a≠j) (q:b≠j) (r:c≠j):JV (Go.Vm.bj m (.n j) x) a b c k v nb nx:=by
 have t:(Id.n a)≠ .n j:=λe=>by cases e;exact p rfl
 have f:(Id.n b)≠ .n j:=λe=>by cases e;exact q rfl
 have l:(Id.n c)≠ .n j:=λe=>by cases e;exact r rfl
 have o:∀i,(Id.s k i)≠ .n j:=λi e=>by cases e
 refine⟨?_,?_,?_,λi hi=>?_⟩;rw[aw _ _ _ t,aw _ _ _ f,aw _ _ _ l];exact h.obj;rw[aw _ _ _ f];obtain⟨g,get,e,u⟩:=h.sf;exact⟨g,get,e,λi hi=>by rw[aw _ _ _ (o i)];exact u i hi⟩;rw[aw _ _ _ l];exact h.bA;rw[aw _ _ _ (o i)];exact h.row i hi
theorem HD (x y z:Mem) (v:LV) (nb:Nat->List Nat) (nx:List Nat):GZ (aQ ([((1:Id),x),(17,y),(501,z)]++lD 34 29 32 1503 0 0 v nb nx)) 34 29 32 1503 v nb nx:=
 ⟨rfl,rfl,rfl,λi a=>vp (o1:=34) (o2:=29) (o3:=32) (k:=1503) (g:=0) (gr:=0) (nb:=nb) (nx:=nx) a⟩
theorem rm {v:LV} {nx:List Nat} (x y z:Mem) (h:JV m 34 29 32 1503 v nb nx):fk m (aQ ([((1:Id),x),(17,y),(501,z)]++lD 34 29 32 1503 0 0 v nb nx)) (lD 34 29 32 1503 0 0 v nb nx):=
 nU h (HD x y z v nb nx).sf (HD x y z v nb nx).bA (HD x y z v nb nx).row
theorem EV:∀{L:List (LV)} {a:Nat} {d:Dt},d∈iQ a L->d.1<a+aP L/\d.2<a+aP L
 |[],a,d,h=>by cases h
 |r::L,a,d,h=>by have e:aP (r::L)=r.length+aP L:=(by simp[aP]);rcases XP.1 h with k|k;obtain⟨i,b,rfl⟩:=XS.1 k;have b:=X6.1 b;have:=ZC (i+1) (show 0<r.length by omega);simp only;omega;have:=EV k;omega
def TC:Id->Id
 | .n j=>bif Nat.beq j 3000 then .n 34 else bif Nat.beq j 3001 then .n 29 else bif Nat.beq j 3002 then .n 32 else .n j
 | .s _ i=> .s 1503 i
def ns (v:LV) (nb:Nat->List Nat) (p:Nat):Nat->List Nat:=λx=>if x<p then x7 v x (nb x)else nb x
set_option maxRecDepth 2000 in
theorem Ja {o:LV} {hs:List (LV)} (V:VS o hs) (a1:∀i k,i<(aA o hs).length->k<(aA o hs).length->gt (aA o hs) i=gt (aA o hs) k->i=k)
  (a2:∀p,p<(aA o hs).length->nh (dB (iQ 0 (aX o::eT hs)++qG o hs (aA o hs)) p).length (Oa (aA o hs) p (dB (iQ 0 (aX o::eT hs)++qG o hs (aA o hs)) p))):
  Eh Tryz.prog 86 [.d (iO o hs)] (λ_=> .none) (.jC (.n 3000) [.one (.sl (qG o hs (aA o hs)).length 2 (kT (qG o hs (aA o hs))))])
   (r6 3000 3001 3002 3003 0 0 (aA o hs) (ns (aA o hs) (dB (iQ 0 (aX o::eT hs)++qG o hs (aA o hs))) (aA o hs).length) (E9 (aA o hs).length (r5 (aX o::eT hs)))):=by
 refine om je mixed Tryz.func86 rfl rfl [9000033,9000034,9000178,12,13,14,26,27,28,34,35] (XI rfl) (XI rfl) (WB _ _ _ _ _) ?_;have e3:=V.eZ;have e4:=V.KI;have e5:=iJ V;have e6:=nT V;have e7:=u5 (o:=o) (hs:=hs) (v:=aA o hs);have a3:∀d∈qG o hs (aA o hs),d.1<(aA o hs).length/\d.2<(aA o hs).length:=λd A=>by have:=wD A;omega
 refine ai.mk' (vI V) ?_;have b4:=M8 V;have b5:=Cj V;have b6:=iA (aX o) (eT hs) (by rw[ov];omega) (λr C=>Yg (oX C) (by omega));have e8:(aX o::eT hs).length<=7:=by simp[ov];omega
 generalize qG o hs (aA o hs)=D at*;generalize aA o hs=v at*;generalize e9:aX o::eT hs=L at*;refine ak.mk ⟨by omega,by omega,(show(24:Int)*v.length<=281474976710656 by omega),by omega⟩ ?_;refine ak.mk ⟨by omega,by omega,(show(8:Int)*v.length<=281474976710656 by omega),by omega⟩ ?_;refine BN.mk' (Th (c0:= .s (aN v)) (c1:= .aJ (.n 29) 0) (c2:= .aJ (.n 32) 0) je rfl rfl rfl rfl rfl rfl rfl rfl) ?_;refine BN.mk' (Go.Vm.Qh rfl rfl rfl rfl) ?_;refine ak.n ?_;refine ai.mk' b5 ?_;refine ai.mk' b6 ?_;have a4:∀d∈iQ 0 L++D,d.1<v.length/\d.2<v.length:=λd A=>by rcases XP.1 A with k|k;have:=EV k;omega;exact a3 d k
 refine Loop.by (α:=Nat) (λn=>[(1,.ptr 1 0),(4,.d (.one (aN v))),(6,.ptr 34 0),(7,au (aP (L.take n):Nat)),(37,.d (.one (hS L))),(38,au L.length),(39,au n)])
  (λn=>[(1,.box [aN o,hS hs])]++lD 34 29 32 1503 0 0 v (dB (iQ 0 (L.take n))) (E9 v.length (r5 (L.take n)))) (λn=>n<=L.length) (λn=>L.length-n)
  (aG.Pa 29 1503 0 v.length 22 _ 3 (nG []) rfl (λ_ _=>rfl) (λ_ _=>rfl) (aG.at 0 (XR _) ?_ (.cB (.cS (.cons (.ptr (by intro h;cases h)) (.cS (.cS (.cS (.cS .nil))))))))) (λn b7=>?_)
 ·refine .cX (tY _ ⟨rfl,⟨_,_,rfl,λi g=>?_⟩,⟨_,_,by rw[vb,<-Yi v.length];rfl,λi g=>aD.of_eq ?_⟩,λi g=>⟨_,_,vq g,λj f=>absurd f (XO _)⟩⟩);rw[vq g];rfl;(show i64 0=i64 (((List.replicate v.length 0).getD i 0:Nat):Int);rw[List.getD,List.getElem?_replicate];split<;>rfl)
 apply af.mk<;>intro c1
 ·have b8:n<L.length:=(by have:=XA c1;omega);refine ak.o ?_;obtain⟨r,C⟩:∃r,r=L.getD (n:Int).toNat []:=⟨_,rfl⟩;have b9:L.getD n []=r:=C.symm;have H:=Iy b8;rw[b9]at H;have I:aP (L.take (n+1))=aP (L.take n)+r.length:=(by rw[H];simp[aP]);have f0:=eI L (n+1);have a5:iQ 0 (L.take (n+1))=iQ 0 (L.take n)++ni (aP (L.take n)) r.length:=(by rw[H,wu,Ya]);have a6:r5 (L.take (n+1))=r5 (L.take n)++(ni (aP (L.take n)) r.length).map (if n=0 then id else iM):=(by rw[H,Lc,Yj,abi b7]);have J:(iQ 0 (L.take n)).length=aP (L.take n):=uZ _ _;refine Loop.by (α:=Nat) (λi=>[(1,.ptr 1 0),(4,.d (.one (aN v))),(6,.ptr 34 0),(7,au (aP (L.take n):Nat)),(8,au n),(9,.d (.one (aN r))),(37,.d (.one (hS L))),(38,au L.length),(39,au n),(44,.d (.one (aN r))),(45,au r.length),(46,au i)])
   (λi=>[(1,.box [aN o,hS hs])]++lD 34 29 32 1503 0 0 v (dB (iQ 0 (L.take n)++(ni (aP (L.take n)) r.length).take i)) (E9 v.length (r5 (L.take n)++((ni (aP (L.take n)) r.length).take i).map (if n=0 then id else iM)))) (λi=>i<=r.length) (λi=>r.length-i)
   (aG.at 0 (XR _) ?_ (.cB (.cS (.cons (.ptr (by intro h;cases h)) (.cS (.cS (.cons (.data (dX.of_eq (by rw[C]))) (.cS (.cS (.cS (.cons (.data (dX.of_eq (by rw[C]))) (.cons (ar.int (by rw[C])) (.cS .nil))))))))))))) (λi g=>?_)
  ·refine .cX (tY _ ?_);rw[aas,abh,Y4,Y4];exact(Jy _ v _ _).BS
  apply af.mk<;>intro c2
  ·have K:i<r.length:=(by have:=XA c2;omega);have f1:aP (L.take n)+r.length<=80:=(by omega);obtain⟨a,O⟩:∃a,a=aP (L.take n)+i:=⟨_,rfl⟩;obtain⟨b,a7⟩:∃b,b=aP (L.take n)+(i+1)%r.length:=⟨_,rfl⟩;have f2:=ZC (i+1) (show 0<r.length by omega);have c3:a<v.length:=(by omega);have c4:b<v.length:=(by omega);have a8:(ni (aP (L.take n)) r.length).take (i+1)=(ni (aP (L.take n)) r.length).take i++[(a,b)]:=(by rw[Ld K,O,a7]);have c5:IntKind.i64.wrap (((aP (L.take n):Nat):Int)+i)=(a:Int):=(by rw[hw _];omega);have c6:IntKind.i64.wrap (((aP (L.take n):Nat):Int)+(IntKind.i64.wrap ((i:Int)+1)).tmod r.length)=(b:Int):=by have c7:=nN i 1;rw[show(1:Int)=(1:Nat) from rfl,c7,<-abt,hw _];rw[a7,Int.natCast_add]
   generalize a9:iQ 0 (L.take n)++(ni (aP (L.take n)) r.length).take i=t at*;have f3:t.length<=160:=(by rw[<-a9,XQ,J,Yj,AH];omega);refine ak.o ?_;refine ak.n ?_;have w:=λx=>Yg (rq t x) (show 2*t.length<=320 by omega);refine Cut.mk (aG.ic [(1,.ptr 1 0),(4,.d (.one (aN v))),(6,.ptr 34 0),(7,au (aP (L.take n):Nat)),(8,au n),(9,.d (.one (aN r))),(11,au a),(12,au b),(37,.d (.one (hS L))),(38,au L.length),(39,au n),(44,.d (.one (aN r))),(45,au r.length),(46,au i)] ([(1,.box [aN o,hS hs])]++lD 34 29 32 1503 0 0 v (dB t) _) (.cX (tY _ (Jy _ v _ _).BS)) (.cB (.cS (.cons (.ptr (by intro h;cases h)) (.cS (.cS (.cS (.cons (ar.int c5) (.cons (ar.int c6) (.cS (.cS (.cS (.cS (.cS (.cS .nil)))))))))))))) ?_);refine ak.o ?_;refine⟨⟨.aJ (.s 1503 a) 0,rfl,?_⟩⟩;refine⟨⟨.aL 0 (dB t a).length 1 3 (nG (dB t a)),(Jy _ v _ _).row a c3,?_⟩⟩;refine ak.mk (aS (by have:=w a;omega)) ?_;refine ak.o ?_;refine ak.n ?_;refine Cut.mk (aG.ic [(1,.ptr 1 0),(4,.d (.one (aN v))),(6,.ptr 34 0),(7,au (aP (L.take n):Nat)),(8,au n),(9,.d (.one (aN r))),(11,au a),(12,au b),(37,.d (.one (hS L))),(38,au L.length),(39,au n),(44,.d (.one (aN r))),(45,au r.length),(46,au i)] ([(1,.box [aN o,hS hs])]++lD 34 29 32 1503 0 0 v (dZ (dB t) a (dB t a++[b])) _) (.cX (tY _ ((Jy _ v _ _).push (by decide) (by decide) (λj f=>vf _ _ j f) (λi g=>vn 1503 a i 2)))) (.cB (.cS (.cons (.ptr (by intro h;cases h)) (.cS (.cS (.cS (.cS (.cS (.cS (.cS (.cS (.cS (.cS (.cS .nil)))))))))))))) ?_);have P:=λx=>jv (nb:=dB t) (p:=a) (l:=dB t a++[b]) (B:=321) (λx=>Yg (w x) (by omega)) (by have:=w a;simp;omega) x;have M:dZ (dZ (dB t) a (dB t a++[b])) b (dZ (dB t) a (dB t a++[b]) b++[a])=dB (t++[(a,b)]):=(zi t (a,b)).symm;generalize dZ (dB t) a (dB t a++[b])=z at*;refine ak.o ?_;refine⟨⟨.aJ (.s 1503 b) 0,rfl,?_⟩⟩;refine⟨⟨.aL 0 (z b).length 1 3 (nG (z b)),(Jy _ v _ _).row b c4,?_⟩⟩;refine ak.mk (aS (by have:=P b;omega)) ?_;refine ak.o ?_;refine ak.n ?_;refine Cut.mk (aG.ic [(1,.ptr 1 0),(4,.d (.one (aN v))),(6,.ptr 34 0),(7,au (aP (L.take n):Nat)),(8,au n),(9,.d (.one (aN r))),(11,au a),(12,au b),(37,.d (.one (hS L))),(38,au L.length),(39,au n),(44,.d (.one (aN r))),(45,au r.length),(46,au i)] ([(1,.box [aN o,hS hs])]++lD 34 29 32 1503 0 0 v (dZ z b (z b++[a])) _) (.cX (tY _ ((Jy _ v _ _).push (by decide) (by decide) (λj f=>vf _ _ j f) (λi g=>vn 1503 b i 2)))) (.cB (.cS (.cons (.ptr (by intro h;cases h)) (.cS (.cS (.cS (.cS (.cS (.cS (.cS (.cS (.cS (.cS (.cS .nil)))))))))))))) ?_);rw[M];have b0:iQ 0 (L.take n)++(ni (aP (L.take n)) r.length).take (i+1)=t++[(a,b)]:=(by rw[a8,<-Yk,a9]);have c8:r5 (L.take n)++((ni (aP (L.take n)) r.length).take (i+1)).map (if n=0 then id else iM)=(r5 (L.take n)++((ni (aP (L.take n)) r.length).take i).map (if n=0 then id else iM))++[(if n=0 then id else iM) (a,b)]:=(by rw[a8,YB,Yk];rfl);have Q:=LG v.length (r5 (L.take n)++((ni (aP (L.take n)) r.length).take i).map (if n=0 then id else iM)) ((if n=0 then id else iM) (a,b));rw[<-c8]at Q;have f4:=vb v.length (r5 (L.take n)++((ni (aP (L.take n)) r.length).take i).map (if n=0 then id else iM));apply af.mk<;>intro F
   ·have R:n=0:=(by have:(n:Int)=0:=(by simpa using F);omega);have S:E9 v.length (r5 (L.take n)++((ni (aP (L.take n)) r.length).take (i+1)).map (if n=0 then id else iM))=(E9 v.length (r5 (L.take n)++((ni (aP (L.take n)) r.length).take i).map (if n=0 then id else iM))).set a b:=(by rw[Q,XL R];rfl);refine ak.o ?_;refine aG.back (x:=i) (i+1) (by show i+1<=_;omega) (by omega) (.cX (tY _ ?_)) (.cB (.cS (.cons (.ptr (by intro h;cases h)) (.cS (.cS (.cS (.cS (.cS (.cS (.cS (.cS (.cons (ar.int (by rw[hw _];omega)) .nil))))))))))));rw[b0,S];exact(Jy _ v _ _).next (by decide) (by decide) (λj f=>Fj _ _ _ j f)
   ·have R:¬n=0:=(by have:¬(n:Int)=0:=(by simpa using F);omega);have S:E9 v.length (r5 (L.take n)++((ni (aP (L.take n)) r.length).take (i+1)).map (if n=0 then id else iM))=(E9 v.length (r5 (L.take n)++((ni (aP (L.take n)) r.length).take i).map (if n=0 then id else iM))).set b a:=(by rw[Q,XG R];rfl);refine ak.o ?_;refine aG.back (x:=i) (i+1) (by show i+1<=_;omega) (by omega) (.cX (tY _ ?_)) (.cB (.cS (.cons (.ptr (by intro h;cases h)) (.cS (.cS (.cS (.cS (.cS (.cS (.cS (.cS (.cons (ar.int (by rw[hw _];omega)) .nil))))))))))));rw[b0,S];exact(Jy _ v _ _).next (by decide) (by decide) (λj f=>Fj _ _ _ j f)
  ·have c9:i=r.length:=(by have:=XB c2;omega);subst c9;have E:(ni (aP (L.take n)) r.length).take r.length=ni (aP (L.take n)) r.length:=Zi (Nat.le_of_eq (AH _ _));refine aG.back (x:=n) (n+1) (by show n+1<=_;omega) (by omega) (.cX (tY _ (by have h:=(Jy (.box [aN o,hS hs]) v (dB (iQ 0 (L.take n)++(ni (aP (L.take n)) r.length).take r.length)) (E9 v.length (r5 (L.take n)++((ni (aP (L.take n)) r.length).take r.length).map (if n=0 then id else iM)))).BS;rw[E,<-a5,<-a6]at h;rw[E,<-a5,<-a6];exact h))) (.cB (.cS (.cons (.ptr (by intro h;cases h)) (.cons (ar.int (by rw[hw _,I];omega)) (.cS (.cS (.cons (ar.int (by rw[hw _];omega)) .nil)))))))
 have d0:n=L.length:=by have:=XB c1;omega
 subst d0;rw[YX];refine ai.mk' b4 ?_;obtain⟨u,b1⟩:∃u,u=E9 v.length (r5 L):=⟨_,rfl⟩;have f5:u.length=v.length:=by rw[b1,vb]
 rw[<-b1];have J:(iQ 0 L).length=aP L:=uZ _ _;refine Loop.by (α:=Nat) (λi=>[(1,.ptr 1 0),(4,.d (.one (aN v))),(6,.ptr 34 0),(13,.aJ 501 0),(118,.d (.one (.sl D.length 4 (Va v D)))),(119,au D.length),(120,au i)])
  (λi=>[(1,.box [aN o,hS hs]),(17,.none),(501,.aL 0 (D.take i).length 2 83 (kT (D.take i)))]++lD 34 29 32 1503 0 0 v (dB (iQ 0 L++D.take i)) u) (λi=>i<=D.length) (λi=>D.length-i)
  (aG.nil 13 501 2 83 (kT []) rfl (MG (by decide) _ (λp d1 e=>by rw[Yr.1 d1]at e;cases e)) (aG.at 0 (XR _) ?_ (.cB (.cS (.cons (.ptr (by intro h;cases h)) (.cH (.cS (.cS (.cS .nil))))))))) (λi g=>?_)
 ·refine .cX (.none (.cons (.aR rfl (λi g=>absurd g (XO i))) (rm _ _ _ ?_)));rw[aas,Y4];exact(Jy _ v _ _).BS.bj 501 _ (by decide) (by decide) (by decide)
 apply af.mk<;>intro c2
 ·have K:i<D.length:=(by have:=XA c2;omega);obtain⟨d,A⟩:∃d,d=bc D (i:Int).toNat:=⟨_,rfl⟩;have d2:d∈D:=(by rw[A];simp[List.getD,K]);obtain⟨T,U⟩:=a3 d d2;have E:D.take (i+1)=D.take i++[d]:=by rw[YL,A];simp[List.getD,K]
  have f6:(D.take i).length<=6400:=(by rw[Yj];omega);have w:=λx=>Yg (rq (iQ 0 L++D.take i) x) (show 2*(iQ 0 L++D.take i).length<=13000 by rw[XQ,J];omega);have M:dB (iQ 0 L++D.take (i+1))=rp (dB (iQ 0 L++D.take i)) d:=(by rw[E,<-Yk,zi]);refine ak.o ?_;refine ai.mk' ((Dh v d.1 (by omega) T (λj f e=>by have:=a1 j d.1 (by omega) T e;omega)).le (.cR (.cons (dX.of_eq (by rw[A])) .nil))) ?_;refine ai.mk' ((Dh v d.2 (by omega) U (λj f e=>by have:=a1 j d.2 (by omega) U e;omega)).le (.cR (.cons (dX.of_eq (by rw[A])) .nil))) ?_;refine ak.n ?_;generalize dB (iQ 0 L++D.take i)=c at*;refine Cut.mk (aG.ic [(1,.ptr 1 0),(4,.d (.one (aN v))),(6,.ptr 34 0),(13,.aJ 501 0),(18,au d.1),(19,au d.2),(118,.d (.one (.sl D.length 4 (Va v D)))),(119,au D.length),(120,au i)] ([(1,.box [aN o,hS hs]),(17,.none),(501,.aL 0 (D.take i).length 2 83 (kT (D.take i)))]++lD 34 29 32 1503 0 0 v c u) (.cX (.none (.cons (.aR rfl (λ_ _ _ _=>aD.refl _)) (rm _ _ _ (((HD _ _ _ v _ _).BS.bj 17 _ (by decide) (by decide) (by decide)).bj 17 _ (by decide) (by decide) (by decide)))))) (.cB (.cS (.cons (.ptr (by intro h;cases h)) (.cH (.cS (.cS (.cS (.cS (.cS .nil))))))))) ?_);refine ak.o ?_;refine⟨⟨.aJ (.s 1503 d.1) 0,rfl,?_⟩⟩;refine⟨⟨.aL 0 (c d.1).length 1 3 (nG (c d.1)),(HD _ _ _ v _ _).row d.1 T,?_⟩⟩;refine ak.mk (aS (by have:=w d.1;omega)) ?_;refine ak.o ?_;refine ak.n ?_;refine Cut.mk (aG.ic [(1,.ptr 1 0),(4,.d (.one (aN v))),(6,.ptr 34 0),(13,.aJ 501 0),(18,au d.1),(19,au d.2),(118,.d (.one (.sl D.length 4 (Va v D)))),(119,au D.length),(120,au i)] ([(1,.box [aN o,hS hs]),(17,.none),(501,.aL 0 (D.take i).length 2 83 (kT (D.take i)))]++lD 34 29 32 1503 0 0 v (dZ c d.1 (c d.1++[d.2])) u) (.cX (.none (.cons (.aR rfl (λ_ _ _ _=>aD.refl _)) (rm _ _ _ ((HD _ _ _ v _ _).push (by decide) (by decide) (λj f=>vf _ _ j f) (λi g=>vn 1503 d.1 i 2)))))) (.cB (.cS (.cons (.ptr (by intro h;cases h)) (.cH (.cS (.cS (.cS (.cS (.cS .nil))))))))) ?_);have P:=λx=>jv (nb:=c) (p:=d.1) (l:=c d.1++[d.2]) (B:=13001) (λx=>Yg (w x) (by omega)) (by have:=w d.1;simp;omega) x;unfold rp at M;generalize dZ c d.1 (c d.1++[d.2])=z at*;refine ak.o ?_;refine⟨⟨.aJ (.s 1503 d.2) 0,rfl,?_⟩⟩;refine⟨⟨.aL 0 (z d.2).length 1 3 (nG (z d.2)),(HD _ _ _ v _ _).row d.2 U,?_⟩⟩;refine ak.mk (aS (by have:=P d.2;omega)) ?_;refine ak.o ?_;refine ak.n ?_;refine Cut.mk (aG.ic [(1,.ptr 1 0),(4,.d (.one (aN v))),(6,.ptr 34 0),(13,.aJ 501 0),(18,au d.1),(19,au d.2),(118,.d (.one (.sl D.length 4 (Va v D)))),(119,au D.length),(120,au i)] ([(1,.box [aN o,hS hs]),(17,.none),(501,.aL 0 (D.take i).length 2 83 (kT (D.take i)))]++lD 34 29 32 1503 0 0 v (dZ z d.2 (z d.2++[d.1])) u) (.cX (.none (.cons (.aR rfl (λ_ _ _ _=>aD.refl _)) (rm _ _ _ ((HD _ _ _ v _ _).push (by decide) (by decide) (λj f=>vf _ _ j f) (λi g=>vn 1503 d.2 i 2)))))) (.cB (.cS (.cons (.ptr (by intro h;cases h)) (.cH (.cS (.cS (.cS (.cS (.cS .nil))))))))) ?_);rw[<-M];refine ak.mk (aS) ?_;refine aG.back (x:=i) (i+1) (by show i+1<=_;omega) (by omega) (.cX (.none (.cons (.aR (by rw[E,XQ];rfl) (λa O j f=>by rw[E];exact oi _ d a j O f)) (rm _ _ _ ((HD _ _ _ v _ _).BS.bj 501 _ (by decide) (by decide) (by decide)))))) (.cB (.cS (.cons (.ptr (by intro h;cases h)) (.cH (.cS (.cS (.cons (ar.int (by rw[hw _];omega)) .nil)))))))
 have d3:i=D.length:=by have:=XB c2;omega
 subst d3;rw[YX];obtain⟨c,X⟩:∃c,c=dB (iQ 0 L++D):=⟨_,rfl⟩;rw[<-X]at a2|-;have w:∀x,(c x).length<=13000:=λx=>by rw[X];exact Yg (rq (iQ 0 L++D) x) (by rw[XQ,J];omega)
 have d4:∀p y,y∈c p->y<v.length:=λp y G=>by rw[X]at G;rcases nW.1 G with k|k;exact(a4 _ k).2;exact(a4 _ k).1
 refine Loop.by (α:=Nat) (λq=>[(4,.d (.one (aN v))),(6,.ptr 34 0),(13,.aJ 501 0),(171,.d (.one (aN v))),(172,au v.length),(173,au q)])
  (λq=>[(1,.box [aN o,hS hs]),(17,.none),(501,.aL 0 D.length 2 83 (kT D))]++lD 34 29 32 1503 0 0 v (ns v c q) u) (λq=>q<=v.length) (λq=>v.length-q)
  (aG.at 0 (XR _) (.cX (.none (.cons (.aR rfl (λ_ _ _ _=>aD.refl _)) (rm _ _ _ (HD _ _ _ v c _).BS)))) (.cS (.cons (.ptr (by intro h;cases h)) (.cH (.cS (.cS (.cS .nil))))))) (λq f7=>?_)
 apply af.mk<;>intro F
 ·have b2:q<v.length:=(by have:=XA F;omega);have N:ns v c q q=c q:=(by unfold ns;rw[XG (ZO q)]);have d5:dZ (ns v c q) q (x7 v q (ns v c q q))=ns v c (q+1):=(by rw[N];funext x;unfold dZ ns;by_cases e:x=q;subst e;rw[XL rfl,XL (Nat.lt_succ_self x)];rw[XG e];by_cases I:x<q;rw[XL I,iP];rw[XG I,iN]);refine BN.mk' (qE rfl rfl rfl (Jz v (ns v c q) u q b2 (by omega) (λy G=>by rw[N]at G;exact d4 q y G) (by rw[N];exact a2 q b2) (by rw[N];have:=w q;omega)) (U4 (HD _ _ _ v _ _).BS (by decide) (by decide) (by decide) 1 1 (.cons (.ptr rfl) (.cD .nil)) _)) ?_;refine jq.2 ?_;have Y:∀(j:Nat),¬(j=34\/j=29\/j=32)->∀(m m' b3:Id->Mem) (nb:Nat->List Nat),cK m' (Hf m b3 34 29 32 1503 v nb u) (.n j)=m' (.n j):=λj f m m' b3 nb=>
   AY (by intro h;cases h;exact f (.inl rfl)) (by intro h;cases h;exact f (.inr (.inl rfl))) (by intro h;cases h;exact f (.inr (.inr rfl))) (λi _ h=>by cases h)
  refine Cut.mk (aG.ic [(4,.d (.one (aN v))),(6,.ptr 34 0),(13,.aJ 501 0),(171,.d (.one (aN v))),(172,au v.length),(173,au q)] ([(1,.box [aN o,hS hs]),(17,.none),(501,.aL 0 D.length 2 83 (kT D))]++lD 34 29 32 1503 0 0 v (ns v c (q+1)) u)
   (.cons ?_ (.none (.cons ?_ (rm _ _ _ ?_)))) (.cS (.cons (.ptr (by intro h;cases h)) (.cons (.aJ (n:=D.length) (k:=2) (by rw[show((501:Id))= .n 501 from rfl,Y 501 (by decide)];rfl) rfl) (.cS (.cS (.cS .nil)))))) ?_)
  ·rw[show((1:Id))= .n 1 from rfl,Y 1 (by decide)];exact .box (iy.refl _)
  ·rw[show((501:Id))= .n 501 from rfl,Y 501 (by decide)];exact .aR rfl (λ_ _ _ _=>aD.refl _)
  ·rw[d5];exact LW
  refine aG.back (x:=q) (q+1) (by show q+1<=_;omega) (by omega) (.cX (.none (.cons (.aR rfl (λ_ _ _ _=>aD.refl _)) (rm _ _ _ (HD _ _ _ v _ _).BS)))) (.cS (.cons (.ptr (by intro h;cases h)) (.cH (.cS (.cS (.cons (ar.int (by rw[hw _];omega)) .nil))))))
 have d6:q=v.length:=by have:=XB F;omega
 subst d6;refine Cut.mk (aG.freeze 13 501 _ _ 2 83 _ rfl rfl (aG.ic [(6,.ptr 34 0),(13,.d (.one (.sl D.length 2 (kT D))))] ([(1,.box [aN o,hS hs]),(17,.none),(501,.dead)]++lD 34 29 32 1503 0 0 v (ns v c v.length) u)
  (.cX (.none (.cons (.dead _) (rm _ _ _ ((HD _ _ _ v _ _).BS.bj 501 _ (by decide) (by decide) (by decide)))))) (.cons (.ptr (by intro h;cases h)) (.cS .nil)) ?_))
 have Z:=HD (.box [aN o,hS hs]) .none .dead v (ns v c v.length) u;refine⟨TC,.jC rfl (.cR .nil),λo a0=>?_,λo d7 d8 d9 e=>?_,λo a0=>absurd rfl a0⟩;rcases bP o a0 with rfl|rfl|rfl|⟨i,g,rfl⟩;exact .obj (.cons (.s (aD.refl _)) (.cons (.aJ rfl rfl rfl) (.cons (.aJ rfl rfl rfl) .nil)));refine .bm (λh=>h) (λi g j f=> .aJ rfl ?_ ?_);exact(XT Mem.gen (Z.row i g)).symm;rw[cd g];rfl;exact .aL (λh=>h) (λ_ _ _ _=>aD.refl _);rw[show TC (.s 3003 i)= .s 1503 i from rfl,Z.row i g,cd g];exact .aL (λh=>h) (λ_ _ _ _=>aD.refl _)
 ·have s0:TC (.n 3000)= .n 34:=rfl;have e0:TC (.n 3001)= .n 29:=rfl;have e1:TC (.n 3002)= .n 32:=rfl;have e2:∀i,TC (.s 3003 i)= .s 1503 i:=λ_=>rfl;rcases bP o d8 with rfl|rfl|rfl|⟨i,g,rfl⟩<;>rcases bP d7 d9 with rfl|rfl|rfl|⟨j,f,rfl⟩<;>simp only[s0,e0,e1,e2,Id.n.injEq,Id.s.injEq,reduceCtorEq,abU]at e<;>first|rfl|(exfalso;revert e;decide)|rw[e]
theorem Mt (l:List Nat) (f n:Nat) (cap:Nat->SV) (B:Nat->Bool) (q:l.length<=40000) (o:∀k,k<l.length->DP f (.one (i64 (l.getD k 0:Nat))::fG n cap) (aE (B (l.getD k 0)))):
  DP 204 [.one (nS l),.one (.fn f n cap)] (au (FB l.length λk=>B (l.getD k 0))):=by
 refine dg Tryz.func204 [] ?_;refine Loop.by (α:=Nat) (λk=>[(0,.d (.one (nS l))),(1,.d (.one (.fn f n cap))),(7,au l.length),(8,au k)]) (λ_=>[]) (λk=>k<=l.length/\∀i,i<k->B (l.getD i 0)=false) (λk=>l.length-k)
  (aG.at 0 ⟨XR _,λ_ h=>absurd h (XO _)⟩ .nil (.cS (.cS (.cS (.cS .nil))))) (λk c=>?_)
 obtain⟨c,a⟩:=c;apply af.mk<;>intro h
 ·have g:k<l.length:=(by simpa using h);refine ak.o ?_;refine ai.bool (o k g) (λb j=>?_);apply af.mk<;>intro m
  ·exact Fin.int (jQ g (by rw[<-j,m]) a).symm
  ·refine aG.back (x:=k) (k+1) ⟨by omega,λi r=>?_⟩ (by omega) .nil (.cS (.cS (.cS (.cons (ar.int ?_) .nil))));by_cases e:i=k;rw[e,<-j,m];exact a i (by omega);rw[hw _];omega
 ·have p:k=l.length:=(by have:¬k<l.length:=(by simpa using h);omega);subst p;exact Fin.int (by rw[lF a])
def sY (B:Nat->Bool) (l:List Nat) (k:Nat):List Nat:=(l.take k).filter λx=>!B x
def El (B:Nat->Bool) (l:List Nat) (k:Nat):List Nat:=sY B l k++l.drop (sY B l k).length
theorem A8 (B:Nat->Bool) (l:List Nat) (k:Nat):(sY B l k).length<=k:=by
 unfold sY;exact Yg (ZK _ _) (by rw[Yj];omega)
theorem Px (B:Nat->Bool) (l:List Nat) (k:Nat):(sY B l k).length<=l.length:=by
 unfold sY;exact Yg (ZK _ _) (by rw[Yj];omega)
variable {B:Nat->Bool} {k:Nat}
theorem rl {l:List Nat} (h:k<l.length):sY B l (k+1)=if B (l.getD k 0)=true then sY B l k else sY B l k++[l.getD k 0]:=by
 unfold sY;rw[YL,abB];have:l[k]?.toList=[l.getD k 0]:=by simp[List.getD,h]
 rw[this];cases a:B (l.getD k 0)with
 |false=>rw[XG (by simp),List.filter_cons_of_pos (by simp only[a];rfl),abQ]
 |true=>rw[XL rfl,List.filter_cons_of_neg (by simp only[a];decide),abQ,Y4]
theorem Pf (B:Nat->Bool) (l:List Nat) (k:Nat):(El B l k).length=l.length:=by
 have:=Px B l k;unfold El;rw[XQ,ZF];omega
theorem Hc {l:List Nat} (h:k<l.length):(El B l k).getD k 0=l.getD k 0:=by
 have a:=A8 B l k;unfold El;simp only[List.getD];rw[Zo a,Zv];congr 2;omega
theorem MM (n:Nat) (B:Nat->Bool):(FB n B= -1/\∀k,k<n->B k=false)\/∃k,k<n/\FB n B=k/\B k=true/\∀j,j<k->B j=false:=by
 unfold FB;cases h:(List.range n).find? B with
 |none=>refine .inl ⟨rfl,λk a=>?_⟩;have:=aa6.1 h k a;simpa using this
 |some k=>obtain⟨b,c,f⟩:=aa5.1 h;refine .inr ⟨k,X6.1 c,rfl,b,λj g=>?_⟩;have:=f j g;simpa using this
theorem Ht {l:List Nat} (c:k<=l.length) (h:∀j,j<k->B (l.getD j 0)=false):sY B l k=l.take k:=by
 unfold sY;refine List.filter_eq_self.2 (λx a=>?_);obtain⟨j,b,rfl⟩:=ZI a;rw[Yj]at b;have:=h j (by omega);rw[List.getElem_take];simp only[List.getD,show j<l.length by omega,XY,Yt]at this;rw[this];rfl
theorem Pe {l:List Nat} (h:k<l.length) (a:B (l.getD k 0)=false):El B l (k+1)=(El B l k).set (sY B l k).length (l.getD k 0):=by
 have b:=A8 B l k;unfold El;rw[rl h,XG (by rw[a];simp),XQ,List.length_singleton];rw[List.set_append_right _ _ (XU _),Zb,Yk];congr 1;rw[Y8 (show(sY B l k).length<l.length by omega)];rfl
theorem DF (l:List Nat) (f n:Nat) (cap:Nat->SV) (B:Nat->Bool) (F:l.length<=40000) (r:∀k,k<l.length->DP f (.one (i64 (l.getD k 0:Nat))::fG n cap) (aE (B (l.getD k 0)))):
  lT Tryz.prog 145 [.aJ (.n 2000) 1,.d (.one (.fn f n cap))] [.aL 1 l.length 1 3 (nG l)] (.aJ (.n 2000) 0) [.aL 0 (l.filter λx=>!B x).length 1 3 (nG (l.filter λx=>!B x))] .none:=by
 refine cF je mixed Tryz.func145 rfl rfl [] (XI rfl) (XI rfl) (fe rfl) ?_;refine ai.int (Mt l f n cap B F r) (λi G=>?_);have H:∀(x:List Nat),x.filter (λx=>!B x)=sY B x x.length:=λx=>by unfold sY;rw[YX]
 rw[H];have p:=MM l.length λk=>B (l.getD k 0);rw[<-G]at p;apply af.mk<;>intro t
 ·have u:i= -1:=(by simpa using t);have I:∀k,k<l.length->B (l.getD k 0)=false:=(by rcases p with⟨_,h⟩|⟨k,_,h,_⟩;exact h;omega);have e:sY B l l.length=l:=(by rw[Ht (XU _) I,YX]);rw[e];exact ke.mk ⟨.n 0,.one (.aJ rfl rfl rfl),.cons (.aL (λh=>absurd h (by decide)) (λ_ _ _ _=>aD.refl _)) (.nil _),.inl rfl⟩
 ·have u:¬i= -1:=(by simpa using t);obtain⟨c,w,rfl,J,K⟩:∃k,k<l.length/\i=k/\B (l.getD k 0)=true/\∀j,j<k->B (l.getD j 0)=false:=(by rcases p with⟨h,_⟩|h;exact absurd h u;exact h);have y:sY B l (c+1)=l.take c:=(by rw[rl w,XL J,Ht (by omega) K]);have z:(sY B l (c+1)).length=c:=(by rw[y,Yj];omega);have M:El B l (c+1)=l:=(by unfold El;rw[z,y,ZJ]);refine Loop.by (α:=Nat) (λk=>[(0,.aJ 2000 1),(1,.d (.one (.fn f n cap))),(5,au ((sY B l k).length:Nat)),(6,au k)]) (λk=>[(2000,.aL 1 l.length 1 3 (nG (El B l k)))]) (λk=>k<=l.length) (λk=>l.length-k)
   (aG.at (c+1) w (.cons (.aL (λj a m q=>aD.of_eq (by rw[M]))) .nil) (.cH (.cS (.cons (ar.int (by rw[z])) (.cons (ar.int (by rw[hw _];omega)) .nil))))) (λk T=>?_)
  apply af.mk<;>intro A
  ·have g:k<l.length:=(by have:=XA A;omega);have N:=A8 B l k;refine ak.o ?_;have O:DP f (.one (i64 ((El B l k).getD (k:Int).toNat 0:Nat))::fG n cap) (aE (B (l.getD k 0))):=(by rw[Yi,Hc g];exact r k g);have eg:(El B l k).getD (k:Int).toNat 0=l.getD k 0:=(by rw[Yi,Hc g]);refine ai.bool O (λb C=>?_);apply af.mk<;>intro D
   ·have E:B (l.getD k 0)=false:=(by rw[<-C];simpa using D);have o:(sY B l (k+1)).length=(sY B l k).length+1:=(by rw[rl g,XG (by rw[E];simp),XQ];rfl);refine ak.o ?_;refine aG.back (x:=k) (k+1) (by show k+1<=_;omega) (by omega) (.cons (.aL (λj a m q=>?_)) .nil) (.cH (.cS (.cons (ar.int (by rw[hw _,o];omega)) (.cons (ar.int (by rw[hw _];omega)) .nil))));obtain rfl:m=0:=(by omega);rw[Pe g E,<-eg];exact Fj _ _ _ j (by rw[Pf];exact a)
   ·have P:B (l.getD k 0)=true:=(by rw[<-C];simpa using D);have o:sY B l (k+1)=sY B l k:=(by rw[rl g,XL P]);have Q:El B l (k+1)=El B l k:=(by unfold El;rw[o]);exact aG.back (x:=k) (k+1) (by show k+1<=_;omega) (by omega) (.cons (.aL (λj a m q=>aD.of_eq (by rw[Q]))) .nil) (.cH (.cS (.cons (ar.int (by rw[o])) (.cons (ar.int (by rw[hw _];omega)) .nil))))
  ·have R:k=l.length:=(by have:=XB A;omega);subst R;have N:=A8 B l l.length;refine ak.o ?_;refine fm.l ?_;refine ak.o ?_;refine fm.r ⟨rfl,?_⟩;refine ke.mk ⟨.n 0,.one (.aJ rfl rfl rfl),.cons (.aR (Yi _) (λh=>absurd h (by decide)) (λj a m q=>?_)) (.nil _),.inl rfl⟩;have a:j<(sY B l l.length).length:=(by rwa [Yi]at a);obtain rfl:m=0:=(by omega);have S:(0+((sY B l l.length).length:Int).toNat).ble j=false:=by
    rw[Yi,Ya];cases h:(sY B l l.length).length.ble j with
    |false=>rfl
    |true=>exact absurd (XI h) (by omega)
   refine aD.of_eq ?_;rw[S];show i64 _=i64 _;unfold El;simp only[List.getD];rw[Zq a]
variable {m:Id->Mem} {nb:Nat->List Nat}
theorem GM {a b c g:Nat} {v:LV} {nx:List Nat} (x:m (.n a)= .obj [.s (aN v),.aJ (.n b) g,.aJ (.n c) g]) (H:m (.n b)= .bm g v.length 1 22 λi _=> .aJ (.s k i) g) (r:m (.n c)= .aL g nx.length 1 3 (nG nx))
  (y:∀i,i<v.length->m (.s k i)= .aL g (nb i).length 1 3 (nG (nb i))) (z:a≠b) (A:b≠c) {p gr n:Nat} {l:List Nat} {get:Nat->Nat->SV} {q:Nat->Nat->CV} (B:n=l.length) (C:∀j,j<n->aD (get j 0) (nG l j 0)) (D:∀i,i<v.length->q i 0= .aJ (.s k i) (if i=p then gr else g)):
  JV (bj (bj m (.s k p) (.aL gr n 1 3 get)) (.n b) (.bm g v.length 1 22 q)) a b c k v (dZ nb p l) nx:=by
 subst B;have o:∀(i j:Nat),(Id.s k i)≠ .n j:=λi j h=>by cases h
 have E:(Id.n a)≠ .n b:=λh=>by cases h;exact z rfl
 have t:(Id.n c)≠ .n b:=λh=>by cases h;exact A rfl
 have u:∀i,i<v.length->∃w,bj (bj m (.s k p) (.aL gr l.length 1 3 get)) (.n b) (.bm g v.length 1 22 q) (.s k i)= .aL (if i=p then gr else g) (dZ nb p l i).length 1 3 w/\∀j,j<(dZ nb p l i).length->aD (w j 0) (nG (dZ nb p l i) j 0):=λi f=>by rw[aw _ _ _ (o i b)];unfold dZ;by_cases e:i=p;subst e;rw[XL rfl,XL rfl,aq];exact⟨_,rfl,C⟩;rw[XG e,XG e,aw _ _ _ (by intro h;cases h;exact e rfl),y i f];exact⟨_,rfl,λj I=>aD.refl _⟩
 refine⟨?_,?_,?_,λi f=>?_⟩;rw[aw _ _ _ E,aw _ _ _ (o p a).symm,aq,aw _ _ _ t,aw _ _ _ (o p c).symm,x,r];rfl;rw[aq];refine⟨_,_,rfl,λi f=>?_⟩;obtain⟨F,e,_⟩:=u i f;rw[e,D i f];rfl;rw[aw _ _ _ t,aw _ _ _ (o p c).symm,r];exact⟨_,_,rfl,λi f=>aD.refl _⟩;obtain⟨F,e,G⟩:=u i f;exact⟨_,_,e,G⟩
theorem WY {k:Id->Mem} {v:LV} {nx:List Nat} (h:JV m 2000 2001 2002 2003 v nb nx):F9 k (r6 2000 2001 2002 2003 0 0 v nb nx) m (.eD []) []:=by
 refine⟨λo=>o,.none,λo l=>?_,λo q _ _ e=>e,λ_ _=>rfl⟩;rcases bP o l with rfl|rfl|rfl|⟨i,a,rfl⟩;show jf m _ _ (m (.n 2000)) _;rw[h.obj];exact .obj (.cons (.s (aD.refl _)) (.cons (.aJ rfl rfl rfl) (.cons (.aJ rfl rfl rfl) .nil)));obtain⟨g,f,e,b⟩:=h.sf;show jf m _ _ (m (.n 2001)) _;rw[e];refine .bm (λh=>absurd h (by decide)) (λi a j c=>?_);obtain rfl:j=0:=(by omega);rw[b i a];exact .aJ rfl rfl (by rw[cd a];rfl);obtain⟨g,f,e,b⟩:=h.bA;show jf m _ _ (m (.n 2002)) _;rw[e];refine .aL (λh=>absurd h (by decide)) (λi a j c=>?_);obtain rfl:j=0:=(by omega);exact b i a;obtain⟨g,f,e,b⟩:=h.row i a;show jf m _ _ (m (.s 2003 i)) _;rw[e,cd a];refine .aL (λh=>absurd h (by decide)) (λj c p r=>?_);obtain rfl:p=0:=(by omega);exact b j c
theorem PX (k q:Nat):DP 146 [.one (i64 k),.one (.ad 1 λj=>[i64 q].getD j (.v Go.undef))] (aE (decide (k=q))):=by
 refine dg Tryz.func146 [] ?_;exact Fin.bool (by
  by_cases e:k=q;subst e;simp
  ·rw[XZ e];have:¬(k:Int)=q:=(by omega);simpa using this)
theorem PW (k q:Nat):DP 147 [.one (i64 k),.one (.ad 1 λj=>[i64 q].getD j (.v Go.undef))] (aE (decide (k=q))):=by
 refine dg Tryz.func147 [] ?_;exact Fin.bool (by
  by_cases e:k=q;subst e;simp
  ·rw[XZ e];have:¬(k:Int)=q:=(by omega);simpa using this)
theorem Dn (k p i gr g:Nat):(bif Nat.beq i p&&Nat.beq 0 0 then CV.aJ (.s k p) gr else CV.aJ (.s k i) g)=CV.aJ (.s k i) (if i=p then gr else g):=by
 cases h:Nat.beq i p with
 |false=>rw[XG (λe=>by rw[e,ZE]at h;cases h)];rfl
 |true=>rw[XE h,XL rfl];rfl
theorem Wm (x y:Mem) (v:LV) (nb:Nat->List Nat) (nx:List Nat):GZ (aQ ([((4:Id),x),(5,y)]++lD 2000 2001 2002 2003 0 0 v nb nx)) 2000 2001 2002 2003 v nb nx:=
 ⟨rfl,rfl,rfl,λi a=>vp (o1:=2000) (o2:=2001) (o3:=2002) (k:=2003) (g:=0) (gr:=0) (nb:=nb) (nx:=nx) a⟩
abbrev Vh (x:Int):Nat->SV:=λj=>[SV.ad 1 λj=>[i64 x].getD j (.v Go.undef)].getD j (.v Go.undef)
theorem JD (v:LV) (nb:Nat->List Nat) (nx:List Nat) (p q:Nat) (l:p<v.length) (m:q<v.length) (A:p≠q) (B:v.length<=40000) (f:∀x,(nb x).length<=40000):
  Eh Tryz.prog 88 (.ptr (.n 2000) 0::[DV.one (i64 p),DV.one (i64 q)].map .d) (r6 2000 2001 2002 2003 1 1 v nb nx) (.eD [])
   (r6 2000 2001 2002 2003 0 0 v (dZ (dZ nb p ((nb p).filter λx=>!decide (x=q))) q (((dZ nb p ((nb p).filter λx=>!decide (x=q))) q).filter λx=>!decide (x=p))) nx):=by
 refine om je mixed Tryz.func88 rfl rfl [3,145+2000000] (XI rfl) (XI rfl) (Xe v nb _ nx [.one (i64 p),.one (i64 q)] 0 0) ?_;have t:∀(b o r:Mem) (i:Nat),i<v.length->bj (bj (bj (r6 2000 2001 2002 2003 1 1 v nb nx) (.n 4) b) (.n 5) o) (.n 5) r (.s 2003 i)= .aL 1 (nb i).length 1 3 (nG (nb i)):=λb o r i c=>by rw[aw _ _ _ (by intro h;cases h),aw _ _ _ (by intro h;cases h),aw _ _ _ (by intro h;cases h),cd c]
 refine ak.o ?_;refine⟨⟨.aJ (.s 2003 p) 1,rfl,?_⟩⟩;refine fp.mk' [.s 2003 p] (DF (nb p) 146 1 (Vh q) (λx=>decide (x=q)) (f p) (λk u=>PX _ q))
  ⟨.cons (by show kd _ _ (r6 2000 2001 2002 2003 1 1 v nb nx (.s 2003 p)) _;rw[cd l];exact .aL (λ_ _ _ _=>aD.refl _)) .nil,.cons (.aJ rfl (by show 1=(r6 2000 2001 2002 2003 1 1 v nb nx (.s 2003 p)).gen;rw[cd l];rfl)) (.cD .nil),rfl,rfl,λh=>absurd rfl h⟩ ?_
 refine ak.o ?_;refine ak.n ?_;refine Cut.mk (aG.ic [(0,.ptr 2000 0),(4,.ptr 4 0),(5,.ptr 5 0)] ([((4:Id),.box [i64 p]),(5,.ro [i64 q])]++lD 2000 2001 2002 2003 0 0 v (dZ nb p ((nb p).filter λx=>!decide (x=q))) nx)
  (.cX (.cons (.ro (iy.refl _)) (nU (GM (g:=1) rfl rfl rfl (t _ _ _) (by decide) (by decide) rfl (λj w=>aD.refl _) (λi c=>Dn 2003 p i _ 1)) (Wm _ _ v _ nx).sf (Wm _ _ v _ nx).bA (Wm _ _ v _ nx).row)))
  (.cons (.ptr (by intro h;cases h)) (.cB (.cons (.ro rfl rfl) .nil))) ?_)
 have y:∀x,(dZ nb p ((nb p).filter λx=>!decide (x=q)) x).length<=40000:=λx=>jv f (Yg (ZK _ _) (f p)) x;generalize dZ nb p ((nb p).filter λx=>!decide (x=q))=a at*;have Z:=Wm (.box [i64 p]) (.ro [i64 q]) v a nx;have z:∀(b:Mem) (i:Nat),i<v.length->bj (aQ ([((4:Id),.box [i64 p]),(5,.ro [i64 q])]++lD 2000 2001 2002 2003 0 0 v a nx)) (.n 4) b (.s 2003 i)= .aL 0 (a i).length 1 3 (nG (a i)):=λb i c=>by rw[aw _ _ _ (by intro h;cases h),Z.row i c]
 refine ak.o ?_;refine⟨⟨.aJ (.s 2003 q) 0,rfl,?_⟩⟩;refine fp.mk' [.s 2003 q] (DF (a q) 147 1 (Vh p) (λx=>decide (x=p)) (y q) (λk u=>PW _ p))
  ⟨.cons (by show kd _ _ (aQ ([((4:Id),.box [i64 p]),(5,.ro [i64 q])]++lD 2000 2001 2002 2003 0 0 v a nx) (.s 2003 q)) _;rw[Z.row q m];exact .aL (λ_ _ _ _=>aD.refl _)) .nil,.cons (.aJ rfl (by show 0=(aQ ([((4:Id),.box [i64 p]),(5,.ro [i64 q])]++lD 2000 2001 2002 2003 0 0 v a nx) (.s 2003 q)).gen;rw[Z.row q m];rfl)) (.cD .nil),rfl,rfl,λh=>absurd rfl h⟩ ?_
 refine ak.o ?_;refine ak.n ?_;refine WY (GM (g:=0) rfl rfl rfl (z _) (by decide) (by decide) rfl (λj w=>aD.refl _) (λi c=>Dn 2003 q i _ 0))
def Bk (nb:Nat->List Nat) (p q:Nat):Nat->List Nat:=dZ (dZ nb p ((nb p).filter λx=>!decide (x=q))) q (((dZ nb p ((nb p).filter λx=>!decide (x=q))) q).filter λx=>!decide (x=p))
def yJ (v:LV):(Nat->List Nat)->List Dt->(Nat->List Nat)×List Dt
 |nb,[]=>(nb,[])
 |nb,d::L=>if(Ek v nb d.1 d.2&&Ek v nb d.2 d.1)=true then yJ v (Bk nb d.1 d.2) L else((yJ v nb L).1,d::(yJ v nb L).2)
variable {nb:Nat->List Nat} {p q:Nat}
theorem M3 {B:Nat} (h:∀x,(nb x).length<=B) (x:Nat):(Bk nb p q x).length<=B:=by
 have a:=λx=>jv (nb:=nb) (p:=p) (l:=(nb p).filter λx=>!decide (x=q)) h (Yg (ZK _ _) (h p)) x;exact jv a (Yg (ZK _ _) (a q)) x
theorem BV {f:Nat->Bool} {x y:Nat} (h:y∈dZ nb p ((nb p).filter f) x):y∈nb x:=by
 rcases BW.1 h with⟨rfl,k⟩|⟨_,k⟩;exact(aaq.1 k).1;exact k
theorem PS {n:Nat} (h:∀x y,y∈nb x->y<n) (x y:Nat) (a:y∈Bk nb p q x):y<n:=h x y (BV (BV a))
def F8 (v:LV):(Nat->List Nat)->List Dt->Prop
 |_,[]=>True
 |nb,d::L=>(d.2∈nb d.1/\d.1∈nb d.2/\(nb d.1).Nodup/\(nb d.2).Nodup/\d.1≠d.2)/\if(Ek v nb d.1 d.2&&Ek v nb d.2 d.1)=true then F8 v (Bk nb d.1 d.2) L else F8 v nb L
variable {m:Id->Mem} {a c k:Nat}
theorem Mh {b:Nat} {v:LV} {nx:List Nat} (h:GZ m a b c k v nb nx):lR m [a,b,c,k] (.ptr (.n a) 0) (.ad 3 (MH v nb (nS nx))):=by
 refine .obj (by simp[Id.key]) h.obj (XU 3) (λj f=>?_)
 match j,f with
 |0,_=>exact .s _
 |1,_=>exact lR.bm (o:= .n b) (by simp[Id.key]) h.sf (λi g j f=>lR.aL (o:= .s k i) (by simp[Id.key]) (h.row i g))
 |2,_=>exact lR.aL (o:= .n c) (by simp[Id.key]) h.bA
theorem GZ.bj {b:Nat} {v:LV} {nx:List Nat} (h:GZ m a b c k v nb nx) (j:Nat) (x:Mem) (f:a≠j) (g:b≠j) (l:c≠j):GZ (Go.Vm.bj m (.n j) x) a b c k v nb nx where
 obj:=by rw[aw _ _ _ (by intro e;cases e;exact f rfl)];exact h.obj
 sf:=by rw[aw _ _ _ (by intro e;cases e;exact g rfl)];exact h.sf
 bA:=by rw[aw _ _ _ (by intro e;cases e;exact l rfl)];exact h.bA
 row i hi:=by rw[aw _ _ _ (by intro e;cases e)];exact h.row i hi
def TD:Id->Id
 | .n j=>bif Nat.beq j 3000 then .n 510 else bif Nat.beq j 3001 then .n 511 else bif Nat.beq j 3002 then .n 512 else .n j
 | .s _ i=> .s 1504 i
theorem PL {b:Nat} {v:LV} {nx:List Nat} {o:Id} (f:o≠ .n a) (h2:o≠ .n b) (g:o≠ .n c) (h:∀i,i<v.length->o≠ .s k i):cK m (lD a b c k 0 0 v nb nx) o=m o:=by
 simp only[lD,cK];rw[dS _ _ _ (iG h),aw _ _ _ g,aw _ _ _ h2,aw _ _ _ f]
theorem HH {b:Nat} {v:LV} {nx:List Nat} (f:a≠b:=by decide) (g:a≠c:=by decide) (j:b≠c:=by decide):GZ (cK m (lD a b c k 0 0 v nb nx)) a b c k v nb nx where
 obj:=by simp only[lD,cK];rw[dS _ _ _ (iG (λi _ h=>by cases h)),aw _ _ _ (by intro h;cases h;exact g rfl),aw _ _ _ (by intro h;cases h;exact f rfl),aq]
 sf:=by simp only[lD,cK];rw[dS _ _ _ (iG (λi _ h=>by cases h)),aw _ _ _ (by intro h;cases h;exact j rfl),aq]
 bA:=by simp only[lD,cK];rw[dS _ _ _ (iG (λi _ h=>by cases h)),aq]
 row i l:=by simp only[lD,cK];rw[Y4,CD _ _ _ _ _ l]
theorem U3 {v:LV} {nx:List Nat} {x:DV} {xs:List TV} (p:lQ m TD xs [.d x]) (h:∀j,j=510\/j=511\/j=512->m (.n j)= .none) (hs:∀i,m (.s 1504 i)= .none) (q:Option Nat):
  QC m TD (λ_=>0) xs [.d x] (λ_=> .none) (r6 3000 3001 3002 3003 0 0 v nb nx) (lD 510 511 512 1504 0 0 v nb nx) [510,511,512,1504] q where
 mem o f:=absurd rfl f
 args:=p
 inj o r t u e:=by have s0:TD (.n 3000)= .n 510:=rfl;have w:TD (.n 3001)= .n 511:=rfl;have y:TD (.n 3002)= .n 512:=rfl;have z:∀i,TD (.s 3003 i)= .s 1504 i:=λ_=>rfl;rcases bP o t with rfl|rfl|rfl|⟨i,g,rfl⟩<;>rcases bP r u with rfl|rfl|rfl|⟨j,A,rfl⟩<;>simp only[s0,w,y,z,Id.n.injEq,Id.s.injEq,reduceCtorEq,abU]at e<;>first|rfl|(exfalso;revert e;decide)|rw[e]
 key o f:=by rcases bP o f with rfl|rfl|rfl|⟨i,g,rfl⟩;exact XW ..;exact XK _ (XW ..);exact XK _ (XK _ (XW ..));exact XK _ (XK _ (XK _ (XW ..)))
 fresh o _ f:=by rcases bP o f with rfl|rfl|rfl|⟨i,g,rfl⟩;exact⟨h 510 (.inl rfl),.inl (show 510<2000 by decide)⟩;exact⟨h 511 (.inr (.inl rfl)),.inl (show 511<2000 by decide)⟩;exact⟨h 512 (.inr (.inr rfl)),.inl (show 512<2000 by decide)⟩;exact⟨hs i,.inl (show 1504<2000 by decide)⟩
 gen o f:=absurd rfl f
 He l o f:=by have Z:=HH (m:=l) (a:=510) (b:=511) (c:=512) (k:=1504) (v:=v) (nb:=nb) (nx:=nx);rcases bP o f with rfl|rfl|rfl|⟨i,g,rfl⟩;exact Z.obj.trans rfl;exact Z.sf.trans rfl;exact Z.bA.trans rfl;rw[cd g];exact(Z.row i g).trans rfl
 AW l o f:=by refine PL (λe=>f (.n 3000) (by intro h;cases h) e.symm) (λe=>f (.n 3001) (by intro h;cases h) e.symm) (λe=>f (.n 3002) (by intro h;cases h) e.symm) (λi g e=>f (.s 3003 i) (by rw[cd g];simp) e.symm)
def CU (o:LV) (hs:List (LV)):Nat->List Nat:=ns (aA o hs) (dB (iQ 0 (aX o::eT hs)++qG o hs (aA o hs))) (aA o hs).length
def N8 (o:LV) (hs:List (LV)):List Nat:=E9 (aA o hs).length (r5 (aX o::eT hs))
def yI (o:LV) (hs:List (LV)):(Nat->List Nat)×List Dt:=yJ (aA o hs) (CU o hs) (qG o hs (aA o hs))
theorem pb (z:Mem) (v:LV) (nb:Nat->List Nat) (nx:List Nat):GZ (aQ ([((8:Id),.none),(501,z)]++lD 510 511 512 1504 0 0 v nb nx)) 510 511 512 1504 v nb nx:=
 ⟨rfl,rfl,rfl,λi a=>vp (o1:=510) (o2:=511) (o3:=512) (k:=1504) (g:=0) (gr:=0) (nb:=nb) (nx:=nx) a⟩
theorem Pc {o:LV} {hs:List (LV)} (V:VS o hs) (x:Nat):(CU o hs x).length<=13000:=by
 have a:=rq (iQ 0 (aX o::eT hs)++qG o hs (aA o hs)) x;have b:=iJ V;have c:=V.eZ;have f:=u5 (o:=o) (hs:=hs) (v:=aA o hs);rw[XQ,uZ,nT V]at a;unfold CU ns;split;rw[B9];omega;omega
theorem Sw {o:LV} {hs:List (LV)} (V:VS o hs) (b:∀p,p<(aA o hs).length->nh (dB (iQ 0 (aX o::eT hs)++qG o hs (aA o hs)) p).length (Oa (aA o hs) p (dB (iQ 0 (aX o::eT hs)++qG o hs (aA o hs)) p))) (p y:Nat) (h:y∈CU o hs p):y<(aA o hs).length:=by
 have c:y∈dB (iQ 0 (aX o::eT hs)++qG o hs (aA o hs)) p:=by
  unfold CU ns at h;split at h
  ·next q=>exact(yK (b p q)).mem_iff.1 h
  ·exact h
 have a:∀d∈iQ 0 (aX o::eT hs)++qG o hs (aA o hs),d.1<(aA o hs).length/\d.2<(aA o hs).length:=λd f=>by rcases XP.1 f with k|k;have:=EV k;rw[nT V,<-iJ V]at this;omega;have:=wD k;omega
 rcases nW.1 c with k|k;exact(a _ k).2;exact(a _ k).1
set_option maxRecDepth 2000 in
theorem Aq {o:LV} {hs:List (LV)} (V:VS o hs) (a0:∀i k,i<(aA o hs).length->k<(aA o hs).length->gt (aA o hs) i=gt (aA o hs) k->i=k)
  (K:∀p,p<(aA o hs).length->nh (dB (iQ 0 (aX o::eT hs)++qG o hs (aA o hs)) p).length (Oa (aA o hs) p (dB (iQ 0 (aX o::eT hs)++qG o hs (aA o hs)) p)))
  (hS:F8 (aA o hs) (CU o hs) (qG o hs (aA o hs))):
  DP 45 [iO o hs] (.eD [.one (.ad 3 (MH (aA o hs) (yI o hs).1 (nS (N8 o hs)))),.one (.sl (yI o hs).2.length 2 (kT (yI o hs).2))]):=by
 refine dg Tryz.func45 [9000011,9000012,9000013,9000039,3,10] ?_;have b1:=iJ V;have b2:=V.eZ;refine BN.mk' (qE rfl rfl rfl (Ja V a0 K) (U3 (.cD .nil) (λj h=>?_) (λi=>rfl) _)) ?_;(rcases h with rfl|rfl|rfl<;>rfl)
 refine jq.2 ?_;refine BN.mk' (Lr rfl rfl) ?_;refine BN.mk' (Lq (i:=0) rfl rfl rfl) ?_;obtain⟨v,r⟩:∃v,v=aA o hs:=⟨_,rfl⟩;obtain⟨D,E⟩:∃D,D=qG o hs (aA o hs):=⟨_,rfl⟩;obtain⟨B,G⟩:∃B,B=CU o hs:=⟨_,rfl⟩;obtain⟨a,M⟩:∃a,a=N8 o hs:=⟨_,rfl⟩;obtain⟨R,N⟩:∃R,R=yI o hs:=⟨_,rfl⟩;have O:=Pc V;have I:=Sw V K;have b3:D.length<=6400:=by rw[E];exact u5
 have a1:∀d∈D,d.1<v.length/\d.2<v.length:=λd g=>by rw[E]at g;rw[r];have:=wD g;omega
 rw[<-N,<-M,<-r];rw[<-G,<-E,<-r]at hS;rw[<-G]at O I;have b4:v.length<=80:=by rw[r];omega
 rw[<-r]at I;have P:R=yJ v B D:=by rw[N,r,G,E];rfl
 refine Cut.mk (aG.ic [(4,.ptr 510 0),(5,.d (.one (.sl D.length 2 (kT D))))] ([((8:Id),.none),(501,.none)]++lD 510 511 512 1504 0 0 v B a) (.none (.none (nU (by rw[r,G,M];exact(HH).BS) (pb _ v _ a).sf (pb _ v _ a).bA (pb _ v _ a).row)))
  (.cons (.ptr (by intro h;cases h)) (.cons (.data (dX.of_eq (by rw[E,r]))) .nil)) ?_)
 refine Loop.by (α:=Nat×(Nat->List Nat)×List Dt) (λx=>[(4,.ptr 510 0),(6,.aJ 501 0),(14,.d (.one (.sl D.length 2 (kT D)))),(15,au D.length),(16,au x.1)])
  (λx=>[((8:Id),.none),(501,.aL 0 x.2.2.length 2 83 (kT x.2.2))]++lD 510 511 512 1504 0 0 v x.2.1 a)
  (λx=>x.1<=D.length/\x.2.2.length<=x.1/\R.1=(yJ v x.2.1 (D.drop x.1)).1/\R.2=x.2.2++(yJ v x.2.1 (D.drop x.1)).2/\F8 v x.2.1 (D.drop x.1)/\(∀y,(x.2.1 y).length<=13000)/\∀p y,y∈x.2.1 p->y<v.length) (λx=>D.length-x.1)
  (aG.nil 6 501 2 83 (kT []) rfl rfl (aG.at (0,B,[]) ⟨XR _,XR _,by rw[P];rfl,by rw[P];rfl,hS,O,I⟩ (.none (.cons (.aR rfl (λ_ h=>absurd h (XO _))) (nU ((pb .none v B a).BS.bj 501 _ (by decide) (by decide) (by decide)) (pb _ v _ a).sf (pb _ v _ a).bA (pb _ v _ a).row))) (.cons (.ptr (by intro h;cases h)) (.cH (.cS (.cS (.cS .nil))))))) (λx l=>?_)
 obtain⟨i,nb,b⟩:=x;obtain⟨a2,a3,c,f,t,z,C⟩:=l;simp only at a2 a3 c f t z C;apply af.mk<;>intro Q
 ·have J:i<D.length:=(by have:=XA Q;simp only at this;omega);obtain⟨d,g⟩:∃d,d=bc D (i:Int).toNat:=⟨_,rfl⟩;have S:d=D[i]:=(by rw[g];simp[List.getD,J]);have a4:d∈D:=(by rw[S];exact Zy J);obtain⟨T,U⟩:=a1 d a4;have H:D.drop i=d::D.drop (i+1):=(by rw[Y8 J,S]);have X:=t;rw[H]at X;obtain⟨⟨a5,a6,a7,a8,a9⟩,_⟩:=X;refine ak.o ?_;refine ak.mk (by decide) ?_;refine ak.mk (by decide) ?_;refine⟨⟨_,_,Mh (((pb _ v nb a).bj 8 _ (by decide) (by decide) (by decide)).bj 8 _ (by decide) (by decide) (by decide)),?_⟩⟩;refine ai.bool ((zl v nb (nS a) d.1 d.2 (by omega) T a5 a7 (by have:=z d.1;omega) (λy u=>C d.1 y u)).le (.cR (.cons (dX.of_eq (by rw[g])) (.cons (dX.of_eq (by rw[g])) .nil)))) (λx l=>?_);repeat' first|apply af.t|apply af.f
  cases x with
  |false=>
   repeat' first|apply af.t|apply af.f
   have q:(Ek v nb d.1 d.2&&Ek v nb d.2 d.1)=false:=(by rw[<-l];rfl);have F:yJ v nb (d::D.drop (i+1))=((yJ v nb (D.drop (i+1))).1,d::(yJ v nb (D.drop (i+1))).2):=(by simp only[yJ];rw[XG (by rw[q];decide)]);rw[H]at c f t;rw[F]at c f;have w:=t.2;rw[XG (by rw[q];decide)]at w;refine ak.mk (aS (by show b.length+1<=_;omega)) ?_;refine Cut.mk (aG.ic [(4,.ptr 510 0),(6,.aJ 501 0),(14,.d (.one (.sl D.length 2 (kT D)))),(15,au D.length),(16,au i)] ([((8:Id),.none),(501,.aL 0 (b++[d]).length 2 83 (kT (b++[d])))]++lD 510 511 512 1504 0 0 v nb a)
    (.none (.cons (.aR (by rw[XQ];rfl) (λx l j A=>by rw[g];exact oi _ _ x j l A)) (nU ((((pb _ v _ a).BS.bj 8 _ (by decide) (by decide) (by decide)).bj 8 _ (by decide) (by decide) (by decide)).bj 501 _ (by decide) (by decide) (by decide)) (pb _ v _ a).sf (pb _ v _ a).bA (pb _ v _ a).row))) (.cons (.ptr (by intro h;cases h)) (.cH (.cS (.cS (.cS .nil))))) ?_)
   exact aG.back (x:=(i,nb,b)) (i+1,nb,b++[d]) ⟨by show i+1<=_;omega,by show(b++[d]).length<=i+1;rw[XQ];show b.length+1<=i+1;omega,c,by show _=(b++[d])++_;rw[f,Yk];rfl,w,z,C⟩ (by show D.length-(i+1)<D.length-i;omega) (.none (.cons (.aR rfl (λ_ _ _ _=>aD.refl _)) (nU (pb _ v _ a).BS (pb _ v _ a).sf (pb _ v _ a).bA (pb _ v _ a).row))) (.cons (.ptr (by intro h;cases h)) (.cH (.cS (.cS (.cons (ar.int (by rw[hw _];omega)) .nil)))))
  |true=>
   repeat' first|apply af.t|apply af.f
   refine ak.mk (by decide) ?_;repeat' first|apply af.t|apply af.f
   refine ak.mk (by decide) ?_;repeat' first|apply af.t|apply af.f
   refine⟨⟨_,_,Mh (((pb _ v nb a).bj 8 _ (by decide) (by decide) (by decide)).bj 8 _ (by decide) (by decide) (by decide)),?_⟩⟩;refine ai.bool ((zl v nb (nS a) d.2 d.1 (by omega) U a6 a8 (by have:=z d.2;omega) (λy u=>C d.2 y u)).le (.cR (.cons (dX.of_eq (by rw[g])) (.cons (dX.of_eq (by rw[g])) .nil)))) (λy u=>?_);repeat' first|apply af.t|apply af.f
   cases y with
   |false=>
    repeat' first|apply af.t|apply af.f
    have q:(Ek v nb d.1 d.2&&Ek v nb d.2 d.1)=false:=(by rw[<-l,<-u];rfl);have F:yJ v nb (d::D.drop (i+1))=((yJ v nb (D.drop (i+1))).1,d::(yJ v nb (D.drop (i+1))).2):=(by simp only[yJ];rw[XG (by rw[q];decide)]);rw[H]at c f t;rw[F]at c f;have w:=t.2;rw[XG (by rw[q];decide)]at w;refine ak.mk (aS (by show b.length+1<=_;omega)) ?_;refine Cut.mk (aG.ic [(4,.ptr 510 0),(6,.aJ 501 0),(14,.d (.one (.sl D.length 2 (kT D)))),(15,au D.length),(16,au i)] ([((8:Id),.none),(501,.aL 0 (b++[d]).length 2 83 (kT (b++[d])))]++lD 510 511 512 1504 0 0 v nb a)
     (.none (.cons (.aR (by rw[XQ];rfl) (λx l j A=>by rw[g];exact oi _ _ x j l A)) (nU ((((pb _ v _ a).BS.bj 8 _ (by decide) (by decide) (by decide)).bj 8 _ (by decide) (by decide) (by decide)).bj 501 _ (by decide) (by decide) (by decide)) (pb _ v _ a).sf (pb _ v _ a).bA (pb _ v _ a).row))) (.cons (.ptr (by intro h;cases h)) (.cH (.cS (.cS (.cS .nil))))) ?_)
    exact aG.back (x:=(i,nb,b)) (i+1,nb,b++[d]) ⟨by show i+1<=_;omega,by show(b++[d]).length<=i+1;rw[XQ];show b.length+1<=i+1;omega,c,by show _=(b++[d])++_;rw[f,Yk];rfl,w,z,C⟩ (by show D.length-(i+1)<D.length-i;omega) (.none (.cons (.aR rfl (λ_ _ _ _=>aD.refl _)) (nU (pb _ v _ a).BS (pb _ v _ a).sf (pb _ v _ a).bA (pb _ v _ a).row))) (.cons (.ptr (by intro h;cases h)) (.cH (.cS (.cS (.cons (ar.int (by rw[hw _];omega)) .nil)))))
   |true=>
    repeat' first|apply af.t|apply af.f
    have q:(Ek v nb d.1 d.2&&Ek v nb d.2 d.1)=true:=(by rw[<-l,<-u];rfl);have b5:=q;have F:yJ v nb (d::D.drop (i+1))=yJ v (Bk nb d.1 d.2) (D.drop (i+1)):=(by simp only[yJ];rw[XL q]);rw[H]at c f t;rw[F]at c f;have w:=t.2;rw[XL q]at w;refine ak.mk (by decide) ?_;refine ak.mk (by decide) ?_;refine BN.mk' (qE rfl rfl rfl (JD v nb a d.1 d.2 T U a9 (by omega) (λx=>by have:=z x;omega)) (U4 (((pb _ v nb a).bj 8 _ (by decide) (by decide) (by decide)).bj 8 _ (by decide) (by decide) (by decide)).BS (by decide) (by decide) (by decide) 0 0 (.cons (.ptr rfl) (.cons (.d (dX.of_eq (by rw[g]))) (.cons (.d (dX.of_eq (by rw[g]))) .nil))) _)) ?_;refine jq.2 ?_;have Y:∀(j:Nat),¬(j=510\/j=511\/j=512)->∀(m m' Z:Id->Mem) (nb:Nat->List Nat),cK m' (Hf m Z 510 511 512 1504 v nb a) (.n j)=m' (.n j):=λj A m m' Z nb=>
     AY (by intro h;cases h;exact A (.inl rfl)) (by intro h;cases h;exact A (.inr (.inl rfl))) (by intro h;cases h;exact A (.inr (.inr rfl))) (λi _ h=>by cases h)
    refine Cut.mk (aG.ic [(4,.ptr 510 0),(6,.aJ 501 0),(14,.d (.one (.sl D.length 2 (kT D)))),(15,au D.length),(16,au i)] ([((8:Id),.none),(501,.aL 0 b.length 2 83 (kT b))]++lD 510 511 512 1504 0 0 v (Bk nb d.1 d.2) a)
     (.none (.cons ?_ (nU (LW) (pb _ v _ a).sf (pb _ v _ a).bA (pb _ v _ a).row)))
     (.cons (.ptr (by intro h;cases h)) (.cons (.aJ (n:=b.length) (k:=2) (by rw[show((501:Id))= .n 501 from rfl,Y 501 (by decide)];rfl) rfl) (.cS (.cS (.cS .nil))))) ?_)
    ·rw[show((501:Id))= .n 501 from rfl,Y 501 (by decide)];exact .aR rfl (λ_ _ _ _=>aD.refl _)
    exact aG.back (x:=(i,nb,b)) (i+1,Bk nb d.1 d.2,b) ⟨by show i+1<=_;omega,by show b.length<=i+1;omega,c,f,w,λy=>M3 z y,λp y u=>PS C p y u⟩ (by show D.length-(i+1)<D.length-i;omega) (.none (.cons (.aR rfl (λ_ _ _ _=>aD.refl _)) (nU (pb _ v _ a).BS (pb _ v _ a).sf (pb _ v _ a).bA (pb _ v _ a).row))) (.cons (.ptr (by intro h;cases h)) (.cH (.cS (.cS (.cons (ar.int (by rw[hw _];omega)) .nil)))))
 ·have b0:i=D.length:=(by have:=XB Q;simp only at this;omega);subst b0;rw[abL]at c f;have c:R.1=nb:=c;have f:R.2=b:=(by rw[f];exact Y4 _);rw[c,f];refine⟨⟨_,_,Mh (pb _ v nb a),?_⟩⟩;exact Fin.eD (.cR (.cR .nil))
def Nj (l:LV) (i:Nat):Bool:=decide (ct (lV l i) (gt l i) (bA l i)≠0)
def ei (l:LV) (k:Nat):LV:=((List.range k).filter (Nj l)).map (gt l)
theorem w8 (l:LV) (k:Nat):ei l (k+1)=if Nj l k=true then ei l k++[gt l k]else ei l k:=by
 unfold ei;rw[ZL,abB,YB];cases h:Nj l k with
 |true=>rw[List.filter_cons_of_pos h,XL rfl];rfl
 |false=>rw[List.filter_cons_of_neg (by rw[h];decide),XG (by decide)];simp
theorem pa (l:LV) (k:Nat):(ei l k).length<=k:=by
 unfold ei;rw[Yy];exact Yg (ZK _ _) (by rw[List.length_range];exact XU k)
theorem gP (l:LV) (d:V2) (i j:Nat) (hi:i<l.length+1) (a:j<2):aD (bif Nat.blt i l.length then vG l i j else[i64 d.x,i64 d.y].getD ((i-l.length)*2+j) (.v Go.undef)) (vG (l++[d]) i j):=by
 refine aD.bif (λh=>?_) (λh=>?_);exact aD.of_eq (fb (by simp[List.getD,Yl,h]) j)
 ·obtain rfl:i=l.length:=(by omega);have:(l++[d]).getD l.length ⟨0,0⟩=d:=(by simp[List.getD]);refine aD.of_eq ?_;unfold vG;rw[this,Zb]
  match j,a with
  |0,_=>rfl
  |1,_=>rfl
theorem DL (l:LV) (E:l.length<=10000) (g:0<(ei l l.length).length):DP 46 [.one (aN l)] (.d (.one (aN (bC (ei l l.length))))):=by
 refine ig je mixed Tryz.func46 rfl rfl [10,93+2000000] (XI rfl) ?_;have F:=pa l l.length;refine Loop.by (α:=Nat) (λi=>[(0,.d (.one (aN l))),(3,.aJ 501 0),(4,au l.length),(10,.d (.one (aN l))),(11,au l.length),(12,au i)]) (λi=>[((6:Id),.none),(501,.aL 0 (ei l i).length 2 50 (vG (ei l i)))]) (λi=>i<=l.length) (λi=>l.length-i)
  (aG.nil 3 501 2 50 (vG []) rfl rfl (aG.at 0 (XR _) (.none (.cons (.aR rfl (λi b=>absurd b (XO i))) .nil)) (.cS (.cH (.cS (.cS (.cS (.cS .nil))))))))
  (λi b=>?_)
 apply af.mk<;>intro m
 ·have G:i<l.length:=(by have:=XA m;omega);have o:=nN i 1;have p:IntKind.i64.wrap (IntKind.i64.wrap ((i:Int)+l.length)-1)=((i+l.length-1:Nat):Int):=(by rw[hw ((i:Int)+l.length),hw _];omega);have z:=kg (i+1) l.length;have A:=kg (i+l.length-1) l.length;have H:=pa l i;refine ak.o ?_;refine ak.o ?_;refine ak.mk (by rw[p];exact A) ?_;refine ak.o ?_;refine ak.mk (by rw[show(1:Int)=(1:Nat) from rfl,o];exact z) ?_;refine ai.int (eW (gt l (Int.toNat ((IntKind.i64.wrap (IntKind.i64.wrap ((i:Int)+l.length)-1)).tmod l.length))) (gt l i) (gt l (Int.toNat ((IntKind.i64.wrap ((i:Int)+(1:Nat))).tmod l.length)))) (λt B=>?_);refine ak.n ?_;have r:Nj l i=decide (t≠0):=(by unfold Nj lV bA;rw[B,o,p,kf,kf]);apply af.mk<;>intro u
  ·have k:Nj l i=true:=(by rw[r];have:¬t=0:=(by simpa[bne]using u);simp[this]);have c:ei l (i+1)=ei l i++[gt l i]:=(by rw[w8,XL k]);refine ak.mk (aS) ?_;exact aG.back (x:=i) (i+1) (by show i+1<=_;omega) (by omega) (.none (.cons (.aR (by rw[c,XQ];rfl) (λa w j f=>by rw[c];exact gP _ (gt l i) a j w f)) .nil)) (.cS (.cH (.cS (.cS (.cS (.cons (ar.int (by rw[hw _];omega)) .nil))))))
  ·have k:Nj l i=false:=(by rw[r];have:t=0:=(by simpa[bne]using u);simp[this]);have c:ei l (i+1)=ei l i:=(by rw[w8,XG (by rw[k];decide)]);exact aG.back (x:=i) (i+1) (by show i+1<=_;omega) (by omega) (.none (.cons (.aR (by rw[c]) (λa w j f=>by rw[c];exact aD.refl _)) .nil)) (.cS (.cH (.cS (.cS (.cS (.cons (ar.int (by rw[hw _];omega)) .nil))))))
 ·have C:i=l.length:=(by have:=XB m;omega);subst C;generalize ei l l.length=K at*;refine Cut.mk (aG.freeze 3 501 _ _ 2 50 _ rfl rfl (aG.ic [(3,.d (.one (aN K)))] [] .nil (.cS .nil) ?_));refine ai.mk' (wX K (by omega) g) ?_;refine ai.mk' (s4 K (by omega) g) ?_;have D:eb K<K.length:=w6 K _ g;unfold bC;generalize eb K=q at*;refine ak.o ?_;refine fp.mk' [] (DS (K.drop q) (by rw[ZF];omega)) ⟨.nil,.cons (.d (dX.one (aD.pQ (by rw[ZF];omega) (λi b j f=>aD.of_eq (fb ?_ j))))) .nil,rfl,rfl,λ_=>rfl⟩ ?_;simp[List.getD,Zv];refine ak.o ?_;refine ak.mk (aS (by rw[ZF];omega)) ?_;refine ak.n ?_;refine Fin.one (aD.pQ (by rw[gS,ZF];omega) (λi b j f=>?_));have b:i<K.length:=(by rw[ZF]at b;omega);have y:=kl K q i (ZQ D) b;refine aD.bif (λh=>aD.of_eq (fb ?_ j)) (λh=>aD.of_eq (fb (i:=0+(i-(K.drop q).length)) ?_ j));rw[ZF]at h;rw[y,XL h];simp[List.getD,Zv];rw[ZF]at h|-;rw[y,iN,Ya]
def eS:LV->LV->Int
 |[],[]=>0
 |[],_::_=> -1
 |_::_,[]=>1
 |a::l,b::m=>if gl a b≠0 then gl a b else eS l m
variable {a:V2}
theorem ti {b:V2}:gl a b=0↔a=b:=by
 unfold gl;split
 ·next h=>
  rw[ib]at h;constructor;intro e;cases e;rintro rfl;omega
 ·split
  ·next h=>exact⟨λ_=>h,λ_=>rfl⟩
  ·next h=>exact⟨λe=>absurd e (by decide),λe=>absurd e h⟩
theorem No (a b:V2):gl a b<0\/a=b\/gl b a<0:=by
 simp only[rN,ib];by_cases e:a=b;exact .inr (.inl e);have:¬(a.x=b.x/\a.y=b.y):=λ⟨c,f⟩=>e (by cases a;cases b;simp_all);omega
theorem zD:∀l:LV,eS l l=0
 |[]=>rfl
 |a::l=>by have:gl a a=0:=ti.2 rfl;simp only[eS,this,ne_eq,not_true,aaa];exact zD l
theorem xB {b:V2} {l m:LV}:eS (a::l) (b::m)<0↔gl a b<0\/(a=b/\eS l m<0):=by
 simp only[eS];by_cases e:gl a b=0;rw[XG (by simp[e])];have this:=ti.1 e;have c:¬gl a b<0:=(by rw[e];decide);exact⟨λh=> .inr ⟨this,h⟩,λh=>h.elim (λk=>absurd k c) (λk=>k.2)⟩;rw[XL e];have:¬a=b:=λk=>e (ti.2 k);simp[this]
theorem FR {b c:V2} (f:gl a b<0) (h2:gl b c<0):gl a c<0:=by
 simp only[rN,ib]at*;omega
theorem ot:∀{x y z:LV},eS x y<0->eS y z<0->eS x z<0
 |[],[],_,g,_=>by simp[eS]at g
 |_,_::_,[],_,f=>by simp[eS]at f
 |[],_::_,_::_,_,_=>by simp[eS]
 |_::_,[],_,g,_=>by simp[eS]at g
 |a::x,b::y,c::z,g,f=>by rw[xB]at*;rcases g with g|⟨rfl,g⟩;rcases f with f|⟨rfl,f⟩;exact .inl (FR g f);exact .inl g;rcases f with f|⟨rfl,f⟩;exact .inl f;exact .inr ⟨rfl,ot g f⟩
theorem zB:∀x y:LV,eS x y<0\/x=y\/eS y x<0
 |[],[]=> .inr (.inl rfl)
 |[],_::_=> .inl (by simp[eS])
 |_::_,[]=> .inr (.inr (by simp[eS]))
 |a::x,b::y=>by simp only[xB];rcases No a b with h|rfl|h;exact .inl (.inl h);rcases zB x y with h|rfl|h;exact .inl (.inr ⟨rfl,h⟩);exact .inr (.inl rfl);exact .inr (.inr (.inr ⟨rfl,h⟩));exact .inr (.inr (.inl h))
theorem zC (n:Nat) (p:Nat->LV):nh n λi j=>eS (p i) (p j) where
 irrefl i _:=by rw[zD];omega
 trans i j k _ _ _:=ot
 ntrans i j k _ _ _ c b a:=by rcases zB (p i) (p j)with h|h|h;exact c h;rw[h]at a;exact b a;exact b (ot h a)
theorem Np (a b:LV) (y:a.length<=40000) (z:b.length<=40000):DP 97 [.one (aN a),.one (aN b),.one (.fn 92 0 λ_=> .v Go.undef)] (au (eS a b)):=by
 refine dg Tryz.func97 [] ?_;refine Loop.by (α:=Nat) (λk=>[(0,.d (.one (aN a))),(1,.d (.one (aN b))),(2,.d (.one (.fn 92 0 λ_=> .v Go.undef))),(11,.d (.one (aN a))),(12,au a.length),(13,au k)]) (λ_=>[]) (λk=>k<=a.length/\k<=b.length/\eS (a.drop k) (b.drop k)=eS a b) (λk=>a.length-k)
  (aG.at 0 ⟨XR _,XR _,rfl⟩ .nil (.cS (.cS (.cS (.cS (.cS (.cS .nil))))))) (λk h=>?_)
 obtain⟨h,A,c⟩:=h;apply af.mk<;>intro i
 ·have j:k<a.length:=(by have:=XA i;omega);have l:a.drop k=gt a k::a.drop (k+1):=(by rw[Y8 j];simp[List.getD,j]);refine ak.o ?_;apply af.mk<;>intro f
  ·have p:b.drop k=[]:=aaG (by have:=XA f;omega);rw[l,p]at c;exact Fin.int c
  ·have m:k<b.length:=(by have:=XB f;omega);have q:b.drop k=gt b k::b.drop (k+1):=(by rw[Y8 m];simp[List.getD,m]);rw[l,q]at c;simp only[eS]at c;refine ak.o ?_;refine ai.int (iz (gt a k) (gt b k)) (λx r=>?_);rw[<-r]at c;apply af.mk<;>intro o
   ·have g:x≠0:=(by simpa[bne]using o);rw[XL g]at c;exact Fin.int c
   ·have g:x=0:=(by simpa[bne]using o);rw[XG (by simp[g])]at c;exact aG.back (x:=k) (k+1) ⟨by omega,by omega,c⟩ (by omega) .nil (.cS (.cS (.cS (.cS (.cS (.cons (ar.int (by rw[hw _];omega)) .nil))))))
 ·have t:k=a.length:=(by have:=XB i;omega);subst t;rw[abL]at c;apply af.mk<;>intro f
  ·have u:a.length<b.length:=(by have:=XA f;omega);rw[Y8 u]at c;exact Fin.int c
  ·have w:b.length<=a.length:=(by have:=XB f;omega);rw[aaG w]at c;exact Fin.int c
theorem Km (a b:LV) (c:a.length<=40000) (f:b.length<=40000):DP 49 [.one (aN a),.one (aN b)] (au (eS a b)):=by
 refine dg Tryz.func49 [] ?_;refine ai.int (Np a b c f) (λx g=>?_);exact Fin.int g
theorem Wu:Tryz.prog.underlying 3=some (.int .i64):=by kernel_rfl
theorem RA:Tryz.prog.underlying 83=some (.array 2 3):=by kernel_rfl
theorem Um (w:World):(sizeOf 3).run Tryz.prog w= .ok 1 w:=by
 obtain⟨i,z,a,b,_⟩:=Oo.info;simp[sizeOf,typeInfo,a];exact b
theorem Ve (b:Bool) (n:Nat) (x:Int) (w:World):(Instr.checkKey b (n+1) 3 (.int .i64 x)).run Tryz.prog w= .ok () w:=by
 simp[Instr.checkKey,underlying,Wu]
theorem Q2 (cs:Array Value) (i:Nat) (v:Value) (h:cs[i]? =some v) (w:World):(part 3 cs i).run Tryz.prog w= .ok v w:=by
 simp[part,isAgg,underlying,Wu,h]
theorem Q1 (x y:Int) (w:World):(part 3 #[.int .i64 x,.int .i64 y] 0).run Tryz.prog w= .ok (.int .i64 x) w:=Q2 _ 0 _ rfl w
theorem Q0 (x y:Int) (w:World):(part 3 #[.int .i64 x,.int .i64 y] 1).run Tryz.prog w= .ok (.int .i64 y) w:=Q2 _ 1 _ rfl w
theorem U6 (n:Nat) (x y:Int) (w:World):(Op.equalIn (n+1) 3 (.int .i64 x) (.int .i64 y)).run Tryz.prog w= .ok (x==y) w:=by
 rw[Op.equalIn];simp[underlying,Wu]
theorem A1:NY Tryz.prog 103 where
 h:=by
  refine⟨83,4,2,3,by kernel_rfl,RA,λw=>?_,λx y b w=>?_,λx y f g w=>?_⟩;obtain⟨i,z,c,_⟩:=Ud.info;have a:(Tryz.prog.info? 4).bind (·.zero)=some (.bool false):=(by kernel_rfl);rw[c]at a;have a:i.zero=some (.bool false):=a;simp[zeroValue,typeInfo,c,a];show(Instr.checkKey b (9998+2) 83 _).run _ _=_;generalize 9998=n;rw[show n+2=(n+1)+1 from rfl,Instr.checkKey];simp[qw,underlying,RA,List.range',Um,Q1,Q0,Ve]
  ·show(Op.equalIn (9998+2) 83 _ _).run _ _=_;generalize 9998=n;rw[show n+2=(n+1)+1 from rfl,Op.equalIn];by_cases c:x=f<;>by_cases a:y=g<;>
   simp[qw,underlying,RA,List.range',Um,Q1,Q0,U6,c,a]
def fZ (v:LV) (f:List Dt):LV:=f.map λd=>gt v d.1
def uq (v:LV) (fc:Dt->List Dt):List Dt->List Dt->List (LV)
 |[],_=>[]
 |d::S,a=>if d∈a then uq v fc S a else bC (ei (fZ v (fc d)) (fc d).length)::uq v fc S (a++fc d)
structure FcW (v:LV) (nb:Nat->List Nat) (S:List Dt) (fc:Dt->List Dt):Prop where
 pos:∀d∈S,0<(fc d).length
 hd:∀d∈S,bc (fc d) 0=d
 step:∀d∈S,∀i,i+1<(fc d).length->bc (fc d) (i+1)=nx nb (bc (fc d) i)
 last:∀d∈S,nx nb (bc (fc d) ((fc d).length-1))=d
 nd:∀d∈S,(fc d).Nodup
 sep:∀d∈S,∀e∈S,e∉fc d->∀x∈fc e,x∉fc d
 ok:∀d∈S,∀x∈fc d,x.1<v.length/\x.2<v.length/\x.1∈nb x.2/\(nb x.2).Nodup/\(nb x.2).length<=40000
 kept:∀d∈S,0<(ei (fZ v (fc d)) (fc d).length).length
 len:∀d∈S,(fc d).length<=10000
def Lt (l:List Dt):List (Int×Int):=l.map λd=>((d.1:Int),(d.2:Int))
theorem u7 {l:List Dt} {d:Dt}:((d.1:Int),(d.2:Int))∈Lt l↔d∈l:=by
 unfold Lt;rw[XS];constructor
 ·rintro⟨e,c,h⟩;have a:=XT Prod.fst h;have b:=XT Prod.snd h;simp only at a b;have:e=d:=aaz (by omega) (by omega)
  rwa [<-this]
 ·intro h;exact⟨d,h,rfl⟩
def QR (n:Nat) (a:List Nat) (D:List Dt):List Dt:=(List.range n).map (λp=>(p,a.getD p 0))++D.flatMap λd=>[d,iM d]
theorem MY (l:List Dt) (a b:Dt) (i j:Nat) (hi:i<l.length+2) (c:j<2):aD (bif Nat.blt i l.length then kT l i j else[i64 (a.1:Int),i64 (a.2:Int),i64 (b.1:Int),i64 (b.2:Int)].getD ((i-l.length)*2+j) (.v Go.undef)) (kT (l++[a,b]) i j):=by
 refine aD.bif (λh=>?_) (λh=>?_);have:bc (l++[a,b]) i=bc l i:=(by simp[List.getD,Yl,h]);refine aD.of_eq ?_;unfold kT;rw[this]
 ·obtain⟨k,rfl⟩:∃k,i=l.length+k:=⟨i-l.length,by omega⟩;have:bc (l++[a,b]) (l.length+k)=bc [a,b] k:=(by simp[List.getD,Zo]);refine aD.of_eq ?_;unfold kT;rw[this,Nat.add_sub_cancel_left];have:k<2:=by omega
  match k,j,this,c with
  |0,0,_,_=>rfl
  |0,1,_,_=>rfl
  |1,0,_,_=>rfl
  |1,1,_,_=>rfl
def IE (l:List (LV)):List (LV):=((List.range l.length).map (tH l.length λi j=>eS (l.getD i []) (l.getD j []))).map λi=>l.getD i []
theorem oE (l:List (LV)):(IE l).Perm l:=by
 refine((jl (zC l.length λi=>l.getD i [])).1.map λi=>l.getD i []).trans (abS ?_);apply Z7;simp;intro i b a;simp[List.getD,a]
theorem KA (l:List (LV)):(IE l).length=l.length:=by simp[IE]
theorem vK (v:LV) (fc:Dt->List Dt):∀(S dn:List Dt),(∀d∈S,(fc d).length<=10000)->∀r∈uq v fc S dn,r.length<=10000
 |[],_,_,r,h=>by cases h
 |d::S,dn,hS,r,h=>by simp only[uq]at h;split at h;exact vK v fc S dn (λe a=>hS e (by simp[a])) r h;rcases XD.1 h with k|k;rw[k,bC,gS];exact Yg (pa _ _) (hS d (by simp));exact vK v fc S _ (λe a=>hS e (by simp[a])) r k
set_option maxRecDepth 2000 in
theorem EZ {o:LV} {hs:List (LV)} (V:VS o hs) {v:LV} {nb:Nat->List Nat} {b:List Nat} {D:List Dt} (b6:DP 45 [iO o hs] (.eD [.one (.ad 3 (MH v nb (nS b))),.one (.sl D.length 2 (kT D))]))
  (f3:b.length=v.length) (f4:v.length<=80) (f5:D.length<=6400) {fc:Dt->List Dt} (F:FcW v nb (QR b.length b D) fc):
  DP 19 [iO o hs] (.eD [.one (hS (IE (uq v fc (QR b.length b D) []))),.one (i64 0)]):=by
 refine dg Tryz.func19 [9000058,9000068,9500077,9000102,30] ?_;refine ai.mk' (iZ V) ?_;repeat' first|apply af.t|apply af.f
 refine ai.mk' b6 ?_;refine Loop.by (α:=Nat) (λi=>[(4,.d (.one (.ad 3 (MH v nb (nS b))))),(5,.d (.one (.sl D.length 2 (kT D)))),(6,.aJ 501 0),(28,.d (.one (nS b))),(29,au b.length),(30,au i)]) (λi=>[(501,.aL 0 i 2 83 (kT ((List.range i).map λp=>(p,b.getD p 0))))]) (λi=>i<=b.length) (λi=>b.length-i)
  (aG.nil 6 501 2 83 (kT []) rfl rfl (aG.at 0 (XR _) (.cons (.aR rfl (λi m=>absurd m (XO i))) .nil) (.cS (.cS (.cH (.cS (.cS (.cS .nil))))))))
  (λi m=>?_)
 apply af.mk<;>intro Y
 ·have Z:i<b.length:=(by have:=XA Y;omega);have b7:(List.range (i+1)).map (λp=>(p,b.getD p 0))=(List.range i).map (λp=>(p,b.getD p 0))++[(i,b.getD i 0)]:=(by rw[ZL,YB];rfl);have a0:i=((List.range i).map λp=>((p,b.getD p 0):Dt)).length:=(by simp);refine ak.o ?_;refine ak.mk (aS) ?_;refine aG.back (x:=i) (i+1) (by show i+1<=_;omega) (by omega) (.cons (.aR rfl (λa E j t=>?_)) .nil) (.cS (.cS (.cH (.cS (.cS (.cons (ar.int (by rw[hw _];omega)) .nil))))));rw[b7];have:=oi ((List.range i).map λp=>((p,b.getD p 0):Dt)) (i,b.getD i 0) a j (by rw[<-a0];exact E) t;rw[<-a0]at this;exact this
 have b8:i=b.length:=by have:=XB Y;omega
 subst b8;obtain⟨G,N⟩:∃G,G=(List.range b.length).map λp=>((p,b.getD p 0):Dt):=⟨_,rfl⟩;have O:G.length=b.length:=by rw[N];simp
 have a1:QR b.length b D=G++D.flatMap λd=>[d,iM d]:=by rw[N];rfl
 have b9:∀i,(D.take i).length=min i D.length:=λi=>Yj;have a2:∀l:List Dt,(l.flatMap λd=>[d,iM d]).length=2*l.length:=λl=>by
  induction l with
  |nil=>rfl
  |cons a l c0=>simp only[aar,XQ,c0,XV,Z2];omega
 rw[<-N];refine Loop.by (α:=Nat) (λi=>[(4,.d (.one (.ad 3 (MH v nb (nS b))))),(6,.aJ 501 0),(42,.d (.one (.sl D.length 2 (kT D)))),(43,au D.length),(44,au i)]) (λi=>[((10:Id),.none),(501,.aL 0 (G++(D.take i).flatMap λd=>[d,iM d]).length 2 83 (kT (G++(D.take i).flatMap λd=>[d,iM d])))]) (λi=>i<=D.length) (λi=>D.length-i)
  (aG.at 0 (XR _) (.none (.cons (.aR (by simp[O]) (λi m j t=>by rw[aas,List.flatMap_nil,Y4];exact aD.refl _)) .nil)) (.cS (.cH (.cS (.cS (.cS .nil))))))
  (λi m=>?_)
 apply af.mk<;>intro a3
 ·have Z:i<D.length:=(by have:=XA a3;omega);obtain⟨d,B⟩:∃d,d=bc D (i:Int).toNat:=⟨_,rfl⟩;have a4:(D.take (i+1)).flatMap (λd=>[d,iM d])=(D.take i).flatMap (λd=>[d,iM d])++[d,iM d]:=(by rw[YL,aaT,B];simp[List.getD,Z]);have f6:(G++(D.take i).flatMap λd=>[d,iM d]).length<=20000:=(by rw[XQ,a2,b9,O];omega);refine ak.o ?_;refine ak.mk (by decide) ?_;refine ak.mk (by decide) ?_;refine ak.mk (aS) ?_;refine aG.back (x:=i) (i+1) (by show i+1<=_;omega) (by omega) (.none (.cons (.aR (by rw[a4,<-Yk];exact(XQ (bs:=[d,iM d])).symm) (λa E j t=>?_)) .nil)) (.cS (.cH (.cS (.cS (.cons (ar.int (by rw[hw _];omega)) .nil)))));rw[a4,<-Yk,B];exact MY _ (bc D (i:Int).toNat) (iM (bc D (i:Int).toNat)) a j E t
 have c1:i=D.length:=by have:=XB a3;omega
 subst c1;rw[YX,<-a1];have f7:(QR b.length b D).length<=13000:=by rw[a1,XQ,a2,O];omega
 generalize QR b.length b D=S at*;refine BN.mk' (A2 rfl rfl rfl) ?_;refine Loop.by (α:=Nat×List Dt×List (LV)) (λx=>[(4,.d (.one (.ad 3 (MH v nb (nS b))))),(11,.ptr 58 0),(12,.aJ 502 0),(59,.aJ 501 0),(60,au S.length),(61,au x.1)]) (λx=>[((14:Id),.none),(16,.none),(58,.map (JX (Lt x.2.1))),(501,.aL 0 S.length 2 83 (kT S)),(502,.aL 0 x.2.2.length 1 42 λi _=>aN (x.2.2.getD i []))])
  (λx=>x.1<=S.length/\x.2.2.length<=x.1/\x.2.2++uq v fc (S.drop x.1) x.2.1=uq v fc S []/\∀y∈x.2.1,∃e∈S,y∈fc e/\∀z∈fc e,z∈x.2.1) (λx=>S.length-x.1)
  (aG.nil 12 502 1 42 (λi _=>aN (([]:List (LV)).getD i [])) rfl rfl (aG.at (0,[],[]) ⟨XR _,XR _,rfl,λy P=>by cases P⟩ (.none (.none (.cons (.map _) (.cons (.aR rfl (λ_ _ _ _=>aD.refl _)) (.cons (.aR rfl (λ_ h=>absurd h (XO _))) .nil))))) (.cS (.cons (.ptr (by intro h;cases h)) (.cH (.cH (.cS (.cS .nil)))))))) (λx Q=>?_)
 obtain⟨s,q,c⟩:=x;obtain⟨c2,c3,w,H⟩:=Q;simp only at c2 c3 w H;apply af.mk<;>intro a5
 ·have R:s<S.length:=(by have:=XA a5;simp only at this;omega);obtain⟨d,B⟩:∃d,d=bc S (s:Int).toNat:=⟨_,rfl⟩;have a6:d=S[s]:=(by rw[B];simp[List.getD,R]);have A:d∈S:=(by rw[a6];exact Zy R);have c4:S.drop s=d::S.drop (s+1):=(by rw[Y8 R,a6]);rw[c4]at w;refine ak.mk (by show 0<=(s:Int)/\(s:Int)<S.length;omega) ?_;by_cases I:d∈q
  ·simp only[uq,XL I]at w;refine Loop.vH 1 ?_;refine BN.mk' (tR A1 (ks:=Lt q) (u:=(d.1:Int)) (v:=(d.2:Int)) rfl rfl rfl (by rw[B];rfl)) ?_;refine af.gF (X4 (u7.2 I)) ?_;repeat' first|apply af.t|apply af.f
   exact aG.back (x:=(s,q,c)) (s+1,q,c) ⟨by show s+1<=_;omega,by show c.length<=s+1;omega,w,H⟩ (by show S.length-(s+1)<S.length-s;omega) (.none (.none (.cons (.map _) (.cons (.aR rfl (λ_ _ _ _=>aD.refl _)) (.cons (.aR rfl (λ_ _ _ _=>aD.refl _)) .nil))))) (.cS (.cons (.ptr (by intro h;cases h)) (.cH (.cH (.cS (.cons (ar.int (by show IntKind.i64.wrap ((s:Int)+1)=_;rw[hw _];show(s:Int)+1=((s+1:Nat):Int);omega)) .nil))))))
  ·simp only[uq,XG I]at w;have T:=F.pos d A;have a7:=F.hd d A;have c5:=F.step d A;have c6:=F.last d A;have c7:=F.nd d A;have c8:=F.ok d A;have c9:=F.kept d A;have f8:=F.len d A;have d0:∀x∈fc d,x∉q:=λx Q d1=>by obtain⟨e,d2,d3,d4⟩:=H x d1;have:d∉fc e:=λk=>I (d4 d k);exact F.sep e d2 d A this x Q d3
   generalize a8:fc d=f at*;have U:(fZ v f).length=f.length:=(by simp[fZ]);obtain⟨g,J⟩:∃g:Nat->Dt,g=λi=>if i<f.length then bc f i else d:=⟨_,rfl⟩;have d5:g 0=d:=(by rw[J];simp only;rw[XL T,a7]);have X:∀i,i<f.length->g i=bc f i:=λi m=>by rw[J];simp only;rw[XL m]
   have a9:g f.length=d:=(by rw[J];simp only;rw[XG (ZO _)]);have b0:∀i,i<f.length->g (i+1)=nx nb (g i):=λi m=>by rw[X i m];by_cases h:i+1<f.length;rw[X _ h];exact c5 i h;have:i=f.length-1:=(by omega);rw[show i+1=f.length by omega,a9,this];exact c6.symm
   clear J;refine Loop.by (α:=Nat) (λi=>[(4,.d (.one (.ad 3 (MH v nb (nS b))))),(11,.ptr 58 0),(12,.aJ 502 0),(15,.aJ 503 0),(16,.ptr 16 0),(59,.aJ 501 0),(60,au S.length),(61,au s)]) (λi=>[((14:Id),.none),(16,.box [i64 ((g i).1:Int),i64 ((g i).2:Int)]),(58,.map (JX (Lt (q++f.take i)))),(501,.aL 0 S.length 2 83 (kT S)),(502,.aL 0 c.length 1 42 λi _=>aN (c.getD i [])),(503,.aL 0 i 2 50 (vG (fZ v f)))]) (λi=>i<=f.length) (λi=>f.length-i)
    (aG.nil 15 503 2 50 (vG (fZ v f)) rfl rfl (aG.at 0 (XR _) (.none (.cons (.box (iy.of_eq (by rw[d5,B]))) (.cons (by rw[aas,Y4];exact .map _) (.cons (.aR rfl (λ_ _ _ _=>aD.refl _)) (.cons (.aR rfl (λ_ _ _ _=>aD.refl _)) (.cons (.aR rfl (λ_ h=>absurd h (XO _))) .nil)))))) (.cS (.cons (.ptr (by intro h;cases h)) (.cH (.cH (.cB (.cH (.cS (.cS .nil)))))))))) (λi m=>?_)
   refine BN.mk' (tR A1 (ks:=Lt (q++f.take i)) (u:=((g i).1:Int)) (v:=((g i).2:Int)) rfl rfl rfl rfl) ?_;by_cases C:i<f.length
   ·have K:=X i C;have b1:g i∉q++f.take i:=λh=>by rw[K]at h;rcases XP.1 h with k|k;exact d0 _ (by simp[List.getD,C]) k;have d6:bc f i=f[i]:=(by simp[List.getD,C]);rw[d6]at k;obtain⟨j,t,b2⟩:=ZI k;rw[Yj]at t;rw[List.getElem_take]at b2;have:=(aba c7).1 b2;omega
    refine af.fh (XZ (λh=>b1 (u7.1 h))) ?_;obtain⟨f9,d7,d8,d9,e0⟩:=c8 (g i) (by rw[K];simp[List.getD,C]);have e1:f.take (i+1)=f.take i++[g i]:=(by rw[YL,K];simp[List.getD,C]);have e2:Lt (q++f.take (i+1))=Lt (q++f.take i)++[(((g i).1:Int),((g i).2:Int))]:=(by rw[e1,<-Yk];unfold Lt;rw[YB];rfl);refine BN.mk' (C5 A1 (ks:=Lt (q++f.take i)) (u:=((g i).1:Int)) (v:=((g i).2:Int)) rfl rfl rfl rfl (λh=>b1 (u7.1 h))) ?_;rw[<-e2];refine ak.mk (by decide) ?_;refine ak.o ?_;refine ak.mk (aS) ?_;refine ak.n ?_;refine ak.mk (by decide) ?_;refine ak.mk (by decide) ?_;refine ak.mk (by decide) ?_;refine ai.mk' (ug v nb (nS b) (g i).2 (g i).1 (by omega) d7 d8 d9 e0) ?_;refine ak.n ?_;have e3:((g (i+1)).1:Int)=((g i).2:Int):=(by rw[b0 i C];rfl);have e4:((g (i+1)).2:Int)=((bM (nb (g i).2) (g i).1:Nat):Int):=(by rw[b0 i C];rfl);refine Cut.mk (aG.ic [(4,.d (.one (.ad 3 (MH v nb (nS b))))),(11,.ptr 58 0),(12,.aJ 502 0),(15,.aJ 503 0),(59,.aJ 501 0),(60,au S.length),(61,au s),(99,.d (.agg [i64 ((g (i+1)).1:Int),i64 ((g (i+1)).2:Int)]))] [((14:Id),.none),(16,.none),(58,.map (JX (Lt (q++f.take (i+1))))),(501,.aL 0 S.length 2 83 (kT S)),(502,.aL 0 c.length 1 42 λi _=>aN (c.getD i [])),(503,.aL 0 (i+1) 2 50 (vG (fZ v f)))]
     (.none (.none (.cons (.map _) (.cons (.aR rfl (λ_ _ _ _=>aD.refl _)) (.cons (.aR rfl (λ_ _ _ _=>aD.refl _)) (.cons (.aR rfl (λa E j t=>?_)) .nil)))))) ?_ ?_)
    ·have b3:gt (fZ v f) i=gt v (g i).1:=(by rw[K];simp[fZ,List.getD,C]);refine aD.bif (λ_=>aD.refl _) (λh=>?_);obtain rfl:a=i:=(by omega);rw[Zb];refine aD.of_eq ?_
     match j,t with
     |0,_=>show i64 (gt v (g a).1).x=i64 (gt (fZ v f) a).x;rw[b3]
     |1,_=>show i64 (gt v (g a).1).y=i64 (gt (fZ v f) a).y;rw[b3]
    ·exact .cS (.cons (.ptr (by intro h;cases h)) (.cH (.cH (.cH (.cS (.cS (.cons (.data (dX.of_eq (by rw[e3,e4]))) .nil)))))))
    ·exact aG.back (x:=i) (i+1) (by show i+1<=_;omega) (by omega) (.none (.cX (.cons (.map _) (.cons (.aR rfl (λ_ _ _ _=>aD.refl _)) (.cons (.aR rfl (λ_ _ _ _=>aD.refl _)) (.cons (.aR rfl (λ_ _ _ _=>aD.refl _)) .nil)))))) (.cS (.cons (.ptr (by intro h;cases h)) (.cH (.cH (.cB (.cH (.cS (.cS .nil))))))))
   ·have e5:i=f.length:=(by omega);subst e5;have e6:d∈f:=(by have:bc f 0=f[0]:=(by simp[List.getD,T]);rw[<-a7,this];exact Zy T);have e7:g f.length∈q++f.take f.length:=(by rw[a9,YX];exact X1 _ e6);refine af.gF (X4 (u7.2 e7)) ?_;refine af.gF (X4 (by omega)) ?_;refine ai.mk' ((DL (fZ v f) (by omega) (by rw[U];exact c9)).le (.cons (.one (aD.pQ U.symm (λ_ _ _ _=>aD.refl _))) .nil)) ?_;refine ak.mk (aS (by show c.length+1<=_;omega)) ?_;rw[U];refine aG.back (x:=(s,q,c)) (s+1,q++f,c++[bC (ei (fZ v f) f.length)]) ⟨by show s+1<=_;omega,by show(c++[_]).length<=s+1;rw[XQ];show c.length+1<=s+1;omega,by show(c++[_])++_=_;rw[Yk];exact w,λy P=>?_⟩ (by show S.length-(s+1)<S.length-s;omega)
     (.none (.none (.cons (by rw[YX];exact .map _) (.cons (.aR rfl (λ_ _ _ _=>aD.refl _)) (.cons (.aR (by rw[XQ];rfl) (λa E j t=>?_)) .nil))))) (.cS (.cons (.ptr (by intro h;cases h)) (.cH (.cH (.cS (.cons (ar.int (by show IntKind.i64.wrap ((s:Int)+1)=_;rw[hw _];show(s:Int)+1=((s+1:Nat):Int);omega)) .nil))))))
    ·rcases XP.1 P with k|k;obtain⟨e,e8,e9,f0⟩:=H y k;exact⟨e,e8,e9,λz M=>X7 _ (f0 z M)⟩;exact⟨d,A,by rw[a8];exact k,λz M=>X1 _ (by rw[a8]at M;exact M)⟩
    ·obtain rfl:j=0:=(by omega);refine aD.bif (λh=>aD.of_eq ?_) (λh=>?_);show aN (c.getD a [])=aN ((c++[_]).getD a []);rw[List.getD,List.getD,Zq h];have h:c.length<=a:=h;have E:a<c.length+1:=E;obtain rfl:a=c.length:=(by omega);refine aD.of_eq ?_;show[aN (bC (ei (fZ v f) f.length))].getD ((c.length-c.length)*1+0) _=aN ((c++[_]).getD c.length []);rw[Zb,List.getD,List.getD,Zo (XU _),Zb];rfl
 ·have f1:s=S.length:=(by have:=XB a5;simp only at this;omega);subst f1;rw[abL]at w;have w:c=uq v fc S []:=(by rw[<-w];exact(Y4 _).symm);have b4:=λr f2=>vK v fc S [] (λd B=>F.len d B) r f2;rw[<-w]at b4|-;have b5:∀i,i<c.length->(c.getD i []).length<=40000:=λi m=>Yg (b4 _ (by simp[List.getD,m])) (by decide);refine BN.mk' (so (cv:= .s (.fn 49 0 λ_=> .v Go.undef)) (ks:=[]) (cf:=λi j=>eS (c.getD i []) (c.getD j [])) rfl rfl rfl QT rfl (enters_of Tryz.func48 rfl) rfl rfl rfl rfl (.s _) (by simp) (zC c.length λi=>c.getD i []) (by show c.length<=_;omega) (λi j m t=>Km _ _ (b5 i m) (b5 j t))) ?_;refine Fin.eD (.cons (.one (aD.pQ (by rw[KA]) (λi m j t=>aD.of_eq ?_))) (.cR .nil));have m:i<c.length:=m;show aN (c.getD _ [])=aN ((IE c).getD i []);simp[IE,List.getD,m]
theorem ly (l:LV) (i:Nat) (b:0<l.length:=by omega) (hi:i<=40000:=by omega) (c:l.length<=40000:=by omega):DP 109 [.one (aN l),.one (i64 i)] (.d (vD (bA l i))):=by
 refine dg Tryz.func109 [] ?_;have e:=nN i 1;have a:=kg (i+1) l.length;refine ak.o ?_;refine ak.mk (by rw[show(1:Int)=(1:Nat) from rfl,e];exact a) ?_;refine Fin.eq ?_;show TV.d (vD (gt l (Int.toNat ((IntKind.i64.wrap ((i:Int)+(1:Nat))).tmod l.length))))=_;rw[e,kf];rfl
theorem qq (d:V2):DP 176 [vD d] (aE (cw d)):=by
 refine dg Tryz.func176 [] ?_;have f:cw d=true↔0<d.y\/(d.y=0/\0<d.x):=by unfold cw;rw[X0];exact ZB
 have g:(0<d.y\/(d.y=0/\0<d.x))->cw d=true:=f.2;have i:¬(0<d.y\/(d.y=0/\0<d.x))->cw d=false:=λh=>by
  cases l:cw d with
  |false=>rfl
  |true=>exact absurd (f.1 l) h
 apply af.mk<;>intro a
 ·have j:0<d.y:=XA a;repeat' first|apply af.is a|apply af.t|apply af.f
  exact Fin.bool (g (.inl j)).symm
 ·have j:¬0<d.y:=XB a;repeat' first|apply af.is a|apply af.t|apply af.f
  apply af.mk<;>intro b
  ·have k:d.y=0:=(by simpa using b);repeat' first|apply af.is b|apply af.is a|apply af.t|apply af.f
   refine Fin.bool ?_;by_cases c:0<d.x;rw[g (.inr ⟨k,c⟩)];exact X4 c;rw[i (by omega)];exact XZ c
  ·have k:¬d.y=0:=(by simpa using b);repeat' first|apply af.is b|apply af.is a|apply af.t|apply af.f
   exact Fin.bool (i (by omega)).symm
def pT (l:LV):Bool:=bn l.length λi=>aY (gt l i) 8000
theorem Pk (v:V2):DP 215 [vD v] (aE (!aY v 8000)):=by
 refine dg Tryz.func215 [] ?_;refine ai.bool (ea v 8000) (λb a=>?_);exact Fin.bool (by rw[a])
theorem y8 (l:LV) (a:l.length<=40000:=by omega):DP 175 [.one (aN l)] (aE (pT l)):=by
 refine dg Tryz.func175 [] ?_;refine ai.mk' (vu l 215 0 (λ_=> .v Go.undef) (λk=>!aY (gt l k) 8000) a (λk b=>Pk (gt l k))) ?_;exact Fin.bool (by unfold pT;simp)
def QP (l:LV):Nat->Nat
 |0=>0
 |k+1=>QP l k+if(!cw (cW (bA l k) (gt l k))&&cw (cW (bA l (k+1)) (bA l k)))=true then 1 else 0
theorem Ko (l:LV):∀k,QP l k<=k
 |0=>XU 0
 |k+1=>by have:=Ko l k;simp only[QP];split<;>omega
structure MV (l:LV):Prop where
 three:3<=l.length
 kK:l.length<=160
 eX:pT l=true
 left:∀i,i<l.length->0<eJ (cW (bA l i) (gt l i)) (cW (bA l (i+1)) (bA l i))
 one:QP l l.length=1
theorem mu {l:LV} (h:MV l):DP 104 [.one (aN l)] (aE true):=by
 refine dg Tryz.func104 [] ?_;have y:=h.three;have z:=h.kK;have f:decide ((l.length:Int)<3)=false:=dF;have g:decide ((l.length:Int)>160)=false:=dF;repeat' first|apply af.fh f|apply af.fh g|apply af.t|apply af.f
 refine ai.mk' (lY.vt (y8 l) true h.eX) ?_;repeat' first|apply af.fh f|apply af.fh g|apply af.t|apply af.f
 refine Loop.by (α:=Nat) (λi=>[(0,.d (.one (aN l))),(3,au (QP l i:Nat)),(21,.d (.one (aN l))),(22,au l.length),(23,au i)]) (λ_=>[((5:Id),.none),(6,.none),(7,.none)]) (λi=>i<=l.length) (λi=>l.length-i)
  (aG.at 0 (XR _) (.none (.none (.none .nil))) (.cS (.cS (.cS (.cS (.cS .nil)))))) (λi A=>?_)
 apply af.mk<;>intro j
 ·have o:i<l.length:=(by have:=XA j;omega);have B:=Ko l i;refine ak.o ?_;refine ai.mk' (ly l i) ?_;refine ai.v (ca (bA l i) (gt l i)) (λa k=>?_);refine ai.mk' ((ly l (i+1)).le (.cR (.cons (dX.of_eq (by rw[hw _];rfl)) .nil))) ?_;refine ai.mk' (ly l i) ?_;refine ai.v (ca (bA l (i+1)) (bA l i)) (λb m=>?_);refine ak.n ?_;have p:=h.left i o;have c:QP l (i+1)=QP l i+if(!cw a&&cw b)=true then 1 else 0:=(by rw[k,m];rfl);rw[<-k,<-m]at p;refine ai.int (dH a b) (λx C=>?_);refine af.fh (dF) ?_;refine ai.bool (qq a) (λu q=>?_);rw[<-q]at c;cases u with
  |true=>
   repeat' first|apply af.t|apply af.f
   exact aG.back (x:=i) (i+1) (by show i+1<=_;omega) (by omega) (.none (.none (.none .nil))) (.cS (.cons (ar.int (by rw[c];rfl)) (.cS (.cS (.cons (ar.int (by rw[hw _];omega)) .nil)))))
  |false=>
   repeat' first|apply af.t|apply af.f
   refine ai.bool (qq b) (λw r=>?_);rw[<-r]at c;cases w with
   |true=>
    repeat' first|apply af.t|apply af.f
    exact aG.back (x:=i) (i+1) (by show i+1<=_;omega) (by omega) (.none (.none (.none .nil))) (.cS (.cons (ar.int (by rw[c,hw _];simp)) (.cS (.cS (.cons (ar.int (by rw[hw _];omega)) .nil)))))
   |false=>
    repeat' first|apply af.t|apply af.f
    exact aG.back (x:=i) (i+1) (by show i+1<=_;omega) (by omega) (.none (.none (.none .nil))) (.cS (.cons (ar.int (by rw[c];rfl)) (.cS (.cS (.cons (ar.int (by rw[hw _];omega)) .nil)))))
 ·have t:i=l.length:=(by have:=XB j;omega);subst t;exact Fin.bool (by rw[h.one];rfl)
theorem qu (l:LV) (c:l.length<=40000:=by omega) (b:0<l.length:=by omega):DP 106 [.one (aN l)] (.d (.one (aN (bC l)))):=by
 refine dg Tryz.func106 [] ?_;have k:eb l<l.length:=w6 l _ b;refine ai.v (wX l c b) (λv g=>?_);subst g;refine ai.int (s4 l c b) (λn h=>?_);subst h;refine ak.o ?_;refine ak.o ?_;refine ai.mk' (qC (l.length-eb l) (eb l-0) _ _ _ (by omega) (by omega) rfl rfl) ?_;refine ak.n ?_;refine Fin.one ?_;refine aD.pQ (by simp only[bC,gS];omega) (λi m j o=>aD.of_eq ?_);have f:i<l.length:=by omega
 by_cases a:i<l.length-eb l;rw[hp a,ZD];refine fb ?_ j;rw[bC,kl _ _ _ (by omega) f,XL a];rfl;rw[ht a,ZG];refine fb ?_ j;rw[bC,kl _ _ _ (by omega) f,XG a,Ya]
def kM (l:LV) (k:Nat):LV:=(List.range k).map λi=>cW (bA l i) (gt l i)
theorem zv (l:LV) (k:Nat):kM l (k+1)=kM l k++[cW (bA l k) (gt l k)]:=by
 unfold kM;rw[ZL,YB];rfl
theorem xp (l:LV) (k:Nat):(kM l k).length=k:=by simp[kM]
theorem za (l:LV) (m:l.length<=10000:=by omega):lT Tryz.prog 178 [.d (.one (aN l))] [] (.aJ (.n 3000) 0) [] (.aL 0 (kM l l.length).length 2 50 (vG (kM l l.length))):=by
 refine cF je mixed Tryz.func178 rfl rfl [] (XI rfl) (XI rfl) (fe rfl) ?_;refine Loop.by (α:=Nat) (λi=>[(0,.d (.one (aN l))),(3,.aJ 501 0),(6,.d (.one (aN l))),(7,au l.length),(8,au i)]) (λi=>[((5:Id),.none),(501,.aL 0 (kM l i).length 2 50 (vG (kM l i)))]) (λi=>i<=l.length) (λi=>l.length-i)
  (aG.nil 3 501 2 50 (vG []) rfl rfl (aG.at 0 (XR _) (.none (.cons (.aR rfl (λi b=>absurd b (XO i))) .nil)) (.cS (.cH (.cS (.cS (.cS .nil)))))))
  (λi b=>?_)
 apply af.mk<;>intro c
 ·have o:i<l.length:=(by have:=XA c;omega);refine ak.o ?_;refine ai.mk' (ly l i) ?_;refine ai.mk' (ca (bA l i) (gt l i)) ?_;refine ak.mk (aS (by rw[xp];omega)) ?_;refine ak.n ?_;exact aG.back (x:=i) (i+1) (by show i+1<=_;omega) (by omega) (.none (.cons (.aR (by rw[zv,XQ];rfl) (λa f j g=>by rw[zv];exact gP _ (cW (bA l i) (gt l i)) a j f g)) .nil)) (.cS (.cH (.cS (.cS (.cons (ar.int (by rw[hw _];omega)) .nil)))))
 ·have k:i=l.length:=(by have:=XB c;omega);subst k;exact ke.mk ⟨.n 501,.one (.aJ rfl rfl rfl),.nil _,.inr ⟨.aL (λh=>absurd h (by decide)) (λ_ _ _ _=>aD.refl _),rfl⟩⟩
def UK (l:LV) (p:V2):Nat->Int
 |0=>2
 |k+1=>if ct (gt l k) (bA l k) p=0 then 1 else UK l p k
def UJ (l:LV) (p:V2):Int:=if aY p 8000=false then 0 else if(bn l.length λi=>!decide (ct (gt l i) (bA l i) p= -1))=false then 0 else UK l p l.length
theorem Fk {l:LV} (h:MV l) (p:V2):DP 58 [.one (aN l),vD p] (au (UJ l p)):=by
 refine dg Tryz.func58 [] ?_;have F:=h.three;have G:=h.kK;refine ai.bool (ea p 8000) (λb A=>?_);unfold UJ;rw[<-A];apply af.mk<;>intro k
 ·have B:b=false:=(by simpa using k);exact Fin.int (by rw[XL B])
 have C:¬b=false:=by have:b=true:=(by simpa using k);rw[this];decide
 rw[XG C];have m:∀i,ct (gt l i) (bA l i) p=ct (gt l i) (bA l i) p:=λ_=>rfl;refine Loop.by (α:=Nat) (λi=>[(0,.d (.one (aN l))),(3,.ptr 3 0),(5,au (UK l p i)),(11,.d (.one (aN l))),(12,au l.length),(13,au i)]) (λ_=>[(3,.box (vL p)),((7:Id),.none)]) (λi=>i<=l.length/\∀j,j<i->(!decide (ct (gt l j) (bA l j) p= -1))=true) (λi=>l.length-i)
  (aG.at 0 ⟨XR _,λ_ h=>absurd h (XO _)⟩ (.cX (.none .nil)) (.cS (.cB (.cS (.cS (.cS (.cS .nil))))))) (λi o=>?_)
 obtain⟨o,r⟩:=o;apply af.mk<;>intro u
 ·have D:i<l.length:=(by have:=XA u;omega);refine ak.o ?_;refine ai.mk' (ly l i) ?_;have a:UK l p (i+1)=if ct (gt l i) (bA l i) p=0 then 1 else UK l p i:=rfl;have w:ct (gt l i) (bA l i) p= -1->(bn l.length λi=>!decide (ct (gt l i) (bA l i) p= -1))=false:=λe=>bD i D (by rw[X4 e];rfl);have f:¬ct (gt l i) (bA l i) p= -1->∀j,j<i+1->(!decide (ct (gt l j) (bA l j) p= -1))=true:=λe j H=>by by_cases q:j=i;rw[q,XZ e];rfl;exact r j (by omega)
  refine ai.int (eW (gt l i) (bA l i) p) (λt m=>?_);refine ak.n ?_;rw[<-m]at a w f;apply af.mk<;>intro y
  ·have c:t= -1:=(by simpa using y);exact Fin.int (by rw[XL (w c)])
  ·have c:¬t= -1:=(by simpa using y);apply af.mk<;>intro z
   ·have g:t=0:=(by simpa using z);rw[XL g]at a;exact aG.back (x:=i) (i+1) ⟨by omega,f c⟩ (by omega) (.cX (.none .nil)) (.cS (.cB (.cons (ar.int a.symm) (.cS (.cS (.cons (ar.int (by rw[hw _];omega)) .nil))))))
   ·have g:¬t=0:=(by simpa using z);rw[XG g]at a;exact aG.back (x:=i) (i+1) ⟨by omega,f c⟩ (by omega) (.cX (.none .nil)) (.cS (.cB (.cons (ar.int a.symm) (.cS (.cS (.cons (ar.int (by rw[hw _];omega)) .nil))))))
 ·have E:i=l.length:=(by have:=XB u;omega);subst E;refine ai.mk' (mu h) ?_;repeat' first|apply af.t|apply af.f
  exact Fin.int (by rw[XG (by rw[aF.2 r];decide)])
def LK (d:V2):V2:=⟨bW (0-d.x),bW (0-d.y)⟩
theorem J8 (d:V2):DP 105 [vD d] (.d (vD (LK d))):=by
 refine dg Tryz.func105 [] ?_;repeat' first|refine ak.n ?_|fail
 exact Fin.rfl'
theorem LX {l:LV} (h:MV l):DP 54 [.one (aN l)] (.eD [.one (aN (bC (l.map LK))),.one (i64 0)]):=by
 refine dg Tryz.func54 [] ?_;have p:=h.three;have q:=h.kK;refine ai.mk' (mu h) ?_;repeat' first|apply af.t|apply af.f
 refine Loop.by (α:=Nat) (λi=>[(4,.aJ 501 0),(10,.d (.one (aN l))),(11,au l.length),(12,au i)]) (λi=>[((6:Id),.none),(501,.aL 0 ((l.take i).map LK).length 2 50 (vG ((l.take i).map LK)))]) (λi=>i<=l.length) (λi=>l.length-i)
  (aG.nil 4 501 2 50 (vG []) rfl rfl (aG.at 0 (XR _) (.none (.cons (.aR rfl (λi b=>absurd b (XO i))) .nil)) (.cH (.cS (.cS (.cS .nil))))))
  (λi b=>?_)
 apply af.mk<;>intro c
 ·have g:i<l.length:=(by have:=XA c;omega);have f:(l.take (i+1)).map LK=(l.take i).map LK++[LK (gt l i)]:=(by rw[YL,YB];simp[List.getD,g]);refine ak.o ?_;refine ai.mk' (J8 (gt l i)) ?_;refine ak.mk (aS (by rw[Yy,Yj];omega)) ?_;exact aG.back (x:=i) (i+1) (by show i+1<=_;omega) (by omega) (.none (.cons (.aR (by rw[f,XQ];rfl) (λa k j m=>by rw[f];exact gP _ (LK (gt l i)) a j k m)) .nil)) (.cH (.cS (.cS (.cons (ar.int (by rw[hw _];omega)) .nil))))
 ·have o:i=l.length:=(by have:=XB c;omega);subst o;rw[YX];have r:(l.map LK).length=l.length:=Yy ..;refine ai.mk' (qu (l.map LK)) ?_;exact Fin.rfl'
theorem Gw (d:V2):DP 179 [vD d] (au (Eo d)):=by
 refine dg Tryz.func179 [] ?_;refine ai.bool (qq d) (λu a=>?_);unfold Eo;rw[<-a];cases u with
 |true=>
  repeat' first|apply af.t|apply af.f
  exact Fin.int (by rw[XL rfl])
 |false=>
  repeat' first|apply af.t|apply af.f
  exact Fin.int (by rw[XG (by decide)])
def Rj (x y:V2):Int:=Sm (uL (Eo x) (Eo y)) (uL 0 (eJ x y))
abbrev Qg:Nat->SV:=λj=>[SV.ad 1 λj=>[SV.fn 179 0 λ_=> .v Go.undef].getD j (.v Go.undef)].getD j (.v Go.undef)
theorem OC (x y:V2):DP 181 [vD x,vD y,.one (Qg 0)] (au (Rj x y)):=by
 refine dg Tryz.func181 [] ?_;refine ai.int (Gw x) (λa f=>?_);refine ai.int (Gw y) (λb h=>?_);refine ai.int (mM a b) (λc i=>?_);refine ai.int (dH x y) (λd j=>?_);refine ai.int (mM 0 d) (λe k=>?_);refine ai.int (E3 c e _ rfl rfl) (λg l=>?_);refine ak.n ?_;exact Fin.int (by unfold Rj;rw[l,i,k,f,h,j])
def Ik (N:Nat) (a:LV->LV):Prop:=(∀l,(a l).length=l.length)/\∀l:LV,l.length<=N->lT Tryz.prog 180 [.aJ (.n 2000) 1,.d (.one (.fn 181 1 Qg))] [.aL 1 l.length 2 50 (vG l)] (.eD []) [.aL 1 l.length 2 50 (vG (a l))] .none
def Ob (p:V2) (S:LV):Nat->V2
 |0=>p
 |k+1=>mO (Ob p S k) (gt S k)
def Gv (p:V2) (S:LV):Nat->LV
 |0=>[]
 |k+1=>if k=0\/eJ (gt S (k-1)) (gt S k)≠0 then Gv p S k++[Ob p S k]else Gv p S k
theorem As (p:V2) (S:LV):∀k,(Gv p S k).length<=k
 |0=>XU 0
 |k+1=>by have:=As p S k;simp only[Gv];split;simp;omega;omega
def WA (c:LV->LV) (a b:LV):LV:=c (kM (bC a) (bC a).length++kM (bC b) (bC b).length)
def x8 (c:LV->LV) (a b:LV):LV:=Gv (mO (gt (bC a) 0) (gt (bC b) 0)) (WA c a b) (WA c a b).length
theorem Fl {m:Id->Mem} {c:Id->Id} {g n a k:Nat} {e:TypeId} {get b:Nat->Nat->SV} (f:n=a) (h:∀i,i<n->∀j,j<k->aD (get i j) (b i j)):kd m c (.aL g n k e get) (.aL 1 a k e b):=by
 subst f;exact .aL h
structure NV (N:Nat) (ss:LV->LV) (a b:LV):Prop where
 zq:a.length+b.length<=N
 eX:pT (x8 ss a b)=true
 kK:(x8 ss a b).length<=160
variable {N:Nat}
theorem LQ {m:LV->LV} (u:Ik N m) {a b:LV} (o:MV a) (p:MV b) (q:NV N m a b):DP 107 [.one (aN a),.one (aN b)] (.eD [.one (aN (x8 m a b)),.one (i64 0)]):=by
 refine ig je mixed Tryz.func107 rfl rfl [178+2000000,180+2000000] (XI rfl) ?_;have J:=o.three;have K:=o.kK;have M:=p.three;have O:=p.kK;refine ai.mk' (mu o) ?_;repeat' first|apply af.t|apply af.f
 refine ai.mk' (mu p) ?_;repeat' first|apply af.t|apply af.f
 refine ai.mk' (qu a) ?_;refine ai.mk' (qu b) ?_;have P:(bC a).length=a.length:=by rw[bC,gS]
 have Q:(bC b).length=b.length:=by rw[bC,gS]
 have R:=q.zq;have C:=q.eX;have T:=q.kK;unfold x8 WA at*;generalize bC a=A at*;generalize bC b=B at*;refine fp.mk' [] (za A) ⟨.nil,.cD .nil,rfl,rfl,λ_=>rfl⟩ ?_;refine fp.mk' [] (za B) ⟨.nil,.cD .nil,rfl,rfl,λ_=>rfl⟩ ?_;have U:=xp A A.length;have V:=xp B B.length;refine ak.mk (aS) ?_;have D:(kM A A.length++kM B B.length).length=(kM A A.length).length+(kM B B.length).length:=XQ;refine fp.mk' [25] (u.2 (kM A A.length++kM B B.length) (by omega)) ⟨.cons (Fl D.symm (λi E j l=>vF)) .nil,.cH (.cD .nil),rfl,rfl,λh=>absurd rfl h⟩ ?_;have w:=u.1 (kM A A.length++kM B B.length);generalize m (kM A A.length++kM B B.length)=S at*;have X:S.length<=320:=by omega
 generalize F:mO (gt A 0) (gt B 0)=p0 at*;refine ak.o ?_;refine ak.o ?_;refine ai.mk' ((nn (gt A 0) (gt B 0)).eq (by rw[F])) ?_;refine ak.n ?_;refine Loop.by (α:=Nat) (λi=>[(6,.aJ 25 0),(8,.ptr 8 0),(9,.aJ 501 0),(39,.aJ 25 0),(40,au S.length),(41,au i)]) (λi=>[(8,.box (vL (Ob p0 S i))),((11:Id),.none),(25,.aL 0 S.length 2 50 (vG S)),(501,.aL 0 (Gv p0 S i).length 2 50 (vG (Gv p0 S i)))]) (λi=>i<=S.length) (λi=>S.length-i)
  (aG.nil 9 501 2 50 (vG []) rfl rfl (aG.at 0 (XR _) (.cX (.none (.cons (.aR w.symm (λ_ _ _ _=>aD.refl _)) (.cons (.aR rfl (λ_ h=>absurd h (XO _))) .nil)))) (.cH (.cB (.cH (.cH (.cons (ar.int (by rw[w])) (.cS .nil)))))))) (λi E=>?_)
 apply af.mk<;>intro y
 ·have Y:i<S.length:=(by have:=XA y;omega);have G:=As p0 S i;refine ak.o ?_;apply af.mk<;>intro f
  ·have r:i=0:=(by have:(i:Int)=0:=(by simpa using f);omega);repeat' first|apply af.is f|apply af.t|apply af.f
   refine ak.n ?_;repeat' first|apply af.is f|apply af.t|apply af.f
   have c:Gv p0 S (i+1)=Gv p0 S i++[Ob p0 S i]:=XL (.inl r);refine ak.mk (aS) ?_;refine ai.mk' (nn (Ob p0 S i) (gt S i)) ?_;exact aG.back (x:=i) (i+1) (by show i+1<=_;omega) (by omega) (.cX (.none (.cons (.aR rfl (λ_ _ _ _=>aD.refl _)) (.cons (.aR (by rw[c,XQ];rfl) (λx g j l=>by rw[c];exact gP _ (Ob p0 S i) x j g l)) .nil)))) (.cH (.cB (.cH (.cH (.cS (.cons (ar.int (by rw[hw _];omega)) .nil))))))
  ·have r:¬i=0:=(by have:¬(i:Int)=0:=(by simpa using f);omega);have H:IntKind.i64.wrap ((i:Int)-1)=((i-1:Nat):Int):=(by rw[hw _];omega);repeat' first|apply af.is f|apply af.t|apply af.f
   refine ak.o ?_;repeat' first|apply af.is f|apply af.t|apply af.f
   refine ai.int ((dH (gt S (i-1)) (gt S i)).le (.cons (dX.of_eq (by rw[H];rfl)) (.cR .nil))) (λx g=>?_);repeat' first|apply af.is f|apply af.t|apply af.f
   refine ak.n ?_;apply af.mk<;>intro z
   ·have t:x≠0:=(by simpa[bne]using z);have c:Gv p0 S (i+1)=Gv p0 S i++[Ob p0 S i]:=XL (.inr (by rw[<-g];exact t));refine ak.mk (aS) ?_;refine ai.mk' (nn (Ob p0 S i) (gt S i)) ?_;exact aG.back (x:=i) (i+1) (by show i+1<=_;omega) (by omega) (.cX (.none (.cons (.aR rfl (λ_ _ _ _=>aD.refl _)) (.cons (.aR (by rw[c,XQ];rfl) (λx g j l=>by rw[c];exact gP _ (Ob p0 S i) x j g l)) .nil)))) (.cH (.cB (.cH (.cH (.cS (.cons (ar.int (by rw[hw _];omega)) .nil))))))
   ·have t:x=0:=(by simpa[bne]using z);have c:Gv p0 S (i+1)=Gv p0 S i:=XG (λh=>h.elim r (λk=>by rw[<-g]at k;exact k t));refine ai.mk' (nn (Ob p0 S i) (gt S i)) ?_;exact aG.back (x:=i) (i+1) (by show i+1<=_;omega) (by omega) (.cX (.none (.cons (.aR rfl (λ_ _ _ _=>aD.refl _)) (.cons (.aR (by rw[c]) (λx g j l=>by rw[c];exact aD.refl _)) .nil)))) (.cH (.cB (.cH (.cH (.cS (.cons (ar.int (by rw[hw _];omega)) .nil))))))
 ·have I:i=S.length:=(by have:=XB y;omega);subst I;have G:=As p0 S S.length;refine ai.mk' (lY.vt (y8 (Gv p0 S S.length)) true C) ?_;repeat' first|apply af.t|apply af.f
  refine af.fh (dF) ?_;exact Fin.eD (.cR (.cR .nil))
theorem HB (L:List (LV)) (r:LV) (a:Nat) (b:a<L.length+1):aD (bif Nat.blt a L.length then aN (L.getD a [])else[aN r].getD ((a-L.length)*1+0) (.v Go.undef)) (aN ((L++[r]).getD a [])):=by
 refine aD.bif (λh=>aD.of_eq ?_) (λh=>aD.of_eq ?_);rw[List.getD,List.getD,Zq h];obtain rfl:a=L.length:=(by omega);rw[Zb,List.getD,List.getD,Zo (XU _),Zb];rfl
def uN (c:LV->LV) (A B:List (LV)):List (LV):=A.flatMap λa=>B.map λb=>x8 c a b
theorem NJ (b:LV->LV) (A B:List (LV)):(uN b A B).length=A.length*B.length:=by
 unfold uN;induction A with
 |nil=>simp
 |cons a A c=>simp only[aar,XQ,Yy,c,XV,aak];omega
theorem L8 {c:LV->LV} (C:Ik N c) {A B:List (LV)} (D:∀a∈A,MV a) (E:∀b∈B,MV b) (F:∀a∈A,∀b∈B,NV N c a b) (K:A.length<=10000) (M:B.length<=10000) (O:A.length*B.length<=10000):
  DP 55 [.one (hS A),.one (hS B)] (.eD [.one (hS (uN c A B)),.one (i64 0)]):=by
 refine dg Tryz.func55 [] ?_;refine Loop.by (α:=Nat) (λi=>[(1,.d (.one (hS B))),(6,.aJ 501 0),(13,.d (.one (hS A))),(14,au A.length),(15,au i)]) (λi=>[(501,.aL 0 (uN c (A.take i) B).length 1 42 λk _=>aN ((uN c (A.take i) B).getD k []))]) (λi=>i<=A.length) (λi=>A.length-i)
  (aG.nil 6 501 1 42 (λk _=>aN (([]:List (LV)).getD k [])) rfl rfl (aG.at 0 (XR _) (.cons (.aR rfl (λi f=>absurd f (XO i))) .nil) (.cS (.cH (.cS (.cS (.cS .nil)))))))
  (λi f=>?_)
 apply af.mk<;>intro m
 ·have o:i<A.length:=(by have:=XA m;omega);obtain⟨a,g⟩:∃a,a=A.getD (i:Int).toNat []:=⟨_,rfl⟩;have p:a∈A:=(by rw[g];simp[List.getD,o]);have G:A.take (i+1)=A.take i++[a]:=(by rw[YL,g];simp[List.getD,o]);have r:uN c (A.take (i+1)) B=uN c (A.take i) B++B.map λb=>x8 c a b:=(by unfold uN;rw[G,aaT];simp);have H:=NJ c (A.take i) B;rw[Yj,abi f]at H;have P:i*B.length+B.length<=10000:=(by have:=XX B.length (show i+1<=A.length by omega);rw[aak]at this;omega);refine ak.o ?_;refine Loop.by (α:=Nat) (λk=>[(1,.d (.one (hS B))),(6,.aJ 501 0),(8,.d (.one (aN a))),(13,.d (.one (hS A))),(14,au A.length),(15,au i),(19,.d (.one (hS B))),(20,au B.length),(21,au k)])
   (λk=>[(501,.aL 0 (uN c (A.take i) B++(B.take k).map λb=>x8 c a b).length 1 42 λq _=>aN ((uN c (A.take i) B++(B.take k).map λb=>x8 c a b).getD q []))]) (λk=>k<=B.length) (λk=>B.length-k)
   (aG.at 0 (XR _) (.cons (.aR (by simp) (λq h j t=>by rw[aas,abh,Y4];exact aD.refl _)) .nil) (.cS (.cH (.cons (.data (dX.of_eq (by rw[g]))) (.cS (.cS (.cS (.cS (.cS (.cS .nil)))))))))) (λk Q=>?_)
  apply af.mk<;>intro u
  ·have w:k<B.length:=(by have:=XA u;omega);obtain⟨b,l⟩:∃b,b=B.getD (k:Int).toNat []:=⟨_,rfl⟩;have y:b∈B:=(by rw[l];simp[List.getD,w]);have z:(B.take (k+1)).map (λb=>x8 c a b)=(B.take k).map (λb=>x8 c a b)++[x8 c a b]:=(by rw[YL,YB,l];simp[List.getD,w]);refine ak.o ?_;refine ai.mk' ((LQ C (D a p) (E b y) (F a p b y)).le (.cR (.cons (dX.of_eq (by rw[l])) .nil))) ?_;repeat' first|apply af.t|apply af.f
   refine ak.mk (aS (by rw[XQ,Yy,Yj];omega)) ?_;refine aG.back (x:=k) (k+1) (by show k+1<=_;omega) (by omega) (.cons (.aR (by rw[z,<-Yk];exact(XQ (bs:=[x8 c a b])).symm) (λq h j t=>?_)) .nil) (.cS (.cH (.cS (.cS (.cS (.cS (.cS (.cS (.cons (ar.int (by rw[hw _];omega)) .nil)))))))));obtain rfl:j=0:=(by omega);rw[z,<-Yk];exact HB _ _ q h
  ·have I:k=B.length:=(by have:=XB u;omega);subst I;exact aG.back (x:=i) (i+1) (by show i+1<=_;omega) (by omega) (.cons (.aR (by rw[r,YX]) (λq h j t=>by rw[r,YX];exact aD.refl _)) .nil) (.cS (.cH (.cS (.cS (.cons (ar.int (by rw[hw _];omega)) .nil)))))
 ·have J:i=A.length:=(by have:=XB m;omega);subst J;rw[YX];exact Fin.eD (.cR (.cR .nil))
def uG (r:LV):LV:=bC (r.map LK)
theorem O8 {g:LV->LV} (r:Ik N g) {A B:List (LV)} (t:∀a∈A,MV a) (u:∀b∈B,MV b) (w:∀b∈B,MV (uG b)) (y:∀a∈A,∀b∈B,NV N g a (uG b)) (z:A.length<=10000) (J:B.length<=10000) (C:A.length*B.length<=10000):
  DP 23 [.one (hS A),.one (hS B)] (.eD [.one (hS (uN g A (B.map uG))),.one (i64 0)]):=by
 refine dg Tryz.func23 [] ?_;have D:IntKind.i64.wrap ((A.length:Int)*(B.length:Int))=((A.length*B.length:Nat):Int):=by rw[<-abm,hw _]
 refine af.fh (XZ (by rw[D];omega)) ?_;refine Loop.by (α:=Nat) (λi=>[(0,.d (.one (hS A))),(6,.aJ 501 0),(19,.d (.one (hS B))),(20,au B.length),(21,au i)]) (λi=>[(501,.aL 0 ((B.take i).map uG).length 1 42 λk _=>aN (((B.take i).map uG).getD k []))]) (λi=>i<=B.length) (λi=>B.length-i)
  (aG.nil 6 501 1 42 (λk _=>aN (([]:List (LV)).getD k [])) rfl rfl (aG.at 0 (XR _) (.cons (.aR rfl (λi l=>absurd l (XO i))) .nil) (.cS (.cH (.cS (.cS (.cS .nil)))))))
  (λi l=>?_)
 apply af.mk<;>intro m
 ·have o:i<B.length:=(by have:=XA m;omega);obtain⟨b,f⟩:∃b,b=B.getD (i:Int).toNat []:=⟨_,rfl⟩;have E:b∈B:=(by rw[f];simp[List.getD,o]);have p:(B.take (i+1)).map uG=(B.take i).map uG++[uG b]:=(by rw[YL,YB,f];simp[List.getD,o]);refine ak.o ?_;refine ai.mk' ((LX (u b E)).le (.cons (dX.of_eq (by rw[f])) .nil)) ?_;repeat' first|apply af.t|apply af.f
  refine ak.mk (aS (by rw[Yy,Yj];omega)) ?_;refine aG.back (x:=i) (i+1) (by show i+1<=_;omega) (by omega) (.cons (.aR (by rw[p];exact(XQ (bs:=[uG b])).symm) (λq F j K=>?_)) .nil) (.cS (.cH (.cS (.cS (.cons (ar.int (by rw[hw _];omega)) .nil)))));obtain rfl:j=0:=(by omega);rw[p];exact HB _ _ q F
 ·have G:i=B.length:=(by have:=XB m;omega);subst G;rw[YX];have H:(B.map uG).length=B.length:=Yy ..;refine ai.mk' (L8 r t (B:=B.map uG) (λb f=>by obtain⟨c,h,rfl⟩:=XS.1 f;exact w c h) (λa I b f=>by obtain⟨c,h,rfl⟩:=XS.1 f;exact y a I c h) z (by omega) (by rw[H];exact C)) ?_;exact Fin.rfl'
def SX (S:List (LV)) (v:V2):Bool:=!bn S.length λk=>!decide (UJ (S.getD k []) v=2)
theorem SY (l:LV) (h:MV l) (v:V2):DP 57 [.one (aN l),.one (.ad 2 λj=>(vL v).getD j (.v Go.undef))] (aE (decide (UJ l v=2))):=by
 refine dg Tryz.func57 [] ?_;refine ai.int (Fk h v) (λn a=>?_);exact Fin.bool (by rw[<-a];rfl)
theorem Dx {S:List (LV)} (a:∀r∈S,MV r) (b:S.length<=40000) (v:V2):DP 24 [.one (hS S),vD v] (aE (SX S v)):=by
 refine dg Tryz.func24 [] ?_;refine ai.mk' (Qf S 57 1 (λj=>[SV.ad 2 λj=>(vL v).getD j (.v Go.undef)].getD j (.v Go.undef)) (λk=>decide (UJ (S.getD k []) v=2)) b (λk c=>SY _ (a _ (by simp[List.getD,c])) v)) ?_;exact Fin.bool rfl
abbrev VY:=LV×List (LV)
def frO (lo hi:V2):LV:=WG (cW lo ⟨1,1⟩) (mO hi ⟨1,1⟩)
def WV (o:LV) (hs:List (LV)) (a:List VY):List VY:=(frO (Vj o) (Vk o),[o])::hs.map (λh=>(h,[]))++a
structure OfOk (o:LV) (hs:List (LV)) (ob:List VY) (mo:LV) (mh:List (LV)) (P Q:VY->List (LV)):Prop where
 vc:VS o hs
 vm:VS mo mh
 vo:∀s∈ob,VS s.1 s.2
 zq:ob.length<=10
 b1:aY (Vj o) 1999=true
 b2:aY (Vk o) 1999=true
 fx:(cW (Vj o) ⟨1,1⟩).x<(mO (Vk o) ⟨1,1⟩).x
 fy:(cW (Vj o) ⟨1,1⟩).y<(mO (Vk o) ⟨1,1⟩).y
 f1:aY (cW (Vj o) ⟨1,1⟩) 2000=true
 f2:aY (mO (Vk o) ⟨1,1⟩) 2000=true
 pm:DP 19 [iO mo mh] (.eD [.one (hS (P (mo,mh))),.one (i64 0)])
 pf:∀s∈WV o hs ob,DP 19 [iO s.1 s.2] (.eD [.one (hS (P s)),.one (i64 0)])
 qf:∀s∈WV o hs ob,DP 23 [.one (hS (P s)),.one (hS (P (mo,mh)))] (.eD [.one (hS (Q s)),.one (i64 0)])
 ql:((WV o hs ob).flatMap Q).length<=90000
def Sz (a b:LV):Bool:=!bn (ay a).length λi=>bn (ay b).length λk=>!decide (aH (bh (ay a) i) (bh (ay b) k)≠0)
theorem wo (a b:LV) (f:a.length<=40000:=by omega) (g:b.length<=40000:=by omega):DP 73 [.one (aN a),.one (aN b)] (aE (Sz a b)):=by
 refine dg Tryz.func73 [] ?_;have y:=ph f;have A:=ph g;refine ai.mk' (mm a f) ?_;refine ai.mk' (mm b g) ?_;unfold Sz;generalize ay a=E at*;generalize ay b=F at*;refine Loop.by (α:=Nat) (λi=>[(5,.d (.one (mX E))),(6,.d (.one (mX F))),(7,au i)]) (λ_=>[]) (λi=>i<=E.length/\∀j,j<i->(bn F.length λk=>!decide (aH (bh E j) (bh F k)≠0))=true) (λi=>E.length-i)
  (aG.at 0 ⟨XR _,λ_ h=>absurd h (XO _)⟩ .nil (.cS (.cS (.cS .nil)))) (λi l=>?_)
 obtain⟨l,m⟩:=l;apply af.mk<;>intro c
 ·have u:i<E.length:=(by have:=XA c;omega);refine Loop.by (α:=Nat) (λk=>[(5,.d (.one (mX E))),(6,.d (.one (mX F))),(7,au i),(8,au k)]) (λ_=>[]) (λk=>k<=F.length/\∀j,j<k->(!decide (aH (bh E i) (bh F j)≠0))=true) (λk=>F.length-k)
   (aG.at 0 ⟨XR _,λ_ h=>absurd h (XO _)⟩ .nil (.cS (.cS (.cS (.cS .nil))))) (λk o=>?_)
  obtain⟨o,p⟩:=o;apply af.mk<;>intro d
  ·have w:k<F.length:=(by have:=XA d;omega);refine ak.o ?_;refine ak.o ?_;refine ai.int (oJ (bh E i) (bh F k)) (λx r=>?_);refine ak.n ?_;apply af.mk<;>intro e
   ·have e:x≠0:=(by simpa[bne]using e);exact Fin.bool (by rw[bD i u (bD k w (by rw[<-r,X4 e];rfl))];rfl)
   ·have e:¬x≠0:=(by simpa[bne]using e);exact aG.back (x:=k) (k+1) ⟨by omega,λj t=>by
     by_cases q:j=k;rw[q,<-r,XZ e];rfl
     ·exact p j (by omega)⟩ (by omega) .nil (.cS (.cS (.cS (.cons (ar.int (by rw[hw _];omega)) .nil))))
  ·have:F.length<=k:=(by have:=XB d;omega);exact aG.back (x:=i) (i+1) ⟨by omega,λj t=>by
    by_cases q:j=i;subst q;exact aF.2 (λz B=>p z (by omega))
    ·exact m j (by omega)⟩ (by omega) .nil (.cS (.cS (.cons (ar.int (by rw[hw _];omega)) .nil)))
 ·have:E.length<=i:=(by have:=XB c;omega);exact Fin.bool (by rw[aF.2 (λj t=>m j (by omega))];rfl)
def En (a b:LV) (c:Bool):Bool:=if(bn a.length λi=>decide (er b (gt a i)=2)==c)=true then c else !c
theorem nA (a b:LV) (f:Bool) (u:a.length<=40000:=by omega) (m:b.length<=40000:=by omega):DP 74 [.one (aN a),.one (aN b),.one (.v (.bool f))] (aE (En a b f)):=by
 refine dg Tryz.func74 [] ?_;unfold En;refine Loop.by (α:=Nat) (λi=>[(0,.d (.one (aN a))),(1,.d (.one (aN b))),(2,.d (.one (.v (.bool f)))),(7,au i)]) (λ_=>[]) (λi=>i<=a.length/\∀j,j<i->(decide (er b (gt a j)=2)==f)=true) (λi=>a.length-i)
  (aG.at 0 ⟨XR _,λ_ h=>absurd h (XO _)⟩ .nil (.cS (.cS (.cS (.cS .nil))))) (λi g=>?_)
 obtain⟨g,k⟩:=g;apply af.mk<;>intro c
 ·have o:i<a.length:=(by have:=XA c;omega);refine ak.o ?_;refine ai.int (Cm b (gt a i) m) (λx l=>?_);refine ak.n ?_;apply af.mk<;>intro w
  ·have p:(decide (er b (gt a i)=2)==f)=false:=(by rw[<-l];by_cases e:x=2<;>cases f<;>simp_all);refine Fin.bool ?_;rw[XG (by rw[bD i o p];decide)]
  ·have r:(decide (er b (gt a i)=2)==f)=true:=(by rw[<-l];by_cases e:x=2<;>cases f<;>simp_all);exact aG.back (x:=i) (i+1) ⟨by omega,λj t=>by
    by_cases q:j=i;rw[q];exact r
    ·exact k j (by omega)⟩ (by omega) .nil (.cS (.cS (.cS (.cons (ar.int (by rw[hw _];omega)) .nil))))
 ·have:a.length<=i:=(by have:=XB c;omega);exact Fin.bool (by rw[XL (aF.2 (λj t=>k j (by omega)))])
def N7 (h k:LV):Bool:=!Sz h k&&(!En h k false&&!En k h false)
def MA (o:LV) (hs:List (LV)) (i:Nat):Bool:=(cj (hs.getD i [])&&(!Sz (hs.getD i []) o&&En (hs.getD i []) o true))&&bn i λk=>N7 (hs.getD i []) (hs.getD k [])
def K0 (o:LV) (hs:List (LV)):Bool:=decide (hs.length<=6)&&(cj o&&(bn hs.length (MA o hs)&&decide (aP (o::hs)<=80)))
theorem tL (l:LV):DP 72 [.one (aN l)] (aE (cj l)):=by
 by_cases q:l.length<=40000;exact tK l q;refine dg Tryz.func72 [] ?_;have e:cj l=false:=by simp[cj,hI,show¬l.length<=40 by omega]
 refine af.fh (dF) ?_;repeat' first|apply af.t|apply af.f
 refine af.gF (X4 (by omega)) ?_;repeat' first|apply af.t|apply af.f
 exact Fin.bool (by rw[e])
theorem vE {l:LV} (h:cj l=true):l.length<=40:=(fg.1 h).Dw
set_option maxRecDepth 2000 in
theorem K1 (o:LV) (hs:List (LV)):DP 35 [iO o hs] (aE (K0 o hs)):=by
 refine dg Tryz.func35 [] ?_;unfold K0;apply af.mk<;>intro b
 ·have t:¬hs.length<=6:=(by have:=XA b;omega);repeat' first|apply af.gF b|apply af.t|apply af.f
  exact Fin.bool (by rw[XZ t];rfl)
 have t:hs.length<=6:=by have:=XB b;omega
 rw[X4 t,Zd];repeat' first|apply af.fh b|apply af.t|apply af.f
 refine ai.bool (tL o) (λx C=>?_);rw[<-C];cases x with
 |false=>
  repeat' first|apply af.fh b|apply af.t|apply af.f
  exact Fin.bool rfl
 |true=>
 repeat' first|apply af.fh b|apply af.t|apply af.f
 rw[Zd];have a0:o.length<=40:=vE C.symm;have D:∀j,MA o hs j=true->(hs.getD j []).length<=40:=λj h=>by unfold MA at h;simp only[XJ]at h;exact vE h.1.1
 have E:∀i,i<hs.length->aP (o::hs.take (i+1))=aP (o::hs.take i)+(hs.getD i []).length:=λi q=>by have e:hs.take (i+1)=hs.take i++[hs.getD i []]:=(by rw[YL];simp[List.getD,q]);rw[e];simp[aP];omega
 have S:∀i,i<=hs.length->(∀j,j<i->MA o hs j=true)->aP (o::hs.take i)<=40+40*i:=λi=>by
  induction i with
  |zero=>intro _ _;simp[aP];omega
  |succ i T=>intro w F;have:=T (by omega) (λj G=>F j (by omega));have a1:=D i (F i (by omega));rw[E i (by omega)];omega
 refine Loop.by (α:=Nat) (λi=>[(1,.ptr 1 0),(3,au (aP (o::hs.take i):Nat)),(4,au i)]) (λ_=>[(1,.box [aN o,hS hs])]) (λi=>i<=hs.length/\∀j,j<i->MA o hs j=true) (λi=>hs.length-i)
  (aG.at 0 ⟨XR _,λ_ h=>absurd h (XO _)⟩ (.cX .nil) (.cB (.cons (ar.int (by simp[aP])) (.cS .nil)))) (λi w=>?_)
 obtain⟨w,l⟩:=w;apply af.mk<;>intro H
 ·have I:i<hs.length:=(by have:=XA H;omega);have m:MA o hs i=false->(bn hs.length (MA o hs)&&decide (aP (o::hs)<=80))=false:=λh=>by rw[bD i I h];rfl
  obtain⟨h,c⟩:∃h,h=hs.getD (i:Int).toNat []:=⟨_,rfl⟩;have J:hs.getD i []=h:=c.symm;have a:MA o hs i=((cj h&&(!Sz h o&&En h o true))&&bn i λk=>N7 h (hs.getD k [])):=(by unfold MA;rw[J]);have a2:=S i (by omega) l;have a3:(hs.getD (i:Int).toNat []).length=h.length:=(by rw[c]);have U:aP (o::hs.take (i+1))=aP (o::hs.take i)+h.length:=(by rw[E i I,J]);refine ak.o ?_;refine ai.bool ((tL h).le (.cons (dX.of_eq (by rw[c])) .nil)) (λy K=>?_);rw[<-K]at a;cases y with
  |false=>
   repeat' first|apply af.t|apply af.f
   exact Fin.bool (by rw[m a])
  |true=>
  have a4:h.length<=40:=vE K.symm;repeat' first|apply af.t|apply af.f
  refine ai.bool ((wo h o).le (.cons (dX.of_eq (by rw[c])) (.cR .nil))) (λz M=>?_);rw[<-M]at a;cases z with
  |true=>
   repeat' first|apply af.t|apply af.f
   exact Fin.bool (by rw[m a])
  |false=>
  repeat' first|apply af.t|apply af.f
  refine ai.bool ((nA h o true).le (.cons (dX.of_eq (by rw[c])) (.cR (.cR .nil)))) (λu V=>?_);rw[<-V]at a;cases u with
  |false=>
   repeat' first|apply af.t|apply af.f
   exact Fin.bool (by rw[m a])
  |true=>
  repeat' first|apply af.t|apply af.f
  refine Loop.by (α:=Nat) (λk=>[(1,.ptr 1 0),(3,au (aP (o::hs.take (i+1)):Nat)),(4,au i),(5,.d (.one (aN h))),(6,au k)]) (λ_=>[(1,.box [aN o,hS hs])]) (λk=>k<=i/\∀j,j<k->N7 h (hs.getD j [])=true) (λk=>i-k)
   (aG.at 0 ⟨XR _,λ_ h=>absurd h (XO _)⟩ (.cX .nil) (.cB (.cons (ar.int (by rw[hw _,U];omega)) (.cS (.cons (.data (dX.of_eq (by rw[c]))) (.cS .nil)))))) (λk N=>?_)
  obtain⟨N,p⟩:=N;apply af.mk<;>intro O
  ·have P:k<i:=(by have:=XA O;omega);obtain⟨g,f⟩:∃g,g=hs.getD (k:Int).toNat []:=⟨_,rfl⟩;have Q:hs.getD k []=g:=f.symm;have a5:g.length<=40:=(by rw[f];exact D k (l k P));have A:N7 h g=false->(bn hs.length (MA o hs)&&decide (aP (o::hs)<=80))=false:=λq=>m (by rw[a,bD k P (by rw[Q];exact q)];rfl);refine ak.o ?_;refine ai.bool ((wo h g).le (.cR (.cons (dX.of_eq (by rw[f])) .nil))) (λX r=>?_);cases X with
   |true=>
    repeat' first|apply af.t|apply af.f
    exact Fin.bool (by rw[A (by unfold N7;rw[<-r];rfl)])
   |false=>
   repeat' first|apply af.t|apply af.f
   refine ak.o ?_;repeat' first|apply af.t|apply af.f
   refine ai.bool ((nA h g false).le (.cR (.cons (dX.of_eq (by rw[f])) (.cR .nil)))) (λY B=>?_);cases Y with
   |true=>
    repeat' first|apply af.t|apply af.f
    exact Fin.bool (by rw[A (by unfold N7;rw[<-r,<-B];rfl)])
   |false=>
   repeat' first|apply af.t|apply af.f
   refine ak.o ?_;repeat' first|apply af.t|apply af.f
   refine ai.bool ((nA g h false).le (.cons (dX.of_eq (by rw[f])) (.cR (.cR .nil)))) (λZ R=>?_);cases Z with
   |true=>
    repeat' first|apply af.t|apply af.f
    exact Fin.bool (by rw[A (by unfold N7;rw[<-r,<-B,<-R];rfl)])
   |false=>
   repeat' first|apply af.t|apply af.f
   exact aG.back (x:=k) (k+1) ⟨by omega,λj G=>by
    by_cases q:j=k;rw[q,Q];unfold N7;rw[<-r,<-B,<-R];rfl
    ·exact p j (by omega)⟩ (by omega) (.cX .nil) (.cB (.cS (.cS (.cS (.cons (ar.int (by rw[hw _];omega)) .nil)))))
  ·have a6:i<=k:=(by have:=XB O;omega);exact aG.back (x:=i) (i+1) ⟨by omega,λj G=>by
    by_cases q:j=i;rw[q,a,aF.2 (λz M=>p z (by omega))];rfl
    ·exact l j (by omega)⟩ (by omega) (.cX .nil) (.cB (.cS (.cons (ar.int (by rw[hw _];omega)) .nil)))
 ·have p:i=hs.length:=(by have:=XB H;omega);subst p;rw[YX];refine Fin.bool ?_;rw[aF.2 l,Zd];by_cases q:aP (o::hs)<=80;rw[X4 q];exact X4 (by omega);rw[XZ q];exact dF
theorem EX (lo hi:V2) (c:lo.x<hi.x:=by decide) (f:lo.y<hi.y:=by decide) (a:aY lo 2000=true:=by decide) (h2:aY hi 2000=true:=by decide):DP 22 [vD lo,vD hi] (.d (iO (WG lo hi) [])):=by
 refine dg Tryz.func22 [] ?_;refine af.fh (dF) ?_;repeat' first|apply af.t|apply af.f
 refine af.fh (dF) ?_;repeat' first|apply af.t|apply af.f
 refine ai.mk' (lY.vt (fz lo 2000) true a) ?_;repeat' first|apply af.t|apply af.f
 refine ai.mk' (lY.vt (fz hi 2000) true h2) ?_;repeat' first|apply af.t|apply af.f
 refine Fin.agg (.cons (aD.pQ rfl (λi hi j b=>?_)) (.cons (aD.nil _ _) .nil))
 match i,hi,j,b with
 |0,_,0,_=>exact aD.refl _
 |0,_,1,_=>exact aD.refl _
 |1,_,0,_=>exact aD.refl _
 |1,_,1,_=>exact aD.refl _
 |2,_,0,_=>exact aD.refl _
 |2,_,1,_=>exact aD.refl _
 |3,_,0,_=>exact aD.refl _
 |3,_,1,_=>exact aD.refl _
def EK (o:LV) (hs:List (LV)) (m:Int):Bool:=(bn o.length λi=>aY (gt o i) m)&&(decide (aP (o::hs)<=14)&&K0 o hs)
theorem Pw (o:LV) (hs:List (LV)) (i:Nat):aP (o::hs.take i)<=aP (o::hs):=by
 have t:=XT List.sum (ZJ i (hs.map List.length));rw[List.sum_append]at t;simp[aP];omega
theorem yN (o:LV) (hs:List (LV)) (m:Int) (G:hs.length<=maxLen) (H:o.length<=maxLen):DP 12 [iO o hs,.one (i64 m)] (aE (EK o hs m)):=by
 refine dg Tryz.func12 [] ?_;have I:maxLen<9223372036854775808:=by decide
 have w:∀i,i<hs.length->aP (o::hs.take (i+1))=aP (o::hs.take i)+(hs.getD i []).length:=λi q=>by have e:hs.take (i+1)=hs.take i++[hs.getD i []]:=(by rw[YL];simp[List.getD,q]);rw[e];simp[aP];omega
 have z:K0 o hs=true->∀i,aP (o::hs.take i)<=80:=λh i=>by have:=Pw o hs i;unfold K0 at h;simp only[XJ,X0]at h;omega
 refine Loop.by (α:=Nat×Int) (λq=>[(1,.d (.one (i64 m))),(2,.ptr 2 0),(5,au q.2),(6,au (q.1:Nat))]) (λ_=>[(2,.box [aN o,hS hs])]) (λq=>q.1<=hs.length/\(K0 o hs=true->q.2=aP (o::hs.take q.1))) (λq=>hs.length-q.1)
  (aG.at (0,(o.length:Int)) ⟨XR _,λ_=>by simp[aP]⟩ (.cX .nil) (.cS (.cB (.cS (.cS .nil))))) (λq A=>?_)
 obtain⟨i,n⟩:=q;obtain⟨f,a⟩:=A;have f:i<=hs.length:=f;have a:K0 o hs=true->n=aP (o::hs.take i):=a;apply af.mk<;>intro c
 ·have g:i<hs.length:=(by have:=XA c;omega);refine ak.mk (by show _/\_;omega) ?_;exact aG.back (x:=(i,n)) (i+1,IntKind.i64.wrap (n+((hs.getD i []).length:Int))) ⟨g,λk=>by show IntKind.i64.wrap (n+((hs.getD i []).length:Int))=((aP (o::hs.take (i+1)):Nat):Int);have J:=w i g;have K:=z k (i+1);rw[a k,hw _];omega⟩ (by show hs.length-(i+1)<hs.length-i;omega) (.cX .nil) (.cS (.cB (.cons (.data (dX.refl _)) (.cons (ar.int (by rw[wid (by show _<=(i:Int)+1;omega) (by show(i:Int)+1<_;omega)];rfl)) .nil))))
 ·have B:i=hs.length:=(by have:=XB c;omega);subst B;rw[YX]at a;refine Loop.by (α:=Nat) (λk=>[(1,.d (.one (i64 m))),(2,.ptr 2 0),(5,au n),(7,au k)]) (λ_=>[(2,.box [aN o,hS hs])]) (λk=>k<=o.length/\∀j,j<k->aY (gt o j) m=true) (λk=>o.length-k)
   (aG.at 0 ⟨XR _,λ_ h=>absurd h (XO _)⟩ (.cX .nil) (.cS (.cB (.cS (.cS .nil))))) (λk l=>?_)
  obtain⟨l,p⟩:=l;apply af.mk<;>intro d
  ·have C:k<o.length:=(by have:=XA d;omega);refine ak.o ?_;refine ai.bool (fz (gt o k) m) (λx r=>?_);cases x with
   |false=>
    repeat' first|apply af.t|apply af.f
    exact Fin.bool (by unfold EK;rw[bD k C r.symm];rfl)
   |true=>
    repeat' first|apply af.t|apply af.f
    exact aG.back (x:=k) (k+1) ⟨by omega,λj M=>by
     by_cases q:j=k;rw[q,<-r]
     ·exact p j (by omega)⟩ (by omega) (.cX .nil) (.cS (.cB (.cS (.cons (ar.int (by rw[wid];omega)) .nil))))
  ·have D:k=o.length:=(by have:=XB d;omega);subst D;have t:(bn o.length λi=>aY (gt o i) m)=true:=aF.2 p;apply af.mk<;>intro e
   ·have E:n<=14:=XA e;repeat' first|apply af.gF e|apply af.t|apply af.f
    refine ai.bool (K1 o hs) (λy b=>?_);have F:∀y,y=K0 o hs->y=EK o hs m:=λy b=>by
     unfold EK;rw[t,Zd,<-b];cases y with
     |false=>simp
     |true=>have:=a b.symm;rw[X4 (show aP (o::hs)<=14 by omega)];rfl
    have u:=F y b;cases y with
    |false=>
     repeat' first|apply af.t|apply af.f
     exact Fin.bool u
    |true=>
     repeat' first|apply af.t|apply af.f
     exact Fin.bool u
   ·have E:¬n<=14:=XB e;repeat' first|apply af.fh e|apply af.t|apply af.f
    refine Fin.bool ?_;unfold EK;rw[t,Zd];cases b:K0 o hs with
    |false=>simp
    |true=>have:=a b;rw[XZ (show¬aP (o::hs)<=14 by omega)];rfl
def pA (l:LV) (j:Nat):LV:=(l.set (j+1) (gt l j)).set j (gt l (j+1))
theorem B4 (l:LV) (j:Nat):(pA l j).length=l.length:=by simp[pA]
theorem Rx (l:LV) (j:Nat) (c:j+1<l.length) (i:Nat):gt (pA l j) i=if i=j then gt l (j+1)else if i=j+1 then gt l j else gt l i:=by
 unfold pA gt;by_cases a:i=j;subst a;simp[List.getD,show i<l.length by omega];by_cases b:i=j+1;subst b;simp[List.getD,c];simp[List.getD,a,b,show¬j=i by omega,show¬j+1=i by omega]
theorem Ny {a b:Nat} (h:a≠b):Nat.beq a b=false:=by
 cases e:Nat.beq a b with
 |false=>rfl
 |true=>exact absurd (XE e) h
theorem Ov (l:LV) (j k a:Nat) (g:j+1<l.length) (b:a<2):
  aD (bif Nat.beq k j&&Nat.ble 0 a&&Nat.blt a (0+[i64 (gt l (j+1)).x,i64 (gt l (j+1)).y].length)then[i64 (gt l (j+1)).x,i64 (gt l (j+1)).y].getD (a-0) (.v Go.undef)else
   (bif Nat.beq k (j+1)&&Nat.ble 0 a&&Nat.blt a (0+[i64 (gt l j).x,i64 (gt l j).y].length)then[i64 (gt l j).x,i64 (gt l j).y].getD (a-0) (.v Go.undef)else vG l k a)) (vG (pA l j) k a):=by
 refine aD.of_eq ?_;have h:=Rx l j g k;by_cases c:k=j
 ·subst c;rw[XL rfl]at h;rw[ZE]
  match a,b with
  |0,_=>show i64 (gt l (k+1)).x=i64 (gt (pA l k) k).x;rw[h]
  |1,_=>show i64 (gt l (k+1)).y=i64 (gt (pA l k) k).y;rw[h]
 ·rw[XG c]at h;rw[Ny c];by_cases f:k=j+1
  ·subst f;rw[XL rfl]at h;rw[ZE]
   match a,b with
   |0,_=>show i64 (gt l j).x=i64 (gt (pA l j) (j+1)).x;rw[h]
   |1,_=>show i64 (gt l j).y=i64 (gt (pA l j) (j+1)).y;rw[h]
  ·rw[XG f]at h;rw[Ny f]
   match a,b with
   |0,_=>show i64 (gt l k).x=i64 (gt (pA l j) k).x;rw[h]
   |1,_=>show i64 (gt l k).y=i64 (gt (pA l j) k).y;rw[h]
def rr (a:Nat):Nat->LV->LV
 |0,l=>l
 |j+1,l=>if a<j+1/\Rj (gt l (j+1)) (gt l j)<0 then rr a j (pA l j)else l
theorem De (a:Nat):∀(j:Nat) (l:LV),(rr a j l).length=l.length
 |0,_=>rfl
 |j+1,l=>by rw[rr];by_cases h:a<j+1/\Rj (gt l (j+1)) (gt l j)<0;rw[XL h,De a j,B4];rw[XG h]
def pH (a:Nat) (l:LV):Nat->LV
 |0=>l
 |i+1=>if a<i then rr a i (pH a l i)else pH a l i
theorem rv (a:Nat) (l:LV):∀i,(pH a l i).length=l.length
 |0=>rfl
 |i+1=>by rw[pH];by_cases h:a<i;rw[XL h,De,rv a l i];rw[XG h,rv a l i]
theorem ru {a:Nat} (l:LV):∀i,i<=a+1->pH a l i=l
 |0,_=>rfl
 |i+1,h=>by rw[pH,iN,ru l i (by omega)]
abbrev TL:DV:= .one (.fn 181 1 Qg)
theorem Nw (l:LV) (a b:Nat) (I:a<=b:=by omega) (J:b<=l.length:=by omega) (K:l.length<=1000:=by omega):
  lT Tryz.prog 234 [.aJ (.n 2000) 1,.d (.one (i64 a)),.d (.one (i64 b)),.d TL] [.aL 1 l.length 2 50 (vG l)] (.eD []) [.aL 1 l.length 2 50 (vG (pH a l b))] .none:=by
 refine cF je mixed Tryz.func234 rfl rfl [] (XI rfl) (XI rfl) (fe rfl) ?_;have A:∀i,(pH a l i).length=l.length:=rv a l;refine Loop.by (α:=Nat) (λi=>[(0,.aJ 2000 1),(1,au a),(2,au b),(3,.d TL),(8,au i)]) (λi=>[(2000,.aL 1 l.length 2 50 (vG (pH a l i)))]) (λi=>a<i/\i<=max b (a+1)) (λi=>max b (a+1)-i)
  (aG.at (a+1) ⟨by omega,by omega⟩ (.cons (.aL (λj o B C=>aD.of_eq (by rw[ru l _ (XU _)]))) .nil) (.cH (.cS (.cS (.cS (.cons (ar.int (by rw[hw _];omega)) .nil)))))) (λi D=>?_)
 obtain⟨E,M⟩:=D;apply af.mk<;>intro c
 ·have N:i<b:=(by have:=XA c;omega);refine Loop.by (α:=Nat×LV) (λq=>[(0,.aJ 2000 1),(1,au a),(2,au b),(3,.d TL),(8,au i),(9,au (q.1:Nat))]) (λq=>[(2000,.aL 1 l.length 2 50 (vG q.2))]) (λq=>a<=q.1/\q.1<=i/\q.2.length=l.length/\rr a q.1 q.2=pH a l (i+1)) (λq=>q.1)
   (aG.at (i,pH a l i) ⟨by show a<=i;omega,XU _,A i,by show rr a i (pH a l i)=_;rw[pH,XL E]⟩ (.cons (.aL (λj o B C=>aD.refl _)) .nil) (.cH (.cS (.cS (.cS (.cS (.cS .nil))))))) (λq F=>?_)
  obtain⟨O,P,G,p⟩:=F;apply af.mk<;>intro d
  ·have o:a<q.1:=(by have:=XA d;omega);obtain⟨j,r⟩:∃j,q.1=j+1:=⟨q.1-1,by omega⟩;have w:((q.1:Nat):Int).toNat=j+1:=(by rw[Yi,r]);have y:(IntKind.i64.wrap ((q.1:Nat)-1:Int)).toNat=j:=(by rw[hw _];omega);repeat' first|apply af.gF d|apply af.t|apply af.f
   refine ak.o ?_;repeat' first|apply af.gF d|apply af.t|apply af.f
   refine ak.mk (by rw[hw _];omega) ?_;repeat' first|apply af.gF d|apply af.t|apply af.f
   refine ai.int ((OC (gt q.2 (j+1)) (gt q.2 j)).le (.cons (dX.of_eq (by rw[w])) (.cons (dX.of_eq (by rw[y])) (.cR .nil)))) (λx z=>?_);repeat' first|apply af.gF d|apply af.t|apply af.f
   refine ak.n ?_;apply af.mk<;>intro e
   ·have t:Rj (gt q.2 (j+1)) (gt q.2 j)<0:=(by rw[<-z];exact XA e);have f:rr a (j+1) q.2=rr a j (pA q.2 j):=(by rw[rr,XL ⟨by omega,t⟩]);refine ak.mk (by rw[hw _];omega) ?_;refine ak.o ?_;refine ak.o ?_;refine ak.mk (by rw[hw _];omega) ?_;refine ak.n ?_;refine aG.back (x:=q) (j,pA q.2 j) ⟨by show a<=j;omega,by show j<=i;omega,by show(pA q.2 j).length=_;rw[B4,G],by show rr a j (pA q.2 j)=_;rw[<-f,<-r,p]⟩ (by show j<q.1;omega) (.cons (.aL (λk u g m=>?_)) .nil) (.cH (.cS (.cS (.cS (.cS (.cons (ar.int (by rw[hw _];show _=((j:Nat):Int);omega)) .nil))))));rw[w,y];exact Ov q.2 j k g (by omega) m
   ·have t:¬Rj (gt q.2 (j+1)) (gt q.2 j)<0:=(by rw[<-z];exact XB e);have f:rr a q.1 q.2=q.2:=(by rw[r,rr,XG (λh=>t h.2)]);exact aG.back (x:=i) (i+1) ⟨by omega,by omega⟩ (by omega) (.cons (.aL (λk u g m=>aD.of_eq (by rw[<-p,f]))) .nil) (.cH (.cS (.cS (.cS (.cons (ar.int (by rw[hw _];omega)) .nil)))))
  ·repeat' first|apply af.fh d|apply af.t|apply af.f
   refine ak.n ?_;repeat' first|apply af.fh d|apply af.t|apply af.f
   have o:q.1=a:=(by have:=XB d;omega);have f:rr a q.1 q.2=q.2:=by
    cases h:q.1 with
    |zero=>rfl
    |succ j=>rw[rr,XG (λQ=>by omega)]
   exact aG.back (x:=i) (i+1) ⟨by omega,by omega⟩ (by omega) (.cons (.aL (λk u g m=>aD.of_eq (by rw[<-p,f]))) .nil) (.cH (.cS (.cS (.cS (.cons (ar.int (by rw[hw _];omega)) .nil)))))
 ·have R:i=max b (a+1):=(by have:=XB c;omega);have H:pH a l i=pH a l b:=(by by_cases q:b<=a+1;rw[ru l b q,ru l i (by omega)];rw[show i=b by omega]);exact ke.mk ⟨.n 0,.none,.cons (.aL (λ_=>rfl) (λk u g m=>aD.of_eq (by rw[H]))) (.nil _),.inl rfl⟩
theorem bo.n2 {l:LV} (h:bo l):¬l.length<2:=by have:=h.three;omega
variable {a:LV}
theorem G7 {b:LV} (c:bo a) (f:bo b):rX (bJ a) (bJ b)↔∀i,i<(ay a).length->∀k,k<(ay b).length->aH (bh (ay a) i) (bh (ay b) k)=0:=by
 rw[gJ c.n2,gJ f.n2];constructor;intro h i g k j;rw[dz c.n2 i g,dz f.n2 k j];exact(oS (ef c.eX i) (ef f.eX k)).2 (h _ (bX.2 ⟨i,g,rfl⟩) _ (bX.2 ⟨k,j,rfl⟩));intro h x l y m;obtain⟨i,g,rfl⟩:=bX.1 l;obtain⟨k,j,rfl⟩:=bX.1 m;have:=h i g k j;rw[dz c.n2 i g,dz f.n2 k j]at this;exact(oS (ef c.eX i) (ef f.eX k)).1 this
theorem jU {b:LV} (g:bo a) (j:bo b):BI a b↔rX (bJ a) (bJ b):=by
 rw[G7 g j];constructor;intro h i c k f;rw[<-(eH _ _).1];exact h i c k f;intro h i c k f;rw[(eH _ _).1];exact h i c k f
theorem Fs (l:LV):l.map (ah 1)=l:=by
 have:ah 1=id:=funext λv=>aZ v;rw[this,abO]
theorem z7 {l:LV} (a:bo l) {v:V2} (b:∀e∈bJ l,¬aU e.1 e.2 v):er l v=2*W (bJ l) v:=by
 have h:=(fB a (m:=1) (by decide) (z:=v) (by rw[oH];exact b)).2;rw[oH,Fs]at h;rw[yx a,h]
theorem W8 {l:LV} (a:bo l) (v:V2):W (bJ l) v=0\/W (bJ l) v=1:=by
 have:=nB a 1 v (by decide);rw[oH]at this;omega
theorem rX.Sr {b:LV} (h:rX (bJ a) (bJ b)) {k:Nat} (c:k<b.length):∀e∈bJ a,¬aU e.1 e.2 (gt b k):=λe f=>(h e f _ (bX.2 ⟨k,c,rfl⟩)).p_
theorem ij {b:LV} (f:bo b) (h:rX (bJ b) (bJ a)) (w:Int):xQ a b (2*w)↔∀e∈bJ a,W (bJ b) e.1=w:=by
 constructor;intro k e g;obtain⟨i,c,rfl⟩:=bX.1 g;have:=k i c;rw[z7 f (h.Sr c)]at this;show W (bJ b) (gt a i)=w;omega;intro k i c;rw[z7 f (h.Sr c)];have:W (bJ b) (gt a i)=w:=k _ (bX.2 ⟨i,c,rfl⟩);rw[this]
theorem mv {hs:List (LV)} {h:LV}:h∈hs↔∃i,i<hs.length/\hs.getD i []=h:=by
 rw[YF];constructor;rintro⟨i,a,e⟩;exact⟨i,a,by simp[List.getD,a,e]⟩;rintro⟨i,a,e⟩;exact⟨i,a,by simpa[List.getD,a]using e⟩
theorem iF {hs:List (LV)} {i:Nat} (hi:i<hs.length):hs.getD i []=hs[i]:=by simp[List.getD,hi]
theorem VS.ok {o:LV} {hs:List (LV)} (V:VS o hs):cJ o hs:=by
 have ro:=fg.1 V.vo;have a:∀i,i<hs.length->bo (hs.getD i []):=λi hi=>fg.1 (V.vh i hi);refine⟨ro,λh b=>?_,λh b=>?_,λh b=>?_,?_⟩;obtain⟨i,hi,rfl⟩:=mv.1 b;exact a i hi;obtain⟨i,hi,rfl⟩:=mv.1 b;exact((jU (a i hi) ro).1 (V.off i hi)).sym;obtain⟨i,hi,rfl⟩:=mv.1 b;exact(ij ro ((jU (a i hi) ro).1 (V.off i hi)).sym 1).1 (V.ins i hi);rw[Y7];intro i j hi c k;obtain⟨l,m,p⟩:=V.pair j i k c;have n:=(jU (a j c) (a i hi)).1 l;rw[iF hi,iF c]at*;have f:=a i hi;have g:=a j c;rw[iF hi]at f;rw[iF c]at g;exact⟨n.sym,(ij f n.sym 0).1 m,(ij g n 0).1 p⟩
theorem VS.of {o:LV} {hs:List (LV)} (S:cJ o hs) (g:hs.length<=6) (h:aP (o::hs)<=80):VS o hs:=by
 have a:∀i,i<hs.length->bo (hs.getD i []):=λi hi=>S.ring _ (mv.2 ⟨i,hi,rfl⟩);have off:∀i,i<hs.length->rX (bJ o) (bJ (hs.getD i [])):=λi hi=>S.off _ (mv.2 ⟨i,hi,rfl⟩);have k:=Y7.1 S.pair;refine⟨g,fg.2 S.outer,λi hi=>fg.2 (a i hi),h,λi hi=>?_,λi hi=>?_,λi j l hi=>?_⟩;exact(ij S.outer (off i hi) 1).2 (S.SJ _ (mv.2 ⟨i,hi,rfl⟩));exact(jU (a i hi) S.outer).2 (off i hi).sym;have b:j<hs.length:=(by omega);obtain⟨n,m,p⟩:=k j i b hi l;have c:=a i hi;have f:=a j b;rw[iF hi]at c|-;rw[iF b]at f|-;exact⟨(jU c f).2 n.sym,(ij f n 0).2 m,(ij c n.sym 0).2 p⟩
theorem PB {b:LV} (h:En a b true=true):xQ a b 2:=by
 unfold En at h;split at h;rename_i k;intro i c;have:=aF.1 k i c;simpa using this;simp at h
theorem Mr {b:LV} (h:En a b false=false):∀i,i<a.length->er b (gt a i)≠2:=by
 unfold En at h;split at h;rename_i k;intro i c;have:=aF.1 k i c;simpa using this;simp at h
theorem Hd {b:LV} (c:bo a) (f:bo b) (h:Sz a b=false):rX (bJ a) (bJ b):=by
 rw[G7 c f];intro i g k j;unfold Sz at h;have l:bn (ay a).length (λi=>bn (ay b).length λk=>!decide (aH (bh (ay a) i) (bh (ay b) k)≠0))=true:=by simpa using h
 have:=aF.1 (aF.1 l i g) k j;simpa using this
theorem LH {b:LV} (c:bo b) (n:rX (bJ b) (bJ a)) (h:En a b false=false):∀e∈bJ a,W (bJ b) e.1=0:=by
 intro e g;obtain⟨i,f,rfl⟩:=bX.1 g;have:=Mr h i f;rw[z7 c (n.Sr f)]at this;have:=W8 c (gt a i);show W (bJ b) (gt a i)=0;omega
theorem Ux {o:LV} {hs:List (LV)} (h:K0 o hs=true):VS o hs:=by
 unfold K0 at h;simp only[XJ,X0]at h;obtain⟨q,t,u,w⟩:=h;have g:=fg.1 t;have H:=aF.1 u;have b:∀i,i<hs.length->bo (hs.getD i [])/\rX (bJ (hs.getD i [])) (bJ o)/\xQ (hs.getD i []) o 2/\∀k,k<i->N7 (hs.getD i []) (hs.getD k [])=true:=by intro i a;have:=H i a;unfold MA at this;simp only[XJ,Yx]at this;obtain⟨⟨x,y,z⟩,A⟩:=this;have r:=fg.1 x;exact⟨r,Hd r g y,PB z,aF.1 A⟩
 refine VS.of ⟨g,λh c=>?_,λh c=>?_,λh c=>?_,?_⟩ q w;obtain⟨i,a,rfl⟩:=mv.1 c;exact(b i a).1;obtain⟨i,a,rfl⟩:=mv.1 c;exact(b i a).2.1.sym;obtain⟨i,a,rfl⟩:=mv.1 c;exact(ij g (b i a).2.1.sym 1).1 (b i a).2.2.1;rw[Y7];intro i j a f B;have p:=(b j f).2.2.2 i B;unfold N7 at p;simp only[XJ,Yx]at p;obtain⟨C,D,E⟩:=p;have n:=Hd (b j f).1 (b i a).1 C;have l:=LH (b i a).1 n.sym D;have m:=LH (b j f).1 n E;rw[iF a,iF f]at n l m;exact⟨n.sym,l,m⟩
theorem K5 (l:LV) (k:Nat):l=l.take k++l.drop k:=(ZJ k l).symm
theorem td (l:LV):(bJ (bC l)).Perm (bJ l):=by
 have:=HW (l.take (eb l)) (l.drop (eb l))
 rwa [ZJ]at this
theorem zI {l:LV} (a:bo l):aX l=bC l:=by rw[aX,XL (fg.2 a)]
theorem mL {l:LV} (a:bo l):(bJ (aX l)).Perm (bJ l):=by rw[zI a];exact td l
theorem qZ {l:LV} (a:bo l):bo (aX l):=by rw[zI a];exact(JL l).ok a
theorem rX.perm {A B c f:Ed} (h:rX A B) (a:c.Perm A) (b:f.Perm B):rX c f:=λx g y i=>h x (a.mem_iff.1 g) y (b.mem_iff.1 i)
abbrev Ro (h k:LV):Prop:=rX (bJ h) (bJ k)/\(∀e∈bJ k,W (bJ h) e.1=0)/\∀e∈bJ h,W (bJ k) e.1=0
theorem cJ.perm {o:LV} {hs b:List (LV)} (S:cJ o hs) (p:b.Perm hs):cJ o b:=
 ⟨S.outer,λh a=>S.ring h (p.mem_iff.1 a),λh a=>S.off h (p.mem_iff.1 a),λh a=>S.SJ h (p.mem_iff.1 a),
  (List.Perm.pairwise_iff (R:=Ro) (λh=>⟨h.1.sym,h.2.2,h.2.1⟩) p.symm).1 S.pair⟩
theorem Dl {hs a:List (LV)} (p:hs.Perm a):(dN hs).Perm (dN a):=by
 induction p with
 |nil=>exact .refl _
 |cons x _ b=>exact(List.Perm.refl _).append b
 |swap x y l=>show(gT (bJ y)++(gT (bJ x)++dN l)).Perm (gT (bJ x)++(gT (bJ y)++dN l));rw[<-Yk,<-Yk];exact List.perm_append_comm.append (.refl _)
 |trans _ _ c f=>exact c.trans f
theorem xd:∀{a:List (LV)},(∀h∈a,bo h)->(dN (a.map aX)).Perm (dN a)
 |[],_=> .refl _
 |h::r,H=>by rw[Yz,dN,dN];exact((mL (H h XW)).map _).append (xd λx b=>H x (XK _ b))
theorem cJ.can {o:LV} {hs:List (LV)} (S:cJ o hs):cJ (aX o) (hs.map aX):=by
 have k:=mL S.outer;refine⟨qZ S.outer,λh f=>?_,λh f=>?_,λh f=>?_,?_⟩;obtain⟨r,c,rfl⟩:=XS.1 f;exact qZ (S.ring r c);obtain⟨r,c,rfl⟩:=XS.1 f;exact(S.off r c).perm k (mL (S.ring r c));obtain⟨r,c,rfl⟩:=XS.1 f;intro e g;rw[jV k];exact S.SJ r c e ((mL (S.ring r c)).mem_iff.1 g);rw[ZT];refine S.pair.imp_of_mem (λ{a b} l m h=>?_);have i:=mL (S.ring a l);have j:=mL (S.ring b m);refine⟨h.1.perm i j,λe g=>?_,λe g=>?_⟩;rw[jV i];exact h.2.1 e (j.mem_iff.1 g);rw[jV j];exact h.2.2 e (i.mem_iff.1 g)
theorem cJ.eT {o:LV} {hs:List (LV)} (S:cJ o hs):cJ (aX o) (eT hs):=S.can.perm (lO hs)
theorem HS {o:LV} {hs:List (LV)} (S:cJ o hs):(gK (aX o) (eT hs)).Perm (gK o hs):=
 (mL S.outer).append ((Dl (lO hs)).trans (xd S.ring))
variable {i:Nat}
theorem jc {a b:LV} (h:i<a.length:=by omega):gt (a++b) i=gt a i:=by
 simp only[gt,List.getD];rw[Zq h]
theorem mE (a b:LV) (i:Nat):gt (a++b) (a.length+i)=gt b i:=by
 simp only[gt,List.getD];rw[Zo (by omega),Nat.add_sub_cancel_left]
theorem db {l:LV} (h:i<l.length:=by omega):gt l i∈l:=by
 have:gt l i=l[i]:=by simp[gt,List.getD,h]
 rw[this];exact Zy h
theorem jr (r:LV) (L:List (LV)):aP (r::L)=r.length+aP L:=by simp[aP]
section
variable {P:Nat->V2}
theorem HT {a:Nat} {r:LV} (h:∀i,i<r.length->P (a+i)=gt r i):eo P (ni a r.length)=bJ r:=by
 unfold eo ni bJ;rw[Yp];refine YS λi b=>?_;have b:=X6.1 b;show(P (a+i),P (a+(i+1)%r.length))=(gt r i,gt r ((i+1)%r.length));rw[h i b,h _ (mLt)]
theorem S7 (l:List Dt):eo P (l.map iM)=gT (eo P l):=by simp[eo,gT,iM,Function.comp_def]
theorem HU:∀(H:List (LV)) (a:Nat),(∀i,i<aP H->P (a+i)=gt H.flatten i)->eo P ((iQ a H).map iM)=dN H
 |[],_,_=>rfl
 |r::H,a,h=>by rw[iQ,YB,gY,S7,HT (λi b=>?_),dN,HU H (a+r.length) (λi b=>?_)];rw[YE,h _ (by rw[jr];omega),Zg,mE];rw[h _ (by rw[jr];omega),Zg,jc b]
end
abbrev mY (o:LV) (hs:List (LV)):List Dt:=r5 (aX o::eT hs)
theorem Bh (o:LV) (hs:List (LV)):eo (gt (aA o hs)) (mY o hs)=gK (aX o) (eT hs):=by
 unfold mY aA;rw[r5,gY,HT (λi a=>?_),HU _ _ (λi a=>?_)];rfl;rw[Zg,mE];rw[Zg,Ya,jc a]
theorem GH (a n:Nat):(ni a n).map (·.1)=(List.range n).map (a+·):=by unfold ni;rw[Yp];rfl
theorem GG (a n:Nat):((ni a n).map (·.2)).Perm ((List.range n).map (a+·)):=by
 cases n with
 |zero=>exact .refl _
 |succ m=>have:(ni a (m+1)).map (·.2)=((List.range (m+1)).map λi=>(i+1)%(m+1)).map (a+·):=(by unfold ni;rw[Yp,Yp];rfl);rw[this];exact(Ct m).map _
theorem oN (a m n:Nat):(List.range (m+n)).map (a+·)=(List.range m).map (a+·)++(List.range n).map (a+m+·):=by
 rw[List.range_add,YB,Yp];congr 1;exact YS λi _=>(YE a m i).symm
theorem GJ:∀(H:List (LV)) (a:Nat),(iQ a H).map (·.1)=(List.range (aP H)).map (a+·)
 |[],_=>rfl
 |r::H,a=>by rw[iQ,YB,GH,GJ H,jr,oN]
theorem GI:∀(H:List (LV)) (a:Nat),((iQ a H).map (·.2)).Perm ((List.range (aP H)).map (a+·))
 |[],_=> .refl _
 |r::H,a=>by rw[iQ,YB,jr,oN];exact(GG a _).append (GI H _)
theorem range_zero (n:Nat):(List.range n).map (0+·)=List.range n:=by
 have:(λx=>0+x)=(id:Nat->Nat):=funext λx=>Ya x;rw[this,abO]
theorem OL (r:LV) (H:List (LV)):((r5 (r::H)).map (·.1)).Perm (List.range (aP (r::H))):=by
 rw[r5,YB,Yp,jr,<-range_zero,oN];refine abM ?_ ?_;rw[GH];rw[Ya];exact GI H r.length
theorem OK (r:LV) (H:List (LV)):((r5 (r::H)).map (·.2)).Perm (List.range (aP (r::H))):=by
 rw[r5,YB,Yp,jr,<-range_zero,oN];refine abM (GG 0 _) ?_;rw[Ya];have:(iQ r.length H).map ((λx=>x.2)∘iM)=(iQ r.length H).map (·.1):=rfl;rw[this,GJ]
theorem zK (o:LV) (hs:List (LV)):(aA o hs).length=aP (aX o::eT hs):=gX _
section
variable {o:LV} {hs:List (LV)}
theorem qB:((mY o hs).map (·.1)).Perm (List.range (aA o hs).length):=by rw[zK];exact OL _ _
theorem S4:((mY o hs).map (·.2)).Perm (List.range (aA o hs).length):=by rw[zK];exact OK _ _
theorem MU {d:Dt} (h:d∈mY o hs):d.1<(aA o hs).length/\d.2<(aA o hs).length:=
 ⟨X6.1 (qB.mem_iff.1 (aay h)),X6.1 (S4.mem_iff.1 (aay h))⟩
theorem U8 (h:i<(aA o hs).length):∃k,(i,k)∈mY o hs:=by
 obtain⟨d,a,e⟩:=XS.1 (qB.mem_iff.2 (X6.2 h));exact⟨d.2,by rw[<-e];exact a⟩
theorem AU {α a:Type} {f:α->a} {l:List α} (h:(l.map f).Nodup):l.Nodup:=by
 rw[List.Nodup,ZT]at h;exact h.imp λk e=>k (by rw[e])
theorem DC:(mY o hs).Nodup:=AU (qB.symm.nodup aag)
theorem ix.Bd {E:Ed} (s:ix E) {e f:V2×V2} (g:e∈E) (a:f∈E) (h:e.1=f.1):e=f:=by
 obtain⟨i,l,j,_,k⟩:=s.out e g;by_cases c:f=e;exact c.symm;exfalso;by_cases b:f=i;exact s.nz f a (by rw[<-h,<-j,b]);exact k f a c b (by rw[h];exact bK _ _)
theorem MS (S:cJ o hs):ix (eo (gt (aA o hs)) (mY o hs)):=by rw[Bh];exact S.eT.qh
theorem S5 (S:cJ o hs):lX (eo (gt (aA o hs)) (mY o hs)) 0:=by rw[Bh];exact S.eT.yg
theorem S6 (S:cJ o hs) (m:Int) (z:V2):W (bw m (eo (gt (aA o hs)) (mY o hs))) z=W (bw m (gK o hs)) z:=by
 rw[Bh];exact jV ((HS S).map _) z
theorem FW (S:cJ o hs):(aA o hs).Nodup:=by
 have s:=MS S;have a:((eo (gt (aA o hs)) (mY o hs)).map (·.1)).Nodup:=by rw[List.Nodup,ZT];exact s.nodup.imp_of_mem λb c f e=>f (s.Bd b c e)
 have g:(eo (gt (aA o hs)) (mY o hs)).map (·.1)=((mY o hs).map (·.1)).map (gt (aA o hs)):=by unfold eo;rw[Yp,Yp];rfl
 rw[g]at a;have j:=(qB.map (gt (aA o hs))).nodup a;have k:(List.range (aA o hs).length).map (gt (aA o hs))=aA o hs:=by apply Z7;simp;intro i h _;have l:i<(aA o hs).length:=(by simpa using h);simp[gt,List.getD,l]
 rwa [k]at j
theorem LJ {l:LV} (h:l.Nodup) {k:Nat} (hi:i<l.length) (a:k<l.length) (e:gt l i=gt l k):i=k:=by
 have b:l[i]=l[k]:=by simpa[gt,List.getD,hi,a]using e
 have P:=Y7.1 h;rcases Z0 i k with c|c|c;exact absurd b (P i k hi a c);exact c;exact absurd b.symm (P k i a hi c)
theorem ou (S:cJ o hs) (i k:Nat) (hi:i<(aA o hs).length) (a:k<(aA o hs).length) (e:gt (aA o hs) i=gt (aA o hs) k):i=k:=LJ (FW S) hi a e
theorem U7 (h:i<(aA o hs).length):Vx (eo (gt (aA o hs)) (mY o hs)) (gt (aA o hs) i):=by
 obtain⟨k,a⟩:=U8 h;exact⟨_,dG a,rfl⟩
theorem MT {v:V2} (h:Vx (eo (gt (aA o hs)) (mY o hs)) v):∃i,i<(aA o hs).length/\gt (aA o hs) i=v:=by
 obtain⟨e,a,rfl⟩:=h;obtain⟨d,b,rfl⟩:=XS.1 a;exact⟨d.1,(MU b).1,rfl⟩
end
theorem Gy:∀(O:List Dt) (l:List Nat) {p:Nat},p∉O.map (·.1)->(O.foldl (λl d=>l.set d.1 d.2) l).getD p 0=l.getD p 0
 |[],_,_,_=>rfl
 |e::O,l,p,h=>by simp only[Yz,XD,not_or]at h;rw[Z3,Gy O _ h.2];simp[List.getD,List.getElem?_set,Zf h.1]
theorem KO:∀(O:List Dt) (l:List Nat),(O.map (·.1)).Nodup->(∀d∈O,d.1<l.length)->∀d∈O,(O.foldl (λl d=>l.set d.1 d.2) l).getD d.1 0=d.2
 |[],_,_,_,_,h=>nomatch h
 |e::O,l,a,b,d,f=>by rw[Yz,YA]at a;rw[Z3];rcases XD.1 f with c|c;subst c;rw[Gy O _ a.1];simp[List.getD,b d XW];exact KO O _ a.2 (λx g=>by rw[abk];exact b x (XK _ g)) d c
section
variable {o:LV} {hs:List (LV)}
theorem St {d:Dt} (h:d∈mY o hs):(N8 o hs).getD d.1 0=d.2:=
 KO _ _ (qB.symm.nodup aag) (λx a=>by rw[List.length_replicate];exact(MU a).1) d h
theorem HM:∀D:List Dt,(D.flatMap λd=>[d,iM d]).Perm (D++D.map iM)
 |[]=> .refl _
 |d::D=>by rw[aar,Yz,YM];show(d::iM d::(D.flatMap λd=>[d,iM d])).Perm (d::(D++iM d::D.map iM));exact(((HM D).cons _).trans List.perm_middle.symm).cons _
theorem G0:(N8 o hs).length=(aA o hs).length:=vb _ _
theorem B8 (D:List Dt):(QR (N8 o hs).length (N8 o hs) D).Perm (nX (mY o hs) D):=by
 unfold QR nX;refine abM ?_ (HM D);rw[G0];have e:mY o hs=((mY o hs).map (·.1)).map λp=>(p,(N8 o hs).getD p 0):=by
  rw[Yp]
  conv=>lhs;rw[<-abO (mY o hs)]
  refine YS λd a=>?_;show d=(d.1,(N8 o hs).getD d.1 0);rw[St a]
 rw[e];exact(qB.map _).symm
end
theorem vg {k:Int} (c:0<k) (a b:Int):(cQ (k*a) (k*b)<=0↔cQ a b<=0)/\(0<=bU (k*a) (k*b)↔0<=bU a b):=by
 have h:∀x:Int,(k*x<=0↔x<=0)/\(0<=k*x↔0<=x):=λx=>by have p:=tU c (x:=x) (y:=0);have q:=tU c (x:=0) (y:=x);rw[X8]at p q;exact⟨p,q⟩
 have l:=tU c (x:=a) (y:=b);have f:=tU c (x:=b) (y:=a);have g:=h a;have i:=h b;unfold cQ bU;constructor<;>(split<;>split<;>omega)
structure At (p:P3) (m:Int) (z:V2):Prop where
 pos:0<m
 ok:ed p=true
 at_:∃k:Int,0<k/\∀v,ag z (ah m v)=ah k (fw p v)
theorem Rk {v:V2} (h:In 4000 v):At (cm v) 1 v:=by
 refine⟨by decide,GN h,1,by decide,λu=>?_⟩;simp only[fw,cm,ag,ah,aaj,abr]
section
variable {p:P3} {m:Int} {z:V2}
theorem Ae (z v:V2):fw (cm z) v=ag z v:=by simp only[fw,cm,ag,aaj]
theorem At.on (A:At p m z) (a b:V2):qo ⟨a,b⟩ p=true↔aU (ah m a) (ah m b) z:=by
 obtain⟨k,f,h⟩:=A.at_;rw[<-AR];have g:kS ⟨ah m a,ah m b⟩ (cm z)=m*k*kS ⟨a,b⟩ p:=by unfold kS;rw[Ae,h,hQ];simp only[aa,ah,Zp];grind
 have i:=XC A.pos f;have e:(kS ⟨ah m a,ah m b⟩ (cm z)=0)↔kS ⟨a,b⟩ p=0:=by rw[g];constructor;intro q;rcases YY.1 q with c|c;omega;exact c;intro q;rw[q,X8]
 unfold qo;simp only[XJ,X0];rw[e];simp only[Ae,h];show _↔(((_/\cQ (k*_) (k*_)<=0)/\0<=bU (k*_) (k*_))/\cQ (k*_) (k*_)<=0)/\0<=bU (k*_) (k*_);rw[(vg f _ _).1,(vg f _ _).2,(vg f _ _).1,(vg f _ _).2]
theorem At.crs (A:At p m z) (a b:V2):gZ ⟨ah m a,ah m b⟩ (cm z)=gZ ⟨a,b⟩ p:=by
 obtain⟨k,c,h⟩:=A.at_;have f:kS ⟨ah m a,ah m b⟩ (cm z)=m*k*kS ⟨a,b⟩ p:=by unfold kS;rw[Ae,h,hQ];simp only[aa,ah,Zp];grind
 have i:=XC A.pos c;have e:decide (0<kS ⟨ah m a,ah m b⟩ (cm z))=decide (0<kS ⟨a,b⟩ p):=by rw[f];refine Ym.2 ⟨λq=>(bf (x:=kS ⟨a,b⟩ p) (show 1<=m*k by omega)).1.1 q,λq=>XC i q⟩
 have g:∀x:Int,decide (0<=k*x)=decide (0<=x):=λx=>Ym.2 (by
  have q:=tU c (x:=0) (y:=x)
  rwa [X8]at q)
 unfold gZ;rw[e];simp only[Ae,h];show(!(decide (0<=k*_)==decide (0<=k*_))&&(decide (0<=k*_)==_))=_;rw[g,g]
theorem u9 {l:LV} (f:V2->V2) {i:Nat} (hi:i<l.length):gt (l.map f) i=f (gt l i)/\bA (l.map f) i=f (bA l i):=by
 have a:(i+1)%l.length<l.length:=mLt;constructor<;>simp[bA,gt,List.getD,hi,a]
theorem At.Ru (A:At p m z) (l:LV):cA (l.map (ah m)) (cm z)=cA l p:=by
 unfold cA;have a:fX (l.map (ah m)) (cm z)=fX l p:=by unfold fX;rw[Yy];congr 1;refine F5 λi hi=>?_;congr 1;rw[Zw];unfold bY;rw[(u9 _ hi).1,(u9 _ hi).2,A.on];exact AR
 have b:nJ (l.map (ah m)) (cm z) (l.map (ah m)).length=nJ l p l.length:=by rw[oR,oR,Yy];refine hZ λi hi=>?_;unfold bY;rw[(u9 _ hi).1,(u9 _ hi).2,A.crs]
 rw[a,b]
theorem At.uX (A:At p m z) {l:LV} (a:bo l) (h:∃e∈bJ l,aU (ah m e.1) (ah m e.2) z):bH l p=1:=by
 obtain⟨e,b,c⟩:=h;obtain⟨i,hi,rfl⟩:=bX.1 b;rw[bH,XL ⟨fg.2 a,A.ok⟩,cA,XL];unfold fX;rw[bD i hi];rfl;have:qo (bY l i) p=true:=(A.on _ _).2 c;rw[this];rfl
theorem At.fB (A:At p m z) {l:LV} (a:bo l) (h:∀e∈bJ l,¬aU (ah m e.1) (ah m e.2) z):bH l p=2*W (bw m (bJ l)) z:=by
 rw[bH,XL ⟨fg.2 a,A.ok⟩,<-A.Ru l];refine(Sg.fB a A.pos λe b=>?_).2;obtain⟨x,c,rfl⟩:=aK.1 b;exact h x c
theorem PE {hs:List (LV)} (H:∀h∈hs,bo h) (f:0<m) (z:V2):W (bw m (dN hs)) z<=0/\(W (bw m (dN hs)) z=0↔∀h∈hs,W (bw m (bJ h)) z=0):=by
 induction hs with
 |nil=>exact⟨Yf _,λ_ h a=>(nomatch a),λ_=>rfl⟩
 |cons r l i=>obtain⟨o,b⟩:=i λx j=>H x (XK _ j);have g:=(nB (H r XW)) m z f;have e:W (bw m (dN (r::l))) z= -W (bw m (bJ r)) z+W (bw m (dN l)) z:=(by simp only[dN];rw[fK,um,kj,uk]);rw[e];refine⟨by omega,λk h a=>?_,λk=>?_⟩;rcases XD.1 a with c|c;subst c;omega;exact b.1 (by omega) h c;rw[k r XW,b.2 λh a=>k h (XK _ a)];rfl
theorem Fy {o:LV} {hs:List (LV)} (S:cJ o hs) (a:0<m) (z:V2):W (bw m (gK o hs)) z=1↔W (bw m (bJ o)) z=1/\∀h∈hs,W (bw m (bJ h)) z=0:=by
 have g:=(nB S.outer) m z a;obtain⟨c,b⟩:=PE S.ring a z;rw[<-b];unfold gK;rw[fK,um];omega
def Tv (o:LV) (hs:List (LV)) (m:Int) (z:V2):Prop:=∃r∈o::hs,∃e∈bJ r,aU (ah m e.1) (ah m e.2) z
theorem AS {o:LV} {hs:List (LV)}:Tv o hs m z↔∃e∈gK o hs,aU (ah m e.1) (ah m e.2) z:=by
 unfold gK;constructor;rintro⟨r,b,e,a,h⟩;rcases XD.1 b with c|c;subst c;exact⟨e,X7 _ a,h⟩;exact⟨(e.2,e.1),X1 _ (ee.2 ⟨r,c,a⟩),ax.2 h⟩;rintro⟨e,a,h⟩;rcases XP.1 a with c|c;exact⟨o,XW,e,c,h⟩;obtain⟨r,b,k⟩:=ee.1 c;exact⟨r,XK _ b,_,k,ax.2 h⟩
theorem Ga {p:P3}:∀b:List (LV),J6 p 2 b=2↔∀h∈b,bH h p≠2/\bH h p≠1
 |[]=>⟨λ_ h a=>(nomatch a),λ_=>rfl⟩
 |r::b=>by
  rw[J6];by_cases c:bH r p=2;rw[XL c];exact⟨λk=>absurd k (by decide),λk=>absurd c (k r XW).1⟩
  ·rw[XG c];by_cases f:bH r p=1;rw[XL f];exact⟨λk=>absurd k (by decide),λk=>absurd f (k r XW).2⟩
   ·rw[XG f,Ga b];exact⟨λk h a=>by
     rcases XD.1 a with e|e;subst e;exact⟨c,f⟩
     ·exact k h e,λk h a=>k h (XK _ a)⟩
theorem At.KM (A:At p m z) {o:LV} {hs:List (LV)} (S:cJ o hs):J5 o hs p=2↔¬Tv o hs m z/\W (bw m (gK o hs)) z=1:=by
 unfold J5;have gen:∀{r:LV},bo r->(∃e∈bJ r,aU (ah m e.1) (ah m e.2) z)\/∀e∈bJ r,¬aU (ah m e.1) (ah m e.2) z:=λ_=>by refine Classical.or_iff_not_imp_left.2 λh e b k=>h ⟨e,b,k⟩
 rw[Fy S A.pos];by_cases c:bH o p=2
 ·rw[XG (by simpa using c),c,Ga];have g:∀e∈bJ o,¬aU (ah m e.1) (ah m e.2) z:=(by rcases gen S.outer with h|h;rw[A.uX S.outer h]at c;exact absurd c (by decide);exact h);rw[A.fB S.outer g]at c;constructor
  ·intro k;have l:∀h∈hs,(∀e∈bJ h,¬aU (ah m e.1) (ah m e.2) z)/\W (bw m (bJ h)) z=0:=(by intro h a;obtain⟨f,i⟩:=k h a;rcases gen (S.ring h a)with q|q;exact absurd (A.uX (S.ring h a) q) i;rw[A.fB (S.ring h a) q]at f;have:=(nB (S.ring h a)) m z A.pos;exact⟨q,by omega⟩);refine⟨?_,by omega,λh a=>(l h a).2⟩;rintro⟨r,t,e,b,q⟩;rcases XD.1 t with j|j;subst j;exact g e b q;exact(l r j).1 e b q
  ·rintro⟨f,_,u⟩ h a;have q:∀e∈bJ h,¬aU (ah m e.1) (ah m e.2) z:=λe b q=>f ⟨h,XK _ a,e,b,q⟩;rw[A.fB (S.ring h a) q,u h a];decide
 ·rw[XL (by simpa using c)];refine⟨λk=>absurd k c,λk=>?_⟩;exfalso;obtain⟨f,i,_⟩:=k;have g:∀e∈bJ o,¬aU (ah m e.1) (ah m e.2) z:=λe b q=>f ⟨o,XW,e,b,q⟩;rw[A.fB S.outer g,i]at c;exact c rfl
theorem Gb {p:P3} (f:∀h:LV,bH h p=0\/bH h p=1\/bH h p=2):∀a:List (LV),J6 p 2 a=1->∃h∈a,bH h p=1
 |[],h=>absurd (show(2:Int)=1 from h) (by decide)
 |r::a,h=>by rw[J6]at h;by_cases c:bH r p=2;rw[XL c]at h;exact absurd h (by decide);rw[XG c]at h;by_cases b:bH r p=1;exact⟨r,XW,b⟩;rw[XG b]at h;obtain⟨x,g,e⟩:=Gb f a h;exact⟨x,XK _ g,e⟩
theorem It (l:LV) (p:P3):bH l p=0\/bH l p=1\/bH l p=2:=by
 unfold bH cA;split;split;exact .inr (.inl rfl);split;exact .inr (.inr rfl);exact .inl rfl;exact .inl rfl
theorem At.R7 (A:At p m z) {o:LV} {hs:List (LV)} (S:cJ o hs):J5 o hs p=1↔Tv o hs m z:=by
 have gen:∀{r:LV},bo r->bH r p=1->∃e∈bJ r,aU (ah m e.1) (ah m e.2) z:=λ{r} i h=>by refine Xz λq=>?_;rw[A.fB i λe f k=>q ⟨e,f,k⟩]at h;omega
 unfold J5;constructor;intro h;by_cases c:bH o p=2;rw[XG (by simpa using c),c]at h;obtain⟨r,i,e⟩:=Gb (λh=>It h p) hs h;exact⟨r,XK _ i,gen (S.ring r i) e⟩;rw[XL (by simpa using c)]at h;exact⟨o,XW,gen S.outer h⟩
 ·rintro⟨r,i,e,f,q⟩;rcases XD.1 i with c|c;subst c;have w:=A.uX S.outer ⟨e,f,q⟩;rw[XL (by rw[w];decide)];exact w
  ·
   have H:∀u∈bJ o,¬aU (ah m u.1) (ah m u.2) z:=λu I k=>(pS A.pos (S.off r c u I e f)).Bn q k;have J:W (bw m (bJ o)) z=1:=by
    have K:mT (bw m (bJ o)):=(rI o).sc m;have n:∀a∈bw m (bJ o),NM a.1 a.2 (ah m e.1) (ah m e.2):=λa y=>by obtain⟨x,t,rfl⟩:=aK.1 y;exact pS A.pos (S.off r c x t e f)
    rw[(BK K (b:=(ah m e.1,ah m e.2)) n q).1];show W (bw m (bJ o)) (ah m e.1)=1;rw[kQ A.pos];exact S.SJ r c e f
   have B:bH o p=2:=(by rw[A.fB S.outer H,J];rfl);rw[XG (by simpa using B),B];have key:∀j:List (LV),(∀h∈j,h∈hs)->j.Pairwise Ro->r∈j->J6 p 2 j=1:=by
    intro j;induction j with
    |nil=>intro _ _ h;cases h
    |cons g l M=>
     intro C D N;rw[J6];by_cases E:g=r;subst E;rw[A.uX (S.ring g c) ⟨e,f,q⟩];rfl
     ·have F:r∈l:=(by rcases XD.1 N with k|k;exact absurd k.symm E;exact k);have G:=(Y2.1 D).1 r F;have O:=S.ring g (C g XW);have n:∀a∈bw m (bJ g),NM a.1 a.2 (ah m e.1) (ah m e.2):=λa y=>by obtain⟨x,t,rfl⟩:=aK.1 y;exact pS A.pos (G.1 x t e f)
      have P:W (bw m (bJ g)) z=0:=(by rw[(BK ((rI g).sc m) (b:=(ah m e.1,ah m e.2)) n q).1];show W (bw m (bJ g)) (ah m e.1)=0;rw[kQ A.pos];exact G.2.1 e f);have w0:bH g p=0:=(by rw[A.fB O λx t k=>(n _ (aK.2 ⟨x,t,rfl⟩)).Bn q k,P];rfl);rw[w0,XG (by decide),XG (by decide)];exact M (λh Q=>C h (XK _ Q)) (Y2.1 D).2 F
   exact key hs (λ_ h=>h) S.pair c
end
theorem vB {s t:cp} (hs:aB s=true) (a:aB t=true) (b:s.a≠s.b) (c:t.a≠t.b):zR s t=true↔AE s.a s.b t.a t.b:=by
 unfold zR;simp only[Zl,XJ,X0];rw[(eH s t).1];constructor;intro h;refine Py hs a b c ?_;rcases h with h|⟨h,k⟩;exact .inl h;exact .inr ⟨h,by rcases k with((k|k)|k)|k;exact .inl k;exact .inr (.inl k);exact .inr (.inr (.inl k));exact .inr (.inr (.inr k))⟩;intro h;rcases Qr hs a b h with h|⟨h,k⟩;exact .inl h;exact .inr ⟨h,by rcases k with k|k|k|k;exact .inl (.inl (.inl k));exact .inl (.inl (.inr k));exact .inl (.inr k);exact .inr k⟩
variable {e:cp}
theorem w3 {l:LV} (b:bo l):e∈ay l↔∃i,i<l.length/\e=bY l i:=by
 unfold ay;rw[XG b.n2,XS];constructor;rintro⟨i,a,rfl⟩;exact⟨i,X6.1 a,rfl⟩;rintro⟨i,a,rfl⟩;exact⟨i,X6.2 a,rfl⟩
variable {Q:V2->V2->Prop} {p:V2}
section
variable {o:LV} {hs:List (LV)}
theorem cJ.nC (S:cJ o hs) {r:LV} (h:r∈o::hs):bo r:=by
 rcases XD.1 h with c|c;subst c;exact S.outer;exact S.ring r c
theorem lA (S:cJ o hs):e∈cI (o::hs)↔∃r∈o::hs,∃i,i<r.length/\e=bY r i:=by
 unfold cI;rw[aaK];constructor;rintro⟨r,a,b⟩;exact⟨r,a,(w3 (S.nC a)).1 b⟩;rintro⟨r,a,b⟩;exact⟨r,a,(w3 (S.nC a)).2 b⟩
theorem lJ (S:cJ o hs) (l:∀a b,Q a b->Q b a):(∀e∈cI (o::hs),Q e.a e.b)↔∀e∈gK o hs,Q e.1 e.2:=by
 constructor;intro h e g;unfold gK at g;rcases XP.1 g with c|c;obtain⟨i,f,rfl⟩:=bX.1 c;exact h (bY o i) ((lA S).2 ⟨o,XW,i,f,rfl⟩);obtain⟨r,j,k⟩:=ee.1 c;obtain⟨i,f,m⟩:=bX.1 k;have:=h (bY r i) ((lA S).2 ⟨r,XK _ j,i,f,rfl⟩);have p:e.2=gt r i:=XT Prod.fst m;have q:e.1=bA r i:=XT Prod.snd m;rw[p,q];exact l _ _ this;intro h e g;obtain⟨r,j,i,f,rfl⟩:=(lA S).1 g;unfold gK at h;rcases XD.1 j with c|c;subst c;exact h _ (X7 _ (bX.2 ⟨i,f,rfl⟩));exact l _ _ (h (bA r i,gt r i) (X1 _ (ee.2 ⟨r,c,bX.2 ⟨i,f,rfl⟩⟩)))
theorem iK {L:List cp} {f:cp->Bool}:bn L.length (λi=>f (bh L i))=true↔∀e∈L,f e=true:=by
 rw[aF];constructor
 ·intro h e b;obtain⟨i,a,rfl⟩:=YF.1 b;have:=h i a
  rwa [show bh L i=L[i] by simp[List.getD,a]]at this
 ·intro h i a;rw[show bh L i=L[i] by simp[List.getD,a]];exact h _ (Zy a)
theorem tc (S:cJ o hs) (h:e∈cI (o::hs)):aB e=true/\e.a≠e.b:=by
 obtain⟨r,a,i,b,rfl⟩:=(lA S).1 h;exact⟨ef (S.nC a).eX i,pc (S.nC a) b⟩
theorem jB {l:LV} (a:bo l) (h:p∈l):In 2000 p:=by
 obtain⟨i,b,rfl⟩:=YF.1 h;have:=cz a.eX i
 rwa [show gt l i=l[i] by simp[gt,List.getD,b]]at this
theorem zJ (S:cJ o hs) (h:p∈aA o hs):In 2000 p:=by
 obtain⟨r,b,a⟩:=DU.1 h;rcases XD.1 b with c|c;subst c;exact jB (qZ S.outer) a;obtain⟨q,f,rfl⟩:=XS.1 c;exact jB (qZ (S.ring q f)) a
theorem rO (S:cJ o hs) {i:Nat} (h:i<(aA o hs).length:=by omega):In 2000 (gt (aA o hs) i):=zJ S (db h)
end
theorem Tk {c:cp} (f:In 2000 c.a) (i:In 2000 c.b):At (yj c) 2 (an c.a c.b):=by
 have u:=f.x0;have w:=f.x1;have x:=f.y0;have y:=f.y1;have z:=i.x0;have A:=i.x1;have B:=i.y0;have C:=i.y1;refine⟨by decide,?_,?_⟩
 ·unfold yj ed;rw[XJ,X0,fH];by_cases h:(c.a.x+c.b.x).tmod 2=0/\(c.a.y+c.b.y).tmod 2=0;rw[XL h];have ex:=aaI (c.a.x+c.b.x) 2;have l:=aaI (c.a.y+c.b.y) 2;rw[h.1]at ex;rw[h.2]at l;dsimp only;refine⟨⟨by decide,by decide,by omega,by omega,by omega,by omega⟩,Int.gcd_one⟩
  ·rw[XG h];dsimp only;refine⟨⟨by decide,by decide,by omega,by omega,by omega,by omega⟩,?_⟩;have j:((Int.gcd (Int.gcd (c.a.x+c.b.x) (c.a.y+c.b.y):Nat) 2:Nat):Int)∣2:=Int.gcd_dvd_right ..;have m:((Int.gcd (Int.gcd (c.a.x+c.b.x) (c.a.y+c.b.y):Nat) 2:Nat):Int)∣(Int.gcd (c.a.x+c.b.x) (c.a.y+c.b.y):Nat):=Int.gcd_dvd_left ..;have o:=Int.dvd_trans m (Int.gcd_dvd_left (a:=c.a.x+c.b.x) (b:=c.a.y+c.b.y));have p:=Int.dvd_trans m (Int.gcd_dvd_right (a:=c.a.x+c.b.x) (b:=c.a.y+c.b.y));generalize Int.gcd (Int.gcd (c.a.x+c.b.x) (c.a.y+c.b.y):Nat) 2=g at j o p|-;have D:=Int.le_of_dvd (by decide) j;have E:g≠0:=λq=>by rw[q]at j;obtain⟨k,r⟩:=j;simp at r
   by_cases t:g=2;exfalso;subst t;exact h ⟨Int.tmod_eq_zero_of_dvd o,Int.tmod_eq_zero_of_dvd p⟩;omega
 ·unfold yj;by_cases h:(c.a.x+c.b.x).tmod 2=0/\(c.a.y+c.b.y).tmod 2=0;(rw[XL h];have ex:=aaI (c.a.x+c.b.x) 2;have l:=aaI (c.a.y+c.b.y) 2;rw[h.1]at ex;rw[h.2]at l;refine⟨2,by decide,λv=>?_⟩;simp only[fw,ag,ah,an,aaj];congr 1<;>omega)
  ·rw[XG h];refine⟨1,by decide,λv=>?_⟩;simp only[fw,ag,ah,an,abr];congr 1<;>omega
theorem mJ {t a:List Dt->Dt->Bool} {Q:Dt->Prop} (h:∀acc c,(∀d∈acc,Q d)->Q c->t acc c=a acc c):∀{cs acc:List Dt},(∀d∈acc,Q d)->(∀c∈cs,Q c)->cn t acc cs=cn a acc cs
 |[],_,_,_=>rfl
 |c::cs,acc,b,f=>by have i:=f c XW;rw[cn,cn,h acc c b i];by_cases e:a acc c=true;rw[XL e,XL e];refine mJ h (λd j=>?_) λx g=>f x (XK _ g);rcases XP.1 j with k|k;exact b d k;rw[Yr]at k;subst k;exact i;rw[XG e,XG e];exact mJ h b λx g=>f x (XK _ g)
theorem wk {n i:Nat}:∀{m k:Nat},(uA n i m k).Nodup
 |0,_=>aaF
 |m+1,k=>by rw[uA,YA];exact⟨λh=>by have:=(qW.1 h).2.1;simp only at this;omega,wk⟩
theorem tM {n:Nat}:∀{m i:Nat},i+m=n->(fW n m i).Nodup
 |0,_,_=>aaF
 |m+1,i,h=>by rw[fW,YW];refine⟨wk,tM (by omega),λa c b f e=>?_⟩;subst e;have g:=(qW.1 c).1;have j:=((lp (by omega)).1 f).1;omega
section
variable {o:LV} {hs:List (LV)}
theorem MW (S:cJ o hs) (f:∀a b,Q a b->Q b a):(∀e∈mY o hs,Q (gt (aA o hs) e.1) (gt (aA o hs) e.2))↔∀e∈cI (o::hs),Q e.a e.b:=by
 rw[lJ S f];have p:=HS S;rw[<-Bh]at p;constructor;intro h e c;obtain⟨d,g,rfl⟩:=XS.1 (p.mem_iff.2 c);exact h d g;intro h e c;exact h (gt (aA o hs) e.1,gt (aA o hs) e.2) (p.mem_iff.1 (dG c))
theorem On (S:cJ o hs) {acc:List Dt} {c:Dt} (H:c.1<c.2/\c.2<(aA o hs).length) (I:∀d∈acc,d.1<d.2/\d.2<(aA o hs).length):
  Ix o hs (aA o hs) acc c=true↔Good (gt (aA o hs)) (mY o hs) c/\∀d∈acc,Ep (gt (aA o hs)) c d:=by
 have B:∀d:Dt,d.1<d.2/\d.2<(aA o hs).length->aB (nf (aA o hs) d)=true/\gt (aA o hs) d.1≠gt (aA o hs) d.2:=λd j=>
  ⟨jO ((rO S).up (by decide)) ((rO S j.2).up (by decide)),λe=>by have:=ou S _ _ (by omega) j.2 e;omega⟩
 obtain⟨t,p⟩:=B c H;unfold Ix;rw[XJ,XJ,X0];have J:bn acc.length (λi=>zR (nf (aA o hs) c) (nf (aA o hs) (bc acc i)))=true↔∀d∈acc,Ep (gt (aA o hs)) c d:=by rw[aF];constructor;intro h d j;obtain⟨i,l,rfl⟩:=YF.1 j;have g:=h i l;rw[show bc acc i=acc[i] by simp[List.getD,l]]at g;obtain⟨C,D⟩:=B _ (I _ j);exact(vB t C p D).1 g;intro h i l;have j:acc[i]∈acc:=Zy l;rw[show bc acc i=acc[i] by simp[List.getD,l]];obtain⟨C,D⟩:=B _ (I _ j);exact(vB t C p D).2 (h _ j)
 have K:bn (cI (o::hs)).length (λi=>zR (bh (cI (o::hs)) i) (nf (aA o hs) c))=true↔∀e∈mY o hs,Ep (gt (aA o hs)) c e:=by rw[iK (f:=λe=>zR e (nf (aA o hs) c))];unfold Ep;rw[MW S (Q:=λa b=>AE (gt (aA o hs) c.1) (gt (aA o hs) c.2) a b) λa b h=>h.sym.swap.sym];constructor;intro h e m;obtain⟨E,F⟩:=tc S m;exact((vB E t F p).1 (h e m)).sym;intro h e m;obtain⟨E,F⟩:=tc S m;exact(vB E t F p).2 (h e m).sym
 rw[J,K];have A:=Tk (c:=nf (aA o hs) c) (rO S) (rO S H.2);rw[A.KM S];constructor;rintro⟨G,w,_,z⟩;exact⟨⟨w,by rw[S6 S];exact z⟩,G⟩;rintro⟨⟨w,z⟩,G⟩;refine⟨G,w,?_,by rw[S6 S]at z;exact z⟩;rintro⟨r,M,e,m,N⟩;obtain⟨i,l,rfl⟩:=bX.1 m;have q:=(MW S (Q:=λa b=>AE (gt (aA o hs) c.1) (gt (aA o hs) c.2) a b) λa b h=>h.sym.swap.sym).1 w (bY r i) ((lA S).2 ⟨r,M,i,l,rfl⟩);obtain⟨O,P,R⟩:=kI (x:=1) (y:=1) (by decide) (by decide) p (u:=an (gt (aA o hs) c.1) (gt (aA o hs) c.2)) (by simp only[an];omega) (by simp only[an];omega);rcases(q 2 _ (by decide) O N).1 with k|k;exact P k;exact R k
abbrev yr (o:LV) (hs:List (LV)):List Dt:=qG o hs (aA o hs)
theorem nF (S:cJ o hs):pJ (eo (gt (aA o hs)) (mY o hs)) (eo (gt (aA o hs)) (yr o hs)):=by
 let f:List Dt->Dt->Bool:=λa c=>@decide (Good (gt (aA o hs)) (mY o hs) c/\∀d∈a,Ep (gt (aA o hs)) c d) (Classical.propDecidable _);have e:yr o hs=cn f [] (fW (aA o hs).length (aA o hs).length 0):=by unfold yr qG;refine mJ (Q:=λd=>d.1<d.2/\d.2<(aA o hs).length) (λa c g b=>?_) (λd j=>(nomatch j)) λc b=>?_;rw[Zw,On S b g];show _↔@decide _ (Classical.propDecidable _)=true;rw[@X0 _ (Classical.propDecidable _)];have:=(lp (by omega)).1 b;exact⟨this.2.1,this.2.2⟩
 rw[e];refine Dr (n:=(aA o hs).length) (MS S) (S5 S) (ou S) (λi k=>U7 k) (λv l=>MT l) (λa c=>?_) (λc=>?_);show@decide _ (Classical.propDecidable _)=true↔_;rw[@X0 _ (Classical.propDecidable _)];rw[lp (by omega)];exact⟨λh=>h.2,λh=>⟨XR _,h⟩⟩
theorem xq:(yr o hs).Nodup:=mG (by rw[Z1];exact tM (by omega))
end
variable {a:V2}
theorem Po {b:V2} (f:a≠⟨0,0⟩) (g:b≠⟨0,0⟩) (h:¬(aa a b=0/\0<av a b)):rh a b\/rh b a:=by
 unfold rh;have i:=eR a b;by_cases u:gf a<;>by_cases w:gf b
 ·by_cases c:aa a b=0;exact absurd ((yT f g (by unfold cw;rw[X4 u,X4 w]) c).par f) h;rcases Yh c with k|k;exact .inr (.inr ⟨⟨λ_=>u,λ_=>w⟩,by omega⟩);exact .inl (.inr ⟨⟨λ_=>w,λ_=>u⟩,by omega⟩)
 ·exact .inl (.inl ⟨u,w⟩)
 ·exact .inr (.inl ⟨w,u⟩)
 ·by_cases c:aa a b=0;exact absurd ((yT f g (by unfold cw;rw[XZ u,XZ w]) c).par f) h;rcases Yh c with k|k;exact .inr (.inr ⟨⟨λq=>absurd q w,λq=>absurd q u⟩,by omega⟩);exact .inl (.inr ⟨⟨λq=>absurd q u,λq=>absurd q w⟩,by omega⟩)
theorem sU {b c:V2} (f:a≠⟨0,0⟩) (g:b≠⟨0,0⟩) (h:c≠⟨0,0⟩) (i:rh a b) (h2:rh b c):rh a c:=
 A3.1 (Jh f g h (A3.2 i) (A3.2 h2))
theorem Gd {d:V2}:cw d=true↔gf d:=by unfold cw;rw[X0]
theorem qT {n:Int}:(0<bN n↔0<n)/\(bN n<0↔n<0):=by unfold bN;split<;>(try split)<;>omega
theorem EB {b:V2} (c:In 2000 a) (f:In 2000 b):cW a b=ag a b/\In 4000 (ag a b):=by
 obtain⟨e,i⟩:=fJ (by decide) c f;exact⟨e,i.up (by decide)⟩
variable {i k p:Nat}
theorem BF {v:LV} (c:∀i,In 2000 (gt v i)):Vf v p i k<0↔rh (ag (gt v i) (gt v p)) (ag (gt v k) (gt v p)):=by
 obtain⟨f,g⟩:=EB (c i) (c p);obtain⟨h,j⟩:=EB (c k) (c p);unfold Vf;rw[f,h,jw (m:=4000) (by decide) (by decide) ⟨by decide,by decide,by decide,by decide⟩ g j];generalize ag (gt v i) (gt v p)=a;generalize ag (gt v k) (gt v p)=b;have l:mW ⟨0,0⟩ a b=bN (aa a b):=by unfold mW;congr 2<;>simp only[ag,Int.sub_zero]
 rw[l];have s:=qT (n:=aa a b);unfold rh Eo;rw[<-Gd,<-Gd];cases cw a<;>cases cw b<;>simp<;>omega
variable {cf:Nat->Nat->Int}
theorem nh.of_lt {n:Nat} {g:Nat->V2} (c:∀i,i<n->g i≠⟨0,0⟩) (h:∀i k,i<n->k<n->(cf i k<0↔rh (g i) (g k))) (m:∀i k,i<n->k<n->i≠k->rh (g i) (g k)\/rh (g k) (g i)):nh n cf:=by
 refine⟨λi hi=>?_,λi j k hi a b f l=>?_,λi j k hi a b f l=>?_⟩;rw[h i i hi hi];exact Fu;rw[h _ _ hi b];exact sU (c i hi) (c j a) (c k b) ((h _ _ hi a).1 f) ((h _ _ a b).1 l);rw[h _ _ hi a]at f;rw[h _ _ a b]at l;rw[h _ _ hi b];by_cases o:i=j;subst o;exact l;by_cases p:j=k;subst p;exact f;have q:=(m i j hi a o).resolve_left f;have r:=(m j k a b p).resolve_left l;intro t;exact Fu (sU (c k b) (c j a) (c k b) r (sU (c j a) (c i hi) (c k b) q t))
theorem IG {n:Nat} (h:nh n cf) (g:∀i k,i<n->k<n->i≠k->cf i k<0\/cf k i<0):((List.range n).map (tH n cf)).Pairwise λi k=>cf i k<0:=by
 obtain⟨p,q⟩:=jl h;have l:=p.symm.nodup aag;rw[Y7];intro i j a b c;have m:i<n:=by simpa using a
 have f:j<n:=by simpa using b
 simp only[aaL,aaC];have o:tH n cf i<n:=X6.1 (p.mem_iff.1 (XS.2 ⟨i,X6.2 m,rfl⟩));have r:tH n cf j<n:=X6.1 (p.mem_iff.1 (XS.2 ⟨j,X6.2 f,rfl⟩));refine(g _ _ o r λe=>?_).resolve_right (q i j c f);have:=Y7.1 l i j a b c;simp only[aaL,aaC]at this;exact this e
variable {nb:Nat->List Nat}
theorem PA {d:Dt} (h:d.1≠d.2) (x:Nat):rp nb d x=if x=d.1 then nb x++[d.2]else if x=d.2 then nb x++[d.1]else nb x:=by
 unfold rp dZ;by_cases c:x=d.2;subst c;rw[XL rfl,XG (λe=>h e.symm),XG (λe=>h e.symm),XL rfl];rw[XG c,XG c];by_cases a:x=d.1;rw[XL a,XL a,a];rw[XG a,XG a]
abbrev JT (d e:Dt):Prop:=e≠d/\e≠iM d
theorem zh:∀(E:List Dt) (nb:Nat->List Nat),(∀p,(nb p).Nodup)->(∀d∈E,d.1≠d.2)->E.Pairwise JT->(∀d∈E,d.2∉nb d.1/\d.1∉nb d.2)->∀p,(E.foldl rp nb p).Nodup
 |[],_,h,_,_,_,p=>h p
 |d::E,nb,h,l,w,m,p=>by rw[Z3];have o:=Y2.1 w;have x:=l d XW;have t:=m d XW;refine zh E (rp nb d) (λq=>?_) (λe g=>l e (XK _ g)) o.2 (λe g=>?_) p;rw[PA x];by_cases c:q=d.1;rw[XL c,c,YW];exact⟨h _,by simp,λa i b f e=>by rw[Yr]at f;subst f;subst e;exact t.1 i⟩;rw[XG c];by_cases j:q=d.2;rw[XL j,j,YW];exact⟨h _,by simp,λa i b f e=>by rw[Yr]at f;subst f;subst e;exact t.2 i⟩;rw[XG j];exact h q;have r:=o.1 e g;have u:=m e (XK _ g);rw[xa,xa];refine⟨λk=>?_,λk=>?_⟩;rcases k with k|k|k;exact u.1 k;exact r.1 k.symm;exact r.2 (by rw[k];rfl);rcases k with k|k|k;exact u.2 k;exact r.2 (by rw[k];rfl);exact r.1 k.symm
theorem vQ (d:Dt):iM (iM d)=d:=rfl
theorem Lg (B:List Dt):(B.map iM).Pairwise JT↔B.Pairwise JT:=by
 rw[ZT];constructor;intro h;exact h.imp λ{a b} k=>⟨λe=>k.1 (by rw[e]),λe=>k.2 (by rw[e])⟩;intro h;exact h.imp λ{a b} k=>⟨λe=>k.1 (by rw[<-vQ b,e,vQ]),λe=>k.2 (by rw[<-vQ b,e,vQ])⟩
theorem Lf {A B C:List Dt} (h:(A++B.map iM++C).Pairwise JT):(A++B++C).Pairwise JT:=by
 rw[aac,aac]at h|-;obtain⟨⟨a,b,j⟩,c,i⟩:=h;refine⟨⟨a,(Lg B).1 b,λx g y f=>?_⟩,c,λx g y f=>?_⟩;have:=j x g (iM y) (XS.2 ⟨y,f,rfl⟩);exact⟨λe=>this.2 (by rw[e]),λe=>this.1 (by rw[e,vQ])⟩;rcases XP.1 g with k|k;exact i x (X7 _ k) y f;have:=i (iM x) (X1 _ (XS.2 ⟨x,k,rfl⟩)) y f;exact⟨λe=>this.2 (by rw[e,vQ]),λe=>this.1 e⟩
variable {y:Nat}
section
variable {o:LV} {hs:List (LV)}
abbrev kH (o:LV) (hs:List (LV)):List Dt:=iQ 0 (aX o::eT hs)++yr o hs
theorem uV:((p,y)∈kH o hs\/(y,p)∈kH o hs)↔((p,y)∈mY o hs++yr o hs\/(y,p)∈mY o hs++yr o hs):=by
 unfold kH mY;rw[iQ,r5,Ya];have q:∀a b:Nat,(a,b)∈(iQ (aX o).length (eT hs)).map iM↔(b,a)∈iQ (aX o).length (eT hs):=λa b=>by
  constructor
  ·intro h;obtain⟨d,c,e⟩:=XS.1 h;have:d=(b,a):=by rw[<-vQ d,e];rfl
   rwa [<-this]
  ·intro h;exact XS.2 ⟨_,h,rfl⟩
 simp only[XP,q];constructor;rintro(((h|h)|h)|((h|h)|h));exact .inl (.inl (.inl h));exact .inr (.inl (.inr h));exact .inl (.inr h);exact .inr (.inl (.inl h));exact .inl (.inl (.inr h));exact .inr (.inr h);rintro(((h|h)|h)|((h|h)|h));exact .inl (.inl (.inl h));exact .inr (.inl (.inr h));exact .inl (.inr h);exact .inr (.inl (.inl h));exact .inl (.inl (.inr h));exact .inr (.inr h)
theorem Rg {d:Dt} (h:d∈yr o hs):d.1<d.2/\d.2<(aA o hs).length:=wD h
theorem F4 {d:Dt} (h:d∈mY o hs++yr o hs):d.1<(aA o hs).length/\d.2<(aA o hs).length:=by
 rcases XP.1 h with k|k;exact MU k;have:=Rg k;omega
theorem rH {d:Dt} (h:d∈mY o hs++yr o hs):(gt (aA o hs) d.1,gt (aA o hs) d.2)∈eo (gt (aA o hs)) (mY o hs)++eo (gt (aA o hs)) (yr o hs):=by
 rw[<-gY];exact dG h
theorem NI (S:cJ o hs) {d:Dt} (h:d∈mY o hs++yr o hs):d.1≠d.2:=λe=>by
 have:=((nF S).toDis.ends (rH h)).2.2;exact this (by show gt (aA o hs) d.1=gt (aA o hs) d.2;rw[e])
theorem sJ (h:y∈dB (kH o hs) p):p<(aA o hs).length/\y<(aA o hs).length:=by
 rcases uV.1 (nW.1 h)with k|k;exact F4 k;exact(F4 k).symm
theorem AF (h:y∈dB (kH o hs) p):ow (eo (gt (aA o hs)) (mY o hs)) (eo (gt (aA o hs)) (yr o hs)) (gt (aA o hs) p) (gt (aA o hs) y):=by
 rcases uV.1 (nW.1 h)with k|k;exact .inl (rH k);exact .inr (rH k)
theorem NH (S:cJ o hs):(mY o hs++yr o hs).Pairwise JT:=by
 have D:=(nF S).toDis;have f:(mY o hs++yr o hs).Nodup:=by have:=xv D DC xq;unfold nX at this;rw[<-Yk]at this;exact(YW.1 this).1
 refine List.Pairwise.imp_of_mem (λ{a b} g i h=>⟨λe=>h e.symm,λe=>?_⟩) f;have j:=rH g;have c:=rH i;rw[e]at c;exact D.Gf j c
theorem sH (S:cJ o hs) (p:Nat):(dB (kH o hs) p).Nodup:=by
 have q:∀d∈kH o hs,d.1≠d.2:=λd a=>by rcases uV.1 (.inl (show(d.1,d.2)∈kH o hs from a))with k|k;exact NI S k;exact(NI S k).symm
 refine zh (kH o hs) (λ_=>[]) (λ_=>aaF) q ?_ (λd _=>⟨by simp,by simp⟩) p;have h:=NH S;unfold mY at h;rw[r5]at h;have:=Lf h;unfold kH;rw[iQ,Ya];exact this
theorem FJ (S:cJ o hs) (h:y∈dB (kH o hs) p):ag (gt (aA o hs) y) (gt (aA o hs) p)≠⟨0,0⟩:=
 cC λe=>(AF h).ne (nF S).toDis e.symm
theorem rz (S:cJ o hs) (i:Nat):In 2000 (gt (aA o hs) i):=by
 by_cases h:i<(aA o hs).length;exact rO S h;have:gt (aA o hs) i=⟨0,0⟩:=(by simp[gt,List.getD,h]);rw[this];exact⟨by decide,by decide,by decide,by decide⟩
theorem GD (S:cJ o hs) {x:Nat} (a:x∈dB (kH o hs) p) (b:y∈dB (kH o hs) p) (h:x≠y):
  rh (ag (gt (aA o hs) x) (gt (aA o hs) p)) (ag (gt (aA o hs) y) (gt (aA o hs) p))\/rh (ag (gt (aA o hs) y) (gt (aA o hs) p)) (ag (gt (aA o hs) x) (gt (aA o hs) p)):=
 Po (FJ S a) (FJ S b) (Hb (nF S).toDis (AF a) (AF b) λe=>h (ou S _ _ (sJ a).2 (sJ b).2 e))
theorem lE {l:List Nat} (h:i<l.length):l.getD i 0∈l:=by
 rw[show l.getD i 0=l[i] by simp[List.getD,h]];exact Zy h
theorem wN {l:List Nat} (h:l.Nodup) (hi:i<l.length) (a:k<l.length) (e:l.getD i 0=l.getD k 0):i=k:=by
 have b:l[i]=l[k]:=by simpa[List.getD,hi,a]using e
 have P:=Y7.1 h;rcases Z0 i k with c|c|c;exact absurd b (P i k hi a c);exact c;exact absurd b.symm (P k i a hi c)
theorem AD (S:cJ o hs) (p:Nat):nh (dB (kH o hs) p).length (Oa (aA o hs) p (dB (kH o hs) p)):=
 nh.of_lt (g:=λi=>ag (gt (aA o hs) ((dB (kH o hs) p).getD i 0)) (gt (aA o hs) p)) (λi a=>FJ S (lE a)) (λi k _ _=>BF (rz S))
  λi k a b h=>GD S (lE a) (lE b) λe=>h (wN (sH S p) a b e)
theorem lv (S:cJ o hs) (p:Nat):(CU o hs p).Perm (dB (kH o hs) p):=by
 unfold CU ns;split;exact yK (AD S p);exact .refl _
theorem Pb (S:cJ o hs) (p:Nat):(CU o hs p).Pairwise λi k=>rh (ag (gt (aA o hs) i) (gt (aA o hs) p)) (ag (gt (aA o hs) k) (gt (aA o hs) p)):=by
 by_cases h:p<(aA o hs).length;have e:CU o hs p=((List.range (dB (kH o hs) p).length).map (tH (dB (kH o hs) p).length (Oa (aA o hs) p (dB (kH o hs) p)))).map λi=>(dB (kH o hs) p).getD i 0:=(by unfold CU ns;rw[XL h];rfl);rw[e,ZT];refine(IG (AD S p) λi k a b c=>?_).imp λ{i k} q=>(BF (rz S)).1 q;rcases GD S (lE a) (lE b) (λe=>c (wN (sH S p) a b e))with q|q;exact .inl ((BF (rz S)).2 q);exact .inr ((BF (rz S)).2 q);have e:CU o hs p=[]:=(by apply aah.2;intro y f;exact h (sJ ((lv S p).mem_iff.1 f)).1);rw[e];exact List.Pairwise.nil
theorem Xu (S:cJ o hs):tz (gt (aA o hs)) (aA o hs).length (mY o hs) (yr o hs) (CU o hs):=
 ⟨ou S,λ_ h=>F4 h,λp y=>by rw[(lv S p).mem_iff,nW];exact uV,Pb S⟩
theorem Q6 (S:cJ o hs) (nb:Nat->List Nat) (p q:Nat):Ek (aA o hs) nb p q=nM (gt (aA o hs)) nb p q:=by
 unfold Ek nM;refine Ym.2 ?_;rw[jw (m:=2000) (by decide) (by decide) (rz S _) (rz S _) (rz S _)];have:=qT (n:=aj (gt (aA o hs) p) (gt (aA o hs) (bM (nb p) q)) (gt (aA o hs) (JG (nb p) q)));show bN (aj _ _ _)>=0↔_;omega
theorem S9 (h:∀p,(nb p).Nodup) {q:Nat} (g:p≠q:=by omega):Bk nb p q=dP nb p q:=by
 have f:∀(l:List Nat) (a:Nat),l.Nodup->(l.filter λx=>!decide (x=a))=l.erase a:=λl a i=>by rw[i.erase_eq_filter];refine List.filter_congr λx _=>?_;by_cases j:x=a<;>simp[j]
 funext x;unfold Bk dP dZ;by_cases c:x=q;subst c;rw[XL rfl,XG (λe=>g e.symm),XG (λe=>g e.symm),XL rfl,f _ _ (h x)];rw[XG c,XG c];by_cases b:x=p;rw[XL b,XL b,f _ _ (h p)];rw[XG b,XG b]
theorem FI (h:∀p,(nb p).Nodup) (p q x:Nat):(dP nb p q x).Nodup:=by
 unfold dP;split;exact(h p).erase q;split;exact(h q).erase p;exact h x
theorem Ky (S:cJ o hs):∀(L:List Dt) (nb:Nat->List Nat),(∀p,(nb p).Nodup)->(∀d∈L,d.1<d.2)->L.Nodup->(∀d∈L,d.2∈nb d.1/\d.1∈nb d.2)->yJ (aA o hs) nb L=cY (gt (aA o hs)) nb L/\F8 (aA o hs) nb L
 |[],_,_,_,_,_=>⟨rfl,trivial⟩
 |d::L,nb,h,l,b,g=>by
  have t:=l d XW;have f:=g d XW;have i:∀e∈L,e.1<e.2:=λe a=>l e (XK _ a);rw[YA]at b;rw[yJ,cY,F8,Q6 S,Q6 S];by_cases c:(nM (gt (aA o hs)) nb d.1 d.2&&nM (gt (aA o hs)) nb d.2 d.1)=true
  ·rw[XL c,XL c,XL c,S9 h];obtain⟨j,k⟩:=Ky S L (dP nb d.1 d.2) (FI h _ _) i b.2 (λe a=>by
    have m:=g e (XK _ a);have r:e≠d:=λq=>b.1 (q▸a);have u:=i e a;rw[fR h,fR h];refine⟨⟨m.1,λq=>r ?_,λq=>?_⟩,⟨m.2,λq=>?_,λq=>r ?_⟩⟩;exact aaz q.1 q.2;omega;omega
    ·exact aaz q.2 q.1)
   exact⟨j,⟨f.1,f.2,h _,h _,by omega⟩,k⟩
  ·rw[XG c,XG c,XG c];obtain⟨j,k⟩:=Ky S L nb h i b.2 λe a=>g e (XK _ a);exact⟨by rw[j],⟨f.1,f.2,h _,h _,by omega⟩,k⟩
theorem R3 (S:cJ o hs):yI o hs=cY (gt (aA o hs)) (CU o hs) (yr o hs)/\F8 (aA o hs) (CU o hs) (yr o hs):=by
 have G:=Xu S;refine Ky S (yr o hs) (CU o hs) (λp=>(lv S p).symm.nodup (sH S p)) (λd a=>(Rg a).1) xq λd a=>?_;rw[G.mem,G.mem];exact⟨.inl (X1 _ a),.inr (X1 _ a)⟩
end
def BZ (fc:Dt->List Dt):List Dt->List Dt->List (List Dt)
 |[],_=>[]
 |d::S,a=>if d∈a then BZ fc S a else fc d::BZ fc S (a++fc d)
theorem oB (v:LV) (fc:Dt->List Dt):∀S a:List Dt,uq v fc S a=(BZ fc S a).map λf=>bC (ei (fZ v f) f.length)
 |[],_=>rfl
 |d::S,a=>by rw[uq,BZ];by_cases c:d∈a;rw[XL c,XL c,oB v fc S a];rw[XG c,XG c,Yz,oB v fc S]
theorem mb {fc:Dt->List Dt}:∀{S dn:List Dt} {f:List Dt},f∈BZ fc S dn->∃d∈S,f=fc d
 |[],_,_,h=>(nomatch h)
 |d::S,dn,f,h=>by rw[BZ]at h;by_cases c:d∈dn;rw[XL c]at h;obtain⟨e,a,q⟩:=mb h;exact⟨e,XK _ a,q⟩;rw[XG c]at h;rcases XD.1 h with k|k;exact⟨d,XW,k⟩;obtain⟨e,a,q⟩:=mb k;exact⟨e,XK _ a,q⟩
theorem se {fc:Dt->List Dt}:∀{S dn:List Dt},(∀d∈S,(fc d).Nodup)->(∀d∈S,∀e∈S,e∉fc d->∀x∈fc e,x∉fc d)->(∀e∈S,e∉dn->∀x∈fc e,x∉dn)->
  (BZ fc S dn).flatten.Nodup/\∀x∈(BZ fc S dn).flatten,x∉dn
 |[],_,_,_,_=>⟨aaF,λx h=>(nomatch h)⟩
 |d::S,dn,o,p,i=>by
  have r:∀e∈S,(fc e).Nodup:=λe f=>o e (XK _ f);have t:∀d∈S,∀e∈S,e∉fc d->∀x∈fc e,x∉fc d:=λa j b l=>p a (XK _ j) b (XK _ l);rw[BZ];by_cases c:d∈dn;rw[XL c];exact se r t λe f=>i e (XK _ f)
  ·rw[XG c,Zg];obtain⟨w,u⟩:=se (fc:=fc) (S:=S) (dn:=dn++fc d) r t (λe f m x g y=>by
    rw[XP,not_or]at m;rcases XP.1 y with q|q;exact i e (XK _ f) m.1 x g q
    ·exact p d XW e (XK _ f) m.2 x g q)
   refine⟨YW.2 ⟨o d XW,w,λa j b l e=>?_⟩,λx g=>?_⟩;subst e;exact u a l (X1 _ j);rcases XP.1 g with q|q;exact i d XW c x q;exact λk=>u x q (X7 _ k)
theorem Ac {fc:Dt->List Dt}:∀{S dn:List Dt},(∀d∈S,d∈fc d)->∀d∈S,d∈dn\/d∈(BZ fc S dn).flatten
 |[],_,_,_,h=>(nomatch h)
 |e::S,dn,h,d,a=>by have b:∀d∈S,d∈fc d:=λx f=>h x (XK _ f);rw[BZ];by_cases c:e∈dn;rw[XL c];rcases XD.1 a with k|k;subst k;exact .inl c;exact Ac b d k;rw[XG c,Zg];rcases XD.1 a with k|k;subst k;exact .inr (X7 _ (h d XW));rcases Ac (dn:=dn++fc e) b d k with q|q;rcases XP.1 q with q|q;exact .inl q;exact .inr (X7 _ q);exact .inr (X1 _ q)
theorem Hp {f:Dt->Dt}:∀{l:List Dt} {d e:Dt},mR f d l e->∀i,i<(d::l).length->f (bc (d::l) i)=if i+1<(d::l).length then bc (d::l) (i+1)else e
 |[],d,e,h,i,a=>by have:i=0:=(by simp at a;exact a);subst this;exact h
 |x::l,d,e,h,i,a=>by
  cases i with
  |zero=>exact h.1
  |succ i=>have:=Hp h.2 i (by simpa using a);show f (bc (x::l) i)=if i+1+1<(d::x::l).length then bc (x::l) (i+1)else e;rw[this];simp only[XV];by_cases c:i+1<l.length+1;rw[XL c,iP];rw[XG c,iN]
variable {i:Nat}
theorem PY {f:Dt->Dt} {d:Dt} {l:List Dt} (h:Cy f (d::l)) (hi:i<(d::l).length):f (bc (d::l) i)=bc (d::l) ((i+1)%(d::l).length):=by
 rw[Hp (show mR f d l d from h) i hi];by_cases c:i+1<(d::l).length;rw[XL c,X5 c];rw[XG c,show i+1=(d::l).length by omega,Zt];rfl
section
variable {v:LV} (hv:∀i,In 2000 (gt v i))
include hv
theorem P5 {f:List Dt} (a:∀i,i<f.length->(bc f ((i+1)%f.length)).1=(bc f i).2) (hi:i<f.length):
  Nj (fZ v f) i=true↔aa (bu (gt v) (bc f ((i+f.length-1)%f.length))) (bu (gt v) (bc f i))≠0:=by
 have h:(fZ v f).length=f.length:=by simp[fZ]
 have g:∀k,k<f.length->gt (fZ v f) k=gt v (bc f k).1:=λk j=>by simp[fZ,gt,List.getD,j]
 have l:(i+1)%f.length<f.length:=mLt;have b:(i+f.length-1)%f.length<f.length:=mLt;unfold Nj lV bA;rw[h,g i hi,g _ l,g _ b,X0,jw (m:=2000) (by decide) (by decide) (hv _) (hv _) (hv _),a i hi];have o:(bc f ((i+f.length-1)%f.length)).2=(bc f i).1:=by rw[<-a _ b];congr 2;by_cases c:i=0;subst c;rw[show 0+f.length-1=f.length-1 by omega,X5 (show f.length-1<f.length by omega),show f.length-1+1=f.length by omega,Zt];rw[show i+f.length-1=(i-1)+f.length by omega,YI,X5 (show i-1<f.length by omega),show i-1+1=i by omega,X5 hi]
 have p:aa (bu (gt v) (bc f ((i+f.length-1)%f.length))) (bu (gt v) (bc f i))=aj (gt v (bc f ((i+f.length-1)%f.length)).1) (gt v (bc f i).1) (gt v (bc f i).2):=by unfold bu;rw[o];simp only[aj,aa,ag];grind
 rw[p];have s:=qT (n:=aj (gt v (bc f ((i+f.length-1)%f.length)).1) (gt v (bc f i).1) (gt v (bc f i).2));show bN (aj _ _ _)≠0↔_;omega
theorem tX {f:List Dt} (h:∀i,i<f.length->(bc f ((i+1)%f.length)).1=(bc f i).2):∀(r:List Dt) (j:Nat) (x:Dt),f.drop j=x::r->j<f.length->
  ((List.range' j (x::r).length).filter (Nj (fZ v f))).map (gt (fZ v f))=kp (bu (gt v) (bc f ((j+f.length-1)%f.length))) (gt v x.1) (lH (gt v) (x::r))
 |r,j,x,m,a=>by
  have b:x=bc f j:=(by have:=XT (λl=>l.getD 0 (0,0)) m;simpa[List.getD]using this.symm);have g:gt (fZ v f) j=gt v x.1:=(by rw[b];simp[fZ,gt,List.getD,a]);have k:f.drop (j+1)=r:=(by rw[<-abX,m];rfl);have o:((List.range' (j+1) r.length).filter (Nj (fZ v f))).map (gt (fZ v f))=kp (bu (gt v) x) (an (gt v x.1) (bu (gt v) x)) (lH (gt v) r):=by
   cases r with
   |nil=>rfl
   |cons y t=>have p:j+1<f.length:=(by have:=XT List.length k;simp at this;omega);have u:=tX h t (j+1) y k p;have w:y=bc f (j+1):=(by have:=XT (λl=>l.getD 0 (0,0)) k;simpa[List.getD]using this.symm);have z:bc f ((j+1+f.length-1)%f.length)=x:=(by rw[show j+1+f.length-1=j+f.length by omega,YI,X5 a,b]);have A:an (gt v x.1) (bu (gt v) x)=gt v y.1:=(by have:=h j a;rw[X5 p,<-w,<-b]at this;unfold bu;rw[cg,this]);rw[u,z,A]
  rw[XV,List.range'_succ,abb];show _=if aa _ (bu (gt v) x)≠0 then gt v x.1::kp (bu (gt v) x) (an (gt v x.1) (bu (gt v) x)) (lH (gt v) r)else kp (bu (gt v) x) (an (gt v x.1) (bu (gt v) x)) (lH (gt v) r);have cb:=P5 hv h a;rw[<-b]at cb;by_cases c:aa (bu (gt v) (bc f ((j+f.length-1)%f.length))) (bu (gt v) x)≠0;rw[XL (cb.2 c),XL c,Yz,g,o];rw[XG (λq=>c (cb.1 q)),XG c,o]
theorem Hu {f:List Dt} (b:f≠[]) (a:∀i,i<f.length->(bc f ((i+1)%f.length)).1=(bc f i).2):ei (fZ v f) f.length=Bv (gt v) f:=by
 match f,b,a with
 |d::l,_,a=>have:=tX hv a l 0 d rfl (by simp);unfold ei Bv;rw[List.range_eq_range',this];congr 2;rw[show 0+(d::l).length-1=l.length by simp,X5 (by simp)];rw[List.getLast_eq_getElem];simp[List.getD]
end
theorem wj {n:Nat}:∀{m i:Nat},i+m=n->2*(fW n m i).length=m*(m-1)
 |0,_,_=>rfl
 |m+1,i,h=>by
  rw[fW,XQ,wm,Nat.mul_add,wj (by omega),show n-(i+1)=m by omega];cases m with
  |zero=>rfl
  |succ m=>simp only[aaW];grind
theorem sn (P:Nat->V2):∀(L:List Dt) (nb:Nat->List Nat),(cY P nb L).2.length<=L.length
 |[],_=>XU _
 |d::L,nb=>by rw[cY];by_cases c:(nM P nb d.1 d.2&&nM P nb d.2 d.1)=true;rw[XL c];have:=sn P L (dP nb d.1 d.2);simp only[XV];omega;rw[XG c];have:=sn P L nb;simp only[XV];omega
theorem zo:∀{L:List (List Dt)},(∀f∈L,3<=f.length)->3*L.length<=L.flatten.length
 |[],_=>XU _
 |f::L,h=>by have b:=h f XW;have c:=zo λx a=>h x (XK f a);rw[Zg,XQ,XV];omega
structure QA (o:LV) (hs:List (LV)) (L:List (LV)):Prop where
 W6:DP 19 [iO o hs] (.eD [.one (hS L),.one (i64 0)])
 cv:∀r∈L,gg r
 sub:∀r∈L,∀x∈r,x∈aA o hs
 Ir:∀(m:Int) (z:V2),0<m->W (bw m (gK o hs)) z=WL m L z
 zq:3*L.length<=aP (o::hs)*aP (o::hs)
 WW:3*L.length<=aP (o::hs)+2*(yI o hs).2.length
theorem gg.begin {l:LV} (C:gg l):gg (bC l):=by
 have:=C;rw[K5 l (eb l)]at this;exact this.Xf
theorem Qy (l:LV) (m:Int) (z:V2):W (bw m (bJ (bC l))) z=W (bw m (bJ l)) z:=jV ((td l).map _) z
theorem SI {P:Nat->V2} {n:Nat} {f:List Dt} (c:∀i,i<f.length->(bc f ((i+1)%f.length)).1=(bc f i).2) (v:LV) (h:∀d∈f,d.1<v.length):∀x∈ei (fZ v f) f.length,x∈v:=by
 intro x b;unfold ei at b;obtain⟨i,a,rfl⟩:=XS.1 b;have a:=X6.1 (aaq.1 a).1;have:gt (fZ v f) i=gt v (bc f i).1:=by simp[fZ,gt,List.getD,a]
 rw[this];exact db (h _ (by rw[show bc f i=f[i] by simp[List.getD,a]];exact Zy a))
theorem Qz {m:Int} {z:V2} {A B:List (LV)} (h:A.Perm B):WL m A z=WL m B z:=by
 induction h with
 |nil=>rfl
 |cons x _ a=>rw[iu,iu,a]
 |swap x y l=>rw[iu,iu,iu,iu];omega
 |trans _ _ b c=>exact b.trans c
theorem sP {o:LV} {hs:List (LV)} (V:VS o hs):∃L,QA o hs L:=by
 have S:=V.ok;obtain⟨b2,c9⟩:=R3 S;obtain⟨B,G,F,N,Y,a1⟩:=(Xu S).pieces (nF S) DC xq;rw[<-b2]at G F N Y a1;have d0:=Aq V (ou S) (λp _=>AD S p) c9;have b3:(aA o hs).length=aP (o::hs):=iJ V;have a2:(aA o hs).length<=80:=by rw[b3];exact V.eZ
 have e6:2*(yI o hs).2.length<=(aA o hs).length*((aA o hs).length-1):=by have a3:(yI o hs).2.length<=(yr o hs).length:=(by rw[b2];exact sn _ _ _);have d1:(yr o hs).length<=([]:List Dt).length+_:=mI;rw[Z2,Ya]at d1;have d2:=wj (n:=(aA o hs).length) (m:=(aA o hs).length) (i:=0) (by omega);omega
 have e7:(aA o hs).length+(aA o hs).length*((aA o hs).length-1)=(aA o hs).length*(aA o hs).length:=by
  cases (aA o hs).length with
  |zero=>rfl
  |succ n=>rw[aaW,ZP,Nat.mul_add,abN,ZP n,Zu];grind
 have e8:(aA o hs).length*(aA o hs).length<=6400:=Yg (aaE a2 a2) (by decide);have T:B.flatten.Nodup:=F.nd;have b4:=B8 (o:=o) (hs:=hs) (yI o hs).2;generalize b5:QR (N8 o hs).length (N8 o hs) (yI o hs).2=w at b4;have K:w.Perm B.flatten:=b4.trans N.symm;have d3:w.Nodup:=K.symm.nodup T;have e9:B.flatten.length=(aA o hs).length+2*(yI o hs).2.length:=by rw[N.length_eq];unfold nX;rw[XQ,XQ,Yy];have:(mY o hs).length=(aA o hs).length:=(by have:=(qB (o:=o) (hs:=hs)).length_eq;simpa using this);omega
 have f0:B.flatten.length<=(aA o hs).length*(aA o hs).length:=by omega
 have ex:∀d,∃U:List Dt,d∈w->∃f∈B,∃l,U=d::l/\f.Perm U/\Cy (nx (yI o hs).1) U:=λd=>by by_cases h:d∈w;obtain⟨f,R,u,d4,_,_⟩:=jH (K.mem_iff.1 h);obtain⟨l,A,M⟩:=DG (F.cy f u) d4;exact⟨d::l,λ_=>⟨f,u,l,rfl,A,M⟩⟩;exact⟨[],λq=>absurd q h⟩
 obtain⟨fc,C⟩:=abc ex;have d5:∀{f g:List Dt} {x:Dt},f∈B->g∈B->x∈f->x∈g->f=g:=by intro f g x u H b6 b7;have P:=(List.pairwise_flatten.1 T).2;obtain⟨i,I,a4⟩:=YF.1 u;obtain⟨j,b8,a5⟩:=YF.1 H;have Q:=Y7.1 P;rcases Z0 i j with c|c|c;exact absurd rfl (Q i j I b8 c x (by rw[a4];exact b6) x (by rw[a5];exact b7));subst c;exact a4.symm.trans a5;exact absurd rfl (Q j i b8 I c x (by rw[a5];exact b7) x (by rw[a4];exact b6))
 have Z:∀d∈w,∀x∈fc d,x∈B.flatten:=λd b x E=>by obtain⟨f,u,l,_,A,_⟩:=C d b;exact Zn.2 ⟨f,u,A.mem_iff.2 E⟩
 have a6:∀d∈w,(fc d).Nodup:=λd b=>by obtain⟨f,u,l,_,A,_⟩:=C d b;exact A.nodup ((List.pairwise_flatten.1 T).1 f u)
 have b9:∀d∈w,∀e∈w,e∉fc d->∀x∈fc e,x∉fc d:=λd b e a7 d6 x E O=>by obtain⟨f,u,l,_,A,_⟩:=C d b;obtain⟨g,H,f1,d7,c0,_⟩:=C e a7;have:=d5 u H (A.mem_iff.2 O) (c0.mem_iff.2 E);subst this;exact d6 (A.mem_iff.1 (c0.mem_iff.2 (by rw[d7];exact XW)))
 have a8:∀d∈w,∀i,i<(fc d).length->nx (yI o hs).1 (bc (fc d) i)=bc (fc d) ((i+1)%(fc d).length):=λd b i I=>by obtain⟨f,u,l,e,A,M⟩:=C d b;rw[e]at M I|-;exact PY M I
 have a9:∀d∈w,∀i,i<(fc d).length->(bc (fc d) ((i+1)%(fc d).length)).1=(bc (fc d) i).2:=λd b i I=>by rw[<-a8 d b i I];rfl
 have b0:∀d∈w,fc d≠[]:=λd b=>by obtain⟨f,u,l,e,_⟩:=C d b;rw[e];exact List.cons_ne_nil _ _
 have c1:∀d∈w,0<(fc d).length:=λd b=>ZH.2 (b0 d b);have c2:∀d∈w,bc (fc d) 0=d:=λd b=>by obtain⟨f,u,l,e,_⟩:=C d b;rw[e];rfl
 have X:(BZ fc w []).flatten.Perm w:=by obtain⟨d8,_⟩:=se (fc:=fc) (S:=w) (dn:=[]) a6 b9 (λ_ _ _ _ _ h=>(nomatch h));refine(List.perm_ext_iff_of_nodup d8 d3).2 λa=>⟨λh=>?_,λh=>?_⟩;obtain⟨f,u,d9⟩:=Zn.1 h;obtain⟨d,b,rfl⟩:=mb u;exact K.mem_iff.2 (Z d b a d9);refine(Ac (λd b=>?_) a h).resolve_left (λq=>(nomatch q));obtain⟨f,u,l,e,_⟩:=C d b;rw[e];exact XW
 have U:Fc (gt (aA o hs)) (yI o hs).1 (BZ fc w []):=by refine⟨λf u=>?_,λf u=>?_,(X.trans K).symm.nodup T,λd b=>F.left d ((X.trans K).mem_iff.1 b),λd b=>F.rev d ((X.trans K).mem_iff.1 b)⟩;obtain⟨d,b,rfl⟩:=mb u;obtain⟨_,_,_,_,_,M⟩:=C d b;exact M;obtain⟨d,b,rfl⟩:=mb u;obtain⟨f,u,_,_,A,_⟩:=C d b;rw[<-jt _ A];exact F.one f u
 obtain⟨c3,e0⟩:=a1 (BZ fc w []) U ((X.trans K).trans N);have b1:∀f∈BZ fc w [],ei (fZ (aA o hs) f) f.length=Bv (gt (aA o hs)) f:=λf u=>by obtain⟨d,b,rfl⟩:=mb u;exact Hu (rz S) (b0 d b) (a9 d b)
 have e1:∀f∈BZ fc w [],3<=(ei (fZ (aA o hs) f) f.length).length:=λf u=>by rw[b1 f u];exact(c3 f u).n3
 have e2:∀d∈w,0<(ei (fZ (aA o hs) (fc d)) (fc d).length).length:=λd b=>by have f2:Fc (gt (aA o hs)) (yI o hs).1 B:=F;obtain⟨f,u,l,e,A,M⟩:=C d b;obtain⟨R,c4⟩:∃R,B.Perm (f::R):=(by obtain⟨s,t,q⟩:=aan u;exact⟨s++t,by rw[q];exact aaJ⟩);have a0:(fc d::R).flatten.Perm B.flatten:=(by rw[Zg];exact(A.symm.append (List.Perm.refl _)).trans (by rw[<-Zg];exact c4.symm.flatten));have c5:∀g∈R,g∈B:=λg H=>c4.mem_iff.2 (XK _ H);have e3:Fc (gt (aA o hs)) (yI o hs).1 (fc d::R):=(by refine⟨λg H=>?_,λg H=>?_,a0.symm.nodup T,λx E=>F.left x (a0.mem_iff.1 E),λx E=>F.rev x (a0.mem_iff.1 E)⟩;rcases XD.1 H with k|k;subst k;exact M;exact F.cy g (c5 g k);rcases XD.1 H with k|k;subst k;rw[<-jt _ A];exact F.one f u;exact F.one g (c5 g k));have:=(a1 (fc d::R) e3 (a0.trans N)).1 (fc d) XW;rw[Hu (rz S) (b0 d b) (a9 d b)];have:=this.n3;omega
 have c6:∀p,((yI o hs).1 p).Nodup:=G.nd;have c7:FcW (aA o hs) (yI o hs).1 w fc:=by refine⟨c1,c2,λd b i I=>?_,λd b=>?_,a6,b9,λd b x E=>?_,e2,λd b=>?_⟩;rw[a8 d b i (by omega),X5 I];have f3:=c1 d b;rw[a8 d b _ (by omega),show(fc d).length-1+1=(fc d).length by omega,Zt,c2 d b];have O:=Z d b x E;have r:=F.rev x O;have f4:=N.mem_iff.1 O;have c8:=sJ ((lv S x.2).mem_iff.1 (Y _ _ r));refine⟨c8.2,c8.1,r,c6 _,?_⟩;have a3:((yI o hs).1 x.2).length<=(List.range (aA o hs).length).length:=(by refine aai (c6 _) λy e4=>?_;exact X6.2 (sJ ((lv S x.2).mem_iff.1 (Y _ _ e4))).2);rw[List.length_range]at a3;omega;have a3:(fc d).length<=B.flatten.length:=aai (a6 d b) (Z d b);omega
 rw[<-b5]at c7;have D:=EZ V d0 G0 a2 (by omega) c7;rw[b5]at D;refine⟨_,D,λr J=>?_,λr J x E=>?_,λm z e5=>?_,?_,?_⟩;have J:=(oE _).mem_iff.1 J;rw[oB]at J;obtain⟨f,u,rfl⟩:=XS.1 J;rw[b1 f u];exact(c3 f u).begin;have J:=(oE _).mem_iff.1 J;rw[oB]at J;obtain⟨f,u,rfl⟩:=XS.1 J;obtain⟨d,b,rfl⟩:=mb u;refine SI (P:=gt (aA o hs)) (n:=0) (a9 d b) (aA o hs) (λe a7=>?_) x (xK E);have O:=Z d b e a7;exact(sJ ((lv S e.2).mem_iff.1 (Y _ _ (F.rev e O)))).2;rw[<-S6 S,e0 m z e5,Qz (oE _),oB];unfold WL;rw[Yp,Yp];congr 1;refine YS λf u=>?_;show W (bw m (bJ (Bv _ f))) z=W (bw m (bJ (bC (ei _ _)))) z;rw[Qy,b1 f u];all_goals
  rw[(oE _).length_eq,oB,Yy,<-b3];have d2:=zo (L:=BZ fc w []) λf u=>Yg (e1 f u) (pa _ _);have f5:=(X.trans K).length_eq;omega
end Sg
end Go.Vm
namespace Go.Vm
open Go Go.RowKit Go.Proofs
end Go.Vm
namespace Go.Vm
open Go Go.RowKit Go.Proofs
namespace Sg
abbrev Wg (x y:V2):Prop:=¬Rj y x<0
structure V0 (S:V2->Prop):Prop where
 asy:∀x y,S x->S y->Rj x y<0->Wg x y
 tr:∀x y z,S x->S y->S z->Wg x y->Wg y z->Wg x z
structure Blk (a b:Nat) (l l':LV):Prop where
 len:l'.length=l.length
 perm:l'.Perm l
 out:∀i,(i<a\/b<=i)->gt l' i=gt l i
 src:∀i,a<=i->i<b->∃j,a<=j/\j<b/\gt l' i=gt l j
section
variable {S:V2->Prop} (O:V0 S)
include O
end
section
variable {S:V2->Prop} (O:V0 S)
include O
end
theorem yX {l:LV} {i:Nat} (h:i<l.length):rQ l i=gt l i:=by unfold rQ;rw[X5 h]
section
variable {l:LV} {B:Int} (C:gg l) (hB:B<=40000) (hb:∀x∈l,In B x)
include C hb hB
end
theorem gg.nodup {l:LV} (C:gg l):l.Nodup:=by
 have f:=C.n3;rw[List.Nodup,Y7];intro i j hi a g e;have b:rQ l i=rQ l j:=by rw[yX hi,yX a];simpa[gt,List.getD,hi,a]using e
 by_cases c:j=i+1;subst c;refine C.ne i ?_;show ag (rQ l (i+1)) (rQ l i)=_;rw[<-b];simp[ag];have s:=C.strict i (j-i) (by omega) (by omega);rw[show i+(j-i)=j by omega,<-b]at s;have z:aj (rQ l i) (rQ l (i+1)) (rQ l i)=0:=(by simp[aj,aa,ag]);omega
theorem Fo {l:LV} {x:V2}:x∈bC l↔x∈l:=by
 unfold bC Cu;rw[XP,or_comm,<-XP,ZJ]
section
variable {a b:LV} (Ca:gg a) (Cb:gg b) (ha:∀x∈a,In 4000 x) (hb:∀x∈b,In 4000 x) (la:a.length<=80) (lb:b.length<=80)
include Ca Cb ha hb la lb
end
structure Rgs (L:List (LV)):Prop where
 cv:∀r∈L,gg r
 SK:∀r∈L,∀x∈r,In 4000 x
 len:∀r∈L,r.length<=80
theorem QA.rgs {o:LV} {hs L:List (LV)} (V:VS o hs) (P:QA o hs L):Rgs L:=by
 refine⟨P.cv,λr a x b=>(zJ V.ok (P.sub r a x b)).up (by decide),λr a=>?_⟩;have c:r.length<=(aA o hs).length:=aai (P.cv r a).nodup (P.sub r a);have f:=iJ V;have g:=V.eZ;omega
end Sg
end Go.Vm
