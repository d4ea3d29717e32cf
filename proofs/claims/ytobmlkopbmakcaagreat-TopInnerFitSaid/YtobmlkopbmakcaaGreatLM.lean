import Derived.Test.YtobmlkopbmakcaaGreatLL
import Derived.Test.YtobmlkopbmakcaaGreatLF
import Derived.Test.YtobmlkopbmakcaaGreatLJ
set_option linter.unusedVariables false
set_option linter.unusedSimpArgs false
set_option maxRecDepth 20000
namespace Go.Vm
open Go Go.RowKit Go.Proofs
namespace Sg
def kb (l:LV) (j:Nat):LV:=(l.set (j+1) (gt l j)).set j (gt l (j+1))
theorem vO (l:LV) (j:Nat):(kb l j).length=l.length:=by simp[kb]
theorem JZ (l:LV) (j:Nat) (c:j+1<l.length) (i:Nat):gt (kb l j) i=if i=j then gt l (j+1)else if i=j+1 then gt l j else gt l i:=by
 unfold kb gt;by_cases a:i=j;subst a;simp[List.getD,show i<l.length by omega];by_cases b:i=j+1;subst b;simp[List.getD,c];simp[List.getD,a,b,show¬j=i by omega,show¬j+1=i by omega]
theorem BK {a b:Nat} (h:a≠b):Nat.beq a b=false:=by
 cases e:Nat.beq a b with
 |false=>rfl
 |true=>exact absurd (XE e) h
theorem Of (l:LV) (j k a:Nat) (g:j+1<l.length) (b:a<2):
  aC (bif Nat.beq k j&&Nat.ble 0 a&&Nat.blt a (0+[i64 (gt l (j+1)).x,i64 (gt l (j+1)).y].length)then[i64 (gt l (j+1)).x,i64 (gt l (j+1)).y].getD (a-0) (.v Go.undef)else
   (bif Nat.beq k (j+1)&&Nat.ble 0 a&&Nat.blt a (0+[i64 (gt l j).x,i64 (gt l j).y].length)then[i64 (gt l j).x,i64 (gt l j).y].getD (a-0) (.v Go.undef)else vG l k a)) (vG (kb l j) k a):=by
 refine aC.of_eq ?_;have h:=JZ l j g k;by_cases c:k=j
 ·subst c;rw[XG rfl]at h;rw[Zs]
  match a,b with
  |0,_=>show i64 (gt l (k+1)).x=i64 (gt (kb l k) k).x;rw[h]
  |1,_=>show i64 (gt l (k+1)).y=i64 (gt (kb l k) k).y;rw[h]
 ·rw[XD c]at h;rw[BK c];by_cases f:k=j+1
  ·subst f;rw[XG rfl]at h;rw[Zs]
   match a,b with
   |0,_=>show i64 (gt l j).x=i64 (gt (kb l j) (j+1)).x;rw[h]
   |1,_=>show i64 (gt l j).y=i64 (gt (kb l j) (j+1)).y;rw[h]
  ·rw[XD f]at h;rw[BK f]
   match a,b with
   |0,_=>show i64 (gt l k).x=i64 (gt (kb l j) k).x;rw[h]
   |1,_=>show i64 (gt l k).y=i64 (gt (kb l j) k).y;rw[h]
def og (a:Nat):Nat->LV->LV
 |0,l=>l
 |j+1,l=>if a<j+1/\xD (gt l (j+1)) (gt l j)<0 then og a j (kb l j)else l
theorem Dg (a:Nat):∀(j:Nat) (l:LV),(og a j l).length=l.length
 |0,_=>rfl
 |j+1,l=>by rw[og];by_cases h:a<j+1/\xD (gt l (j+1)) (gt l j)<0;rw[XG h,Dg a j,vO];rw[XD h]
def iD (a:Nat) (l:LV):Nat->LV
 |0=>l
 |i+1=>if a<i then og a i (iD a l i)else iD a l i
theorem jK (a:Nat) (l:LV):∀i,(iD a l i).length=l.length
 |0=>rfl
 |i+1=>by rw[iD];by_cases h:a<i;rw[XG h,Dg,jK a l i];rw[XD h,jK a l i]
theorem rF {a:Nat} (l:LV):∀i,i<=a+1->iD a l i=l
 |0,_=>rfl
 |i+1,h=>by rw[iD,iN,rF l i (by omega)]
abbrev yl:DV:= .one (.fn 181 1 PZ)
theorem D2 (l:LV) (a b:Nat) (I:a<=b:=by omega) (J:b<=l.length:=by omega) (K:l.length<=1000:=by omega):
  oC Tryz.prog 234 [.aL (.n 2000) 1,.d (.one (i64 a)),.d (.one (i64 b)),.d yl] [.aJ 1 l.length 2 50 (vG l)] (.eG []) [.aJ 1 l.length 2 50 (vG (iD a l b))] .none:=by
 refine dC kL mixed Tryz.func234 rfl rfl [] (XJ rfl) (XJ rfl) (gQ rfl) ?_;have A:∀i,(iD a l i).length=l.length:=jK a l;refine Loop.by (α:=Nat) (λi=>[(0,.aL 2000 1),(1,an a),(2,an b),(3,.d yl),(8,an i)]) (λi=>[(2000,.aJ 1 l.length 2 50 (vG (iD a l i)))]) (λi=>a<i/\i<=max b (a+1)) (λi=>max b (a+1)-i)
  (aH.at (a+1) ⟨by omega,by omega⟩ (.cons (.aJ (λj o B C=>aC.of_eq (by rw[rF l _ (XP _)]))) .nil) (.cH (.cS (.cS (.cS (.cons (ao.int (by rw[hw _];omega)) .nil)))))) (λi D=>?_)
 obtain⟨E,M⟩:=D;refine ab.mk (λc=>?_) (λc=>?_)
 ·have N:i<b:=(by have:=XB c;omega);refine Loop.by (α:=Nat×LV) (λq=>[(0,.aL 2000 1),(1,an a),(2,an b),(3,.d yl),(8,an i),(9,an (q.1:Nat))]) (λq=>[(2000,.aJ 1 l.length 2 50 (vG q.2))]) (λq=>a<=q.1/\q.1<=i/\q.2.length=l.length/\og a q.1 q.2=iD a l (i+1)) (λq=>q.1)
   (aH.at (i,iD a l i) ⟨by show a<=i;omega,XP _,A i,by show og a i (iD a l i)=_;rw[iD,XG E]⟩ (.cons (.aJ (λj o B C=>aC.refl _)) .nil) (.cH (.cS (.cS (.cS (.cS (.cS .nil))))))) (λq F=>?_)
  obtain⟨O,P,G,p⟩:=F;refine ab.mk (λd=>?_) (λd=>?_)
  ·have o:a<q.1:=(by have:=XB d;omega);obtain⟨j,r⟩:∃j,q.1=j+1:=⟨q.1-1,by omega⟩;have w:((q.1:Nat):Int).toNat=j+1:=(by rw[Yw,r]);have y:(IntKind.i64.wrap ((q.1:Nat)-1:Int)).toNat=j:=(by rw[hw _];omega);repeat' first|refine ab.dA d ?_|refine ab.t ?_|refine ab.f ?_|fail
   refine aj.o ?_;repeat' first|refine ab.dA d ?_|refine ab.t ?_|refine ab.f ?_|fail
   refine aj.mk (by rw[hw _];omega) ?_;repeat' first|refine ab.dA d ?_|refine ab.t ?_|refine ab.f ?_|fail
   refine ah.int ((uQ (gt q.2 (j+1)) (gt q.2 j)).le (.cons (dV.of_eq (by rw[w])) (.cons (dV.of_eq (by rw[y])) (.cR .nil)))) (λx z=>?_);repeat' first|refine ab.dA d ?_|refine ab.t ?_|refine ab.f ?_|fail
   refine aj.n ?_;refine ab.mk (λe=>?_) (λe=>?_);have t:xD (gt q.2 (j+1)) (gt q.2 j)<0:=(by rw[<-z];exact XB e);have f:og a (j+1) q.2=og a j (kb q.2 j):=(by rw[og,XG ⟨by omega,t⟩]);refine aj.mk (by rw[hw _];omega) ?_;refine aj.o ?_;refine aj.o ?_;refine aj.mk (by rw[hw _];omega) ?_;refine aj.n ?_;refine aH.back (x:=q) (j,kb q.2 j) ⟨by show a<=j;omega,by show j<=i;omega,by show(kb q.2 j).length=_;rw[vO,G],by show og a j (kb q.2 j)=_;rw[<-f,<-r,p]⟩ (by show j<q.1;omega) (.cons (.aJ (λk u g m=>?_)) .nil) (.cH (.cS (.cS (.cS (.cS (.cons (ao.int (by rw[hw _];show _=((j:Nat):Int);omega)) .nil))))));rw[w,y];exact Of q.2 j k g (by omega) m;have t:¬xD (gt q.2 (j+1)) (gt q.2 j)<0:=(by rw[<-z];exact XA e);have f:og a q.1 q.2=q.2:=(by rw[r,og,XD (λh=>t h.2)]);exact aH.back (x:=i) (i+1) ⟨by omega,by omega⟩ (by omega) (.cons (.aJ (λk u g m=>aC.of_eq (by rw[<-p,f]))) .nil) (.cH (.cS (.cS (.cS (.cons (ao.int (by rw[hw _];omega)) .nil)))))
  ·repeat' first|refine ab.cP d ?_|refine ab.t ?_|refine ab.f ?_|fail
   refine aj.n ?_;repeat' first|refine ab.cP d ?_|refine ab.t ?_|refine ab.f ?_|fail
   have o:q.1=a:=(by have:=XA d;omega);have f:og a q.1 q.2=q.2:=by
    cases h:q.1 with
    |zero=>rfl
    |succ j=>rw[og,XD (λQ=>by omega)]
   exact aH.back (x:=i) (i+1) ⟨by omega,by omega⟩ (by omega) (.cons (.aJ (λk u g m=>aC.of_eq (by rw[<-p,f]))) .nil) (.cH (.cS (.cS (.cS (.cons (ao.int (by rw[hw _];omega)) .nil)))))
 ·have R:i=max b (a+1):=(by have:=XA c;omega);have H:iD a l i=iD a l b:=(by by_cases q:b<=a+1;rw[rF l b q,rF l i (by omega)];rw[show i=b by omega]);exact lS.mk ⟨.n 0,.none,.cons (.aJ (λ_=>rfl) (λk u g m=>aC.of_eq (by rw[H]))) (.nil _),.inl rfl⟩
def pI (l:LV) (r p:Nat):LV:=(l.set r (gt l p)).set p (gt l r)
theorem qT (l:LV) (r p:Nat):(pI l r p).length=l.length:=by simp[pI]
theorem s4 (l:LV) (r p:Nat) (c:r<l.length) (f:p<l.length) (i:Nat):gt (pI l r p) i=if i=p then gt l r else if i=r then gt l p else gt l i:=by
 unfold pI gt;by_cases a:i=p;subst a;simp[List.getD,f];by_cases b:i=r;subst b;simp[List.getD,c,a,show¬p=i by omega];simp[List.getD,a,b,show¬p=i by omega,show¬r=i by omega]
theorem z8 (l:LV) (r p k a:Nat) (g:r<l.length) (i:p<l.length) (b:a<2):
  aC (bif Nat.beq k p&&Nat.ble 0 a&&Nat.blt a (0+[i64 (gt l r).x,i64 (gt l r).y].length)then[i64 (gt l r).x,i64 (gt l r).y].getD (a-0) (.v Go.undef)else
   (bif Nat.beq k r&&Nat.ble 0 a&&Nat.blt a (0+[i64 (gt l p).x,i64 (gt l p).y].length)then[i64 (gt l p).x,i64 (gt l p).y].getD (a-0) (.v Go.undef)else vG l k a)) (vG (pI l r p) k a):=by
 refine aC.of_eq ?_;have h:=s4 l r p g i k;by_cases c:k=p
 ·subst c;rw[XG rfl]at h;rw[Zs]
  match a,b with
  |0,_=>show i64 (gt l r).x=i64 (gt (pI l r k) k).x;rw[h]
  |1,_=>show i64 (gt l r).y=i64 (gt (pI l r k) k).y;rw[h]
 ·rw[XD c]at h;rw[BK c];by_cases f:k=r
  ·subst f;rw[XG rfl]at h;rw[Zs]
   match a,b with
   |0,_=>show i64 (gt l p).x=i64 (gt (pI l k p) k).x;rw[h]
   |1,_=>show i64 (gt l p).y=i64 (gt (pI l k p) k).y;rw[h]
  ·rw[XD f]at h;rw[BK f]
   match a,b with
   |0,_=>show i64 (gt l k).x=i64 (gt (pI l r p) k).x;rw[h]
   |1,_=>show i64 (gt l k).y=i64 (gt (pI l r p) k).y;rw[h]
def uj (a b:Nat) (l:LV):Nat->LV
 |0=>l
 |i+1=>pI (uj a b l i) (a+i) (b+i)
theorem il (a b:Nat) (l:LV):∀i,(uj a b l i).length=l.length
 |0=>rfl
 |i+1=>by rw[uj,qT,il a b l i]
theorem vN (l:LV) (a b n:Nat) (t:a+n<=l.length:=by omega) (u:b+n<=l.length:=by omega) (w:l.length<=1000:=by omega):
  oC Tryz.prog 264 [.aL (.n 2000) 1,.d (.one (i64 a)),.d (.one (i64 b)),.d (.one (i64 n)),.d yl] [.aJ 1 l.length 2 50 (vG l)] (.eG []) [.aJ 1 l.length 2 50 (vG (uj a b l n))] .none:=by
 refine dC kL mixed Tryz.func264 rfl rfl [] (XJ rfl) (XJ rfl) (gQ rfl) ?_;have h:∀i,(uj a b l i).length=l.length:=il a b l;refine Loop.by (α:=Nat) (λi=>[(0,.aL 2000 1),(1,an a),(2,an b),(3,an n),(4,.d yl),(10,an i)]) (λi=>[(2000,.aJ 1 l.length 2 50 (vG (uj a b l i)))]) (λi=>i<=n) (λi=>n-i)
  (aH.at 0 (XS _) (.cons (.aJ (λj y z A=>aC.refl _)) .nil) (.cH (.cS (.cS (.cS (.cS (.cS .nil))))))) (λi B=>?_)
 refine ab.mk (λc=>?_) (λc=>?_);have C:i<n:=(by have:=XB c;omega);have m:=h i;have o:(IntKind.i64.wrap ((a:Int)+(i:Nat))).toNat=a+i:=(by rw[hw _];omega);have p:(IntKind.i64.wrap ((b:Int)+(i:Nat))).toNat=b+i:=(by rw[hw _];omega);refine aj.mk (by rw[hw _];omega) ?_;refine aj.mk (by rw[hw _];omega) ?_;refine aj.mk (by rw[hw _];omega) ?_;refine aj.mk (by rw[hw _];omega) ?_;refine aj.n ?_;refine aH.back (x:=i) (i+1) (by show i+1<=n;omega) (by omega) (.cons (.aJ (λk q f g=>?_)) .nil) (.cH (.cS (.cS (.cS (.cS (.cons (ao.int (by rw[hw _];omega)) .nil))))));rw[o,p];exact z8 (uj a b l i) (a+i) (b+i) k f (by omega) (by omega) g;have r:i=n:=(by have:=XA c;omega);exact lS.mk ⟨.n 0,.none,.cons (.aJ (λ_=>rfl) (λk q f g=>aC.of_eq (by rw[r]))) (.nil _),.inl rfl⟩
def Et (m:Nat):Nat->Nat->Nat->LV->LV
 |0,_,_,l=>l
 |f+1,i,j,l=>if i=j then uj (m-i) m l i else if j<i then Et m f (i-j) j (uj (m-i) m l j)else Et m f i (j-i) (uj (m-i) (m+j-i) l i)
theorem AB (m:Nat):∀(f i j:Nat) (l:LV),(Et m f i j l).length=l.length
 |0,_,_,_=>rfl
 |f+1,i,j,l=>by rw[Et];by_cases h:i=j;rw[XG h,il];rw[XD h];by_cases a:j<i;rw[XG a,AB m f,il];rw[XD a,AB m f,il]
def uw (a m b:Nat) (l:LV):LV:=Et m (b-a) (m-a) (b-m) l
theorem KY (l:LV) (a m b:Nat) (H:a<m) (I:m<b) (J:b<=l.length) (K:l.length<=1000):
  oC Tryz.prog 257 [.aL (.n 2000) 1,.d (.one (i64 a)),.d (.one (i64 m)),.d (.one (i64 b)),.d yl] [.aJ 1 l.length 2 50 (vG l)] (.eG []) [.aJ 1 l.length 2 50 (vG (uw a m b l))] .none:=by
 refine dC kL mixed Tryz.func257 rfl rfl [264+2000000] (XJ rfl) (XJ rfl) (gQ rfl) ?_;refine Loop.by (α:=Nat×Nat×Nat×LV) (λq=>[(0,.aL 2000 1),(2,an m),(4,.d yl),(10,an (q.2.1:Nat)),(11,an (q.2.2.1:Nat))]) (λq=>[(2000,.aJ 1 l.length 2 50 (vG q.2.2.2))])
  (λq=>0<q.2.1/\0<q.2.2.1/\q.2.1<=m/\m+q.2.2.1<=b/\q.2.1+q.2.2.1<=q.1/\q.2.2.2.length=l.length/\Et m q.1 q.2.1 q.2.2.1 q.2.2.2=uw a m b l) (λq=>q.1)
  (aH.at (b-a,m-a,b-m,l) ⟨by show 0<m-a;omega,by show 0<b-m;omega,by show m-a<=m;omega,by show m+(b-m)<=b;omega,by show m-a+(b-m)<=b-a;omega,rfl,rfl⟩ (.cons (.aJ (λj o M N=>aC.refl _)) .nil) (.cH (.cS (.cS (.cons (ao.int (by rw[hw _];show _=((m-a:Nat):Int);omega)) (.cons (ao.int (by rw[hw _];show _=((b-m:Nat):Int);omega)) .nil)))))) (λq y=>?_)
 obtain⟨z,A,B,C,O,g,t⟩:=y;obtain⟨f,u⟩:∃f,q.1=f+1:=⟨q.1-1,by omega⟩;refine ab.mk (λc=>?_) (λc=>?_);have w:q.2.1≠q.2.2.1:=(by intro h;rw[h]at c;simp at c);refine ab.mk (λd=>?_) (λd=>?_);have D:q.2.2.1<q.2.1:=(by have:=XB d;omega);have p:Et m q.1 q.2.1 q.2.2.1 q.2.2.2=Et m f (q.2.1-q.2.2.1) q.2.2.1 (uj (m-q.2.1) m q.2.2.2 q.2.2.1):=(by rw[u,Et,XD w,XG D]);refine eu.mk' [2000] (vN q.2.2.2 (m-q.2.1) m q.2.2.1) ⟨.cons (iR g.symm (λi r j o=>aC.refl _)) .nil,.cH (.cons (.d (dV.of_eq (by rw[hw _];congr 3;omega))) (.cD (.cD (.cD .nil)))),rfl,rfl,λh=>absurd rfl h⟩ ?_;exact aH.back (x:=q) (f,q.2.1-q.2.2.1,q.2.2.1,uj (m-q.2.1) m q.2.2.2 q.2.2.1) ⟨by show 0<q.2.1-q.2.2.1;omega,A,by show q.2.1-q.2.2.1<=m;omega,C,by show q.2.1-q.2.2.1+q.2.2.1<=f;omega,by show(uj (m-q.2.1) m q.2.2.2 q.2.2.1).length=_;rw[il,g],by rw[<-t,p]⟩ (by show f<q.1;omega) (.cons (.bj g (λi r j o=>aC.refl _)) .nil) (.cH (.cS (.cS (.cons (ao.int (by rw[hw _];show _=((q.2.1-q.2.2.1:Nat):Int);omega)) (.cS .nil)))));have E:¬q.2.2.1<q.2.1:=(by have:=XA d;omega);have p:Et m q.1 q.2.1 q.2.2.1 q.2.2.2=Et m f q.2.1 (q.2.2.1-q.2.1) (uj (m-q.2.1) (m+q.2.2.1-q.2.1) q.2.2.2 q.2.1):=(by rw[u,Et,XD w,XD E]);have F:IntKind.i64.wrap (IntKind.i64.wrap ((m:Int)+(q.2.2.1:Nat))-(q.2.1:Nat))=((m+q.2.2.1-q.2.1:Nat):Int):=(by rw[hw ((m:Int)+_),hw _];omega);refine eu.mk' [2000] (vN q.2.2.2 (m-q.2.1) (m+q.2.2.1-q.2.1) q.2.1) ⟨.cons (iR g.symm (λi r j o=>aC.refl _)) .nil,.cH (.cons (.d (dV.of_eq (by rw[hw _];congr 3;omega))) (.cons (.d (dV.of_eq (by rw[F]))) (.cD (.cD .nil)))),rfl,rfl,λh=>absurd rfl h⟩ ?_;exact aH.back (x:=q) (f,q.2.1,q.2.2.1-q.2.1,uj (m-q.2.1) (m+q.2.2.1-q.2.1) q.2.2.2 q.2.1) ⟨z,by show 0<q.2.2.1-q.2.1;omega,B,by show m+(q.2.2.1-q.2.1)<=b;omega,by show q.2.1+(q.2.2.1-q.2.1)<=f;omega,by show(uj (m-q.2.1) (m+q.2.2.1-q.2.1) q.2.2.2 q.2.1).length=_;rw[il,g],by rw[<-t,p]⟩ (by show f<q.1;omega) (.cons (.bj g (λi r j o=>aC.refl _)) .nil) (.cH (.cS (.cS (.cS (.cons (ao.int (by rw[hw _];show _=((q.2.2.1-q.2.1:Nat):Int);omega)) .nil)))));have G:q.2.1=q.2.2.1:=(by have:((q.2.1:Nat):Int)=(q.2.2.1:Nat):=(by simpa using c);omega);have p:uw a m b l=uj (m-q.2.1) m q.2.2.2 q.2.1:=(by rw[<-t,u,Et,XG G]);rw[p];refine eu.mk' [2000] (vN q.2.2.2 (m-q.2.1) m q.2.1) ⟨.cons (iR g.symm (λi r j o=>aC.refl _)) .nil,.cH (.cons (.d (dV.of_eq (by rw[hw _];congr 3;omega))) (.cD (.cD (.cD .nil)))),rfl,rfl,λh=>absurd rfl h⟩ ?_;exact lS.mk ⟨.n 0,.none,.cons (.bj g (λ_=>rfl) (λk P Q R=>aC.refl _)) (.nil _),.inl rfl⟩
end Sg
end Go.Vm
namespace Go.Vm
open Go Go.RowKit Go.Proofs
theorem q6 {P:Program} {o:Oper} {t:Nat->TV} {m:Id->Mem} {b l:TypeId} {x y:Operand} (f:o.op= .binOp .shr b x y l) {c:IntKind} {n:Int} (p:bG t x= .d (.one (.v (.int .u64 n)))) (q:bG t y= .d (.one (.v (.int c 1)))):
  aG P o t m (.d (.one (.v (.int .u64 (n.fdiv 2))))) [] []:=by
 have r:x∈o.op.operands.toList:=by rw[f];simp[Op.operands]
 have u:y∈o.op.operands.toList:=by rw[f];simp[Op.operands]
 refine aB λE D F G a w H g _ i=>?_;have j:=(ax i x).1;have k:=(ax i y).1;rw[aq g r,p]at j;rw[aq g u,q]at k;have z:=(Rd.cm (show Rd _ _ _ _ from j)).1;have A:=(Rd.cm (show Rd _ _ _ _ from k)).1;refine⟨.int .u64 (n.fdiv 2),?_,Rd.v rfl,λ_ h=>h.elim⟩;simp only[execOp,f,z,A];have B:(eqGuard .shr b x y (.int .u64 n) (.int c 1)).run P w= .ok () w:=by simp[eqGuard]
 rw[Sem.run_bind];have C:((do eqGuard .shr b x y (.int .u64 n) (.int c 1);binOp .shr b (.int .u64 n) (.int c 1):Sem Value)).run P w= .ok (.int .u64 (n.fdiv 2)) w:=by rw[Sem.run_bind,B];simp[binOp,Op.shift,IntKind.bits]
 rw[C];rfl
end Go.Vm
namespace Go.Vm
open Go Go.RowKit Go.Proofs
namespace Sg
def F6 (l:LV) (p:Nat):Nat->Nat->Nat->Nat
 |0,i,_=>i
 |f+1,i,j=>if i<j then(if xD (gt l ((i+j)/2)) (gt l p)<0 then F6 l p f ((i+j)/2+1) j else F6 l p f i ((i+j)/2))else i
def F4 (l:LV) (p:Nat):Nat->Nat->Nat->Nat
 |0,i,_=>i
 |f+1,i,j=>if i<j then(if¬xD (gt l p) (gt l ((i+j)/2))<0 then F4 l p f ((i+j)/2+1) j else F4 l p f i ((i+j)/2))else i
def vq (l:LV) (q:Nat):Nat->Nat->Nat->Nat
 |0,i,_=>i
 |f+1,i,j=>if i<j then(if¬xD (gt l (q-(i+j)/2)) (gt l ((i+j)/2))<0 then vq l q f ((i+j)/2+1) j else vq l q f i ((i+j)/2))else i
def NT (a:Nat) (l:LV):Nat->LV
 |0=>l
 |n+1=>pI (NT a l n) (a+n) (a+n+1)
theorem oF (a:Nat) (l:LV):∀n,(NT a l n).length=l.length
 |0=>rfl
 |n+1=>by rw[NT,qT,oF a l n]
def NZ (m:Nat) (l:LV):Nat->LV
 |0=>l
 |n+1=>pI (NZ m l n) (m-n) (m-n-1)
theorem py (m:Nat) (l:LV):∀n,(NZ m l n).length=l.length
 |0=>rfl
 |n+1=>by rw[NZ,qT,py m l n]
def r7:Nat->Nat->Nat->Nat->LV->LV
 |0,_,_,_,l=>l
 |f+1,a,m,b,l=>
  if m-a=1 then NT a l (F6 l a (b-m) m b-1-a)
  else if b-m=1 then NZ m l (m-F4 l m (m-a) a m)
  else
   let c:=(a+b)/2;let n:=c+m;let s:=if m>c then vq l (n-1) b (n-b) c else vq l (n-1) b a m;let e:=n-s;let g:=if s<m/\m<e then uw s m e l else l;let h:=if a<s/\s<c then r7 f a s c g else g
   if c<e/\e<b then r7 f c e b h else h
theorem Cw (a m b:Nat) (l:LV):(uw a m b l).length=l.length:=AB _ _ _ _ _
theorem kf:∀(f a m b:Nat) (l:LV),(r7 f a m b l).length=l.length
 |0,_,_,_,_=>rfl
 |f+1,a,m,b,l=>by rw[r7];split;exact oF _ _ _;split;exact py _ _ _;dsimp only;generalize (if m>(a+b)/2 then vq l ((a+b)/2+m-1) b ((a+b)/2+m-b) ((a+b)/2)else vq l ((a+b)/2+m-1) b a m)=s;have c:(if s<m/\m<(a+b)/2+m-s then uw s m ((a+b)/2+m-s) l else l).length=l.length:=(by split;exact Cw _ _ _ _;rfl);generalize (if s<m/\m<(a+b)/2+m-s then uw s m ((a+b)/2+m-s) l else l)=g at*;have h:(if a<s/\s<(a+b)/2 then r7 f a s ((a+b)/2) g else g).length=l.length:=(by split;rw[kf f,c];exact c);split;rw[kf f,h];exact h
theorem Bn {i j:Nat} (h:i+j<=100000:=by omega):IntKind.i64.wrap ((IntKind.u64.wrap (IntKind.i64.wrap ((i:Int)+(j:Nat)))).fdiv 2)=(((i+j)/2:Nat):Int):=by
 have a:IntKind.i64.wrap ((i:Int)+(j:Nat))=((i+j:Nat):Int):=by rw[hw _];omega
 have b:IntKind.u64.wrap ((i+j:Nat):Int)=((i+j:Nat):Int):=by simp only[IntKind.wrap,IntKind.bits,IntKind.signed];simp only[Zp];rw[XD (by decide)];omega
 have c:((i+j:Nat):Int).fdiv 2=(((i+j)/2:Nat):Int):=by rw[Int.fdiv_eq_ediv_of_nonneg _ (by decide)];omega
 rw[a,b,c,hw _]
set_option maxHeartbeats 1000000 in
theorem B3:∀(f a m b:Nat) (l:LV),a<m->m<b->b<=l.length->l.length<=1000->b-a<=f->
  oC Tryz.prog 235 [.aL (.n 2000) 1,.d (.one (i64 a)),.d (.one (i64 m)),.d (.one (i64 b)),.d yl] [.aJ 1 l.length 2 50 (vG l)] (.eG []) [.aJ 1 l.length 2 50 (vG (r7 f a m b l))] .none:=by
 intro f;induction f with
 |zero=>exact λa m b l I a8 _ _ E=>absurd E (by omega)
 |succ f c5=>
 intro a m b l e1 e2 e3 d2 e4;refine dC kL mixed Tryz.func235 rfl rfl [9000000+38,9000000+90,9000000+133,9000000+156,42,44,257+2000000,235+2000000] (XJ rfl) (XJ rfl) (gQ rfl) ?_;obtain⟨c6,p⟩:∃c6,c6=r7 (f+1) a m b l:=⟨_,rfl⟩;rw[<-p];rw[r7]at p;refine ab.mk (λc=>?_) (λc=>?_)
 ·have b3:m-a=1:=(by rw[hw _]at c;have:(m:Int)-a=1:=(by simpa using c);omega);rw[XG b3]at p;subst p;refine Loop.by (α:=Nat×Nat×Nat) (λq=>[(0,.aL 2000 1),(1,an a),(4,.d yl),(10,an (q.2.1:Nat)),(11,an (q.2.2:Nat))]) (λq=>[(2000,.aJ 1 l.length 2 50 (vG l))])
   (λq=>m<=q.2.1/\q.2.1<=q.2.2/\q.2.2<=b/\q.2.2-q.2.1<=q.1/\F6 l a q.1 q.2.1 q.2.2=F6 l a (b-m) m b) (λq=>q.2.2-q.2.1)
   (aH.at (b-m,m,b) ⟨XP _,by show m<=b;omega,XP _,XP _,rfl⟩ (.cons (.aJ (λj r C D=>aC.refl _)) .nil) (.cH (.cS (.cS (.cS (.cS .nil)))))) (λq U=>?_)
  obtain⟨I,a8,P,b4,E⟩:=U;refine ab.mk (λd=>?_) (λd=>?_)
  ·have J:q.2.1<q.2.2:=(by have:=XB d;omega);obtain⟨k,F⟩:∃k,q.1=k+1:=⟨q.1-1,by omega⟩;have A:=Bn (i:=q.2.1) (j:=q.2.2);have b5:(IntKind.i64.wrap ((IntKind.u64.wrap (IntKind.i64.wrap ((q.2.1:Nat)+(q.2.2:Nat):Int))).fdiv 2)).toNat=(q.2.1+q.2.2)/2:=(by rw[A,Yw]);refine aj.mk ⟨.int .i64,by kernel_rfl⟩ ?_;refine xX.mk' (q6 rfl rfl rfl) ?_;refine aj.mk ⟨.int .u64,by kernel_rfl⟩ ?_;refine aj.mk (by rw[A];omega) ?_;refine aj.o ?_;refine ah.int ((uQ (gt l ((q.2.1+q.2.2)/2)) (gt l a)).le (.cons (dV.of_eq (by rw[b5])) (.cR (.cR .nil)))) (λx K=>?_);refine aj.n ?_;refine ab.mk (λe=>?_) (λe=>?_);have G:xD (gt l ((q.2.1+q.2.2)/2)) (gt l a)<0:=(by rw[<-K];exact XB e);have H:F6 l a q.1 q.2.1 q.2.2=F6 l a k ((q.2.1+q.2.2)/2+1) q.2.2:=(by rw[F,F6,XG J,XG G]);exact aH.back (x:=q) (k,(q.2.1+q.2.2)/2+1,q.2.2) ⟨by show m<=(q.2.1+q.2.2)/2+1;omega,by show(q.2.1+q.2.2)/2+1<=q.2.2;omega,P,by show q.2.2-((q.2.1+q.2.2)/2+1)<=k;omega,by rw[<-E,H]⟩ (by show q.2.2-((q.2.1+q.2.2)/2+1)<q.2.2-q.2.1;omega) (.cons (.aJ (λj r C D=>aC.refl _)) .nil) (.cH (.cS (.cS (.cons (ao.int (by rw[A,hw _];show _=(((q.2.1+q.2.2)/2+1:Nat):Int);omega)) (.cS .nil)))));have G:¬xD (gt l ((q.2.1+q.2.2)/2)) (gt l a)<0:=(by rw[<-K];exact XA e);have H:F6 l a q.1 q.2.1 q.2.2=F6 l a k q.2.1 ((q.2.1+q.2.2)/2):=(by rw[F,F6,XG J,XD G]);exact aH.back (x:=q) (k,q.2.1,(q.2.1+q.2.2)/2) ⟨I,by show q.2.1<=(q.2.1+q.2.2)/2;omega,by show(q.2.1+q.2.2)/2<=b;omega,by show(q.2.1+q.2.2)/2-q.2.1<=k;omega,by rw[<-E,H]⟩ (by show(q.2.1+q.2.2)/2-q.2.1<q.2.2-q.2.1;omega) (.cons (.aJ (λj r C D=>aC.refl _)) .nil) (.cH (.cS (.cS (.cS (.cons (ao.int (by rw[A])) .nil)))))
  ·have b6:q.2.1=q.2.2:=(by have:=XA d;omega);have Q:F6 l a (b-m) m b=q.2.1:=by
    rw[<-E];cases q.1 with
    |zero=>rfl
    |succ k=>rw[F6,iN]
   rw[Q];have b7:q.2.1<=b:=(by omega);generalize q.2.1=i at I b7|-;refine Loop.by (α:=Nat) (λn=>[(0,.aL 2000 1),(10,an i),(13,an (a+n:Nat))]) (λn=>[(2000,.aJ 1 l.length 2 50 (vG (NT a l n)))]) (λn=>n<=i-1-a) (λn=>i-1-a-n)
    (aH.at 0 (XS _) (.cons (.aJ (λj r C D=>aC.refl _)) .nil) (.cH (.cS (.cS .nil)))) (λn d3=>?_)
   have d4:=oF a l n;refine ab.mk (λe=>?_) (λe=>?_);have V:a+n<i-1:=(by rw[hw _]at e;have:=XB e;omega);have b8:(IntKind.i64.wrap (((a+n:Nat):Int)+1)).toNat=a+n+1:=(by rw[hw _];omega);refine aj.mk (by rw[hw _];omega) ?_;refine aj.o ?_;refine aj.o ?_;refine aj.mk (by rw[hw _];omega) ?_;refine aj.n ?_;refine aH.back (x:=n) (n+1) (by show n+1<=i-1-a;omega) (by omega) (.cons (.aJ (λk F R S=>?_)) .nil) (.cH (.cS (.cons (ao.int (by rw[hw _];omega)) .nil)));rw[b8,Yw];exact z8 (NT a l n) (a+n) (a+n+1) k R (by omega) (by omega) S;have V:n=i-1-a:=(by rw[hw _]at e;have:=XA e;omega);exact lS.mk ⟨.n 0,.none,.cons (.aJ (λ_=>rfl) (λk F R S=>aC.of_eq (by rw[V]))) (.nil _),.inl rfl⟩
 have b3:¬m-a=1:=by rw[hw _]at c;have:¬(m:Int)-a=1:=(by simpa using c);omega
 rw[XD b3]at p;refine ab.mk (λX=>?_) (λX=>?_)
 ·have b9:b-m=1:=(by rw[hw _]at X;have:(b:Int)-m=1:=(by simpa using X);omega);rw[XG b9]at p;subst p;refine Loop.by (α:=Nat×Nat×Nat) (λq=>[(0,.aL 2000 1),(2,an m),(4,.d yl),(14,an (q.2.1:Nat)),(15,an (q.2.2:Nat))]) (λq=>[(2000,.aJ 1 l.length 2 50 (vG l))])
   (λq=>a<=q.2.1/\q.2.1<=q.2.2/\q.2.2<=m/\q.2.2-q.2.1<=q.1/\F4 l m q.1 q.2.1 q.2.2=F4 l m (m-a) a m) (λq=>q.2.2-q.2.1)
   (aH.at (m-a,a,m) ⟨XP _,by show a<=m;omega,XP _,XP _,rfl⟩ (.cons (.aJ (λj r C D=>aC.refl _)) .nil) (.cH (.cS (.cS (.cS (.cS .nil)))))) (λq U=>?_)
  obtain⟨I,a8,P,b4,E⟩:=U;refine ab.mk (λd=>?_) (λd=>?_)
  ·have J:q.2.1<q.2.2:=(by have:=XB d;omega);obtain⟨k,F⟩:∃k,q.1=k+1:=⟨q.1-1,by omega⟩;have A:=Bn (i:=q.2.1) (j:=q.2.2);have b5:(IntKind.i64.wrap ((IntKind.u64.wrap (IntKind.i64.wrap ((q.2.1:Nat)+(q.2.2:Nat):Int))).fdiv 2)).toNat=(q.2.1+q.2.2)/2:=(by rw[A,Yw]);refine aj.mk ⟨.int .i64,by kernel_rfl⟩ ?_;refine xX.mk' (q6 rfl rfl rfl) ?_;refine aj.mk ⟨.int .u64,by kernel_rfl⟩ ?_;refine aj.o ?_;refine aj.mk (by rw[A];omega) ?_;refine ah.int ((uQ (gt l m) (gt l ((q.2.1+q.2.2)/2))).le (.cR (.cons (dV.of_eq (by rw[b5])) (.cR .nil)))) (λx K=>?_);refine aj.n ?_;refine ab.mk (λe=>?_) (λe=>?_);have G:¬xD (gt l m) (gt l ((q.2.1+q.2.2)/2))<0:=(by rw[<-K];simpa using e);have H:F4 l m q.1 q.2.1 q.2.2=F4 l m k ((q.2.1+q.2.2)/2+1) q.2.2:=(by rw[F,F4,XG J,XG G]);exact aH.back (x:=q) (k,(q.2.1+q.2.2)/2+1,q.2.2) ⟨by show a<=(q.2.1+q.2.2)/2+1;omega,by show(q.2.1+q.2.2)/2+1<=q.2.2;omega,P,by show q.2.2-((q.2.1+q.2.2)/2+1)<=k;omega,by rw[<-E,H]⟩ (by show q.2.2-((q.2.1+q.2.2)/2+1)<q.2.2-q.2.1;omega) (.cons (.aJ (λj r C D=>aC.refl _)) .nil) (.cH (.cS (.cS (.cons (ao.int (by rw[A,hw _];show _=(((q.2.1+q.2.2)/2+1:Nat):Int);omega)) (.cS .nil)))));have G:¬¬xD (gt l m) (gt l ((q.2.1+q.2.2)/2))<0:=(by rw[<-K];have:x<0:=(by simpa using e);exact λh=>h this);have H:F4 l m q.1 q.2.1 q.2.2=F4 l m k q.2.1 ((q.2.1+q.2.2)/2):=(by rw[F,F4,XG J,XD G]);exact aH.back (x:=q) (k,q.2.1,(q.2.1+q.2.2)/2) ⟨I,by show q.2.1<=(q.2.1+q.2.2)/2;omega,by show(q.2.1+q.2.2)/2<=m;omega,by show(q.2.1+q.2.2)/2-q.2.1<=k;omega,by rw[<-E,H]⟩ (by show(q.2.1+q.2.2)/2-q.2.1<q.2.2-q.2.1;omega) (.cons (.aJ (λj r C D=>aC.refl _)) .nil) (.cH (.cS (.cS (.cS (.cons (ao.int (by rw[A])) .nil)))))
  ·have b6:q.2.1=q.2.2:=(by have:=XA d;omega);have Q:F4 l m (m-a) a m=q.2.1:=by
    rw[<-E];cases q.1 with
    |zero=>rfl
    |succ k=>rw[F4,iN]
   rw[Q];have b7:q.2.1<=m:=(by omega);generalize q.2.1=i at I b7|-;refine Loop.by (α:=Nat) (λn=>[(0,.aL 2000 1),(14,an i),(17,an (m-n:Nat))]) (λn=>[(2000,.aJ 1 l.length 2 50 (vG (NZ m l n)))]) (λn=>n<=m-i) (λn=>m-i-n)
    (aH.at 0 (XS _) (.cons (.aJ (λj r C D=>aC.refl _)) .nil) (.cH (.cS (.cS .nil)))) (λn d3=>?_)
   have d4:=py m l n;refine ab.mk (λe=>?_) (λe=>?_);have V:i<m-n:=(by have:=XB e;omega);have b8:(IntKind.i64.wrap (((m-n:Nat):Int)-1)).toNat=m-n-1:=(by rw[hw _];omega);refine aj.mk (by rw[hw _];omega) ?_;refine aj.o ?_;refine aj.o ?_;refine aj.mk (by rw[hw _];omega) ?_;refine aj.n ?_;refine aH.back (x:=n) (n+1) (by show n+1<=m-i;omega) (by omega) (.cons (.aJ (λk F R S=>?_)) .nil) (.cH (.cS (.cons (ao.int (by rw[hw _];omega)) .nil)));rw[b8,Yw];exact z8 (NZ m l n) (m-n) (m-n-1) k R (by omega) (by omega) S;have V:n=m-i:=(by have:=XA e;omega);exact lS.mk ⟨.n 0,.none,.cons (.aJ (λ_=>rfl) (λk F R S=>aC.of_eq (by rw[V]))) (.nil _),.inl rfl⟩
 have b9:¬b-m=1:=by rw[hw _]at X;have:¬(b:Int)-m=1:=(by simpa using X);omega
 rw[XD b9]at p;dsimp only at p;have em:=Bn (i:=a) (j:=b);refine aj.mk ⟨.int .i64,by kernel_rfl⟩ ?_;refine xX.mk' (q6 rfl rfl rfl) ?_;refine aj.mk ⟨.int .u64,by kernel_rfl⟩ ?_;obtain⟨o,d5⟩:∃o,o=(a+b)/2:=⟨_,rfl⟩;rw[<-d5]at em p;have c0:IntKind.i64.wrap (((o:Nat):Int)+(m:Nat))=((o+m:Nat):Int):=by rw[hw _];omega
 have e5:2*o<=a+b/\a+b<=2*o+1:=by omega
 refine ab.mk (λg=>?gA) (λg=>?gB)
 case' gA=>
  rw[em]at g;have c1:m>o:=(by have:=XB g;omega);rw[XG c1]at p;obtain⟨w,Y⟩:∃w,w=o+m-b:=⟨_,rfl⟩;obtain⟨t,T⟩:∃t,t=o:=⟨_,rfl⟩;rw[show vq l (o+m-1) b (o+m-b) o=vq l (o+m-1) b w t by rw[Y,T]]at p;have a9:IntKind.i64.wrap (IntKind.i64.wrap (((o:Nat):Int)+(m:Nat))-(b:Nat))=(w:Int):=(by rw[c0,hw _];omega);have b0:((o:Nat):Int)=(t:Int):=by rw[T]
 case' gB=>
  rw[em]at g;have c1:¬m>o:=(by have:=XA g;omega);rw[XD c1]at p;obtain⟨w,Y⟩:∃w,w=a:=⟨_,rfl⟩;obtain⟨t,T⟩:∃t,t=m:=⟨_,rfl⟩;rw[show vq l (o+m-1) b a m=vq l (o+m-1) b w t by rw[Y,T]]at p;have a9:((a:Nat):Int)=(w:Int):=(by rw[Y]);have b0:((m:Nat):Int)=(t:Int):=by rw[T]
 all_goals
  have c7:w<=t:=(by omega);have d6:a<=w:=(by omega);have d7:t<=m:=(by omega);have d8:t<=o:=(by omega);have d9:o+m<=w+b:=(by omega);have c8:IntKind.i64.wrap (IntKind.i64.wrap (((o:Nat):Int)+(m:Nat))-1)=((o+m-1:Nat):Int):=(by rw[c0,hw _];omega);refine Loop.by (α:=Nat×Nat×Nat) (λq=>[(0,.aL 2000 1),(1,an a),(2,an m),(3,an b),(4,.d yl),(18,an o),(19,an (o+m:Nat)),(20,an (q.2.1:Nat)),(21,an (q.2.2:Nat)),(22,an (o+m-1:Nat))]) (λq=>[(2000,.aJ 1 l.length 2 50 (vG l))])
   (λq=>w<=q.2.1/\q.2.1<=q.2.2/\q.2.2<=t/\q.2.2-q.2.1<=q.1/\vq l (o+m-1) q.1 q.2.1 q.2.2=vq l (o+m-1) b w t) (λq=>q.2.2-q.2.1)
   (aH.at (b,w,t) ⟨XP _,c7,XP _,by show t-w<=b;omega,rfl⟩ (.cons (.aJ (λj r C D=>aC.refl _)) .nil) (.cH (.cS (.cS (.cS (.cS (.cons (ao.int em) (.cons (ao.int (by rw[em,c0])) (.cons (ao.int (by first|exact a9|rw[em,a9])) (.cons (ao.int (by first|exact b0|rw[em,b0])) (.cons (ao.int (by rw[em,c8])) .nil))))))))))) (λq U=>?_)
  obtain⟨I,a8,P,b4,E⟩:=U;refine ab.mk (λd=>?_) (λd=>?_)
  ·have J:q.2.1<q.2.2:=(by have:=XB d;omega);obtain⟨k,F⟩:∃k,q.1=k+1:=⟨q.1-1,by omega⟩;obtain⟨j,r⟩:∃j,j=(q.2.1+q.2.2)/2:=⟨_,rfl⟩;have A:=Bn (i:=q.2.1) (j:=q.2.2);rw[<-r]at A;have c9:IntKind.i64.wrap (((o+m-1:Nat):Int)-(j:Nat))=((o+m-1-j:Nat):Int):=(by rw[hw _];omega);refine aj.mk ⟨.int .i64,by kernel_rfl⟩ ?_;refine xX.mk' (q6 rfl rfl rfl) ?_;refine aj.mk ⟨.int .u64,by kernel_rfl⟩ ?_;refine aj.mk (by rw[A,c9];omega) ?_;refine aj.mk (by rw[A];omega) ?_;refine ah.int ((uQ (gt l (o+m-1-j)) (gt l j)).le (.cons (dV.of_eq (by rw[A,c9,Yw])) (.cons (dV.of_eq (by rw[A,Yw])) (.cR .nil)))) (λx K=>?_);refine aj.n ?_;refine ab.mk (λe=>?_) (λe=>?_);have G:¬xD (gt l (o+m-1-j)) (gt l j)<0:=(by rw[<-K];simpa using e);have H:vq l (o+m-1) q.1 q.2.1 q.2.2=vq l (o+m-1) k (j+1) q.2.2:=(by rw[F,vq,XG J,<-r,XG G]);exact aH.back (x:=q) (k,j+1,q.2.2) ⟨by show w<=j+1;omega,by show j+1<=q.2.2;omega,P,by show q.2.2-(j+1)<=k;omega,by rw[<-E,H]⟩ (by show q.2.2-(j+1)<q.2.2-q.2.1;omega) (.cons (.aJ (λj r C D=>aC.refl _)) .nil) (.cH (.cS (.cS (.cS (.cS (.cS (.cS (.cons (ao.int (by rw[A,hw _];show _=((j+1:Nat):Int);omega)) (.cS (.cS .nil))))))))));have G:¬¬xD (gt l (o+m-1-j)) (gt l j)<0:=(by rw[<-K];have:x<0:=(by simpa using e);exact λh=>h this);have H:vq l (o+m-1) q.1 q.2.1 q.2.2=vq l (o+m-1) k q.2.1 j:=(by rw[F,vq,XG J,<-r,XD G]);exact aH.back (x:=q) (k,q.2.1,j) ⟨I,by show q.2.1<=j;omega,by show j<=t;omega,by show j-q.2.1<=k;omega,by rw[<-E,H]⟩ (by show j-q.2.1<q.2.2-q.2.1;omega) (.cons (.aJ (λj r C D=>aC.refl _)) .nil) (.cH (.cS (.cS (.cS (.cS (.cS (.cS (.cS (.cons (ao.int (by rw[A])) (.cS .nil))))))))))
  ·have b6:q.2.1=q.2.2:=(by have:=XA d;omega);have Q:vq l (o+m-1) b w t=q.2.1:=by
    rw[<-E];cases q.1 with
    |zero=>rfl
    |succ k=>rw[vq,iN]
   rw[Q]at p;have d0:w<=q.2.1:=I;have d1:q.2.1<=t:=(by omega);generalize q.2.1=s at d0 d1 p|-;obtain⟨e,e0⟩:∃e,e=o+m-s:=⟨_,rfl⟩;have y:IntKind.i64.wrap (((o+m:Nat):Int)-(s:Nat))=((e:Nat):Int):=(by rw[hw _];omega);rw[<-e0]at p;have e6:a<=s:=(by omega);have e7:s<=m:=(by omega);have e8:s<=o:=(by omega);have e9:m<=e:=(by omega);have f0:o<=e:=(by omega);have f1:e<=b:=(by omega);clear I a8 P b4 E Q b6 d0 d1 c7 d6 d7 d8 d9 a9 b0 c8 Y T;refine ab.mk (λZ=>?_) (λZ=>?_)
   focus
    repeat' first|refine ab.t ?_|refine ab.f ?_|refine ab.dA Z ?_|fail
    refine ab.mk (λc2=>?_) (λc2=>?_)
    focus
     have a0:s<m/\m<e:=by
      have B:=XB Z;have a1:=XB c2;try rw[y]at a1
      try rw[y]at B
      omega
     simp only[XG a0]at p;refine eu.mk' [2000] (KY l s m e (by omega) (by omega) (by omega) d2) ⟨.cons (iR rfl (λi t j r=>aC.refl _)) .nil,.cH (.cD (.cD (.cons (.d (dV.of_eq (by rw[y]))) (.cD .nil)))),rfl,rfl,λh=>absurd rfl h⟩ ?_;have M:(uw s m e l).length=l.length:=(by exact Cw _ _ _ _);generalize uw s m e l=u at p M|-;refine Cut.mk (aH.iC [(0,.aL 2000 1),(1,an a),(2,an m),(3,an b),(4,.d yl),(18,an o),(20,an s),(24,an e)] [(2000,.aJ 1 l.length 2 50 (vG u))] (.cons (.bj rfl (λj r C D=>aC.refl _)) .nil) (.cH (.cS (.cS (.cS (.cS (.cS (.cS (.cons (ao.int (by first|rfl|rw[y])) .nil)))))))) ?_)
    rotate_left
    focus
     have a0:¬(s<m/\m<e):=by
      have B:=XA c2;try rw[y]at B
      omega
     simp only[XD a0]at p;obtain⟨u,M,a2⟩:∃u:LV,u.length=l.length/\l=u:=⟨l,rfl,rfl⟩;rw[show(if a<s/\s<o then r7 f a s o l else l)=(if a<s/\s<o then r7 f a s o u else u) by rw[a2]]at p;refine Cut.mk (aH.iC [(0,.aL 2000 1),(1,an a),(2,an m),(3,an b),(4,.d yl),(18,an o),(20,an s),(24,an e)] [(2000,.aJ 1 l.length 2 50 (vG u))] (.cons (.bj rfl (λj r C D=>aC.of_eq (by rw[a2]))) .nil) (.cH (.cS (.cS (.cS (.cS (.cS (.cS (.cons (ao.int (by first|rfl|rw[y])) .nil)))))))) ?_)
   rotate_left 2
   focus
    have a0:¬(s<m/\m<e):=by
     have B:=XA Z;try rw[y]at B
     omega
    simp only[XD a0]at p;repeat' first|refine ab.t ?_|refine ab.f ?_|refine ab.cP Z ?_|fail
    obtain⟨u,M,a2⟩:∃u:LV,u.length=l.length/\l=u:=⟨l,rfl,rfl⟩;rw[show(if a<s/\s<o then r7 f a s o l else l)=(if a<s/\s<o then r7 f a s o u else u) by rw[a2]]at p;refine Cut.mk (aH.iC [(0,.aL 2000 1),(1,an a),(2,an m),(3,an b),(4,.d yl),(18,an o),(20,an s),(24,an e)] [(2000,.aJ 1 l.length 2 50 (vG u))] (.cons (.bj rfl (λj r C D=>aC.of_eq (by rw[a2]))) .nil) (.cH (.cS (.cS (.cS (.cS (.cS (.cS (.cons (ao.int (by first|rfl|rw[y])) .nil)))))))) ?_)
   all_goals
    refine ab.mk (λa3=>?_) (λa3=>?_)
    focus
     repeat' first|refine ab.t ?_|refine ab.f ?_|refine ab.dA a3 ?_|fail
     refine ab.mk (λc3=>?_) (λc3=>?_)
     focus
      have a4:a<s/\s<o:=by
       have B:=XB a3;have a1:=XB c3;try rw[y]at a1
       try rw[y]at B
       omega
      simp only[XG a4]at p;refine eu.mk' [2000] (c5 a s o u (by omega) (by omega) (by omega) (by omega) (by omega)) ⟨.cons (iR M.symm (λi t j r=>aC.refl _)) .nil,.cH (.cD (.cD (.cD (.cD .nil)))),rfl,rfl,λh=>absurd rfl h⟩ ?_;have N:(r7 f a s o u).length=l.length:=(by rw[kf,M]);generalize r7 f a s o u=z at p N|-;refine Cut.mk (aH.iC [(0,.aL 2000 1),(1,an a),(2,an m),(3,an b),(4,.d yl),(18,an o),(20,an s),(24,an e)] [(2000,.aJ 1 l.length 2 50 (vG z))] (.cons (.bj M (λj r C D=>aC.refl _)) .nil) (.cH (.cS (.cS (.cS (.cS (.cS (.cS (.cons (ao.int (by first|rfl|rw[y])) .nil)))))))) ?_)
     rotate_left
     focus
      have a4:¬(a<s/\s<o):=by
       have B:=XA c3;try rw[y]at B
       omega
      simp only[XD a4]at p;obtain⟨z,N,a5⟩:∃z:LV,z.length=l.length/\u=z:=⟨u,M,rfl⟩;rw[a5]at p;refine Cut.mk (aH.iC [(0,.aL 2000 1),(1,an a),(2,an m),(3,an b),(4,.d yl),(18,an o),(20,an s),(24,an e)] [(2000,.aJ 1 l.length 2 50 (vG z))] (.cons (.bj rfl (λj r C D=>aC.of_eq (by rw[a5]))) .nil) (.cH (.cS (.cS (.cS (.cS (.cS (.cS (.cons (ao.int (by first|rfl|rw[y])) .nil)))))))) ?_)
    rotate_left 2
    focus
     have a4:¬(a<s/\s<o):=by
      have B:=XA a3;try rw[y]at B
      omega
     simp only[XD a4]at p;repeat' first|refine ab.t ?_|refine ab.f ?_|refine ab.cP a3 ?_|fail
     obtain⟨z,N,a5⟩:∃z:LV,z.length=l.length/\u=z:=⟨u,M,rfl⟩;rw[a5]at p;refine Cut.mk (aH.iC [(0,.aL 2000 1),(1,an a),(2,an m),(3,an b),(4,.d yl),(18,an o),(20,an s),(24,an e)] [(2000,.aJ 1 l.length 2 50 (vG z))] (.cons (.bj rfl (λj r C D=>aC.of_eq (by rw[a5]))) .nil) (.cH (.cS (.cS (.cS (.cS (.cS (.cS (.cons (ao.int (by first|rfl|rw[y])) .nil)))))))) ?_)
    all_goals
     refine ab.mk (λa6=>?_) (λa6=>?_)
     focus
      repeat' first|refine ab.t ?_|refine ab.f ?_|refine ab.dA a6 ?_|fail
      refine ab.mk (λc4=>?_) (λc4=>?_)
      focus
       have a7:o<e/\e<b:=by
        have B:=XB a6;have a1:=XB c4;try rw[y]at a1
        try rw[y]at B
        omega
       simp only[XG a7]at p;refine eu.mk' [2000] (c5 o e b z (by omega) (by omega) (by omega) (by omega) (by omega)) ⟨.cons (iR N.symm (λi t j r=>aC.refl _)) .nil,.cH (.cD (.cD (.cD (.cD .nil)))),rfl,rfl,λh=>absurd rfl h⟩ ?_;have b1:(r7 f o e b z).length=l.length:=(by rw[kf,N]);generalize r7 f o e b z=O at p b1|-
      rotate_left
      focus
       have a7:¬(o<e/\e<b):=by
        have B:=XA c4;try rw[y]at B
        omega
       simp only[XD a7]at p;obtain⟨O,b1,b2⟩:∃O:LV,O.length=l.length/\z=O:=⟨z,N,rfl⟩;rw[b2]at p
     rotate_left 2
     focus
      have a7:¬(o<e/\e<b):=by
       have B:=XA a6;try rw[y]at B
       omega
      simp only[XD a7]at p;repeat' first|refine ab.t ?_|refine ab.f ?_|refine ab.cP a6 ?_|fail
      obtain⟨O,b1,b2⟩:∃O:LV,O.length=l.length/\z=O:=⟨z,N,rfl⟩;rw[b2]at p
     all_goals
      subst p;exact lS.mk ⟨.n 0,.none,.cons (.bj (by first|exact b1|rfl|exact N) (λ_=>rfl) (λk F R S=>aC.of_eq (by first|rfl|rw[b2]))) (.nil _),.inl rfl⟩
def JQ (n:Nat):Nat->Nat->LV->LV
 |0,_,l=>l
 |f+1,a,l=>if a+20<=n then JQ n f (a+20) (iD a l (a+20))else iD a l n
def wR (n bs:Nat):Nat->Nat->LV->LV
 |0,_,l=>l
 |f+1,a,l=>if a+2*bs<=n then wR n bs f (a+2*bs) (r7 n a (a+bs) (a+2*bs) l)else if a+bs<n then r7 n a (a+bs) n l else l
def wT (n:Nat):Nat->Nat->LV->LV
 |0,_,l=>l
 |f+1,a,l=>if a<n then wT n f (2*a) (wR n a (n+1) 0 l)else l
def ee (l:LV):LV:=wT l.length (l.length+1) 20 (JQ l.length (l.length+1) 0 l)
theorem BJ (n:Nat):∀(f a:Nat) (l:LV),(JQ n f a l).length=l.length
 |0,_,_=>rfl
 |f+1,a,l=>by rw[JQ];split;rw[BJ n f,jK];exact jK _ _ _
theorem wQ (n bs:Nat):∀(f a:Nat) (l:LV),(wR n bs f a l).length=l.length
 |0,_,_=>rfl
 |f+1,a,l=>by rw[wR];split;rw[wQ n bs f,kf];split;exact kf _ _ _ _ _;rfl
theorem CY (n:Nat):∀(f bs:Nat) (l:LV),(wT n f bs l).length=l.length
 |0,_,_=>rfl
 |f+1,bs,l=>by rw[wT];split;rw[CY n f,wQ];rfl
theorem q1 (l:LV):(ee l).length=l.length:=by rw[ee,CY,BJ]
set_option maxHeartbeats 1000000 in
theorem Ks (l:LV) (Q:l.length<=1000):
  oC Tryz.prog 217 [.aL (.n 2000) 1,.d (.one (i64 l.length)),.d yl] [.aJ 1 l.length 2 50 (vG l)] (.eG []) [.aJ 1 l.length 2 50 (vG (ee l))] .none:=by
 refine dC kL mixed Tryz.func217 rfl rfl [234+2000000,235+2000000] (XJ rfl) (XJ rfl) (gQ rfl) ?_;obtain⟨n,z⟩:∃n,n=l.length:=⟨_,rfl⟩;obtain⟨F,t⟩:∃F,F=ee l:=⟨_,rfl⟩;rw[<-t];rw[ee,<-z]at t;rw[<-z];rw[<-z]at Q;refine Loop.by (α:=Nat×Nat×LV) (λq=>[(0,.aL 2000 1),(1,an n),(2,.d yl),(6,an 20),(7,an (q.2.1:Nat)),(8,an (q.2.1+20:Nat))]) (λq=>[(2000,.aJ 1 n 2 50 (vG q.2.2))])
  (λq=>q.2.1<=n/\n-q.2.1<q.1/\q.2.2.length=n/\JQ n q.1 q.2.1 q.2.2=JQ n (n+1) 0 l) (λq=>n-q.2.1)
  (aH.at (n+1,0,l) ⟨XS _,by show n-0<n+1;omega,z.symm,rfl⟩ (.cons (.aJ (λj a G H=>aC.refl _)) .nil) (.cH (.cS (.cS (.cS (.cS (.cS .nil))))))) (λq R=>?_)
 obtain⟨X,Y,p,I⟩:=R;obtain⟨f,J⟩:∃f,q.1=f+1:=⟨q.1-1,by omega⟩;refine ab.mk (λc=>?_) (λc=>?_);have A:q.2.1+20<=n:=(by have:=XB c;omega);refine eu.mk' [2000] (D2 q.2.2 q.2.1 (q.2.1+20)) ⟨.cons (iR p.symm (λi m j a=>aC.refl _)) .nil,.cH (.cD (.cD (.cD .nil))),rfl,rfl,λh=>absurd rfl h⟩ ?_;exact aH.back (x:=q) (f,q.2.1+20,iD q.2.1 q.2.2 (q.2.1+20)) ⟨A,by show n-(q.2.1+20)<f;omega,by show(iD q.2.1 q.2.2 (q.2.1+20)).length=n;rw[jK,p],by rw[<-I,J,JQ,XG A]⟩ (by show n-(q.2.1+20)<n-q.2.1;omega) (.cons (.bj p (λi m j a=>aC.refl _)) .nil) (.cH (.cS (.cS (.cS (.cS (.cons (ao.int (by rw[hw _];show _=((q.2.1+20+20:Nat):Int);omega)) .nil))))));have A:¬q.2.1+20<=n:=by have:=XA c;omega
 rw[<-I,J,JQ,XD A]at t;refine eu.mk' [2000] (D2 q.2.2 q.2.1 n) ⟨.cons (iR p.symm (λi m j a=>aC.refl _)) .nil,.cH (.cD (.cD (.cD .nil))),rfl,rfl,λh=>absurd rfl h⟩ ?_;have K:(iD q.2.1 q.2.2 n).length=n:=by rw[jK,p]
 generalize iD q.2.1 q.2.2 n=M at t K|-;refine Loop.by (α:=Nat×Nat×LV) (λq=>[(0,.aL 2000 1),(1,an n),(2,.d yl),(6,an (q.2.1:Nat))]) (λq=>[(2000,.aJ 1 n 2 50 (vG q.2.2))])
  (λq=>20<=q.2.1/\q.2.1<=2000/\n-q.2.1<q.1/\q.2.2.length=n/\wT n q.1 q.2.1 q.2.2=wT n (n+1) 20 M) (λq=>n-q.2.1)
  (aH.at (n+1,20,M) ⟨XP _,by show 20<=2000;decide,by show n-20<n+1;omega,K,rfl⟩ (.cons (.bj p (λj a G H=>aC.refl _)) .nil) (.cH (.cS (.cS (.cS .nil))))) (λr S=>?_)
 obtain⟨Z,a0,a1,T,y⟩:=S;obtain⟨g,N⟩:∃g,r.1=g+1:=⟨r.1-1,by omega⟩;refine ab.mk (λd=>?_) (λd=>?_)
 ·have D:r.2.1<n:=(by have:=XB d;omega);rw[N,wT,XG D]at y;have O:IntKind.i64.wrap (2*((r.2.1:Nat):Int))=((2*r.2.1:Nat):Int):=(by rw[hw _];omega);have P:IntKind.i64.wrap (((r.2.1:Nat):Int)*2)=((2*r.2.1:Nat):Int):=(by rw[hw _];omega);refine Loop.by (α:=Nat×Nat×LV) (λq=>[(0,.aL 2000 1),(1,an n),(2,.d yl),(6,an r.2.1),(7,an (q.2.1:Nat)),(8,an (q.2.1+2*r.2.1:Nat))]) (λq=>[(2000,.aJ 1 n 2 50 (vG q.2.2))])
   (λq=>q.2.1<=n/\n-q.2.1<q.1/\q.2.2.length=n/\wR n r.2.1 q.1 q.2.1 q.2.2=wR n r.2.1 (n+1) 0 r.2.2) (λq=>n-q.2.1)
   (aH.at (n+1,0,r.2.2) ⟨XS _,by show n-0<n+1;omega,T,rfl⟩ (.cons (.aJ (λj a G H=>aC.refl _)) .nil) (.cH (.cS (.cS (.cS (.cS (.cons (ao.int (by rw[O];show _=((0+2*r.2.1:Nat):Int);omega)) .nil))))))) (λs U=>?_)
  obtain⟨a2,a3,o,b⟩:=U;obtain⟨u,V⟩:∃u,s.1=u+1:=⟨s.1-1,by omega⟩;rw[V,wR]at b;have B:IntKind.i64.wrap (((s.2.1:Nat):Int)+(r.2.1:Nat))=((s.2.1+r.2.1:Nat):Int):=(by rw[hw _];omega);refine ab.mk (λe=>?_) (λe=>?_);have C:s.2.1+2*r.2.1<=n:=(by have:=XB e;omega);rw[XG C]at b;refine eu.mk' [2000] (B3 n s.2.1 (s.2.1+r.2.1) (s.2.1+2*r.2.1) s.2.2 (by omega) (by omega) (by omega) (by omega) (by omega)) ⟨.cons (iR o.symm (λi m j a=>aC.refl _)) .nil,.cH (.cD (.cons (.d (dV.of_eq (by rw[B]))) (.cD (.cD .nil)))),rfl,rfl,λh=>absurd rfl h⟩ ?_;exact aH.back (x:=s) (u,s.2.1+2*r.2.1,r7 n s.2.1 (s.2.1+r.2.1) (s.2.1+2*r.2.1) s.2.2) ⟨C,by show n-(s.2.1+2*r.2.1)<u;omega,by show(r7 _ _ _ _ s.2.2).length=n;rw[kf,o],b⟩ (by show n-(s.2.1+2*r.2.1)<n-s.2.1;omega) (.cons (.bj o (λi m j a=>aC.refl _)) .nil) (.cH (.cS (.cS (.cS (.cS (.cons (ao.int (by rw[O,hw _];show _=((s.2.1+2*r.2.1+2*r.2.1:Nat):Int);omega)) .nil))))));have C:¬s.2.1+2*r.2.1<=n:=(by have:=XA e;omega);rw[XD C]at b;refine ab.mk (λw=>?_) (λw=>?_);have E:s.2.1+r.2.1<n:=(by rw[B]at w;have:=XB w;omega);rw[XG E]at b;refine eu.mk' [2000] (B3 n s.2.1 (s.2.1+r.2.1) n s.2.2 (by omega) (by omega) (by omega) (by omega) (by omega)) ⟨.cons (iR o.symm (λi m j a=>aC.refl _)) .nil,.cH (.cD (.cons (.d (dV.of_eq (by rw[B]))) (.cD (.cD .nil)))),rfl,rfl,λh=>absurd rfl h⟩ ?_;exact aH.back (x:=r) (g,2*r.2.1,r7 n s.2.1 (s.2.1+r.2.1) n s.2.2) ⟨by show 20<=2*r.2.1;omega,by show 2*r.2.1<=2000;omega,by show n-2*r.2.1<g;omega,by show(r7 _ _ _ _ s.2.2).length=n;rw[kf,o],by rw[<-y,<-b]⟩ (by show n-2*r.2.1<n-r.2.1;omega) (.cons (.bj o (λi m j a=>aC.refl _)) .nil) (.cH (.cS (.cS (.cons (ao.int P) .nil))));have E:¬s.2.1+r.2.1<n:=(by rw[B]at w;have:=XA w;omega);rw[XD E]at b;exact aH.back (x:=r) (g,2*r.2.1,s.2.2) ⟨by show 20<=2*r.2.1;omega,by show 2*r.2.1<=2000;omega,by show n-2*r.2.1<g;omega,o,by rw[<-y,<-b]⟩ (by show n-2*r.2.1<n-r.2.1;omega) (.cons (.aJ (λi m j a=>aC.refl _)) .nil) (.cH (.cS (.cS (.cons (ao.int P) .nil))))
 ·have D:¬r.2.1<n:=(by have:=XA d;omega);rw[N,wT,XD D]at y;rw[t,<-y];exact lS.mk ⟨.n 0,.none,.cons (.aJ (λ_=>rfl) (λk a4 a5 a6=>aC.refl _)) (.nil _),.inl rfl⟩
theorem Ku (l:LV) (a:l.length<=1000):
  oC Tryz.prog 180 [.aL (.n 2000) 1,.d (.one (.fn 181 1 PZ))] [.aJ 1 l.length 2 50 (vG l)] (.eG []) [.aJ 1 l.length 2 50 (vG (ee l))] .none:=by
 refine dC kL mixed Tryz.func180 rfl rfl [217+2000000] (XJ rfl) (XJ rfl) (gQ rfl) ?_;refine eu.mk' [2000] (Ks l a) ⟨.cons (iR rfl (λi b j c=>aC.refl _)) .nil,.cH (.cD (.cD .nil)),rfl,rfl,λh=>absurd rfl h⟩ ?_;exact lS.mk ⟨.n 0,.none,.cons (.aJ (λ_=>rfl) (λk f g m=>aC.refl _)) (.nil _),.inl rfl⟩
theorem Tp:Is ee:=⟨q1,Ku⟩
abbrev pZ (x y:V2):Prop:=¬xD y x<0
structure SE (S:V2->Prop):Prop where
 Va:∀x y,S x->S y->xD x y<0->pZ x y
 tr:∀x y z,S x->S y->S z->pZ x y->pZ y z->pZ x z
abbrev uF (S:V2->Prop) (l:LV):Prop:=∀x∈l,S x
def jW (l:LV) (a b:Nat):Prop:=∀i k,a<=i->i<k->k<b->pZ (gt l i) (gt l k)
structure nk (a b:Nat) (l l':LV):Prop where
 len:l'.length=l.length
 perm:l'.Perm l
 out:∀i,(i<a\/b<=i)->gt l' i=gt l i
 src:∀i,a<=i->i<b->∃j,a<=j/\j<b/\gt l' i=gt l j
theorem nk.refl (a b:Nat) (l:LV):nk a b l l:=⟨rfl,.refl _,λ_ _=>rfl,λi c f=>⟨i,c,f,rfl⟩⟩
variable {a:Nat} {l':LV}
theorem nk.trans {b:Nat} {l c:LV} (h:nk a b l l') (k:nk a b l' c):nk a b l c:=
 ⟨k.len.trans h.len,k.perm.trans h.perm,λi f=>(k.out i f).trans (h.out i f),λi g m=>by obtain⟨j,o,p,e⟩:=k.src i g m;obtain⟨q,r,t,u⟩:=h.src j o p;exact⟨q,r,t,e.trans u⟩⟩
theorem nk.mono {b f g:Nat} {l:LV} (h:nk a b l l') (o:f<=a) (p:b<=g):nk f g l l':=
 ⟨h.len,h.perm,λi q=>h.out i (by omega),λi k m=>by
  by_cases c:a<=i/\i<b;obtain⟨j,r,t,e⟩:=h.src i c.1 c.2;exact⟨j,by omega,by omega,e⟩
  ·exact⟨i,k,m,h.out i (by omega)⟩⟩
variable {i:Nat}
theorem Pu {l:LV} (h:i<l.length):gt l i∈l:=by
 have:gt l i=l[i]:=by simp[gt,List.getD,h]
 rw[this];exact YU h
variable {S:V2->Prop}
theorem uF.at {l:LV} (A:uF S l) (h:i<l.length):S (gt l i):=A _ (Pu h)
theorem nk.all {b:Nat} {l:LV} (h:nk a b l l') (A:uF S l):uF S l':=λx c=>A x (h.perm.mem_iff.1 c)
theorem nk.oN {b c d:Nat} {l:LV} (h:nk a b l l') (s:jW l c d) (m:d<=a\/b<=c):jW l' c d:=by
 intro i k f g j;rw[h.out i (by omega),h.out k (by omega)];exact s i k f g j
theorem uL {l:LV} {r p b:Nat} (f:a<=r/\r<b) (g:a<=p/\p<b) (q:b<=l.length):nk a b l (pI l r p):=by
 refine⟨qT l r p,?_,λi t=>?_,λi j k=>?_⟩;have m:gt l p=l[p]'(by omega):=(by simp[gt,List.getD,show p<l.length by omega]);have o:gt l r=l[r]'(by omega):=(by simp[gt,List.getD,show r<l.length by omega]);rw[pI,m,o];exact List.set_set_perm (by omega) (by omega);rw[s4 l r p (by omega) (by omega),iN,iN];rw[s4 l r p (by omega) (by omega)];by_cases c:i=p;rw[XG c];exact⟨r,f.1,f.2,rfl⟩;rw[XD c];by_cases h:i=r;rw[XG h];exact⟨p,g.1,g.2,rfl⟩;rw[XD h];exact⟨i,j,k,rfl⟩
section
variable {S:V2->Prop} (O:SE S)
include O
theorem HG {a b:Nat}:∀(j:Nat) (l:LV),a<=j->j<b->b<=l.length->uF S l->(∀i k,a<=i->i<k->k<b->i≠j->k≠j->pZ (gt l i) (gt l k))->(∀k,j<k->k<b->pZ (gt l j) (gt l k))->
  nk a b l (og a j l)/\jW (og a j l) a b
 |0,l,E,F,y,A,m,w=>by refine⟨nk.refl a b l,λi k z x C=>?_⟩;show pZ (gt l i) (gt l k);by_cases c:i=0;subst c;exact w k x C;exact m i k z x C c (by omega)
 |j+1,l,E,F,y,A,m,w=>by
  rw[og];by_cases c:a<j+1/\xD (gt l (j+1)) (gt l j)<0
  ·rw[XG c];have B:nk a b l (kb l j):=uL (l:=l) (r:=j+1) (p:=j) ⟨by omega,by omega⟩ ⟨by omega,by omega⟩ y;have g:=JZ l j (by omega);have G:∀i k,a<=i->i<k->k<b->i≠j->k≠j->pZ (gt (kb l j) i) (gt (kb l j) k):=λi k o t u H I=>by rw[g,g,XD H,XD I];by_cases h:i=j+1;rw[XG h,iN];exact m j k (by omega) (by omega) u (by omega) (by omega);rw[XD h];by_cases f:k=j+1;rw[XG f];exact m i j o (by omega) (by omega) h (by omega);rw[XD f];exact m i k o t u h f
   have J:∀k,j<k->k<b->pZ (gt (kb l j) j) (gt (kb l j) k):=λk o t=>by rw[g,g,XG rfl,iN];by_cases f:k=j+1;rw[XG f];exact O.Va _ _ (A.at (by omega)) (A.at (by omega)) c.2;rw[XD f];exact w k (by omega) t
   obtain⟨z,x⟩:=HG (a:=a) (b:=b) j (kb l j) (by omega) (by omega) (by rw[vO];exact y) (B.all A) G J;exact⟨B.trans z,x⟩
  ·rw[XD c];refine⟨nk.refl a b l,λi k o t u=>?_⟩;by_cases h:i=j+1;subst h;exact w k t u;by_cases f:k=j+1;subst f;have D:pZ (gt l j) (gt l (j+1)):=λq=>c ⟨by omega,q⟩;by_cases K:i=j;subst K;exact D;exact O.tr _ _ _ (A.at (by omega)) (A.at (by omega)) (A.at (by omega)) (m i j o (by omega) (by omega) h (by omega)) D;exact m i k o t u h f
theorem Bm {a b:Nat} {l:LV} (m:b<=l.length) (A:uF S l):∀i,i<=b->nk a b l (iD a l i)/\jW (iD a l i) a i
 |0,_=>⟨nk.refl a b l,λi k _ _ h=>absurd h (XL _)⟩
 |i+1,o=>by obtain⟨f,p⟩:=Bm m A i (by omega);rw[iD];by_cases c:a<i;rw[XG c];obtain⟨q,r⟩:=HG O (a:=a) (b:=i+1) i (iD a l i) (by omega) (by omega) (by rw[f.len];omega) (f.all A) (λx y g j t u w=>p x y g j (by omega)) (λk g j=>by omega);exact⟨f.trans (q.mono (XP _) o),r⟩;rw[XD c];refine⟨f,λx y g j t=>by omega⟩
end
theorem Aa {a b:Nat} (l:LV):∀(n:Nat),a+n<=b->b+n<=l.length->∀k,gt (uj a b l n) k=if a<=k/\k<a+n then gt l (b+(k-a))else if b<=k/\k<b+n then gt l (a+(k-b))else gt l k
 |0,_,_,k=>by rw[uj,iN,iN]
 |n+1,o,p,k=>by have f:=Aa (a:=a) (b:=b) l n (by omega) (by omega);have j:gt (uj a b l n) (a+n)=gt l (a+n):=(by rw[f,iN,iN]);have m:gt (uj a b l n) (b+n)=gt l (b+n):=(by rw[f,iN,iN]);rw[uj,s4 _ _ _ (by rw[il];omega) (by rw[il];omega),j,m,f k];by_cases c:k=b+n;rw[XG c,iN,iP];congr 1;omega;rw[XD c];by_cases g:k=a+n;rw[XG g,iP];congr 1;omega;rw[XD g];by_cases h:a<=k/\k<a+n;rw[XG h,iP];rw[XD h,XD (show¬(a<=k/\k<a+(n+1)) by omega)];by_cases i:b<=k/\k<b+n;rw[XG i,iP];rw[XD i,iN]
theorem uM {a b x y:Nat} {l:LV}:∀(n:Nat),x<=a->a+n<=y->x<=b->b+n<=y->y<=l.length->nk x y l (uj a b l n)
 |0,_,_,_,_,_=>nk.refl _ _ _
 |n+1,f,h,g,i,c=>(uM n f (by omega) g (by omega) c).trans (uL ⟨by omega,by omega⟩ ⟨by omega,by omega⟩ (by rw[il];exact c))
theorem E5 {m:Nat}:∀(f i j:Nat) (l:LV),0<i->0<j->i<=m->m+j<=l.length->i+j<=f->nk (m-i) (m+j) l (Et m f i j l)/\
  ∀k,m-i<=k->k<m+j->gt (Et m f i j l) k=if k<m-i+j then gt l (m+(k-(m-i)))else gt l (k-j)
 |0,i,j,l,t,u,_,_,w=>absurd w (by omega)
 |f+1,i,j,l,t,u,A,g,w=>by rw[Et];by_cases c:i=j;rw[XG c];subst c;refine⟨uM i (XP _) (by omega) (by omega) (XP _) g,λk p q=>?_⟩;rw[Aa l i (by omega) g];by_cases d:k<m-i+i;rw[iP,XG d];rw[iN,iP,XD d];congr 1;omega;rw[XD c];by_cases z:j<i;rw[XG z];have s:=Aa (a:=m-i) (b:=m) l j (by omega) g;have B:=uM (a:=m-i) (b:=m) (x:=m-i) (y:=m+j) (l:=l) j (XP _) (by omega) (by omega) (XP _) g;obtain⟨h,r⟩:=E5 (m:=m) f (i-j) j (uj (m-i) m l j) (by omega) u (by omega) (by rw[B.len];exact g) (by omega);refine⟨B.trans (h.mono (by omega) (XP _)),λk p q=>?_⟩;by_cases d:m-(i-j)<=k;rw[r k d q];by_cases o:k<m-(i-j)+j;rw[XG o,s,iN,iP,iN];congr 1;omega;rw[XD o,s,iN,iN,iN];rw[h.out k (by omega),s,iP,iP];rw[XD z];have s:=Aa (a:=m-i) (b:=m+j-i) l i (by omega) (by omega);have B:=uM (a:=m-i) (b:=m+j-i) (x:=m-i) (y:=m+j) (l:=l) i (XP _) (by omega) (by omega) (by omega) g;obtain⟨h,r⟩:=E5 (m:=m) f i (j-i) (uj (m-i) (m+j-i) l i) t (by omega) A (by rw[B.len];omega) (by omega);refine⟨B.trans (h.mono (XP _) (by omega)),λk p q=>?_⟩;by_cases d:k<m+(j-i);rw[r k p d];by_cases o:k<m-i+(j-i);rw[XG o,s,iN,iN,iP];rw[XD o,s,iP,iP];congr 1;omega;rw[h.out k (by omega),s,iN,iP,iN];congr 1;omega
theorem Oy {m b:Nat} {l:LV} (g:a<m) (h2:m<b) (h:b<=l.length):nk a b l (uw a m b l)/\
  ∀k,a<=k->k<b->gt (uw a m b l) k=if k<a+(b-m)then gt l (m+(k-a))else gt l (k-(b-m)):=by
 obtain⟨p,q⟩:=E5 (m:=m) (b-a) (m-a) (b-m) l (by omega) (by omega) (by omega) (by omega) (by omega);have c:m-(m-a)=a:=by omega
 have f:m+(b-m)=b:=by omega
 rw[c,f]at p q;exact⟨p,q⟩
def xW (t:Nat->Bool):Nat->Nat->Nat->Nat
 |0,i,_=>i
 |f+1,i,j=>if i<j then(if t ((i+j)/2)=true then xW t f ((i+j)/2+1) j else xW t f i ((i+j)/2))else i
theorem tn (t:Nat->Bool):∀(f i j:Nat),i<=j->j-i<=f->i<=xW t f i j/\xW t f i j<=j/\(i<xW t f i j->t (xW t f i j-1)=true)/\(xW t f i j<j->t (xW t f i j)=false)
 |0,i,j,a,m=>by rw[xW];exact⟨XP _,a,λh=>absurd h (Zg _),λh=>by omega⟩
 |f+1,i,j,a,m=>by
  rw[xW];by_cases c:i<j
  ·rw[XG c];cases d:t ((i+j)/2)with
   |true=>rw[XG rfl];obtain⟨k,l,b,g⟩:=tn t f ((i+j)/2+1) j (by omega) (by omega);refine⟨by omega,l,λ_=>?_,g⟩;by_cases e:(i+j)/2+1<xW t f ((i+j)/2+1) j;exact b e;rw[show xW t f ((i+j)/2+1) j-1=(i+j)/2 by omega];exact d
   |false=>rw[XD (by simp)];obtain⟨k,l,b,g⟩:=tn t f i ((i+j)/2) (by omega) (by omega);refine⟨k,by omega,b,λ_=>?_⟩;by_cases e:xW t f i ((i+j)/2)<(i+j)/2;exact g e;rw[show xW t f i ((i+j)/2)=(i+j)/2 by omega];exact d
  ·rw[XD c];exact⟨XP _,a,λh=>absurd h (Zg _),λh=>absurd h c⟩
theorem F5 (l:LV) (p:Nat):∀(f i j:Nat),F6 l p f i j=xW (λc=>decide (xD (gt l c) (gt l p)<0)) f i j
 |0,_,_=>rfl
 |f+1,i,j=>by rw[F6,xW,F5 l p f,F5 l p f];simp only[XU]
theorem F1 (l:LV) (p:Nat):∀(f i j:Nat),F4 l p f i j=xW (λc=>decide (pZ (gt l c) (gt l p))) f i j
 |0,_,_=>rfl
 |f+1,i,j=>by rw[F4,xW,F1 l p f,F1 l p f];simp only[XU]
theorem BI (l:LV) (q:Nat):∀(f i j:Nat),vq l q f i j=xW (λc=>decide (pZ (gt l c) (gt l (q-c)))) f i j
 |0,_,_=>rfl
 |f+1,i,j=>by rw[vq,xW,BI l q f,BI l q f];simp only[XU]
theorem J1 {a:Nat} {l:LV}:∀(n:Nat),a+n<l.length->∀k,gt (NT a l n) k=if a<=k/\k<a+n then gt l (k+1)else if k=a+n then gt l a else gt l k
 |0,_,k=>by rw[NT,iN];by_cases c:k=a+0;rw[XG c,c];rfl;rw[XD c]
 |n+1,h,k=>by have f:=J1 (a:=a) (l:=l) n (by omega);rw[NT,s4 _ _ _ (by rw[oF];omega) (by rw[oF];omega),f,f,f];by_cases c:k=a+n+1;rw[XG c,XD (show¬(a<=a+n/\a+n<a+n) by omega),XG rfl,iN,iP];rw[XD c];by_cases b:k=a+n;rw[XG b,iN,iN,iP,b];rw[XD b];by_cases g:a<=k/\k<a+n;rw[XG g,iP];rw[XD g,XD b,iN,iN]
theorem Gl {a x y:Nat} {l:LV}:∀(n:Nat),x<=a->a+n<y->y<=l.length->nk x y l (NT a l n)
 |0,_,_,_=>nk.refl _ _ _
 |n+1,c,f,b=>(Gl n c (by omega) b).trans (uL ⟨by omega,by omega⟩ ⟨by omega,by omega⟩ (by rw[oF];exact b))
theorem MU {m:Nat} {l:LV} (g:m<l.length):∀(n:Nat),n<=m->∀k,gt (NZ m l n) k=if m-n<k/\k<=m then gt l (k-1)else if k=m-n then gt l m else gt l k
 |0,_,k=>by rw[NZ,iN];by_cases c:k=m-0;rw[XG c,c];rfl;rw[XD c]
 |n+1,h,k=>by have b:=MU g n (by omega);rw[NZ,s4 _ _ _ (by rw[py];omega) (by rw[py];omega),b,b,b];by_cases c:k=m-n-1;rw[XG c,XD (show¬(m-n<m-n/\m-n<=m) by omega),XG rfl,iN,iP];rw[XD c];by_cases a:k=m-n;rw[XG a,iN,iN,iP,a];rw[XD a];by_cases f:m-n<k/\k<=m;rw[XG f,iP];rw[XD f,XD a,iN,iN]
theorem H3 {m x y:Nat} {l:LV}:∀(n:Nat),x+n<=m->m<y->y<=l.length->nk x y l (NZ m l n)
 |0,_,_,_=>nk.refl _ _ _
 |n+1,c,b,a=>(H3 n (by omega) b a).trans (uL ⟨by omega,by omega⟩ ⟨by omega,by omega⟩ (by rw[py];exact a))
section
variable {S:V2->Prop} (O:SE S)
include O
theorem Ar:∀(f a m b:Nat) (l:LV),a<m->m<b->b<=l.length->b-a<=f->uF S l->jW l a m->jW l m b->nk a b l (r7 f a m b l)/\jW (r7 f a m b l) a b
 |0,a,m,b,l,d8,d9,_,b7,_,_,_=>absurd b7 (by omega)
 |f+1,a,m,b,l,e0,e1,a6,e2,A,F,H=>by
  rw[r7];by_cases a7:m-a=1
  ·rw[XG a7,F5];have G:=tn (λc=>decide (xD (gt l c) (gt l a)<0)) (b-m) m b (by omega) (by omega);generalize xW (λc=>decide (xD (gt l c) (gt l a)<0)) (b-m) m b=i at G|-;obtain⟨P,R,I,J⟩:=G;have K:a+(i-1-a)<b:=(by omega);refine⟨Gl _ (XP _) K a6,λx y r w z=>?_⟩;have T:=J1 (a:=a) (l:=l) (i-1-a) (by omega);have D:∀k,m<=k->k<i->pZ (gt l k) (gt l a):=λk C E=>by have t:=XB (I (by omega));have t:=O.Va _ _ (A.at (by omega)) (A.at (by omega)) t;by_cases e:k=i-1;rw[e];exact t;exact O.tr _ _ _ (A.at (by omega)) (A.at (by omega)) (A.at (by omega)) (H k (i-1) C (by omega) (by omega)) t
   have a2:∀k,i<=k->k<b->pZ (gt l a) (gt l k):=λk C E=>by have t:pZ (gt l a) (gt l i):=XA (J (by omega));by_cases e:k=i;rw[e];exact t;exact O.tr _ _ _ (A.at (by omega)) (A.at (by omega)) (A.at (by omega)) t (H i k P (by omega) E)
   rw[T x,T y];by_cases U:a<=x/\x<a+(i-1-a);rw[XG U];by_cases V:a<=y/\y<a+(i-1-a);rw[XG V];exact H _ _ (by omega) (by omega) (by omega);rw[XD V];by_cases N:y=a+(i-1-a);rw[XG N];exact D _ (by omega) (by omega);rw[XD N];exact H _ _ (by omega) (by omega) (by omega);rw[XD U,XD (show¬(a<=y/\y<a+(i-1-a)) by omega),XD (show¬y=a+(i-1-a) by omega)];by_cases N:x=a+(i-1-a);rw[XG N];exact a2 _ (by omega) (by omega);rw[XD N];exact H _ _ (by omega) (by omega) (by omega)
  rw[XD a7];by_cases a8:b-m=1
  ·rw[XG a8,F1];have G:=tn (λc=>decide (pZ (gt l c) (gt l m))) (m-a) a m (by omega) (by omega);generalize xW (λc=>decide (pZ (gt l c) (gt l m))) (m-a) a m=i at G|-;obtain⟨P,R,I,J⟩:=G;refine⟨H3 _ (by omega) (by omega) a6,λx y r w z=>?_⟩;have T:=MU (m:=m) (l:=l) (by omega) (m-i) (by omega);have D:∀k,a<=k->k<i->pZ (gt l k) (gt l m):=λk C E=>by have t:=XB (I (by omega));by_cases e:k=i-1;rw[e];exact t;exact O.tr _ _ _ (A.at (by omega)) (A.at (by omega)) (A.at (by omega)) (F k (i-1) C (by omega) (by omega)) t
   have a2:∀k,i<=k->k<m->pZ (gt l m) (gt l k):=λk C E=>by have t:=XA (J (by omega));have t:pZ (gt l m) (gt l i):=O.Va _ _ (A.at (by omega)) (A.at (by omega)) (Xz λq=>t q);by_cases e:k=i;rw[e];exact t;exact O.tr _ _ _ (A.at (by omega)) (A.at (by omega)) (A.at (by omega)) t (F i k P (by omega) E)
   rw[T x,T y,show m-(m-i)=i by omega];by_cases U:i<x/\x<=m;rw[XG U,XG (show i<y/\y<=m by omega)];exact F _ _ (by omega) (by omega) (by omega);rw[XD U];by_cases V:x=i;rw[XG V,XG (show i<y/\y<=m by omega)];exact a2 _ (by omega) (by omega);rw[XD V];by_cases N:i<y/\y<=m;rw[XG N];exact F _ _ (by omega) (by omega) (by omega);rw[XD N];by_cases a9:y=i;rw[XG a9];exact D _ (by omega) (by omega);rw[XD a9];exact F _ _ (by omega) (by omega) (by omega)
  rw[XD a8];dsimp only;obtain⟨o,b8⟩:∃o,o=(a+b)/2:=⟨_,rfl⟩;rw[<-b8];obtain⟨s,D,K,b9,e3,e4,e5,e6,e7,e8,e9,I,J⟩:∃s D K,(if m>o then vq l (o+m-1) b (o+m-b) o else vq l (o+m-1) b a m)=s/\D<=s/\s<=K/\a<=D/\K<=m/\K<=o/\(o+m<=D+b/\(D=o+m-b\/D=a))/\(K=o\/K=m)/\
    (D<s->pZ (gt l (s-1)) (gt l (o+m-1-(s-1))))/\(s<K->¬pZ (gt l s) (gt l (o+m-1-s))):=by
   by_cases g:m>o;rw[XG g,BI];obtain⟨P,R,I,J⟩:=tn (λc=>decide (pZ (gt l c) (gt l (o+m-1-c)))) b (o+m-b) o (by omega) (by omega);exact⟨_,o+m-b,o,rfl,P,R,by omega,by omega,by omega,⟨by omega,.inl rfl⟩,.inl rfl,λh=>XB (I h),λh=>XA (J h)⟩;rw[XD g,BI];obtain⟨P,R,I,J⟩:=tn (λc=>decide (pZ (gt l c) (gt l (o+m-1-c)))) b a m (by omega) (by omega);exact⟨_,a,m,rfl,P,R,by omega,by omega,by omega,⟨by omega,.inr rfl⟩,.inr rfl,λh=>XB (I h),λh=>XA (J h)⟩
  rw[b9];obtain⟨e,c0⟩:∃e,e=o+m-s:=⟨_,rfl⟩;rw[<-c0];have f0:m<=e:=(by omega);have c1:o<=e:=(by omega);have c2:e<=b:=(by omega);obtain⟨u,c3,a3,a4,a5,Z,a0⟩:∃u,(if s<m/\m<e then uw s m e l else l)=u/\nk a b l u/\(∀k,a<=k->k<s->gt u k=gt l k)/\(∀k,s<=k->k<o->gt u k=gt l (k-s+m))/\(∀k,o<=k->k<e->gt u k=gt l (k-o+s))/\(∀k,e<=k->gt u k=gt l k):=(by by_cases c:s<m/\m<e;rw[XG c];obtain⟨B,g⟩:=Oy c.1 c.2 (by omega:e<=l.length);refine⟨_,rfl,B.mono (by omega) c2,λk C E=>B.out k (by omega),λk C E=>?_,λk C E=>?_,λk C=>B.out k (by omega)⟩;rw[g k C (by omega),iP];congr 1;omega;rw[g k (by omega) E,iN];congr 1;omega;rw[XD c];refine⟨_,rfl,nk.refl _ _ _,λk _ _=>rfl,λk C E=>?_,λk C E=>?_,λk _=>rfl⟩;congr 1;omega;congr 1;omega);rw[c3];have b0:=a3.all A;have c4:u.length=l.length:=a3.len;have b1:jW u a s:=λx y r w z=>by rw[a4 x r (by omega),a4 y (by omega) z];exact F x y r w (by omega)
  have b2:jW u s o:=λx y r w z=>by rw[a5 x r (by omega),a5 y (by omega) z];exact H _ _ (by omega) (by omega) (by omega)
  have c5:jW u o e:=λx y r w z=>by rw[Z x r (by omega),Z y (by omega) z];exact F _ _ (by omega) (by omega) (by omega)
  have c6:jW u e b:=λx y r w z=>by rw[a0 x r,a0 y (by omega)];exact H _ _ (by omega) (by omega) (by omega)
  have c7:∀x y,a<=x->x<o->o<=y->y<b->pZ (gt u x) (gt u y):=(by intro x y r w b3 b4;by_cases c:x<s;rw[a4 x r c];by_cases d:y<e;rw[Z y b3 d];exact F _ _ r (by omega) (by omega);rw[a0 y (by omega)];have t:=I (by omega);rw[show o+m-1-(s-1)=e by omega]at t;have X:pZ (gt l x) (gt l e):=(by by_cases q:x=s-1;rw[q];exact t;exact O.tr _ _ _ (A.at (by omega)) (A.at (by omega)) (A.at (by omega)) (F x (s-1) r (by omega) (by omega)) t);by_cases q:y=e;rw[q];exact X;exact O.tr _ _ _ (A.at (by omega)) (A.at (by omega)) (A.at (by omega)) X (H e y (by omega) (by omega) b4);rw[a5 x (by omega) w];by_cases d:y<e;rw[Z y b3 d];have t:=J (by omega);rw[show o+m-1-s=e-1 by omega]at t;have t:pZ (gt l (e-1)) (gt l s):=O.Va _ _ (A.at (by omega)) (A.at (by omega)) (Xz λq=>t q);have X:pZ (gt l (x-s+m)) (gt l s):=(by by_cases q:x-s+m=e-1;rw[q];exact t;exact O.tr _ _ _ (A.at (by omega)) (A.at (by omega)) (A.at (by omega)) (H _ (e-1) (by omega) (by omega) (by omega)) t);by_cases q:y-o+s=s;rw[q];exact X;exact O.tr _ _ _ (A.at (by omega)) (A.at (by omega)) (A.at (by omega)) X (F s _ (by omega) (by omega) (by omega));rw[a0 y (by omega)];exact H _ _ (by omega) (by omega) b4);obtain⟨M,c8,Q,c9⟩:∃M,(if a<s/\s<o then r7 f a s o u else u)=M/\nk a o u M/\jW M a o:=(by by_cases c:a<s/\s<o;rw[XG c];obtain⟨p,q⟩:=Ar f a s o u c.1 c.2 (by omega) (by omega) b0 b1 b2;exact⟨_,rfl,p,q⟩;rw[XD c];refine⟨_,rfl,nk.refl _ _ _,λx y r w z=>?_⟩;by_cases q:y<s;exact b1 x y r w q;exact b2 x y (by omega) w z);rw[c8];have f1:M.length=l.length:=Q.len.trans c4;obtain⟨a1,d0,Y,d1⟩:∃a1,(if o<e/\e<b then r7 f o e b M else M)=a1/\nk o b M a1/\jW a1 o b:=(by have b5:=Q.oN c5 (.inr (XP _));have b6:=Q.oN c6 (.inr c1);by_cases c:o<e/\e<b;rw[XG c];obtain⟨p,q⟩:=Ar f o e b M c.1 c.2 (by omega) (by omega) (Q.all b0) b5 b6;exact⟨_,rfl,p,q⟩;rw[XD c];refine⟨_,rfl,nk.refl _ _ _,λx y r w z=>?_⟩;by_cases q:y<e;exact b5 x y r w q;exact b6 x y (by omega) w z);rw[d0];refine⟨(a3.trans (Q.mono (XP _) (by omega))).trans (Y.mono (by omega) (XP _)),λx y r w z=>?_⟩;by_cases c:y<o;rw[Y.out x (by omega),Y.out y (by omega)];exact c9 x y r w c;by_cases d:o<=x;exact d1 x y d w z;rw[Y.out x (by omega)];obtain⟨j,d2,d3,d4⟩:=Y.src y (by omega) z;rw[d4,Q.out j (by omega)];obtain⟨i,d5,d6,d7⟩:=Q.src x r (by omega);rw[d7];exact c7 i j d5 d6 d2 d3
theorem No {n:Nat}:∀(f a:Nat) (l:LV),n=l.length->n-a<f->a<=n->uF S l->(∃q,a=20*q)->(∀q,20*(q+1)<=a->jW l (20*q) (20*(q+1)))->
  (JQ n f a l).Perm l/\∀q,jW (JQ n f a l) (20*q) (min (20*(q+1)) n)
 |0,_,_,_,h,_,_,_,_=>absurd h (by omega)
 |f+1,a,l,i,r,t,A,⟨g,u⟩,h=>by
  rw[JQ];by_cases c:a+20<=n
  ·rw[XG c];obtain⟨B,s⟩:=Bm O (a:=a) (b:=a+20) (l:=l) (by omega) A (a+20) (XP _);obtain⟨p,q⟩:=No f (a+20) (iD a l (a+20)) (by rw[B.len];exact i) (by omega) c (B.all A) ⟨g+1,by omega⟩ (λq w=>by
    by_cases d:q=g;subst d;have j:20*q=a:=(by omega);have k:20*(q+1)=a+20:=(by omega);rw[j,k];exact s
    ·exact B.oN (h q (by omega)) (.inl (by omega)))
   exact⟨p.trans B.perm,q⟩
  ·rw[XD c];obtain⟨B,s⟩:=Bm O (a:=a) (b:=n) (l:=l) (by omega) A n (XP _);refine⟨B.perm,λq=>?_⟩;by_cases d:20*(q+1)<=a;rw[show min (20*(q+1)) n=20*(q+1) by omega];exact B.oN (h q d) (.inl d);by_cases m:q=g;subst m;rw[show 20*q=a by omega,show min (20*(q+1)) n=n by omega];exact s;intro x y z C o;exact absurd o (by omega)
theorem Hj {n bs:Nat} (w:0<bs):∀(f a:Nat) (l:LV),n=l.length->n-2*bs*a<f->2*bs*a<=n->uF S l->(∀q,q<a->jW l (2*bs*q) (2*bs*(q+1)))->(∀q,2*a<=q->jW l (bs*q) (min (bs*(q+1)) n))->
  (wR n bs f (2*bs*a) l).Perm l/\∀q,jW (wR n bs f (2*bs*a) l) (2*bs*q) (min (2*bs*(q+1)) n)
 |0,_,_,_,h,_,_,_,_=>absurd h (by omega)
 |f+1,a,l,z,E,F,A,r,j=>by
  have g:∀q,2*bs*(q+1)=2*bs*q+2*bs:=λq=>by rw[Xv,Xd]
  have k:∀q,bs*(q+1)=bs*q+bs:=λq=>by rw[Xv,Xd]
  have m:∀q,bs*(2*q)=2*bs*q:=λq=>by rw[<-Nat.mul_assoc,Ws bs 2]
  have o:∀{x y:Nat},x<=y->2*bs*x<=2*bs*y:=λh=>Nat.mul_le_mul_left _ h;have b:=j (2*a) (XP _);have i:=j (2*a+1) (by omega);rw[k,m]at b;rw[k (2*a+1),k,m]at i;rw[wR];by_cases c:2*bs*a+2*bs<=n
  ·rw[XG c];rw[show min (2*bs*a+bs) n=2*bs*a+bs by omega]at b;rw[show min (2*bs*a+bs+bs) n=2*bs*a+2*bs by omega]at i;obtain⟨B,s⟩:=Ar O n (2*bs*a) (2*bs*a+bs) (2*bs*a+2*bs) l (by omega) (by omega) (by omega) (by omega) A b i;have G:=c;rw[<-g];rw[<-g]at B s c;obtain⟨p,q⟩:=Hj w f (a+1) (r7 n (2*bs*a) (2*bs*a+bs) (2*bs*(a+1)) l) (by rw[B.len];exact z) (by rw[g];clear c;omega) c (B.all A) (λq t=>by
    by_cases d:q=a;subst d;exact s
    ·exact B.oN (r q (by omega)) (.inl (o (by omega)))) (λq t=>B.oN (j q (by omega)) (.inr (by rw[<-m];exact Nat.mul_le_mul_left _ t)))
   exact⟨p.trans B.perm,q⟩
  ·rw[XD c];have u:∀{l':LV},nk (2*bs*a) n l l'->jW l' (2*bs*a) n->∀q,jW l' (2*bs*q) (min (2*bs*(q+1)) n):=(by intro l' B s q;by_cases d:q<a;have:=o (show q+1<=a by omega);rw[show min (2*bs*(q+1)) n=2*bs*(q+1) by omega];exact B.oN (r q d) (.inl this);by_cases C:q=a;subst C;rw[show min (2*bs*(q+1)) n=n by rw[g];omega];exact s;intro x y H I D;have:=o (show a+1<=q by omega);rw[g]at this;exact absurd D (by omega));by_cases d:2*bs*a+bs<n;rw[XG d];rw[show min (2*bs*a+bs) n=2*bs*a+bs by omega]at b;rw[show min (2*bs*a+bs+bs) n=n by omega]at i;obtain⟨B,s⟩:=Ar O n (2*bs*a) (2*bs*a+bs) n l (by omega) d (by omega) (by omega) A b i;exact⟨B.perm,u B s⟩;rw[XD d];rw[show min (2*bs*a+bs) n=n by omega]at b;exact⟨.refl _,u (nk.refl _ _ _) b⟩
theorem Hk {n:Nat}:∀(f bs:Nat) (l:LV),0<bs->n=l.length->n-bs<f->uF S l->(∀q,jW l (bs*q) (min (bs*(q+1)) n))->(wT n f bs l).Perm l/\jW (wT n f bs l) 0 n
 |0,_,_,_,_,h,_,_=>absurd h (by omega)
 |f+1,bs,l,b,a,m,A,h=>by rw[wT];by_cases c:bs<n;rw[XG c];obtain⟨p,q⟩:=Hj O b (n+1) 0 l a (by omega) (by omega) A (λq g=>absurd g (XL _)) (λq _=>h q);rw[Nat.mul_zero]at p q;obtain⟨i,j⟩:=Hk f (2*bs) (wR n bs (n+1) 0 l) (by omega) (by rw[wQ];exact a) (by omega) (λx k=>A x (p.mem_iff.1 k)) q;exact⟨i.trans p,j⟩;rw[XD c];have:=h 0;rw[Nat.mul_zero,show min (bs*(0+1)) n=n by omega]at this;exact⟨.refl _,this⟩
theorem Oi {l:LV} (A:uF S l):(ee l).Perm l/\jW (ee l) 0 l.length:=by
 unfold ee;obtain⟨p,q⟩:=No O (n:=l.length) (l.length+1) 0 l rfl (by omega) (XS _) A ⟨0,rfl⟩ (λq a=>absurd a (by omega));obtain⟨b,c⟩:=Hk O (n:=l.length) (l.length+1) 20 (JQ l.length (l.length+1) 0 l) (by decide) (by rw[BJ]) (by omega) (λx f=>A x (p.mem_iff.1 f)) q;exact⟨b.trans p,c⟩
end
variable {x y z:V2}
theorem Pb (r:x≠⟨0,0⟩) (m:y≠⟨0,0⟩) (t:z≠⟨0,0⟩) (h:nj z x):nj z y\/nj y x:=by
 refine aaw.2 λc=>Xz λf=>?_;unfold nj at h c f;have k:(fa z↔fa x)/\(fa z↔fa y)/\0<aa z x:=by
  rcases h with⟨a,b⟩|⟨a,b⟩;exfalso;by_cases u:fa y;exact f (.inl ⟨u,b⟩);exact c (.inl ⟨a,u⟩)
  ·refine⟨a,?_,b⟩;by_cases u:fa y<;>by_cases w:fa z
   ·exact⟨λ_=>u,λ_=>w⟩
   ·exact absurd (.inl ⟨u,λq=>w (a.2 q)⟩) f
   ·exact absurd (.inl ⟨w,u⟩) c
   ·exact⟨λq=>absurd q w,λq=>absurd q u⟩
 obtain⟨i,g,o⟩:=k;have F:aa z y<=0:=Zx.1 λq=>c (.inr ⟨g,q⟩);have G:aa y x<=0:=Zx.1 λq=>f (.inr ⟨g.symm.trans i,q⟩);have H:=H8 z y x;have I:=H7 z y x;have J:=dP x y;have K:=dP z x;have M:=dP z y;have ex:aa z x*(eH y).x=(-aa y x)*z.x+(-aa z y)*x.x:=by simp only[eH,aa];grind
 have A:aa z x*(eH y).y=(-aa y x)*z.y+(-aa z y)*x.y:=by simp only[eH,aa];grind
 have j:aa z x*y.x=(-aa y x)*(eH z).x+(-aa z y)*(eH x).x:=by simp only[eH,aa];grind
 have l:aa z x*y.y=(-aa y x)*(eH z).y+(-aa z y)*(eH x).y:=by simp only[eH,aa];grind
 have p: -aa y x≠0\/ -aa z y≠0:=by refine Xz λq=>m ?_;have B:aa y x=0:=(by omega);have C:aa z y=0:=(by omega);rw[B,C]at j l;have D:aa z x*y.x=0:=(by rw[j];simp);have E:aa z x*y.y=0:=(by rw[l];simp);rw[V2.eq_iff];exact⟨(Zy.1 D).resolve_left (by omega),(Zy.1 E).resolve_left (by omega)⟩
 by_cases u:fa z;have:=lV o (by omega) (by omega) p ex A u (i.1 u);exact(fz m).1 this (g.1 u);have:=lV o (by omega) (by omega) p j l ((fz t).2 u) ((fz r).2 λq=>u (i.2 q));exact u (g.2 this)
def Vd (d:V2):Prop:=d≠⟨0,0⟩/\In 100000 d
theorem xw (a:In 100000 x) (b:In 100000 y):fI x y=aa x y:=(fR (m:=100000) (by decide) (by decide) a b).1
theorem tm (a:In 100000 x) (b:In 100000 y):xD x y<0↔nj x y:=by
 unfold xD;rw[xw a b];unfold nj Dr SM yo;rw[<-uI,<-uI];cases bn x<;>cases bn y<;>simp<;>omega
theorem Vo:SE Vd:=by
 refine⟨λx y a b h=>?_,λx y z a b c f g=>?_⟩;unfold pZ;rw[tm a.2 b.2]at h;rw[tm b.2 a.2];exact λk=>w2 (pg a.1 b.1 a.1 h k);unfold pZ at f g|-;rw[tm b.2 a.2]at f;rw[tm c.2 b.2]at g;rw[tm c.2 a.2];exact λk=>(Pb a.1 b.1 c.1 k).elim g f
theorem nK {l:LV} {i:Nat} (h:i<l.length:=by omega):rQ l i=gt l i:=by unfold rQ;rw[X3 h]
theorem qw (l:LV) (i:Nat):rQ l (i+1)=bw l i:=rfl
section
variable {l:LV} {B:Int} (C:gd l) (hB:B<=40000) (hb:∀x∈l,In B x)
include C hb hB
omit hB in
theorem gd.HH (i:Nat):In B (rQ l i):=by
 have a:=C.n3;exact hb _ (ei (mLt))
theorem gd.tY (i:Nat):cT (rQ l (i+1)) (rQ l i)=bc (rQ l) i/\In 100000 (bc (rQ l) i):=by
 have a:=C.HH hb (i+1);have b:=C.HH hb i;obtain⟨e,k⟩:=gP (m:=40000) (by decide) (a.up hB) (b.up hB);exact⟨e,k.up (by decide)⟩
theorem gd.T1:jO l l.length=zq l:=by
 unfold jO zq;refine Yx λi a=>?_;have a:=X4.1 a;rw[<-qw,<-nK a];exact(C.tY hB hb i).1
theorem gd.H6:∀d∈zq l,Vd d:=by
 intro d a;obtain⟨t,b,rfl⟩:=vp.1 a;exact⟨C.ne t,(C.tY hB hb t).2⟩
theorem gd.tc:∀k,k<=l.length->((Od l k:Nat):Int)=aT k λi=>hp bn (bc (rQ l) i) (bc (rQ l) (i+1))
 |0,_=>rfl
 |k+1,h=>by rw[Od,aT,aaB,gd.tc k (by omega)];congr 1;have a:cT (bw l k) (gt l k)=bc (rQ l) k:=(by rw[<-qw,<-nK (show k<l.length by omega)];exact(C.tY hB hb k).1);have b:cT (bw l (k+1)) (bw l k)=bc (rQ l) (k+1):=(by rw[<-qw,<-qw];exact(C.tY hB hb (k+1)).1);rw[a,b];unfold hp;cases bn (bc (rQ l) k)<;>cases bn (bc (rQ l) (k+1))<;>rfl
theorem gd.mv (b:B<=8000) (c:l.length<=160):MV l:=by
 refine⟨C.n3,c,?_,λi a=>?_,?_⟩;unfold CT;rw[aE];intro i a;exact((hb _ (ei a)).up b).within (by decide) (by decide);have f:cT (bw l i) (gt l i)=bc (rQ l) i:=(by rw[<-qw,<-nK a];exact(C.tY hB hb i).1);have g:cT (bw l (i+1)) (bw l i)=bc (rQ l) (i+1):=(by rw[<-qw,<-qw];exact(C.tY hB hb (i+1)).1);rw[f,g,xw (C.tY hB hb i).2 (C.tY hB hb (i+1)).2];exact C.left i;have:=C.tc hB hb l.length (XP _);have o:=C.one;omega
end
theorem gd.nodup {l:LV} (C:gd l):l.Nodup:=by
 have g:=C.n3;rw[List.Nodup,Y5];intro i j a b h e;have f:rQ l i=rQ l j:=by rw[nK a,nK b];simpa[gt,List.getD,a,b]using e
 by_cases c:j=i+1;subst c;refine C.ne i ?_;show af (rQ l (i+1)) (rQ l i)=_;rw[<-f];simp[af];have s:=C.strict i (j-i) (by omega) (by omega);rw[show i+(j-i)=j by omega,<-f]at s;have z:ai (rQ l i) (rQ l (i+1)) (rQ l i)=0:=(by simp[ai,aa,af]);omega
theorem jE {l:LV}:x∈aO l↔x∈l:=by
 unfold aO Cx;rw[XN,or_comm,<-XN,ZH]
theorem pG {l:LV} {m:Int}:jY m (aO l) z↔jY m l z:=by
 unfold jY;exact⟨λh e a=>h e ((px l).mem_iff.2 a),λh e a=>h e ((px l).mem_iff.1 a)⟩
theorem Bg.begin {l:LV} (C:gd l):Bg (aO l):=by
 refine Bg.of C.begin λi a h=>?_;have b:=C.begin.n3;rw[nK a,nK]at h;have c:(aO l).length=l.length:=eh _ _;have q:=D4 (l:=l) (by omega) i (by omega);have:bu (gt (aO l) i) (gt (aO l) 0)=true:=gG.2 h;rw[this]at q;exact absurd q (by decide)
theorem ID (u:V2) (d:V2) (a:LV) (e:V2):si u (d::(a++[e]))=si u (d::a)++if aa ((d::a).getLast (by simp)) e≠0 then[ak u (sV (d::a))]else[]:=by
 show u::kp d (ak u d) (a++[e])=(u::kp d (ak u d) a)++_;rw[Bh,YG];congr 2;have b:ak (ak u d) (sV a)=ak u (sV (d::a)):=by simp only[ak,sV,sE];congr 1<;>omega
 rw[b];show(if _ then _ else _)=_;split<;>rfl
theorem Nt {u:V2} {S:LV} (a:In 100000 u) (hS:∀x∈S,In 100000 x):∀k,k<=S.length->k<=1000->D6 u S k=ak u (sV (S.take k))/\In (100000*(k+1)) (D6 u S k)
 |0,_,_=>by refine⟨?_,?_⟩;rw[Z9];simp[D6,sV,sE,ak];simpa[D6]using a
 |k+1,h,f=>by
  obtain⟨e,i⟩:=Nt a hS k (by omega) (by omega);have g:=hS _ (ei (show k<S.length by omega));have j:=i.x0;have l:=i.x1;have m:=i.y0;have o:=i.y1;have p:=g.x0;have q:=g.x1;have r:=g.y0;have t:=g.y1;have b:D6 u S (k+1)=ak (D6 u S k) (gt S k):=(by show kc (D6 u S k) (gt S k)=_;unfold kc ak;rw[fv (by omega) (by omega),fv (by omega) (by omega)]);have c:S.take (k+1)=S.take k++[gt S k]:=(by rw[YC,XV (show k<S.length by omega)];simp[gt,List.getD,show k<S.length by omega]);refine⟨?_,?_⟩;(rw[b,e,c,KO];simp only[ak,sV,sE];congr 1<;>omega)
  ·rw[b];refine⟨?_,?_,?_,?_⟩<;>simp only[ak]<;>omega
theorem KC {u:V2} {S:LV} (b:In 100000 u) (hS:∀x∈S,In 100000 x):∀k,k<=S.length->k<=1000->Es u S k=si u (S.take k)
 |0,_,_=>rfl
 |k+1,h,r=>by
  have f:=KC b hS k (by omega) (by omega);obtain⟨g,_⟩:=Nt b hS k (by omega) (by omega);have i:S.take (k+1)=S.take k++[gt S k]:=(by rw[YC,XV (show k<S.length by omega)];simp[gt,List.getD,show k<S.length by omega]);rw[Es,f,g,i];cases k with
  |zero=>rw[XG (.inl rfl)];simp[si,sV,sE,ak,kp]
  |succ k=>
   match S,h,hS with
   |d::a,h,hS=>
    simp only[XZ]at h;rw[W1,YG,ID];have m:(d::a.take k).getLast (by simp)=gt (d::a) (k+1-1):=by
     rw[List.getLast_eq_getElem,WK];cases k with
     |zero=>simp[gt]
     |succ j=>simp[gt,List.getD,show j<a.length by omega,Xp (show j+1<=a.length by omega)]
    have o:=hS _ (ei (l:=d::a) (show k+1-1<(d::a).length by simp;omega));have p:=hS _ (ei (l:=d::a) (show k+1<(d::a).length by simp;omega));rw[m,xw o p];by_cases c:aa (gt (d::a) (k+1-1)) (gt (d::a) (k+1))≠0;rw[XG (.inr c),XG c];rw[XD (λq=>q.elim (by omega) c),XD c,YO]
section
variable {a b:LV} (Ca:gd a) (Cb:gd b) (ha:∀x∈a,In 4000 x) (hb:∀x∈b,In 4000 x) (la:a.length<=80) (lb:b.length<=80)
include Ca Cb ha hb la lb
theorem sum_mk:Mk (aO a) (aO b) (GB ee a b)/\x7 ee a b=si (ak (rQ (aO a) 0) (rQ (aO b) 0)) (GB ee a b):=by
 have l:∀x∈aO a,In 4000 x:=λx c=>ha x (jE.1 c);have m:∀x∈aO b,In 4000 x:=λx c=>hb x (jE.1 c);have w:=Ca.begin.T1 (by decide) l;have y:=Cb.begin.T1 (by decide) m;have z:=Ca.begin.H6 (by decide) l;have A:=Cb.begin.H6 (by decide) m;have t:uF Vd (zq (aO a)++zq (aO b)):=λx c=>(XN.1 c).elim (z x) (A x);obtain⟨p,s⟩:=Oi Vo t;have h:GB ee a b=ee (zq (aO a)++zq (aO b)):=by unfold GB;rw[w,y]
 have B:(aO a).length=a.length:=eh _ _;have C:(aO b).length=b.length:=eh _ _;have T:(GB ee a b).length=a.length+b.length:=by rw[h,q1];simp[zq,B,C]
 have o:∀x∈GB ee a b,Vd x:=λx c=>t x (by rw[h]at c;exact p.mem_iff.1 c);refine⟨⟨Bg.begin Ca,Bg.begin Cb,by rw[h];exact p,?_⟩,?_⟩;rw[Y5];intro i j u r D;have q:=s i j (XS _) D (by rw[<-q1,<-h];exact r);rw[<-h]at q;have E:gt (GB ee a b) i=(GB ee a b)[i]:=(by simp[gt,List.getD,u]);have F:gt (GB ee a b) j=(GB ee a b)[j]:=(by simp[gt,List.getD,r]);rw[E,F]at q;have G:=o _ (YU u);have H:=o _ (YU r);unfold pZ at q;rw[tm H.2 G.2]at q;rw[YL];exact λk=>q (rv.1 k);have U:=Ca.begin.n3;have V:=Cb.begin.n3;have f:=l _ (ei (show 0<(aO a).length by omega));have g:=m _ (ei (show 0<(aO b).length by omega));have I:kc (gt (aO a) 0) (gt (aO b) 0)=ak (rQ (aO a) 0) (rQ (aO b) 0):=(by rw[nK,nK];have J:=f.x0;have K:=f.x1;have M:=f.y0;have N:=f.y1;have O:=g.x0;have P:=g.x1;have Q:=g.y0;have R:=g.y1;unfold kc ak;rw[fv (by omega) (by omega),fv (by omega) (by omega)]);have S:In 100000 (ak (rQ (aO a) 0) (rQ (aO b) 0)):=(by rw[nK,nK];have J:=f.x0;have K:=f.x1;have M:=f.y0;have N:=f.y1;have O:=g.x0;have P:=g.x1;have Q:=g.y0;have R:=g.y1;refine⟨?_,?_,?_,?_⟩<;>simp only[ak]<;>omega);unfold x7;rw[I,KC S (λx c=>(o x c).2) _ (XP _) (by omega),YT]
theorem Rw:gd (x7 ee a b):=by
 obtain⟨M,e⟩:=sum_mk Ca Cb ha hb la lb;rw[e];exact(M.ring _).1
theorem Kk:∀x∈x7 ee a b,In 8000 x:=by
 obtain⟨M,e⟩:=sum_mk Ca Cb ha hb la lb;intro x c;rw[e]at c;obtain⟨i,j,rfl⟩:=M.kU c;have f:=Ca.begin.HH (B:=4000) (λx c=>ha x (jE.1 c)) i;have g:=Cb.begin.HH (B:=4000) (λx c=>hb x (jE.1 c)) j;have h:=f.x0;have k:=f.x1;have l:=f.y0;have m:=f.y1;have o:=g.x0;have p:=g.x1;have q:=g.y0;have r:=g.y1;refine⟨?_,?_,?_,?_⟩<;>simp only[ak]<;>omega
omit Ca Cb ha hb in
theorem Og:(x7 ee a b).length<=160:=by
 have c:(aO a).length=a.length:=eh _ _;have f:(aO b).length=b.length:=eh _ _;unfold x7;refine Yf (uP _ _ _) ?_;unfold GB;rw[q1,XR,ou,ou];omega
theorem Rv:zO ee a b/\MV (x7 ee a b):=by
 have m:=(Rw Ca Cb ha hb la lb).mv (B:=8000) (by decide) (Kk Ca Cb ha hb la lb) (by decide) (Og la lb);exact⟨⟨m.fE,m.C0⟩,m⟩
end
theorem RQ {d:V2} (h:In 4000 d):Jb d=eH d:=by
 have a:=h.x0;have b:=h.x1;have c:=h.y0;have f:=h.y1;unfold Jb eH;rw[fv (by omega) (by omega),fv (by omega) (by omega)];congr 1<;>omega
theorem Fo {b:LV} (hb:∀x∈b,In 4000 x):mX b=aO (b.map eH):=by
 unfold mX;congr 1;exact Yx λx a=>RQ (hb x a)
theorem AY {b:LV} (hb:∀x∈b,In 4000 x):∀x∈mX b,In 4000 x:=by
 intro x a;rw[Fo hb,jE]at a;obtain⟨y,c,rfl⟩:=XQ.1 a;have h:=hb y c;have f:=h.x0;have g:=h.x1;have i:=h.y0;have j:=h.y1;refine⟨?_,?_,?_,?_⟩<;>simp only[eH]<;>omega
theorem u9 (b:LV):(mX b).length=b.length:=by unfold mX aO;rw[eh,X9]
theorem Fs {b:LV} (C:gd b) (hb:∀x∈b,In 4000 x):gd (mX b):=by rw[Fo hb];exact C.ng.begin
theorem Hf (l:LV) (p:V2):∀k,RT l p k=2↔∀i,i<k->cQ (gt l i) (bw l i) p≠0
 |0=>⟨λ_ i h=>absurd h (XL _),λ_=>rfl⟩
 |k+1=>by
  rw[RT];by_cases c:cQ (gt l k) (bw l k) p=0;rw[XG c];exact⟨λh=>absurd h (by decide),λh=>absurd c (h k (by omega))⟩
  ·rw[XD c,Hf l p k];exact⟨λh i a=>by
    by_cases e:i=k;subst e;exact c
    ·exact h i (by omega),λh i a=>h i (by omega)⟩
theorem RS {l:LV} (j:∀x∈l,In 8000 x) {v:V2} (k:In 8000 v):O4 l v=2↔jY 1 l v:=by
 have g:∀i,i<l.length->cQ (gt l i) (bw l i) v=bM (ai (gt l i) (bw l i) v):=λi a=>
  jt (m:=8000) (by decide) (by decide) (j _ (ei a)) (j _ (ei (mLt))) k
 have o:jY 1 l v↔∀i,i<l.length->0<ai (gt l i) (bw l i) v:=by
  unfold jY;constructor
  ·intro h i a;have:=h _ (bC.2 ⟨i,a,rfl⟩)
   rwa [bt,bt]at this
  ·intro h e r;obtain⟨i,a,rfl⟩:=bC.1 r;rw[bt,bt];exact h i a
 rw[o];unfold O4;rw[XD (by rw[k.within (by decide) (by decide)];decide)];cases c:bJ l.length λi=>!decide (cQ (gt l i) (bw l i) v= -1)with
 |false=>
  rw[XG rfl];refine⟨λh=>absurd h (by decide),λh=>?_⟩;exfalso;have:(bJ l.length λi=>!decide (cQ (gt l i) (bw l i) v= -1))=true:=aE.2 λi a=>by rw[g i a,YK,Zu];have:=nF (n:=ai (gt l i) (bw l i) v);have:=h i a;omega
  rw[this]at c;cases c
 |true=>rw[XD (by simp),Hf];have A:=aE.1 c;constructor;intro h i a;have f:=h i a;have b:=A i a;rw[g i a]at f b;have b:¬bM (ai (gt l i) (bw l i) v)= -1:=(by simpa using b);unfold bM at f b;split at f;omega;split at f;rename_i p q;rw[XD p,XG q]at b;exact absurd rfl b;exact absurd rfl f;intro h i a;rw[g i a];have:=nF (n:=ai (gt l i) (bw l i) v);have:=h i a;omega
theorem rI {S:List (LV)} {v:V2}:yk S v=true↔∃r∈S,O4 r v=2:=by
 unfold yk;rw[YK,<-Wr,aE];constructor;intro h;refine Xz λq=>h λi a=>?_;rw[YK,Zu];exact λk=>q ⟨S.getD i [],jC.2 ⟨i,a,rfl⟩,k⟩;rintro⟨r,b,e⟩ h;obtain⟨i,a,rfl⟩:=jC.1 b;have:=h i a;rw[e]at this;exact absurd this (by decide)
structure UP (L:List (LV)):Prop where
 cv:∀r∈L,gd r
 JP:∀r∈L,∀x∈r,In 4000 x
 len:∀r∈L,r.length<=80
theorem Dx {A B:List (LV)} (f:UP A) (hB:UP B) {v:V2} (u:In 8000 v):
  yk (hC ee A (B.map mX)) v=true↔∃a∈A,∃b∈B,∃(m:Int) (z:V2),0<m/\jY m a z/\jY m (b.map (ak v)) z:=by
 rw[rI];have o:∀a∈A,∀b∈B,(O4 (x7 ee a (mX b)) v=2↔∃(m:Int) (z:V2),0<m/\jY m a z/\jY m (b.map (ak v)) z):=by intro a ha b hb;have p:=f.cv a ha;have q:=hB.cv b hb;have g:=hB.JP b hb;have t:=Fs q g;obtain⟨M,e⟩:=sum_mk p t (f.JP a ha) (AY g) (f.len a ha) (by rw[u9];exact hB.len b hb);rw[RS (Kk p t (f.JP a ha) (AY g) (f.len a ha) (by rw[u9];exact hB.len b hb)) u,e];rw[MG M q.LA λm z=>by rw[pG,Fo g,pG]];constructor;rintro⟨m,z,i,j,k⟩;exact⟨m,z,i,pG.1 j,k⟩;rintro⟨m,z,i,j,k⟩;exact⟨m,z,i,pG.2 j,k⟩
 unfold hC;constructor;rintro⟨r,l,e⟩;obtain⟨a,ha,l⟩:=ZK.1 l;obtain⟨c,w,rfl⟩:=XQ.1 l;obtain⟨b,hb,rfl⟩:=XQ.1 w;exact⟨a,ha,b,hb,(o a ha b hb).1 e⟩;rintro⟨a,ha,b,hb,h⟩;exact⟨_,ZK.2 ⟨a,ha,XQ.2 ⟨_,XQ.2 ⟨b,hb,rfl⟩,rfl⟩⟩,(o a ha b hb).2 h⟩
theorem Ek.OB {o:LV} {hs L:List (LV)} (V:VS o hs) (P:Ek o hs L):UP L:=by
 refine⟨P.cv,λr a x b=>(zE V.ok (P.sub r a x b)).up (by decide),λr a=>?_⟩;have c:r.length<=(aA o hs).length:=WY (P.cv r a).nodup (P.sub r a);have f:=jR V;have g:=V.er;omega
theorem Ek.mv {o:LV} {hs L:List (LV)} (V:VS o hs) (P:Ek o hs L):∀r∈L,MV r/\MV (mX r):=λr a=>by
 have R:=P.OB V;have l:=R.len r a;exact⟨(R.cv r a).mv (B:=4000) (by decide) (R.JP r a) (by decide) (by omega),(Fs (R.cv r a) (R.JP r a)).mv (B:=4000) (by decide) (AY (R.JP r a)) (by decide) (by rw[u9];omega)⟩
theorem Ga {A B:List (LV)} (f:UP A) (hB:UP B):(∀a∈A,∀b∈B,zO ee a (mX b))/\∀r∈hC ee A (B.map mX),MV r:=by
 have h:∀a∈A,∀b∈B,zO ee a (mX b)/\MV (x7 ee a (mX b)):=λa ha b hb=>
  Rv (f.cv a ha) (Fs (hB.cv b hb) (hB.JP b hb)) (f.JP a ha) (AY (hB.JP b hb)) (f.len a ha) (by rw[u9];exact hB.len b hb)
 refine⟨λa ha b hb=>(h a ha b hb).1,λr g=>?_⟩;obtain⟨a,ha,g⟩:=ZK.1 g;obtain⟨c,i,rfl⟩:=XQ.1 g;obtain⟨b,hb,rfl⟩:=XQ.1 i;exact(h a ha b hb).2
theorem K1 {f d:V2} (a:In 10000 f) (b:In 10000 d):NV f d=(rk f d:Nat):=by
 have c:=a.x0;have g:=a.x1;have h:=a.y0;have i:=a.y1;have j:=b.x0;have k:=b.x1;have l:=b.y0;have o:=b.y1;obtain⟨p,_⟩:=fR (m:=10000) (by decide) (by decide) a b;have r:=iq (X:=10000) (Y:=10000) ⟨c,g⟩ ⟨j,k⟩;have t:=iq (X:=10000) (Y:=10000) ⟨h,i⟩ ⟨l,o⟩;have q:PE f d=ay f d:=by unfold PE ay;rw[fv (n:=f.x*d.x) (by omega) (by omega),fv (n:=f.y*d.y) (by omega) (by omega),fv (by omega) (by omega)]
 unfold NV rk;rw[p,q];split;rfl;(split;rfl;(split<;>rfl))
variable {g:V2}
theorem Mv {f d:V2} (a:In 10000 f) (b:In 10000 g) (c:In 10000 d):SO f g d=true↔mO f g d:=by
 unfold SO mO;rw[K1 a c,K1 a b,(fR (m:=10000) (by decide) (by decide) c b).1];simp only[Zo,XH,XU];omega
variable {s:cc}
theorem LF {t:cc} (h1:In 10000 s.a) (h2:In 10000 s.b) (a:In 10000 t.a) (b:In 10000 t.b):NY s t=true↔lQ s.a s.b t.a t.b:=by
 unfold NY lQ;rw[Zo,Zo,XU,Mv h1 h2 a,Mv a b h1,K1 h1 a];constructor;rintro(h|h);exact .inl (by omega);exact .inr h;rintro(h|h);exact .inl (by omega);exact .inr h
theorem Oz {f d:V2}:rk f d=3->rk d f=3:=by
 have a:=dP f d;have b:ay f d=ay d f:=by simp only[ay];grind
 unfold rk;split;intro h;cases h;split;intro h;cases h;split;intro h;cases h;intro _;rw[iN,iN,iN]
theorem lQ.swap {f1 a f2 b:V2} (h:lQ f1 a f2 b):lQ f2 b f1 a:=by
 rcases h with h|h|h;exact .inl (Oz h);exact .inr (.inr h);exact .inr (.inl h)
variable {E:Ed} {u:V2}
theorem Cn.rev {f:V2} (h:Cn E u f g):Cn (dx E) u g f:=by
 rcases h with⟨e,a,i,j,h1,h2,b,c⟩|⟨e,a,h1,h2,b,c,k⟩;exact .inl ⟨(i.2,i.1),cw.2 j,(e.2,e.1),cw.2 a,h2,h1,c,b⟩;exact .inr ⟨(e.2,e.1),cw.2 a,au.2 h1,b,h2,k,c⟩
theorem IT (E:Ed):dx (dx E)=E:=by simp[dx,Function.comp_def]
theorem Cn.uniq (s:iU E) {f t g':V2} (h:Cn E u f g) (w:Cn E u t g'):f=t/\g=g':=by
 have y:∀{e x:V2×V2},e∈E->x∈E->e.1=u->aV x.1 x.2 u->u≠x.1->u≠x.2->False:=by intro e x b a z F A G;have m:x≠e:=λq=>A (by rw[q,z]);have:=s.one x a e b m 1 u (by decide) (by rw[bt,bt];exact F) (by rw[bt];exact A) (by rw[bt];exact G);rw[bt,bt,<-z]at this;exact this (cd _ _)
 rcases h with⟨e,b,B,H,h1,h2,l,o⟩|⟨e,b,h1,h2,l,o,I⟩;rcases w with⟨x,a,p,C,c,i,j,k⟩|⟨x,a,c,i,j,k,D⟩;have J:e=x:=s.Bo b a (h1.trans c.symm);have r:(B.2,B.1)=(p.2,p.1):=s.rev.Bo (cw.2 H) (cw.2 C) (h2.trans i.symm);have r:=nP r;rw[l,o,j,k,J,r];exact⟨rfl,rfl⟩;exact(y b a h1 c i j).elim
 ·rcases w with⟨x,a,p,C,c,i,j,k⟩|⟨x,a,c,i,j,k,D⟩;exact(y a b c h1 h2 l).elim
  ·have q:e=x:=Xz λm=>by have:=s.one e b x a m 1 u (by decide) (by rw[bt,bt];exact h1) (by rw[bt];exact h2) (by rw[bt];exact l);rw[bt,bt]at this;exact this c
   rw[o,I,k,D,q];exact⟨rfl,rfl⟩
theorem Cn.on {f:V2} (h:Cn E u f g):∃e∈E,aV e.1 e.2 u:=by
 rcases h with⟨e,a,i,j,h1,h2,b,c⟩|⟨e,a,h1,h2,b,c,k⟩;exact⟨e,a,by rw[<-h1];exact cd _ _⟩;exact⟨e,a,h1⟩
variable {i k:Nat} {p:V2}
section
variable {o:LV} {hs:List (LV)}
theorem U6 {l:LV} (h:i<l.length):gt l i=l[i]:=by simp[gt,List.getD,h]
theorem VT {r:LV} (a:k<r.length):bw r ((k+r.length-1)%r.length)=gt r k/\iZ r ((k+1)%r.length)=gt r k:=by
 unfold bw iZ;constructor;congr 1;by_cases c:k=0;subst c;rw[show 0+r.length-1=r.length-1 by omega,X3 (show r.length-1<r.length by omega),show r.length-1+1=r.length by omega,Zz];rw[show k+r.length-1=(k-1)+r.length by omega,YE,X3 (show k-1<r.length by omega),show k-1+1=k by omega,X3 a];congr 1;by_cases c:k+1=r.length;rw[c,Zz,show 0+r.length-1=k by omega,X3 a];rw[X3 (show k+1<r.length by omega),show k+1+r.length-1=k+r.length by omega,YE,X3 a]
theorem DD {r:LV} (a:k<r.length):(iZ r k,gt r k)∈bH r:=by
 refine bC.2 ⟨(k+r.length-1)%r.length,mLt,?_⟩;rw[(VT a).1];rfl
theorem wj {r:LV} (h:(o::hs)[i]? =some r) (a:k<r.length):
  (gt r k,if i=0 then bw r k else iZ r k)∈dk o hs/\(if i=0 then iZ r k else bw r k,gt r k)∈dk o hs:=by
 unfold dk;cases i with
 |zero=>have:r=o:=(by simpa using h.symm);subst this;rw[XG rfl,XG rfl];exact⟨X0 _ (bC.2 ⟨k,a,rfl⟩),X0 _ (DD a)⟩
 |succ i=>have b:r∈hs:=Ze (by simpa using h);rw[iN,iN];exact⟨XY _ (dZ.2 ⟨r,b,DD a⟩),XY _ (dZ.2 ⟨r,b,bC.2 ⟨k,a,rfl⟩⟩)⟩
theorem Oh {a b:V2} (c:In 2000 a) (f:In 2000 b):cT a b=af a b/\In 10000 (af a b):=by
 obtain⟨e,i⟩:=EO c f;exact⟨e,i.up (by decide)⟩
theorem Sw (S:cJ o hs) {r:LV} (h:(o::hs)[i]? =some r) (j:In 2000 p) (A:k<r.length) (a:yr i r p k=some s):Cn (dk o hs) p s.a s.b/\In 10000 s.a/\In 10000 s.b:=by
 have R:=S.qv (Ze h);have g:∀k,In 2000 (gt r k):=cu R.fE;obtain⟨m,z⟩:=wj (o:=o) (hs:=hs) h A;obtain⟨nx,t⟩:∃nx,nx=if i=0 then bw r k else iZ r k:=⟨_,rfl⟩;obtain⟨l,u⟩:∃l,l=if i=0 then iZ r k else bw r k:=⟨_,rfl⟩;have w:In 2000 nx:=by rw[t];split<;>exact g _
 have B:In 2000 l:=by rw[u];split<;>exact g _
 unfold yr at a;rw[<-t,<-u]at a;rw[<-t]at m;rw[<-u]at z;by_cases c:gt r k=p;rw[XG c]at a;cases a;obtain⟨b,x⟩:=Oh w j;obtain⟨f,y⟩:=Oh B j;refine⟨.inl ⟨_,m,_,z,c,c,b,f⟩,?_,?_⟩;show In 10000 (cT nx p);rw[b];exact x;show In 10000 (cT l p);rw[f];exact y;rw[XD c]at a;by_cases d:nx≠p/\iY ⟨gt r k,nx⟩ p=true;rw[XG d]at a;cases a;obtain⟨b,x⟩:=Oh w j;obtain⟨f,y⟩:=Oh (g k) j;have C:=(jx (s:=⟨gt r k,nx⟩) (jL ((g k).up (by decide)) (w.up (by decide)))).1 d.2;refine⟨.inr ⟨_,m,C,λq=>c q.symm,λq=>d.1 q.symm,b,f⟩,?_,?_⟩;show In 10000 (cT nx p);rw[b];exact x;show In 10000 (cT (gt r k) p);rw[f];exact y;rw[XD d]at a;cases a
theorem rJ {α g:Type} {f:α->Option g}:∀{l:List α} {b:g},l.findSome? f=some b->∃a∈l,f a=some b
 |[],_,h=>nomatch h
 |x::l,b,h=>by
  rw[List.findSome?_cons]at h;cases c:f x with
  |some y=>rw[c]at h;exact⟨x,XW,by rw[c];exact h⟩
  |none=>rw[c]at h;obtain⟨a,i,e⟩:=rJ h;exact⟨a,XK _ i,e⟩
theorem Nv (S:cJ o hs) {p:V2} (a:In 2000 p):∀(L:List (LV)) (i:Nat),(∀j r,L[j]? =some r->(o::hs)[i+j]? =some r)->∀s,N1 p i L=some s->Cn (dk o hs) p s.a s.b/\In 10000 s.a/\In 10000 s.b
 |[],_,_,s,h=>nomatch h
 |r::L,i,b,s,h=>by
  rw[N1]at h;cases c:(List.range r.length).findSome? (yr i r p)with
  |some y=>rw[c]at h;have e:y=s:=(by simpa using h);subst e;obtain⟨k,f,e⟩:=rJ c;exact Sw S (b 0 r rfl) a (X4.1 f) e
  |none=>rw[c]at h;exact Nv S a L (i+1) (λj x g=>by have:=b (j+1) x g;rwa [show i+1+j=i+(j+1) by omega]) s h
theorem ym {α b:Type} {f:α->Option b} {l:List α} (h:l.findSome? f=none):∀a∈l,f a=none:=by
 rw[W8]at h;exact h
theorem Ec (S:cJ o hs) {p:V2}:∀(L:List (LV)) (i:Nat),(∀r∈L,bk r)->(∃r∈L,∃e∈bH r,aV e.1 e.2 p)->N1 p i L≠none
 |[],_,_,⟨_,h,_⟩,_=>nomatch h
 |r::L,i,j,b,h=>by
  rw[N1]at h;cases c:(List.range r.length).findSome? (yr i r p)with
  |some y=>rw[c]at h;cases h
  |none=>
   rw[c]at h;have N:=ym c;have R:=j r XW;have g:∀k,In 2000 (gt r k):=cu R.fE;have l:∀k,k<r.length->gt r k≠p:=λk a e=>by have:=N k (X4.2 a);unfold yr at this;rw[XG e]at this;cases this
   obtain⟨q,z,e,m,f⟩:=b;rcases XF.1 z with k|k;subst k;obtain⟨k,a,rfl⟩:=bC.1 m;have h1:(k+1)%q.length<q.length:=mLt;have t:=l k a;have u:=l _ h1;by_cases w:i=0;have:=N k (X4.2 a);unfold yr at this;rw[XD t,XG w,XG]at this;cases this;exact⟨u,(jx (s:=⟨gt q k,bw q k⟩) (jL ((g _).up (by decide)) ((g _).up (by decide)))).2 f⟩;have:=N _ (X4.2 h1);unfold yr at this;rw[XD u,XD w,(VT a).2,XG]at this;cases this;exact⟨t,(jx (s:=⟨gt q ((k+1)%q.length),gt q k⟩) (jL ((g _).up (by decide)) ((g _).up (by decide)))).2 (au.2 f)⟩;exact Ec S L (i+1) (λx b=>j x (XK _ b)) ⟨q,k,e,m,f⟩ h
theorem BL (S:cJ o hs) (f:In 2000 p) (h:Qd o hs 1 p):Cn (dk o hs) p (tw (o::hs) p).a (tw (o::hs) p).b/\In 10000 (tw (o::hs) p).a/\In 10000 (tw (o::hs) p).b:=by
 have g:∃r∈o::hs,∃e∈bH r,aV e.1 e.2 p:=by obtain⟨r,a,e,i,b⟩:=h;rw[bt,bt]at b;exact⟨r,a,e,i,b⟩
 unfold tw;cases c:N1 p 0 (o::hs)with
 |none=>exact absurd c (Ec S _ 0 (λr a=>S.qv a) g)
 |some s=>exact Nv S f _ 0 (λj r k=>by rw[X6];exact k) s c
theorem ik (S:cJ o hs) {v:V2}:v∈(o::hs).flatten↔∃e∈dk o hs,e.1=v:=by
 rw[Zi];constructor;rintro⟨r,b,h⟩;obtain⟨i,a,e⟩:=YV.1 b;obtain⟨k,f,j⟩:=YV.1 h;have h1:=(wj (o:=o) (hs:=hs) (i:=i) (r:=r) (by rw[XV a,e]) f).1;exact⟨_,h1,by show gt r k=v;rw[<-j];simp[gt,List.getD,f]⟩;rintro⟨e,g,rfl⟩;unfold dk at g;rcases XN.1 g with c|c;obtain⟨i,a,rfl⟩:=bC.1 c;exact⟨o,XW,ei a⟩;obtain⟨r,b,k⟩:=dZ.1 c;obtain⟨i,a,q⟩:=bC.1 k;have:e.1=bw r i:=X5 Prod.snd q;rw[this];exact⟨r,XK _ b,ei (mLt)⟩
theorem pt (S:cJ o hs) {v:V2} (h:v∈(o::hs).flatten):In 2000 v:=by
 obtain⟨r,a,b⟩:=Zi.1 h;exact qu (S.qv a) b
theorem zW (S:cJ o hs) {v:V2} (b:In 2000 v):eL o hs v=2↔(∀e∈dk o hs,¬aV e.1 e.2 v)/\W (dk o hs) v=1:=by
 unfold eL;rw[XG ((b.up (by decide:(2000:Int)<=4000)).within (by decide) (by decide)),(QO (b.up (by decide))).KG S,u4,gT];simp only[bt];exact⟨λ⟨h1,h2⟩=>⟨λe a k=>h1 ⟨e,a,k⟩,h2⟩,λ⟨h1,h2⟩=>⟨λ⟨e,a,k⟩=>h1 e a k,h2⟩⟩
theorem vA (S:cJ o hs) {v:V2} (a:In 2000 v):eL o hs v=1↔Qd o hs 1 v:=by
 unfold eL;rw[XG ((a.up (by decide:(2000:Int)<=4000)).within (by decide) (by decide)),(QO (a.up (by decide))).RA S]
theorem Gk (p:P3):∀hs:List (LV),ED p 2 hs=0\/ED p 2 hs=1\/ED p 2 hs=2
 |[]=> .inr (.inr rfl)
 |r::hs=>by rw[ED];split;exact .inl rfl;split;exact .inr (.inl rfl);exact Gk p hs
theorem N3 (S:cJ o hs) {v:V2} (f:In 2000 v):eL o hs v=0↔(∀e∈dk o hs,¬aV e.1 e.2 v)/\W (dk o hs) v=0:=by
 have m:eL o hs v=0\/eL o hs v=1\/eL o hs v=2:=by unfold eL;split;unfold JN;split;exact yv _ _;rename_i c;rw[show bL o (cb v)=2 from Xz c];exact Gk _ _;exact .inl rfl
 have h1:=vA S f;have h2:=zW S f;have i:Qd o hs 1 v↔∃e∈dk o hs,aV e.1 e.2 v:=by rw[u4];simp only[bt]
 have g:=S.wu 1 v (by decide);rw[gT]at g;constructor
 ·intro h;have j:¬Qd o hs 1 v:=λk=>by have:=h1.2 k;omega
  have a:∀e∈dk o hs,¬aV e.1 e.2 v:=λe b k=>j (i.2 ⟨e,b,k⟩);refine⟨a,?_⟩;have l:¬W (dk o hs) v=1:=λk=>by have:=h2.2 ⟨a,k⟩;omega
  omega
 ·rintro⟨a,w⟩;have j:eL o hs v≠1:=λk=>by obtain⟨e,b,q⟩:=i.1 (h1.1 k);exact a e b q
  have l:eL o hs v≠2:=λk=>by have:=(h2.1 k).2;omega
  omega
end
theorem PL {t:cc} (hs:az s=true) (a:az t=true):aI s t=2↔dR s t=true:=by
 refine⟨λh=>(yQ h).2.2,λh=>?_⟩;have g:=zu hs a h;have c:∀A B D,qe s t A B D->aI s t=2:=λA B D L=>by obtain⟨i,j,k,l⟩:=L.ends hs a;have p:=(L.QM hs a).1 h;have b:aN s t=[]:=(by refine ln λe m=>?_;obtain⟨h1,h2,f⟩:=dt.1 m;rcases h1 with rfl|rfl|rfl|rfl;have:=i.1 f;omega;have:=j.1 f;omega;have:=k.1 h2;omega;have:=l.1 h2;omega);rw[aI,XD (by simp[hs,a]),b,h];rfl
 rcases Yi g with b|o;exact c _ _ _ (y7 b);exact c _ _ _ (y6 o)
section
variable {o1:LV} {h1:List (LV)} (S1:cJ o1 h1) {o2:LV} {h2:List (LV)} (S2:cJ o2 h2)
include S1 S2
theorem Hh:AZ (dE (o1::h1)) (dE (o2::h2)) (λx=>!bJ 1 λ_=>!decide ((2:Int)=x))=true↔∃r∈dk o1 h1,∃t∈dk o2 h2,kN r t:=by
 have l:∀x:Int,(!bJ 1 λ_=>!decide ((2:Int)=x))=decide ((2:Int)=x):=λx=>by
  rw[Zd,YK,<-Wr,aE];constructor
  ·intro h;cases c:decide ((2:Int)=x)with
   |true=>rfl
   |false=>exact absurd (λi _=>by rw[c];rfl) h
  ·intro h k;have:=k 0 (by decide);rw[h]at this;cases this
 have m:∀e∈dE (o1::h1),∀f∈dE (o2::h2),((dz e f).kind=2↔kN (e.a,e.b) (f.a,f.b)):=λe g f j=>by have o:=(Br S1 g).1;have p:=(Br S2 j).1;rw[(fG e f).1,PL o p,tj o p];exact ZC
 have u:AZ (dE (o1::h1)) (dE (o2::h2)) (λx=>!bJ 1 λ_=>!decide ((2:Int)=x))=false↔∀e∈dE (o1::h1),∀f∈dE (o2::h2),¬kN (e.a,e.b) (f.a,f.b):=by unfold AZ;rw[Wv,r2 (f:=λe=>bJ (dE (o2::h2)).length λk=>!(!bJ 1 λ_=>!decide ((2:Int)=(dz e (bm (dE (o2::h2)) k)).kind)))];constructor;intro h e g f j k;have:=r2 (f:=λf=>!(!bJ 1 λ_=>!decide ((2:Int)=(dz e f).kind))).1 (h e g) f j;rw[l,(m e g f j).2 k]at this;simp at this;intro h e g;refine r2 (f:=λf=>!(!bJ 1 λ_=>!decide ((2:Int)=(dz e f).kind))).2 λf j=>?_;rw[l,YK,Zu];exact λk=>h e g f j ((m e g f j).1 k.symm)
 have w:(∀e∈dE (o1::h1),∀f∈dE (o2::h2),¬kN (e.a,e.b) (f.a,f.b))↔∀e∈dk o1 h1,∀f∈dk o2 h2,¬kN e f:=by
  have y:(∀e∈dE (o1::h1),∀f∈dE (o2::h2),¬kN (e.a,e.b) (f.a,f.b))↔∀e∈dk o1 h1,∀f∈dE (o2::h2),¬kN e (f.a,f.b):=
   xo S1 (Q:=λa b=>∀f∈dE (o2::h2),¬kN (a,b) (f.a,f.b)) λa b h f j k=>h f j (ej k.sym).sym
  rw[y];have q:∀e:V2×V2,(∀f∈dE (o2::h2),¬kN e (f.a,f.b))↔∀f∈dk o2 h2,¬kN e f:=λe=>
   xo S2 (Q:=λa b=>¬kN e (a,b)) λa b h k=>h (ej k)
  exact⟨λh e g=>(q e).1 (h e g),λh e g=>(q e).2 (h e g)⟩
 rw[<-aam,u,w];constructor;intro h;refine Xz λk=>h λe g f j c=>k ⟨e,g,f,j,c⟩;rintro⟨e,g,f,j,c⟩ h;exact h e g f j c
omit S2 in
theorem Aq (w:Int):Rz o1 h1 o2 h2 w=true↔∃e∈dk o1 h1,eL o2 h2 e.1=w:=by
 unfold Rz;dsimp only;rw[YK,<-Wr,aE];constructor;intro h;refine Xz λq=>h λi a=>?_;obtain⟨e,b,c⟩:=(ik S1).1 (ei a);rw[YK,Zu];exact λk=>q ⟨e,b,by rw[c];exact k⟩;rintro⟨e,b,k⟩ h;obtain⟨i,a,q⟩:=YV.1 ((ik S1).2 ⟨e,b,rfl⟩);have:=h i a;rw[show gt (o1::h1).flatten i=e.1 by rw[<-q];exact U6 a,k]at this;simp at this
theorem Kh (g:cc->cc->Bool) (Q:V2->V2->V2->V2->Prop) (B:∀s t:cc,In 10000 s.a->In 10000 s.b->In 10000 t.a->In 10000 t.b->(g s t=false↔Q s.a s.b t.a t.b)):
  Qq o1 h1 o2 h2 g=false↔∃u m o r w,((∃e∈dk o1 h1,e.1=u)\/∃e∈dk o2 h2,e.1=u)/\Cn (dk o1 h1) u m o/\Cn (dk o2 h2) u r w/\Q m o r w:=by
 unfold Qq;dsimp only;have C:∀{p:V2},p∈(o1::h1).flatten++(o2::h2).flatten->In 2000 p:=λh=>(XN.1 h).elim (pt S1) (pt S2);constructor
 ·intro h;rw[<-Wr,aE]at h;refine Xz λq=>h λi f=>?_;have b:=ei f;have a:=C b;rw[YK,ZQ,ZQ];refine Xz λk=>q ?_;have F:eL o1 h1 (gt ((o1::h1).flatten++(o2::h2).flatten) i)=1:=Xz λc=>k (.inl (X1 c));have G:eL o2 h2 (gt ((o1::h1).flatten++(o2::h2).flatten) i)=1:=Xz λc=>k (.inr (.inl (X1 c)));have H:g (tw (o1::h1) (gt ((o1::h1).flatten++(o2::h2).flatten) i)) (tw (o2::h2) (gt ((o1::h1).flatten++(o2::h2).flatten) i))=false:=by
   cases c:g (tw (o1::h1) (gt ((o1::h1).flatten++(o2::h2).flatten) i)) (tw (o2::h2) (gt ((o1::h1).flatten++(o2::h2).flatten) i))with
   |false=>rfl
   |true=>exact absurd (.inr (.inr (by rw[c];rfl))) k
  obtain⟨j,x,y⟩:=BL S1 a ((vA S1 a).1 F);obtain⟨l,z,A⟩:=BL S2 a ((vA S2 a).1 G);refine⟨_,_,_,_,_,?_,j,l,(B _ _ x y z A).1 H⟩;rcases XN.1 b with c|c;exact .inl ((ik S1).1 c);exact .inr ((ik S2).1 c)
 ·rintro⟨u,m,o,r,w,I,j,l,J⟩;have b:u∈(o1::h1).flatten++(o2::h2).flatten:=(by rcases I with c|c;exact X0 _ ((ik S1).2 c);exact XY _ ((ik S2).2 c));have a:=C b;have D:Qd o1 h1 1 u:=u4.2 (by simp only[bt];exact j.on);have E:Qd o2 h2 1 u:=u4.2 (by simp only[bt];exact l.on);obtain⟨K,x,y⟩:=BL S1 a D;obtain⟨M,z,A⟩:=BL S2 a E;obtain⟨N,O⟩:=j.uniq S1.oO K;obtain⟨P,R⟩:=l.uniq S2.oO M;have S:=(B _ _ x y z A).2 (by rw[<-N,<-O,<-P,<-R];exact J);obtain⟨i,f,q⟩:=YV.1 b;refine bS i f ?_;rw[show gt ((o1::h1).flatten++(o2::h2).flatten) i=u by rw[<-q];exact U6 f];rw[(vA S1 a).2 D,(vA S2 a).2 E,S];rfl
theorem H5:rN o1 h1 o2 h2=true↔¬Comm (dk o1 h1) 0 (dk o2 h2) 0:=by
 rw[Ie S1.oO S2.oO S1.wu S2.wu rfl,<-aam];refine not_congr ?_;have t:=Kh S1 S2 (λs t=>!NY s t) lQ λs t a b c d=>by rw[Wv];exact LF a b c d
 have g:=Aq S1 (o2:=o2) (h2:=h2) 2;have h:=Aq S2 (o2:=o1) (h2:=h1) 2;have i:=Hh S1 S2;unfold rN JM;have j:(∃e∈dk o1 h1,eL o2 h2 e.1=2)↔∃e∈dk o1 h1,(∀y∈dk o2 h2,¬aV y.1 y.2 e.1)/\W (dk o2 h2) e.1+0=1:=by refine WO λe=>Z1 λf=>?_;rw[WT];exact zW S2 (pt S1 ((ik S1).2 ⟨e,f,rfl⟩))
 have k:(∃e∈dk o2 h2,eL o1 h1 e.1=2)↔∃e∈dk o2 h2,(∀y∈dk o1 h1,¬aV y.1 y.2 e.1)/\W (dk o1 h1) e.1+0=1:=by refine WO λe=>Z1 λf=>?_;rw[WT];exact zW S1 (pt S2 ((ik S2).2 ⟨e,f,rfl⟩))
 rw[<-j,<-k,<-g,<-h,<-i,<-t];simp only[ZQ,Wv]
theorem Pn:Jo o1 h1 o2 h2=true↔¬Comm (dx (dk o1 h1)) 1 (dk o2 h2) 0:=by
 have F:nc (dx (dk o1 h1)) 1:=S1.wu.rev;rw[Ie S1.oO.rev S2.oO F S2.wu rfl,<-aam];refine not_congr ?_;have t:=Kh S1 S2 (λs t=>!NY t ⟨s.b,s.a⟩) (λi j l o=>lQ l o j i) λs t a b c d=>by rw[Wv];exact LF c d b a
 have G:=Aq S2 (o2:=o1) (h2:=h1) 0;have H:=Aq S1 (o2:=o2) (h2:=h2) 2;have I:=Hh S1 S2;unfold Jo JM;have E:∀{Q:V2×V2->Prop},(∃e∈dx (dk o1 h1),Q e)↔∃e∈dk o1 h1,Q (e.2,e.1):=by intro Q;constructor;rintro⟨e,g,q⟩;exact⟨_,cw.1 g,q⟩;rintro⟨e,g,q⟩;exact⟨_,cw.2 g,q⟩
 have r:∀u,(∃e∈dx (dk o1 h1),e.1=u)↔∃e∈dk o1 h1,e.1=u:=λu=>by rw[E];constructor;rintro⟨e,g,q⟩;obtain⟨f,A,k⟩:=S1.oO.qK e g;exact⟨f,A,k.trans q⟩;rintro⟨e,g,q⟩;obtain⟨f,A,k,_⟩:=S1.oO.out e g;exact⟨f,A,k.trans q⟩
 have J:∀v,(∀x∈dx (dk o1 h1),¬aV x.1 x.2 v)↔∀x∈dk o1 h1,¬aV x.1 x.2 v:=λv=>
  ⟨λh x p k=>h (x.2,x.1) (cw.2 p) (au.2 k),λh x p k=>h (x.2,x.1) (cw.1 p) (au.2 k)⟩
 have K:(∃w∈dk o1 h1,∃z∈dk o2 h2,kN w z)↔∃w∈dx (dk o1 h1),∃z∈dk o2 h2,kN w z:=by rw[E];exact WO λe=>Z1 λ_=>WO λf=>Z1 λ_=>⟨λk=>(ej k.sym).sym,λk=>(ej k.sym).sym⟩
 have w:(∃e∈dk o2 h2,eL o1 h1 e.1=0)↔∃e∈dk o2 h2,(∀x∈dx (dk o1 h1),¬aV x.1 x.2 e.1)/\W (dx (dk o1 h1)) e.1+1=1:=by refine WO λe=>Z1 λg=>?_;rw[J,ja,N3 S1 (pt S2 ((ik S2).2 ⟨e,g,rfl⟩))];exact Z1 λ_=>by omega
 have z:(∃e∈dk o1 h1,eL o2 h2 e.1=2)↔∃e∈dx (dk o1 h1),(∀y∈dk o2 h2,¬aV y.1 y.2 e.1)/\W (dk o2 h2) e.1+0=1:=by have q:(∃e∈dk o1 h1,eL o2 h2 e.1=2)↔∃e∈dx (dk o1 h1),eL o2 h2 e.1=2:=(by constructor;rintro⟨e,g,k⟩;obtain⟨x,p,q⟩:=(r e.1).2 ⟨e,g,rfl⟩;exact⟨x,p,by rw[q];exact k⟩;rintro⟨e,g,k⟩;obtain⟨x,p,q⟩:=(r e.1).1 ⟨e,g,rfl⟩;exact⟨x,p,by rw[q];exact k⟩);rw[q];refine WO λe=>Z1 λg=>?_;rw[WT];exact zW S2 (pt S1 ((ik S1).2 ((r e.1).1 ⟨e,g,rfl⟩)))
 have M:(∃u i j l o,((∃e∈dk o1 h1,e.1=u)\/∃e∈dk o2 h2,e.1=u)/\Cn (dk o1 h1) u i j/\Cn (dk o2 h2) u l o/\lQ l o j i)↔
   ∃u i j l o,((∃e∈dx (dk o1 h1),e.1=u)\/∃e∈dk o2 h2,e.1=u)/\Cn (dx (dk o1 h1)) u i j/\Cn (dk o2 h2) u l o/\lQ i j l o:=by
  constructor;rintro⟨u,i,j,l,o,B,C,D,m⟩;exact⟨u,j,i,l,o,B.imp (r u).2 id,C.rev,D,m.swap⟩;rintro⟨u,i,j,l,o,B,C,D,m⟩;have:=C.rev;rw[IT]at this;exact⟨u,j,i,l,o,B.imp (r u).1 id,this,D,m.swap⟩
 rw[<-w,<-z,<-K,<-M,<-G,<-H,<-I,<-t];simp only[ZQ,Wv];constructor;rintro(h|h|h|h);exact .inl h;exact .inr (.inr (.inl h));exact .inr (.inl h);exact .inr (.inr (.inr h));rintro(h|h|h|h);exact .inl h;exact .inr (.inr (.inl h));exact .inr (.inl h);exact .inr (.inr (.inr h))
end
theorem gd.mvd {r:LV} (C:gd r) (v:V2):gd (r.map (ak v)):=by
 have a:=C.n3;have b:r≠[]:=C.LA;have q:=mi (ak v) b;have d:∀i,bc (rQ (r.map (ak v))) i=bc (rQ r) i:=λi=>by show af (rQ (r.map (ak v)) (i+1)) (rQ (r.map (ak v)) i)=af (rQ r (i+1)) (rQ r i);rw[q,q];simp only[af,ak];congr 1<;>omega
 refine⟨by rw[X9];exact a,λi=>?_,λi=>?_,?_⟩;rw[X9,q,q,C.hZ];rw[d,d];exact C.left i;(rw[X9,<-C.one];exact bA λi _=>by rw[d,d])
theorem nc.mv {E:Ed} (h:nc E 0) (v:V2):nc (sR v E) 0:=λm z a=>by rw[P9];exact h m _ a
theorem Up (v:V2) (L:List (LV)) (m:Int) (z:V2):WL m (L.map λr=>r.map (ak v)) z=WL m L (af z (ag m v)):=by
 unfold WL;rw[Yq];congr 1;refine Yx λr _=>?_;show W (bD m (bH (r.map (ak v)))) z=_;rw[mJ,P9]
section
variable {o1:LV} {h1:List (LV)} {o2:LV} {h2 L1 L2:List (LV)}
theorem s9 (j:VS o1 h1) (k:VS o2 h2) (f:Ek o1 h1 L1) (g:Ek o2 h2 L2) {v:V2} (l:In 8000 v):
  yk (hC ee L1 (L2.map mX)) v=true↔Comm (dk o1 h1) 0 (sR v (dk o2 h2)) 0:=by
 rw[Dx (f.OB j) (g.OB k) l];rw[DR j.ok.wu (k.ok.wu.mv v) f.cv (M:=L2.map λr=>r.map (ak v)) (λr o=>by obtain⟨s,hs,rfl⟩:=XQ.1 o;exact(g.cv s hs).mvd v) f.QX λm z p=>by rw[P9,g.QX m _ p,Up]];refine WO λa=>Z1 λ_=>?_;constructor;rintro⟨b,i,h⟩;exact⟨_,XQ.2 ⟨b,i,rfl⟩,h⟩;rintro⟨c,q,h⟩;obtain⟨b,i,rfl⟩:=XQ.1 q;exact⟨b,i,h⟩
theorem G6 (h:VS o1 h1) (c:VS o2 h2) (i:Ek o1 h1 L1) (f:Ek o2 h2 L2) (j:L1.length<=10000:=by omega) (k:L2.length<=10000:=by omega) (l:L1.length*L2.length<=10000:=by omega):
  DP 23 [.one (hS L1),.one (hS L2)] (.eG [.one (hS (hC ee L1 (L2.map mX))),.one (i64 0)]):=
 OW Tp (λa m=>(i.mv h a m).1) (λb g=>(f.mv c b g).1) (λb g=>(f.mv c b g).2) (Ga (i.OB h) (f.OB c)).1 j k l
end
structure yt (o:LV) (hs:List (LV)):Prop where
 vs:VS o hs
 zl:aF (o::hs)<=14
 JP:∀r∈o::hs,∀x∈r,In 20 x
theorem Mj {o:LV} (R:bk o) {B:Int} (a:∀x∈o,In B x) {v:V2} (h:W (bH o) v=1):In B v:=by
 have b:En ⟨-B,-B⟩ ⟨B,B⟩ (bH o):=λe c=>by obtain⟨i,f,rfl⟩:=bC.1 c;have:=a _ (ei f);exact⟨this.x0,this.x1,this.y0,this.y1⟩
 have:=Di (mK o) b (m:=1) (z:=v) (by decide) (by rw[gT];exact h);simp only[aau]at this;exact⟨this.1,this.2.1,this.2.2.1,this.2.2.2⟩
theorem Cf {o:LV} {hs:List (LV)} (h:Ap o hs 20=true:=by kernel_rfl):yt o hs:=by
 unfold Ap at h;simp only[XH,XU]at h;obtain⟨h1,h2,g⟩:=h;have V:=Tv g;have f:∀x∈o,In 20 x:=λx b=>by
  obtain⟨i,a,e⟩:=YV.1 b;have:=In.of (by decide) (by decide) (aE.1 h1 i a)
  rwa [show gt o i=x by rw[<-e];exact U6 a]at this
 refine⟨V,h2,λr j x b=>?_⟩;rcases XF.1 j with c|c;subst c;exact f x b
 ·obtain⟨i,a,e⟩:=YV.1 b;have:=V.ok.Pq r c (gt r i,bw r i) (bC.2 ⟨i,a,rfl⟩);have:=Mj V.ok.outer f this
  rwa [show gt r i=x by rw[<-e];exact U6 a]at this
section
variable {o:LV} {hs:List (LV)}
theorem yt.hK (S:yt o hs) (i:Nat):In 20 (gt o i):=by
 by_cases h:i<o.length;exact S.JP o XW _ (ei h);have:gt o i=⟨0,0⟩:=(by simp[gt,List.getD,h]);rw[this];exact⟨by decide,by decide,by decide,by decide⟩
theorem yt.pos (S:yt o hs):0<o.length:=by have:=S.vs.ok.outer.three;omega
theorem RV {l:LV} {v:V2} (h:∀x∈l,In 20 x) (a:In 40 v):ef l v=l.map (ak v)/\dJ (l.map (ak v))=true:=by
 have v0:=a.x0;have m:=a.x1;have o:=a.y0;have p:=a.y1;refine⟨?_,?_⟩;(unfold ef;refine Yx λx b=>?_;have i:=h x b;have c:=i.x0;have f:=i.x1;have g:=i.y0;have j:=i.y1;unfold kc ak;rw[fv (by omega) (by omega),fv (by omega) (by omega)];congr 1<;>omega)
 ·unfold dJ;rw[Zj];intro y k;obtain⟨x,b,rfl⟩:=XQ.1 k;have i:=h x b;have c:=i.x0;have f:=i.x1;have g:=i.y0;have j:=i.y1;exact In.within (by decide) (by decide) ⟨by simp only[ak];omega,by simp only[ak];omega,by simp only[ak];omega,by simp only[ak];omega⟩
theorem yt.LH (S:yt o hs) {v:V2} (b:In 40 v):VS (ef o v) (hs.map λh=>ef h v)/\dk (ef o v) (hs.map λh=>ef h v)=sR v (dk o hs)/\∀r∈o::hs,dJ (ef r v)=true:=by
 have e:∀r∈o::hs,ef r v=r.map (ak v)/\dJ (r.map (ak v))=true:=λr a=>RV (S.JP r a) b;have c:=(e o XW).1;have f:(hs.map λh=>ef h v)=hs.map λh=>h.map (ak v):=Yx λr a=>(e r (XK _ a)).1;rw[c,f];refine⟨VS.of (S.vs.ok.mv v λr a=>(e r a).2) (by rw[X9];exact S.vs.GD) ?_,Se v o hs,λr a=>by rw[(e r a).1];exact(e r a).2⟩;have:aF (o.map (ak v)::hs.map λh=>h.map (ak v))=aF (o::hs):=by rw[eB,eB,X9];congr 1;unfold aF;rw[Yq];congr 1;exact Yx λr _=>by simp
 rw[this];exact S.vs.er
theorem yt.box (S:yt o hs):In 20 (ht o)/\In 20 (hx o)/\(∀i,i<o.length->(ht o).x<=(gt o i).x/\(gt o i).x<=(hx o).x/\(ht o).y<=(gt o i).y/\(gt o i).y<=(hx o).y)/\
  (∃a b c d,a<o.length/\b<o.length/\c<o.length/\d<o.length/\(ht o).x=(gt o a).x/\(hx o).x=(gt o b).x/\(ht o).y=(gt o c).y/\(hx o).y=(gt o d).y):=by
 obtain⟨a,l,g⟩:=A6 (λi=>(gt o i).x) o.length S.pos;obtain⟨b,m,h⟩:=A8 (λi=>(gt o i).x) o.length S.pos;obtain⟨c,p,j⟩:=A6 (λi=>(gt o i).y) o.length S.pos;obtain⟨d,q,k⟩:=A8 (λi=>(gt o i).y) o.length S.pos;refine⟨⟨?_,?_,?_,?_⟩,⟨?_,?_,?_,?_⟩,λi f=>⟨A5 _ _ _ f,A7 _ _ _ f,A5 _ _ _ f,A7 _ _ _ f⟩,a,b,c,d,l,m,p,q,g,h,j,k⟩;show-20<=pN _ _;rw[g];exact(S.hK a).x0;show pN _ _<=20;rw[g];exact(S.hK a).x1;show-20<=pN _ _;rw[j];exact(S.hK c).y0;show pN _ _<=20;rw[j];exact(S.hK c).y1;show-20<=pO _ _;rw[h];exact(S.hK b).x0;show pO _ _<=20;rw[h];exact(S.hK b).x1;show-20<=pO _ _;rw[k];exact(S.hK d).y0;show pO _ _<=20;rw[k];exact(S.hK d).y1
theorem uO {a b:V2} (c:In 100 a) (f:In 100 b):cT a b=af a b/\kc a b=ak a b:=by
 have g:=c.x0;have h:=c.x1;have i:=c.y0;have j:=c.y1;have k:=f.x0;have l:=f.x1;have m:=f.y0;have o:=f.y1;unfold cT af kc ak;rw[fv (by omega) (by omega),fv (by omega) (by omega),fv (by omega) (by omega),fv (by omega) (by omega)];exact⟨rfl,rfl⟩
theorem yt.frame (S:yt o hs):VS (EA (ht o) (hx o)) [o]/\dk (EA (ht o) (hx o)) [o]=bH (aR (af (ht o) ⟨1,1⟩) (ak (hx o) ⟨1,1⟩))++dx (bH o)/\aF [EA (ht o) (hx o),o]<=18/\
  cT (ht o) ⟨1,1⟩=af (ht o) ⟨1,1⟩/\kc (hx o) ⟨1,1⟩=ak (hx o) ⟨1,1⟩:=by
 obtain⟨a,b,l,_⟩:=S.box;have m:dk (EA (ht o) (hx o)) [o]=bH (EA (ht o) (hx o))++(dx (bH o)++[]):=rfl;have p:aF [EA (ht o) (hx o),o]=4+(o.length+0):=rfl;generalize ht o=lo at*;generalize hx o=hi at*;have one:In 100 ⟨1,1⟩:=⟨by decide,by decide,by decide,by decide⟩;have c:=(uO (a.up (by decide)) one).1;have f:=(uO (b.up (by decide)) one).2;have g:EA lo hi=aR (af lo ⟨1,1⟩) (ak hi ⟨1,1⟩):=by unfold EA;rw[c,f];rfl
 have q:=a.x0;have r:=a.x1;have t:=a.y0;have u:=a.y1;have w:=b.x0;have x:=b.x1;have y:=b.y0;have z:=b.y1;have j:=MF (lo:=af lo ⟨1,1⟩) (hi:=ak hi ⟨1,1⟩) ⟨by simp only[af];omega,by simp only[af];omega,by simp only[af];omega,by simp only[af];omega⟩
  ⟨by simp only[ak];omega,by simp only[ak];omega,by simp only[ak];omega,by simp only[ak];omega⟩ S.vs.ok.outer (λi h=>by have:=l i h;simp only[af,ak];omega)
 rw[<-g]at j;have zl:=S.zl;rw[eB]at zl;have k:aF [EA lo hi,o]<=18:=by rw[p];omega
 refine⟨VS.of j (show 1<=6 by decide) (Yf k (by decide)),by rw[m,g,YO],k,c,f⟩
theorem yt.R1 (S:yt o hs):En (ht o) (hx o) (dk o hs):=by
 obtain⟨_,_,g,_⟩:=S.box;have b:En (ht o) (hx o) (bH o):=λe a=>by obtain⟨i,f,rfl⟩:=bC.1 a;exact g i f
 intro e a;unfold dk at a;rcases XN.1 a with c|c;exact b e c;obtain⟨r,h,k⟩:=dZ.1 c;obtain⟨i,f,q⟩:=bC.1 k;have j:e.1=gt r ((i+1)%r.length):=X5 Prod.snd q;have w:=S.vs.ok.Pq r h _ (bC.2 ⟨(i+1)%r.length,mLt,rfl⟩);have w:W (bH o) e.1=1:=(by rw[j];exact w);have:=Di (mK o) b (m:=1) (z:=e.1) (by decide) (by rw[gT];exact w);simpa only[aau]using this
end
theorem Nz {L:List pQ} {f:pQ->Bool}:bJ L.length (λi=>f (L.getD i ([],[])))=true↔∀s∈L,f s=true:=by
 rw[aE];constructor
 ·intro h s hs;obtain⟨i,a,rfl⟩:=YV.1 hs;have:=h i a
  rwa [show L.getD i ([],[])=L[i] by simp[List.getD,a]]at this
 ·intro h i a;rw[show L.getD i ([],[])=L[i] by simp[List.getD,a]];exact h _ (YU a)
section
variable {co:LV} {ch:List (LV)} {mo:LV} {mh:List (LV)} {ob:List pQ} (C:yt co ch) (M:yt mo mh) (O:∀s∈ob,yt s.1 s.2)
include C O
theorem MD:∀s∈xc co ch ob,VS s.1 s.2/\aF (s.1::s.2)<=18:=by
 intro s hs;unfold xc at hs;rw[YG,XF,XN,XQ]at hs;rcases hs with h|⟨r,a,rfl⟩|h;subst h;obtain⟨b,_,c,_⟩:=C.frame;exact⟨b,c⟩;have R:=C.vs.ok.ring r a;have l:=my (L:=co::ch) (XK _ a);have f:=C.zl;have e:aF [r]=r.length:=(by simp[aF]);refine⟨VS.of ⟨R,λ_ h=>(nomatch h),λ_ h=>(nomatch h),λ_ h=>(nomatch h),aak⟩ (XS _) ?_,?_⟩;rw[e];omega;show aF [r]<=18;rw[e];omega;have:=(O s h).zl;exact⟨(O s h).vs,by omega⟩
include M
theorem R8 {v:V2} (D:In 40 v) {P:pQ->List (LV)} {p:List (LV)} (E:∀s∈xc co ch ob,Ek s.1 s.2 (P s)) (l:Ek mo mh p):
  Vb (cT (ht co) (ht mo)) (cT (hx co) (hx mo)) ((xc co ch ob).flatMap λs=>hC ee (P s) (p.map mX)) v=
   (Jo co ch (ef mo v) (mh.map λh=>ef h v)&&bJ ob.length λi=>rN (ob.getD i ([],[])).1 (ob.getD i ([],[])).2 (ef mo v) (mh.map λh=>ef h v)):=by
 obtain⟨Vm,em,_⟩:=M.LH D;have u:In 8000 v:=D.up (by decide);rw[Zd,XH,Nz (f:=λs=>rN s.1 s.2 (ef mo v) (mh.map λh=>ef h v)),Pn C.vs.ok Vm.ok,em];have T:(∀s∈ob,rN s.1 s.2 (ef mo v) (mh.map λh=>ef h v)=true)↔∀s∈ob,¬Comm (dk s.1 s.2) 0 (sR v (dk mo mh)) 0:=
  forall_congr' λs=>imp_congr_right λhs=>by rw[H5 (O s hs).vs.ok Vm.ok,em]
 rw[T];have U:yk ((xc co ch ob).flatMap λs=>hC ee (P s) (p.map mX)) v=false↔∀s∈xc co ch ob,¬Comm (dk s.1 s.2) 0 (sR v (dk mo mh)) 0:=by rw[<-Wr,rI];constructor;intro h s hs c;have:=(s9 (MD C O s hs).1 M.vs (E s hs) l u).2 c;obtain⟨r,g,q⟩:=rI.1 this;exact h ⟨r,ZK.2 ⟨s,hs,g⟩,q⟩;rintro h ⟨r,g,q⟩;obtain⟨s,hs,g⟩:=ZK.1 g;exact h s hs ((s9 (MD C O s hs).1 M.vs (E s hs) l u).1 (rI.2 ⟨r,g,q⟩))
 obtain⟨V,X,F,_⟩:=C.box;obtain⟨Y,Z,a9,a,b,c,d,a0,a1,a2,a3,b0,b1,b2,b3⟩:=M.box;have a4:TO (cT (ht co) (ht mo)) (cT (hx co) (hx mo)) v=true↔En (ht co) (hx co) (sR v (dk mo mh)):=by
  rw[(uO (V.up (by decide)) (Y.up (by decide))).1,(uO (X.up (by decide)) (Z.up (by decide))).1];have a5:=M.R1;have a6:∀i,i<mo.length->∃e∈dk mo mh,e.1=gt mo i:=λi hi=>⟨_,X0 _ (bC.2 ⟨i,hi,rfl⟩),rfl⟩;generalize ht co=G at*;generalize hx co=H at*;generalize ht mo=L1 at*;generalize hx mo=b4 at*;unfold TO;simp only[XH,XU];simp only[af];constructor;intro h e j;obtain⟨x,a7,rfl⟩:=mn.1 j;have:=a5 x a7;simp only[ak];omega
  ·intro h;have o:∀i,i<mo.length->G.x<=v.x+(gt mo i).x/\v.x+(gt mo i).x<=H.x/\G.y<=v.y+(gt mo i).y/\v.y+(gt mo i).y<=H.y:=λi hi=>by
    obtain⟨e,j,q⟩:=a6 i hi;have:=h _ (mn.2 ⟨e,j,rfl⟩);simp only[ak]at this
    rwa [q]at this
   have h1:=o a a0;have h2:=o b a1;have I:=o c a2;have b5:=o d a3;omega
 obtain⟨b6,J,b7,b8,b9⟩:=C.frame;have a8:=Py C.vs.ok (S:=sR v (dk mo mh)) (R:=bH (aR (af (ht co) ⟨1,1⟩) (ak (hx co) ⟨1,1⟩))) (by rw[<-em];exact Vm.ok.oO) (by rw[<-em];exact Vm.ok.wu) (lo:=ht co) (hi:=hx co)
  (λe j=>by obtain⟨i,hi,rfl⟩:=bC.1 j;exact F i hi)
  (λm z l c0=>by
   have c1:=F 0 C.pos;refine Fe ?_ ?_ l ?_;show(ht co).x-1<(hx co).x+1;omega;show(ht co).y-1<(hx co).y+1;omega
   ·show m*((ht co).x-1)<z.x/\z.x<m*((hx co).x+1)/\m*((ht co).y-1)<z.y/\z.y<m*((hx co).y+1);have K:∀t:Int,m*(t-1)=m*t-m:=λt=>by rw[ZL,ZY]
    have N:∀t:Int,m*(t+1)=m*t+m:=λt=>by rw[WC,ZY]
    rw[K,N,K,N];omega)
 rw[<-a8];unfold Vb;rw[XH,XH,a4,YK,U,u.within (by decide) (by decide)];have split:(∀s∈xc co ch ob,¬Comm (dk s.1 s.2) 0 (sR v (dk mo mh)) 0)↔
   (¬Comm (bH (aR (af (ht co) ⟨1,1⟩) (ak (hx co) ⟨1,1⟩))++dx (bH co)) 0 (sR v (dk mo mh)) 0/\∀h∈ch,¬Comm (bH h) 0 (sR v (dk mo mh)) 0)/\∀s∈ob,¬Comm (dk s.1 s.2) 0 (sR v (dk mo mh)) 0:=by
  have Q:∀h:LV,dk h []=bH h:=λh=>YO _;unfold xc;constructor;intro h;refine⟨⟨?_,λr g=>?_⟩,λs hs=>?_⟩;rw[<-J];exact h (EA (ht co) (hx co),[co]) (by simp);rw[<-Q];exact h (r,[]) (X0 _ (XK _ (XQ.2 ⟨r,g,rfl⟩)));exact h s (XY _ hs);rintro⟨⟨h1,h2⟩,I⟩ s hs;rcases XN.1 hs with k|k;rcases XF.1 k with k|k;subst k;rw[J];exact h1;obtain⟨r,g,rfl⟩:=XQ.1 k;rw[Q];exact h2 r g;exact I s k
 rw[split];constructor;rintro⟨w,_,⟨y,A⟩,B⟩;exact⟨⟨w,y,A⟩,B⟩;rintro⟨⟨w,y,A⟩,B⟩;exact⟨w,rfl,⟨y,A⟩,B⟩
end
theorem Ky:∀(L:List (LV)) (a:Nat),a*a+(L.map λr=>r.length*r.length).sum<=(a+aF L)*(a+aF L)
 |[],a=>XP _
 |r::L,a=>by have b:=Ky L (a+r.length);rw[eB,<-YQ];refine Yf ?_ b;rw[Yg,WG];have:(a+r.length)*(a+r.length)=a*a+r.length*r.length+2*(a*r.length):=(by grind);omega
theorem TD {co:LV} {ch:List (LV)} {mo:LV} {mh:List (LV)} {ob:List pQ} (C:yt co ch) (M:yt mo mh) (O:∀s∈ob,yt s.1 s.2) (u:ob.length<=2):
  ∃(P:pQ->List (LV)),(∀s∈xc co ch ob,Ek s.1 s.2 (P s))/\Ek mo mh (P (mo,mh))/\UQ co ch ob mo mh P (λs=>hC ee (P s) ((P (mo,mh)).map mX))/\
   ((xc co ch ob).flatMap λs=>hC ee (P s) ((P (mo,mh)).map mX)).length<=40000/\∀r∈(xc co ch ob).flatMap λs=>hC ee (P s) ((P (mo,mh)).map mX),MV r:=by
 have ex:∀s:pQ,∃L,VS s.1 s.2->Ek s.1 s.2 L:=λs=>by by_cases h:VS s.1 s.2;obtain⟨L,B⟩:=yT h;exact⟨L,λ_=>B⟩;exact⟨[],λq=>absurd q h⟩
 obtain⟨P,w⟩:=Wq ex;have b:=MD C O;have c:=w (mo,mh) M.vs;have a:∀s∈xc co ch ob,Ek s.1 s.2 (P s):=λs hs=>w s (b s hs).1;obtain⟨g,i,D,_⟩:=C.box;obtain⟨K,E,N,j,l⟩:=C.frame;have Q:=D 0 C.pos;have y:(P (mo,mh)).length<=65:=by have h1:3*(P (mo,mh)).length<=aF (mo::mh)*aF (mo::mh):=c.zl;have h2:aF (mo::mh)*aF (mo::mh)<=14*14:=ZS M.zl M.zl;omega
 have m:∀s∈xc co ch ob,(P s).length<=108:=λs hs=>by have h1:=(a s hs).zl;have h2:aF (s.1::s.2)*aF (s.1::s.2)<=18*18:=ZS (b s hs).2 (b s hs).2;omega
 have z:∀s∈xc co ch ob,(P s).length*(P (mo,mh)).length<=108*65:=λs hs=>ZS (m s hs) y;have R:=g.x0;have S:=g.x1;have T:=g.y0;have U:=g.y1;have V:=i.x0;have X:=i.x1;have Y:=i.y0;have Z:=i.y1;have A:∀L:List pQ,(∀s∈L,3*(P s).length<=aF (s.1::s.2)*aF (s.1::s.2))->3*(L.flatMap λs=>hC ee (P s) ((P (mo,mh)).map mX)).length<=(L.map λs=>aF (s.1::s.2)*aF (s.1::s.2)).sum*(P (mo,mh)).length:=by
  intro L;induction L with
  |nil=>intro _;exact XS _
  |cons s L o=>intro h;have h1:=o λx p=>h x (XK _ p);have h2:=XX (P (mo,mh)).length (h s XW);rw[WR,XR,xN,X9,Yg,WG,Ym,Xv,<-Nat.mul_assoc];exact Nat.add_le_add h2 h1
 have k:=A (xc co ch ob) λs hs=>(a s hs).zl;have F:((xc co ch ob).map λs=>aF (s.1::s.2)*aF (s.1::s.2)).sum<=716:=by
  unfold xc;rw[Ys,Yg,List.sum_append,WG,Yq];have G:aF [EA (ht co) (hx co),co]=4+co.length:=rfl;have H:(ch.map ((λs:pQ=>aF (s.1::s.2)*aF (s.1::s.2))∘λh=>(h,[])))=ch.map λr=>r.length*r.length:=
   Yx λr _=>by have:aF [r]=r.length:=(by simp[aF]);show aF [r]*aF [r]=_;rw[this]
  rw[H];show aF [EA (ht co) (hx co),co]*aF [EA (ht co) (hx co),co]+_+_<=_;rw[G];have h1:=Ky ch (4+co.length);have I:=C.zl;rw[eB]at I;have h2:(4+co.length+aF ch)*(4+co.length+aF ch)<=18*18:=ZS (by omega) (by omega);have a0:(ob.map λs=>aF (s.1::s.2)*aF (s.1::s.2)).sum<=ob.length*196:=by
   clear u k A z m a b h1 h2;induction ob with
   |nil=>exact XS _
   |cons s L o=>have f:=(O s XW).zl;have E:aF (s.1::s.2)*aF (s.1::s.2)<=14*14:=ZS f f;have:=o λx p=>O x (XK _ p);rw[Yg,WG,XZ];omega
  have a1:ob.length*196<=2*196:=XX _ u;omega
 have J:((xc co ch ob).flatMap λs=>hC ee (P s) ((P (mo,mh)).map mX)).length<=40000:=by have:=ZS F y;omega
 refine⟨P,a,c,⟨C.vs,M.vs,λs hs=>(O s hs).vs,by omega,(g.up (by decide)).within (by decide) (by decide),(i.up (by decide)).within (by decide) (by decide),?_,?_,?_,?_,c.VF,λs hs=>(a s hs).VF,λs hs=>?_,by omega⟩,J,λr t=>?_⟩;rw[j,l];show(ht co).x-1<(hx co).x+1;omega;rw[j,l];show(ht co).y-1<(hx co).y+1;omega;rw[j];exact In.within (by decide) (by decide) ⟨by show-2000<=(ht co).x-1;omega,by show(ht co).x-1<=2000;omega,by show-2000<=(ht co).y-1;omega,by show(ht co).y-1<=2000;omega⟩;rw[l];exact In.within (by decide) (by decide) ⟨by show-2000<=(hx co).x+1;omega,by show(hx co).x+1<=2000;omega,by show-2000<=(hx co).y+1;omega,by show(hx co).y+1<=2000;omega⟩;have:=m s hs;have:=z s hs;exact G6 (b s hs).1 M.vs (a s hs) c;obtain⟨s,hs,t⟩:=ZK.1 t;exact(Ga ((a s hs).OB (b s hs).1) (c.OB M.vs)).2 r t
end Sg
end Go.Vm
