import Derived.Test.YtobmlkopbmakcaaGreatLK
import Derived.Test.YtobmlkopbmakcaaGreatLJ
set_option linter.unusedVariables false
set_option linter.unusedSimpArgs false
set_option maxRecDepth 20000
namespace Go.Vm
open Go Go.RowKit Go.Proofs
namespace Sg
def M8 (l:LV) (i:Nat):Bool:=decide (cQ (iZ l i) (gt l i) (bw l i)≠0)
def et (l:LV) (k:Nat):LV:=((List.range k).filter (M8 l)).map (gt l)
theorem w6 (l:LV) (k:Nat):et l (k+1)=if M8 l k=true then et l k++[gt l k]else et l k:=by
 unfold et;rw[ZU,aad,Ys];cases h:M8 l k with
 |true=>rw[List.filter_cons_of_pos h,XG rfl];rfl
 |false=>rw[List.filter_cons_of_neg (by rw[h];decide),XD (by decide)];simp
theorem pn (l:LV) (k:Nat):(et l k).length<=k:=by
 unfold et;rw[X9];exact Yf (ZI _ _) (by rw[List.length_range];exact XP k)
theorem nq (l:LV) (d:V2) (i j:Nat) (hi:i<l.length+1) (a:j<2):aC (bif Nat.blt i l.length then vG l i j else[i64 d.x,i64 d.y].getD ((i-l.length)*2+j) (.v Go.undef)) (vG (l++[d]) i j):=by
 refine aC.bif (λh=>?_) (λh=>?_);exact aC.of_eq (kW (by simp[List.getD,Yo,h]) j)
 ·obtain rfl:i=l.length:=(by omega);have:(l++[d]).getD l.length ⟨0,0⟩=d:=(by simp[List.getD]);refine aC.of_eq ?_;unfold vG;rw[this,YM]
  match j,a with
  |0,_=>rfl
  |1,_=>rfl
theorem DN (l:LV) (E:l.length<=10000) (g:0<(et l l.length).length):DP 46 [.one (aS l)] (.d (.one (aS (aO (et l l.length))))):=by
 refine ic kL mixed Tryz.func46 rfl rfl [10,93+2000000] (XJ rfl) ?_;have F:=pn l l.length;refine Loop.by (α:=Nat) (λi=>[(0,.d (.one (aS l))),(3,.aL 501 0),(4,an l.length),(10,.d (.one (aS l))),(11,an l.length),(12,an i)]) (λi=>[((6:Id),.none),(501,.aJ 0 (et l i).length 2 50 (vG (et l i)))]) (λi=>i<=l.length) (λi=>l.length-i)
  (aH.nil 3 501 2 50 (vG []) rfl rfl (aH.at 0 (XS _) (.none (.cons (.bj rfl (λi b=>absurd b (XL i))) .nil)) (.cS (.cH (.cS (.cS (.cS (.cS .nil))))))))
  (λi b=>?_)
 refine ab.mk (λk=>?_) (λk=>?_);have G:i<l.length:=(by have:=XB k;omega);have p:=qB i 1;have r:IntKind.i64.wrap (IntKind.i64.wrap ((i:Int)+l.length)-1)=((i+l.length-1:Nat):Int):=(by rw[hw ((i:Int)+l.length),hw _];omega);have z:=kY (i+1) l.length;have A:=kY (i+l.length-1) l.length;have H:=pn l i;refine aj.o ?_;refine aj.o ?_;refine aj.mk (by rw[r];exact A) ?_;refine aj.o ?_;refine aj.mk (by rw[show(1:Int)=(1:Nat) from rfl,p];exact z) ?_;refine ah.int (hN (gt l (Int.toNat ((IntKind.i64.wrap (IntKind.i64.wrap ((i:Int)+l.length)-1)).tmod l.length))) (gt l i) (gt l (Int.toNat ((IntKind.i64.wrap ((i:Int)+(1:Nat))).tmod l.length)))) (λt B=>?_);refine aj.n ?_;have u:M8 l i=decide (t≠0):=(by unfold M8 iZ bw;rw[B,p,r,kX,kX]);refine ab.mk (λm=>?_) (λm=>?_);have o:M8 l i=true:=(by rw[u];have:¬t=0:=(by simpa[bne]using m);simp[this]);have c:et l (i+1)=et l i++[gt l i]:=(by rw[w6,XG o]);refine aj.mk (aY) ?_;exact aH.back (x:=i) (i+1) (by show i+1<=_;omega) (by omega) (.none (.cons (.bj (by rw[c,XR];rfl) (λa w j f=>by rw[c];exact nq _ (gt l i) a j w f)) .nil)) (.cS (.cH (.cS (.cS (.cS (.cons (ao.int (by rw[hw _];omega)) .nil))))));have o:M8 l i=false:=(by rw[u];have:t=0:=(by simpa[bne]using m);simp[this]);have c:et l (i+1)=et l i:=(by rw[w6,XD (by rw[o];decide)]);exact aH.back (x:=i) (i+1) (by show i+1<=_;omega) (by omega) (.none (.cons (.bj (by rw[c]) (λa w j f=>by rw[c];exact aC.refl _)) .nil)) (.cS (.cH (.cS (.cS (.cS (.cons (ao.int (by rw[hw _];omega)) .nil))))));have C:i=l.length:=(by have:=XA k;omega);subst C;generalize et l l.length=K at*;refine Cut.mk (aH.freeze 3 501 _ _ 2 50 _ rfl rfl (aH.iC [(3,.d (.one (aS K)))] [] .nil (.cS .nil) ?_));refine ah.mk' (wV K (by omega) g) ?_;refine ah.mk' (sZ K (by omega) g) ?_;have D:eR K<K.length:=w4 K _ g;unfold aO;generalize eR K=q at*;refine aj.o ?_;refine eu.mk' [] (DT (K.drop q) (by rw[ZB];omega)) ⟨.nil,.cons (.d (dV.one (aC.qo (by rw[ZB];omega) (λi b j f=>aC.of_eq (kW ?_ j))))) .nil,rfl,rfl,λ_=>rfl⟩ ?_;simp[List.getD,Zn];refine aj.o ?_;refine aj.mk (aY (by rw[ZB];omega)) ?_;refine aj.n ?_;refine Fin.one (aC.qo (by rw[eh,ZB];omega) (λi b j f=>?_));have b:i<K.length:=(by rw[ZB]at b;omega);have y:=oT K q i (ZN D) b;refine aC.bif (λh=>aC.of_eq (kW ?_ j)) (λh=>aC.of_eq (kW (i:=0+(i-(K.drop q).length)) ?_ j));rw[ZB]at h;rw[y,XG h];simp[List.getD,Zn];rw[ZB]at h|-;rw[y,iN,X6]
def eY:LV->LV->Int
 |[],[]=>0
 |[],_::_=> -1
 |_::_,[]=>1
 |a::l,b::m=>if gm a b≠0 then gm a b else eY l m
variable {a:V2}
theorem tl {b:V2}:gm a b=0↔a=b:=by
 unfold gm;split
 ·next h=>
  rw[gG]at h;constructor;intro e;cases e;rintro rfl;omega
 ·split
  ·next h=>exact⟨λ_=>h,λ_=>rfl⟩
  ·next h=>exact⟨λe=>absurd e (by decide),λe=>absurd e h⟩
theorem Nc (a b:V2):gm a b<0\/a=b\/gm b a<0:=by
 simp only[rT,gG];by_cases e:a=b;exact .inr (.inl e);have:¬(a.x=b.x/\a.y=b.y):=λ⟨c,f⟩=>e (by cases a;cases b;simp_all);omega
theorem zy:∀l:LV,eY l l=0
 |[]=>rfl
 |a::l=>by have:gm a a=0:=tl.2 rfl;simp only[eY,this,ne_eq,not_true,Z3];exact zy l
theorem xC {b:V2} {l m:LV}:eY (a::l) (b::m)<0↔gm a b<0\/(a=b/\eY l m<0):=by
 simp only[eY];by_cases e:gm a b=0;rw[XD (by simp[e])];have this:=tl.1 e;have c:¬gm a b<0:=(by rw[e];decide);exact⟨λh=> .inr ⟨this,h⟩,λh=>h.elim (λk=>absurd k c) (λk=>k.2)⟩;rw[XG e];have:¬a=b:=λk=>e (tl.2 k);simp[this]
theorem FV {b c:V2} (f:gm a b<0) (h2:gm b c<0):gm a c<0:=by
 simp only[rT,gG]at*;omega
theorem oy:∀{x y z:LV},eY x y<0->eY y z<0->eY x z<0
 |[],[],_,g,_=>by simp[eY]at g
 |_,_::_,[],_,f=>by simp[eY]at f
 |[],_::_,_::_,_,_=>by simp[eY]
 |_::_,[],_,g,_=>by simp[eY]at g
 |a::x,b::y,c::z,g,f=>by rw[xC]at*;rcases g with g|⟨rfl,g⟩;rcases f with f|⟨rfl,f⟩;exact .inl (FV g f);exact .inl g;rcases f with f|⟨rfl,f⟩;exact .inl f;exact .inr ⟨rfl,oy g f⟩
theorem zw:∀x y:LV,eY x y<0\/x=y\/eY y x<0
 |[],[]=> .inr (.inl rfl)
 |[],_::_=> .inl (by simp[eY])
 |_::_,[]=> .inr (.inr (by simp[eY]))
 |a::x,b::y=>by simp only[xC];rcases Nc a b with h|rfl|h;exact .inl (.inl h);rcases zw x y with h|rfl|h;exact .inl (.inr ⟨rfl,h⟩);exact .inr (.inl rfl);exact .inr (.inr (.inr ⟨rfl,h⟩));exact .inr (.inr (.inl h))
theorem zx (n:Nat) (p:Nat->LV):pP n λi j=>eY (p i) (p j) where
 irrefl i _:=by rw[zy];omega
 trans i j k _ _ _:=oy
 ntrans i j k _ _ _ c b a:=by rcases zw (p i) (p j)with h|h|h;exact c h;rw[h]at a;exact b a;exact b (oy h a)
theorem Nd (a b:LV) (y:a.length<=40000) (z:b.length<=40000):DP 97 [.one (aS a),.one (aS b),.one (.fn 92 0 λ_=> .v Go.undef)] (an (eY a b)):=by
 refine dg Tryz.func97 [] ?_;refine Loop.by (α:=Nat) (λk=>[(0,.d (.one (aS a))),(1,.d (.one (aS b))),(2,.d (.one (.fn 92 0 λ_=> .v Go.undef))),(11,.d (.one (aS a))),(12,an a.length),(13,an k)]) (λ_=>[]) (λk=>k<=a.length/\k<=b.length/\eY (a.drop k) (b.drop k)=eY a b) (λk=>a.length-k)
  (aH.at 0 ⟨XS _,XS _,rfl⟩ .nil (.cS (.cS (.cS (.cS (.cS (.cS .nil))))))) (λk j=>?_)
 obtain⟨j,A,c⟩:=j;refine ab.mk (λg=>?_) (λg=>?_);have l:k<a.length:=(by have:=XB g;omega);have m:a.drop k=gt a k::a.drop (k+1):=(by rw[Y6 l];simp[List.getD,l]);refine aj.o ?_;refine ab.mk (λf=>?_) (λf=>?_);have p:b.drop k=[]:=WS (by have:=XB f;omega);rw[m,p]at c;exact Fin.int c;have o:k<b.length:=(by have:=XA f;omega);have q:b.drop k=gt b k::b.drop (k+1):=(by rw[Y6 o];simp[List.getD,o]);rw[m,q]at c;simp only[eY]at c;refine aj.o ?_;refine ah.int (iw (gt a k) (gt b k)) (λx r=>?_);rw[<-r]at c;refine ab.mk (λh=>?_) (λh=>?_);have i:x≠0:=(by simpa[bne]using h);rw[XG i]at c;exact Fin.int c;have i:x=0:=(by simpa[bne]using h);rw[XD (by simp[i])]at c;exact aH.back (x:=k) (k+1) ⟨by omega,by omega,c⟩ (by omega) .nil (.cS (.cS (.cS (.cS (.cS (.cons (ao.int (by rw[hw _];omega)) .nil))))));have t:k=a.length:=(by have:=XA g;omega);subst t;rw[aaq]at c;refine ab.mk (λf=>?_) (λf=>?_);have u:a.length<b.length:=(by have:=XB f;omega);rw[Y6 u]at c;exact Fin.int c;have w:b.length<=a.length:=(by have:=XA f;omega);rw[WS w]at c;exact Fin.int c
theorem Kg (a b:LV) (c:a.length<=40000) (f:b.length<=40000):DP 49 [.one (aS a),.one (aS b)] (an (eY a b)):=by
 refine dg Tryz.func49 [] ?_;refine ah.int (Nd a b c f) (λx g=>?_);exact Fin.int g
theorem Vg:Tryz.prog.underlying 3=some (.int .i64):=by kernel_rfl
theorem Q2:Tryz.prog.underlying 83=some (.array 2 3):=by kernel_rfl
theorem Tn (w:World):(sizeOf 3).run Tryz.prog w= .ok 1 w:=by
 obtain⟨i,z,a,b,_⟩:=N9.info;simp[sizeOf,typeInfo,a];exact b
theorem Ua (b:Bool) (n:Nat) (x:Int) (w:World):(Instr.checkKey b (n+1) 3 (.int .i64 x)).run Tryz.prog w= .ok () w:=by
 simp[Instr.checkKey,underlying,Vg]
theorem QB (cs:Array Value) (i:Nat) (v:Value) (h:cs[i]? =some v) (w:World):(part 3 cs i).run Tryz.prog w= .ok v w:=by
 simp[part,isAgg,underlying,Vg,h]
theorem QA (x y:Int) (w:World):(part 3 #[.int .i64 x,.int .i64 y] 0).run Tryz.prog w= .ok (.int .i64 x) w:=QB _ 0 _ rfl w
theorem Qz (x y:Int) (w:World):(part 3 #[.int .i64 x,.int .i64 y] 1).run Tryz.prog w= .ok (.int .i64 y) w:=QB _ 1 _ rfl w
theorem TW (n:Nat) (x y:Int) (w:World):(Op.equalIn (n+1) 3 (.int .i64 x) (.int .i64 y)).run Tryz.prog w= .ok (x==y) w:=by
 rw[Op.equalIn];simp[underlying,Vg]
theorem A9:NL Tryz.prog 103 where
 h:=by
  refine⟨83,4,2,3,by kernel_rfl,Q2,λw=>?_,λx y b w=>?_,λx y f g w=>?_⟩;obtain⟨i,z,c,_⟩:=Tf.info;have a:(Tryz.prog.info? 4).bind (·.zero)=some (.bool false):=(by kernel_rfl);rw[c]at a;have a:i.zero=some (.bool false):=a;simp[zeroValue,typeInfo,c,a];show(Instr.checkKey b (9998+2) 83 _).run _ _=_;generalize 9998=n;rw[show n+2=(n+1)+1 from rfl,Instr.checkKey];simp[qI,underlying,Q2,List.range',Tn,QA,Qz,Ua]
  ·show(Op.equalIn (9998+2) 83 _ _).run _ _=_;generalize 9998=n;rw[show n+2=(n+1)+1 from rfl,Op.equalIn];by_cases c:x=f<;>by_cases a:y=g<;>
   simp[qI,underlying,Q2,List.range',Tn,QA,Qz,TW,c,a]
def fY (v:LV) (f:List Dt):LV:=f.map λd=>gt v d.1
def uh (v:LV) (fc:Dt->List Dt):List Dt->List Dt->List (LV)
 |[],_=>[]
 |d::S,a=>if d∈a then uh v fc S a else aO (et (fY v (fc d)) (fc d).length)::uh v fc S (a++fc d)
structure Wm (v:LV) (nb:Nat->List Nat) (S:List Dt) (fc:Dt->List Dt):Prop where
 pos:∀d∈S,0<(fc d).length
 hd:∀d∈S,bf (fc d) 0=d
 step:∀d∈S,∀i,i+1<(fc d).length->bf (fc d) (i+1)=nx nb (bf (fc d) i)
 last:∀d∈S,nx nb (bf (fc d) ((fc d).length-1))=d
 nd:∀d∈S,(fc d).Nodup
 sep:∀d∈S,∀e∈S,e∉fc d->∀x∈fc e,x∉fc d
 ok:∀d∈S,∀x∈fc d,x.1<v.length/\x.2<v.length/\x.1∈nb x.2/\(nb x.2).Nodup/\(nb x.2).length<=40000
 kept:∀d∈S,0<(et (fY v (fc d)) (fc d).length).length
 len:∀d∈S,(fc d).length<=10000
def Ln (l:List Dt):List (Int×Int):=l.map λd=>((d.1:Int),(d.2:Int))
theorem u3 {l:List Dt} {d:Dt}:((d.1:Int),(d.2:Int))∈Ln l↔d∈l:=by
 unfold Ln;rw[XQ];constructor
 ·rintro⟨e,c,h⟩;have a:=X5 Prod.fst h;have b:=X5 Prod.snd h;simp only at a b;have:e=d:=WE (by omega) (by omega)
  rwa [<-this]
 ·intro h;exact⟨d,h,rfl⟩
def Qt (n:Nat) (a:List Nat) (D:List Dt):List Dt:=(List.range n).map (λp=>(p,a.getD p 0))++D.flatMap λd=>[d,iK d]
theorem MR (l:List Dt) (a b:Dt) (i j:Nat) (hi:i<l.length+2) (c:j<2):aC (bif Nat.blt i l.length then kQ l i j else[i64 (a.1:Int),i64 (a.2:Int),i64 (b.1:Int),i64 (b.2:Int)].getD ((i-l.length)*2+j) (.v Go.undef)) (kQ (l++[a,b]) i j):=by
 refine aC.bif (λh=>?_) (λh=>?_);have:bf (l++[a,b]) i=bf l i:=(by simp[List.getD,Yo,h]);refine aC.of_eq ?_;unfold kQ;rw[this]
 ·obtain⟨k,rfl⟩:∃k,i=l.length+k:=⟨i-l.length,by omega⟩;have:bf (l++[a,b]) (l.length+k)=bf [a,b] k:=(by simp[List.getD,YS]);refine aC.of_eq ?_;unfold kQ;rw[this,Nat.add_sub_cancel_left];have:k<2:=by omega
  match k,j,this,c with
  |0,0,_,_=>rfl
  |0,1,_,_=>rfl
  |1,0,_,_=>rfl
  |1,1,_,_=>rfl
def IG (l:List (LV)):List (LV):=((List.range l.length).map (oN l.length λi j=>eY (l.getD i []) (l.getD j []))).map λi=>l.getD i []
theorem oM (l:List (LV)):(IG l).Perm l:=by
 refine((oK (zx l.length λi=>l.getD i [])).1.map λi=>l.getD i []).trans (aaA ?_);apply Wo;simp;intro i b a;simp[List.getD,a]
theorem Kv (l:List (LV)):(IG l).length=l.length:=by simp[IG]
theorem vH (v:LV) (fc:Dt->List Dt):∀(S dn:List Dt),(∀d∈S,(fc d).length<=10000)->∀r∈uh v fc S dn,r.length<=10000
 |[],_,_,r,h=>by cases h
 |d::S,dn,hS,r,h=>by simp only[uh]at h;split at h;exact vH v fc S dn (λe a=>hS e (by simp[a])) r h;rcases XF.1 h with k|k;rw[k,aO,eh];exact Yf (pn _ _) (hS d (by simp));exact vH v fc S _ (λe a=>hS e (by simp[a])) r k
set_option maxRecDepth 2000 in
theorem Fh {o:LV} {hs:List (LV)} (V:VS o hs) {v:LV} {nb:Nat->List Nat} {b:List Nat} {D:List Dt} (b6:DP 45 [hF o hs] (.eG [.one (.ad 3 (Mx v nb (nS b))),.one (.sl D.length 2 (kQ D))]))
  (f3:b.length=v.length) (f4:v.length<=80) (f5:D.length<=6400) {fc:Dt->List Dt} (F:Wm v nb (Qt b.length b D) fc):
  DP 19 [hF o hs] (.eG [.one (hS (IG (uh v fc (Qt b.length b D) []))),.one (i64 0)]):=by
 refine dg Tryz.func19 [9000058,9000068,9500077,9000102,30] ?_;refine ah.mk' (gp V) ?_;repeat' first|apply ab.t|apply ab.f
 refine ah.mk' b6 ?_;refine Loop.by (α:=Nat) (λi=>[(4,.d (.one (.ad 3 (Mx v nb (nS b))))),(5,.d (.one (.sl D.length 2 (kQ D)))),(6,.aL 501 0),(28,.d (.one (nS b))),(29,an b.length),(30,an i)]) (λi=>[(501,.aJ 0 i 2 83 (kQ ((List.range i).map λp=>(p,b.getD p 0))))]) (λi=>i<=b.length) (λi=>b.length-i)
  (aH.nil 6 501 2 83 (kQ []) rfl rfl (aH.at 0 (XS _) (.cons (.bj rfl (λi m=>absurd m (XL i))) .nil) (.cS (.cS (.cH (.cS (.cS (.cS .nil))))))))
  (λi m=>?_)
 refine ab.mk (λN=>?_) (λN=>?_);have a1:i<b.length:=(by have:=XB N;omega);have b7:(List.range (i+1)).map (λp=>(p,b.getD p 0))=(List.range i).map (λp=>(p,b.getD p 0))++[(i,b.getD i 0)]:=(by rw[ZU,Ys];rfl);have a2:i=((List.range i).map λp=>((p,b.getD p 0):Dt)).length:=(by simp);refine aj.o ?_;refine aj.mk (aY) ?_;refine aH.back (x:=i) (i+1) (by show i+1<=_;omega) (by omega) (.cons (.bj rfl (λa E j t=>?_)) .nil) (.cS (.cS (.cH (.cS (.cS (.cons (ao.int (by rw[hw _];omega)) .nil))))));rw[b7];have:=ot ((List.range i).map λp=>((p,b.getD p 0):Dt)) (i,b.getD i 0) a j (by rw[<-a2];exact E) t;rw[<-a2]at this;exact this;have b8:i=b.length:=by have:=XA N;omega
 subst b8;obtain⟨G,O⟩:∃G,G=(List.range b.length).map λp=>((p,b.getD p 0):Dt):=⟨_,rfl⟩;have P:G.length=b.length:=by rw[O];simp
 have a3:Qt b.length b D=G++D.flatMap λd=>[d,iK d]:=by rw[O];rfl
 have b9:∀i,(D.take i).length=min i D.length:=λi=>Yu;have a4:∀l:List Dt,(l.flatMap λd=>[d,iK d]).length=2*l.length:=λl=>by
  induction l with
  |nil=>rfl
  |cons a l c0=>simp only[WR,XR,c0,XZ,Wy];omega
 rw[<-O];refine Loop.by (α:=Nat) (λi=>[(4,.d (.one (.ad 3 (Mx v nb (nS b))))),(6,.aL 501 0),(42,.d (.one (.sl D.length 2 (kQ D)))),(43,an D.length),(44,an i)]) (λi=>[((10:Id),.none),(501,.aJ 0 (G++(D.take i).flatMap λd=>[d,iK d]).length 2 83 (kQ (G++(D.take i).flatMap λd=>[d,iK d])))]) (λi=>i<=D.length) (λi=>D.length-i)
  (aH.at 0 (XS _) (.none (.cons (.bj (by simp[P]) (λi m j t=>by rw[Z9,List.flatMap_nil,YO];exact aC.refl _)) .nil)) (.cS (.cH (.cS (.cS (.cS .nil))))))
  (λi m=>?_)
 refine ab.mk (λQ=>?_) (λQ=>?_)
 ·have a1:i<D.length:=(by have:=XB Q;omega);obtain⟨d,B⟩:∃d,d=bf D (i:Int).toNat:=⟨_,rfl⟩;have a5:(D.take (i+1)).flatMap (λd=>[d,iK d])=(D.take i).flatMap (λd=>[d,iK d])++[d,iK d]:=(by rw[YC,W5,B];simp[List.getD,a1]);have f6:(G++(D.take i).flatMap λd=>[d,iK d]).length<=20000:=(by rw[XR,a4,b9,P];omega);refine aj.o ?_;refine aj.mk (by decide) ?_;refine aj.mk (by decide) ?_;refine aj.mk (aY) ?_;refine aH.back (x:=i) (i+1) (by show i+1<=_;omega) (by omega) (.none (.cons (.bj (by rw[a5,<-Yk];exact(XR (bs:=[d,iK d])).symm) (λa E j t=>?_)) .nil)) (.cS (.cH (.cS (.cS (.cons (ao.int (by rw[hw _];omega)) .nil)))));rw[a5,<-Yk,B];exact MR _ (bf D (i:Int).toNat) (iK (bf D (i:Int).toNat)) a j E t
 have c1:i=D.length:=by have:=XA Q;omega
 subst c1;rw[YT,<-a3];have f7:(Qt b.length b D).length<=13000:=by rw[a3,XR,a4,P];omega
 generalize Qt b.length b D=S at*;refine xX.mk' (Ba rfl rfl rfl) ?_;refine Loop.by (α:=Nat×List Dt×List (LV)) (λx=>[(4,.d (.one (.ad 3 (Mx v nb (nS b))))),(11,.ptr 58 0),(12,.aL 502 0),(59,.aL 501 0),(60,an S.length),(61,an x.1)]) (λx=>[((14:Id),.none),(16,.none),(58,.map (JO (Ln x.2.1))),(501,.aJ 0 S.length 2 83 (kQ S)),(502,.aJ 0 x.2.2.length 1 42 λi _=>aS (x.2.2.getD i []))])
  (λx=>x.1<=S.length/\x.2.2.length<=x.1/\x.2.2++uh v fc (S.drop x.1) x.2.1=uh v fc S []/\∀y∈x.2.1,∃e∈S,y∈fc e/\∀z∈fc e,z∈x.2.1) (λx=>S.length-x.1)
  (aH.nil 12 502 1 42 (λi _=>aS (([]:List (LV)).getD i [])) rfl rfl (aH.at (0,[],[]) ⟨XS _,XS _,rfl,λy R=>by cases R⟩ (.none (.none (.cons (.map _) (.cons (.bj rfl (λ_ _ _ _=>aC.refl _)) (.cons (.bj rfl (λ_ h=>absurd h (XL _))) .nil))))) (.cS (.cons (.ptr (by intro h;cases h)) (.cH (.cH (.cS (.cS .nil)))))))) (λx T=>?_)
 obtain⟨s,q,c⟩:=x;obtain⟨c2,c3,w,H⟩:=T;simp only at c2 c3 w H;refine ab.mk (λU=>?_) (λU=>?_)
 ·have X:s<S.length:=(by have:=XB U;simp only at this;omega);obtain⟨d,B⟩:∃d,d=bf S (s:Int).toNat:=⟨_,rfl⟩;have a6:d=S[s]:=(by rw[B];simp[List.getD,X]);have A:d∈S:=(by rw[a6];exact YU X);have c4:S.drop s=d::S.drop (s+1):=(by rw[Y6 X,a6]);rw[c4]at w;refine aj.mk (by show 0<=(s:Int)/\(s:Int)<S.length;omega) ?_;by_cases I:d∈q
  ·simp only[uh,XG I]at w;refine Loop.vC 1 ?_;refine xX.mk' (tQ A9 (ks:=Ln q) (u:=(d.1:Int)) (v:=(d.2:Int)) rfl rfl rfl (by rw[B];rfl)) ?_;refine ab.dA (X8 (u3.2 I)) ?_;repeat' first|apply ab.t|apply ab.f
   exact aH.back (x:=(s,q,c)) (s+1,q,c) ⟨by show s+1<=_;omega,by show c.length<=s+1;omega,w,H⟩ (by show S.length-(s+1)<S.length-s;omega) (.none (.none (.cons (.map _) (.cons (.bj rfl (λ_ _ _ _=>aC.refl _)) (.cons (.bj rfl (λ_ _ _ _=>aC.refl _)) .nil))))) (.cS (.cons (.ptr (by intro h;cases h)) (.cH (.cH (.cS (.cons (ao.int (by show IntKind.i64.wrap ((s:Int)+1)=_;rw[hw _];show(s:Int)+1=((s+1:Nat):Int);omega)) .nil))))))
  ·simp only[uh,XD I]at w;have Y:=F.pos d A;have a7:=F.hd d A;have c5:=F.step d A;have c6:=F.last d A;have c7:=F.nd d A;have c8:=F.ok d A;have c9:=F.kept d A;have f8:=F.len d A;have d0:∀x∈fc d,x∉q:=λx T d1=>by obtain⟨e,d2,d3,d4⟩:=H x d1;have:d∉fc e:=λk=>I (d4 d k);exact F.sep e d2 d A this x T d3
   generalize a8:fc d=f at*;have Z:(fY v f).length=f.length:=(by simp[fY]);obtain⟨g,J⟩:∃g:Nat->Dt,g=λi=>if i<f.length then bf f i else d:=⟨_,rfl⟩;have d5:g 0=d:=(by rw[J];simp only;rw[XG Y,a7]);have a0:∀i,i<f.length->g i=bf f i:=λi m=>by rw[J];simp only;rw[XG m]
   have a9:g f.length=d:=(by rw[J];simp only;rw[XD (Zg _)]);have b0:∀i,i<f.length->g (i+1)=nx nb (g i):=λi m=>by rw[a0 i m];by_cases h:i+1<f.length;rw[a0 _ h];exact c5 i h;have:i=f.length-1:=(by omega);rw[show i+1=f.length by omega,a9,this];exact c6.symm
   clear J;refine Loop.by (α:=Nat) (λi=>[(4,.d (.one (.ad 3 (Mx v nb (nS b))))),(11,.ptr 58 0),(12,.aL 502 0),(15,.aL 503 0),(16,.ptr 16 0),(59,.aL 501 0),(60,an S.length),(61,an s)]) (λi=>[((14:Id),.none),(16,.box [i64 ((g i).1:Int),i64 ((g i).2:Int)]),(58,.map (JO (Ln (q++f.take i)))),(501,.aJ 0 S.length 2 83 (kQ S)),(502,.aJ 0 c.length 1 42 λi _=>aS (c.getD i [])),(503,.aJ 0 i 2 50 (vG (fY v f)))]) (λi=>i<=f.length) (λi=>f.length-i)
    (aH.nil 15 503 2 50 (vG (fY v f)) rfl rfl (aH.at 0 (XS _) (.none (.cons (.box (gO.of_eq (by rw[d5,B]))) (.cons (by rw[Z9,YO];exact .map _) (.cons (.bj rfl (λ_ _ _ _=>aC.refl _)) (.cons (.bj rfl (λ_ _ _ _=>aC.refl _)) (.cons (.bj rfl (λ_ h=>absurd h (XL _))) .nil)))))) (.cS (.cons (.ptr (by intro h;cases h)) (.cH (.cH (.cB (.cH (.cS (.cS .nil)))))))))) (λi m=>?_)
   refine xX.mk' (tQ A9 (ks:=Ln (q++f.take i)) (u:=((g i).1:Int)) (v:=((g i).2:Int)) rfl rfl rfl rfl) ?_;by_cases C:i<f.length
   ·have K:=a0 i C;have b1:g i∉q++f.take i:=λh=>by rw[K]at h;rcases XN.1 h with k|k;exact d0 _ (by simp[List.getD,C]) k;have d6:bf f i=f[i]:=(by simp[List.getD,C]);rw[d6]at k;obtain⟨j,t,b2⟩:=ZD k;rw[Yu]at t;rw[List.getElem_take]at b2;have:=(Xj c7).1 b2;omega
    refine ab.cP (X1 (λh=>b1 (u3.1 h))) ?_;obtain⟨f9,d7,d8,d9,e0⟩:=c8 (g i) (by rw[K];simp[List.getD,C]);have e1:f.take (i+1)=f.take i++[g i]:=(by rw[YC,K];simp[List.getD,C]);have e2:Ln (q++f.take (i+1))=Ln (q++f.take i)++[(((g i).1:Int),((g i).2:Int))]:=(by rw[e1,<-Yk];unfold Ln;rw[Ys];rfl);refine xX.mk' (C7 A9 (ks:=Ln (q++f.take i)) (u:=((g i).1:Int)) (v:=((g i).2:Int)) rfl rfl rfl rfl (λh=>b1 (u3.1 h))) ?_;rw[<-e2];refine aj.mk (by decide) ?_;refine aj.o ?_;refine aj.mk (aY) ?_;refine aj.n ?_;refine aj.mk (by decide) ?_;refine aj.mk (by decide) ?_;refine aj.mk (by decide) ?_;refine ah.mk' (ud v nb (nS b) (g i).2 (g i).1 (by omega) d7 d8 d9 e0) ?_;refine aj.n ?_;have e3:((g (i+1)).1:Int)=((g i).2:Int):=(by rw[b0 i C];rfl);have e4:((g (i+1)).2:Int)=((bP (nb (g i).2) (g i).1:Nat):Int):=(by rw[b0 i C];rfl);refine Cut.mk (aH.iC [(4,.d (.one (.ad 3 (Mx v nb (nS b))))),(11,.ptr 58 0),(12,.aL 502 0),(15,.aL 503 0),(59,.aL 501 0),(60,an S.length),(61,an s),(99,.d (.agg [i64 ((g (i+1)).1:Int),i64 ((g (i+1)).2:Int)]))] [((14:Id),.none),(16,.none),(58,.map (JO (Ln (q++f.take (i+1))))),(501,.aJ 0 S.length 2 83 (kQ S)),(502,.aJ 0 c.length 1 42 λi _=>aS (c.getD i [])),(503,.aJ 0 (i+1) 2 50 (vG (fY v f)))]
     (.none (.none (.cons (.map _) (.cons (.bj rfl (λ_ _ _ _=>aC.refl _)) (.cons (.bj rfl (λ_ _ _ _=>aC.refl _)) (.cons (.bj rfl (λa E j t=>?_)) .nil)))))) ?_ ?_)
    ·have b3:gt (fY v f) i=gt v (g i).1:=(by rw[K];simp[fY,List.getD,C]);refine aC.bif (λ_=>aC.refl _) (λh=>?_);obtain rfl:a=i:=(by omega);rw[YM];refine aC.of_eq ?_
     match j,t with
     |0,_=>show i64 (gt v (g a).1).x=i64 (gt (fY v f) a).x;rw[b3]
     |1,_=>show i64 (gt v (g a).1).y=i64 (gt (fY v f) a).y;rw[b3]
    ·exact .cS (.cons (.ptr (by intro h;cases h)) (.cH (.cH (.cH (.cS (.cS (.cons (.data (dV.of_eq (by rw[e3,e4]))) .nil)))))))
    ·exact aH.back (x:=i) (i+1) (by show i+1<=_;omega) (by omega) (.none (.cX (.cons (.map _) (.cons (.bj rfl (λ_ _ _ _=>aC.refl _)) (.cons (.bj rfl (λ_ _ _ _=>aC.refl _)) (.cons (.bj rfl (λ_ _ _ _=>aC.refl _)) .nil)))))) (.cS (.cons (.ptr (by intro h;cases h)) (.cH (.cH (.cB (.cH (.cS (.cS .nil))))))))
   ·have e5:i=f.length:=(by omega);subst e5;have e6:d∈f:=(by have:bf f 0=f[0]:=(by simp[List.getD,Y]);rw[<-a7,this];exact YU Y);have e7:g f.length∈q++f.take f.length:=(by rw[a9,YT];exact XY _ e6);refine ab.dA (X8 (u3.2 e7)) ?_;refine ab.dA (X8 (by omega)) ?_;refine ah.mk' ((DN (fY v f) (by omega) (by rw[Z];exact c9)).le (.cons (.one (aC.qo Z.symm (λ_ _ _ _=>aC.refl _))) .nil)) ?_;refine aj.mk (aY (by show c.length+1<=_;omega)) ?_;rw[Z];refine aH.back (x:=(s,q,c)) (s+1,q++f,c++[aO (et (fY v f) f.length)]) ⟨by show s+1<=_;omega,by show(c++[_]).length<=s+1;rw[XR];show c.length+1<=s+1;omega,by show(c++[_])++_=_;rw[Yk];exact w,λy R=>?_⟩ (by show S.length-(s+1)<S.length-s;omega)
     (.none (.none (.cons (by rw[YT];exact .map _) (.cons (.bj rfl (λ_ _ _ _=>aC.refl _)) (.cons (.bj (by rw[XR];rfl) (λa E j t=>?_)) .nil))))) (.cS (.cons (.ptr (by intro h;cases h)) (.cH (.cH (.cS (.cons (ao.int (by show IntKind.i64.wrap ((s:Int)+1)=_;rw[hw _];show(s:Int)+1=((s+1:Nat):Int);omega)) .nil))))))
    ·rcases XN.1 R with k|k;obtain⟨e,e8,e9,f0⟩:=H y k;exact⟨e,e8,e9,λz M=>X0 _ (f0 z M)⟩;exact⟨d,A,by rw[a8];exact k,λz M=>XY _ (by rw[a8]at M;exact M)⟩
    ·obtain rfl:j=0:=(by omega);refine aC.bif (λh=>aC.of_eq ?_) (λh=>?_);show aS (c.getD a [])=aS ((c++[_]).getD a []);rw[List.getD,List.getD,YW h];have h:c.length<=a:=h;have E:a<c.length+1:=E;obtain rfl:a=c.length:=(by omega);refine aC.of_eq ?_;show[aS (aO (et (fY v f) f.length))].getD ((c.length-c.length)*1+0) _=aS ((c++[_]).getD c.length []);rw[YM,List.getD,List.getD,YS (XP _),YM];rfl
 ·have f1:s=S.length:=(by have:=XA U;simp only at this;omega);subst f1;rw[aaq]at w;have w:c=uh v fc S []:=(by rw[<-w];exact(YO _).symm);have b4:=λr f2=>vH v fc S [] (λd B=>F.len d B) r f2;rw[<-w]at b4|-;have b5:∀i,i<c.length->(c.getD i []).length<=40000:=λi m=>Yf (b4 _ (by simp[List.getD,m])) (by decide);refine xX.mk' (sr (cv:= .s (.fn 49 0 λ_=> .v Go.undef)) (ks:=[]) (cf:=λi j=>eY (c.getD i []) (c.getD j [])) rfl rfl rfl Qu rfl (enters_of Tryz.func48 rfl) rfl rfl rfl rfl (.s _) (by simp) (zx c.length λi=>c.getD i []) (by show c.length<=_;omega) (λi j m t=>Kg _ _ (b5 i m) (b5 j t))) ?_;refine Fin.eG (.cons (.one (aC.qo (by rw[Kv]) (λi m j t=>aC.of_eq ?_))) (.cR .nil));have m:i<c.length:=m;show aS (c.getD _ [])=aS ((IG c).getD i []);simp[IG,List.getD,m]
theorem lA (l:LV) (i:Nat) (b:0<l.length:=by omega) (hi:i<=40000:=by omega) (c:l.length<=40000:=by omega):DP 109 [.one (aS l),.one (i64 i)] (.d (vD (bw l i))):=by
 refine dg Tryz.func109 [] ?_;have e:=qB i 1;have a:=kY (i+1) l.length;refine aj.o ?_;refine aj.mk (by rw[show(1:Int)=(1:Nat) from rfl,e];exact a) ?_;refine Fin.eq ?_;show TV.d (vD (gt l (Int.toNat ((IntKind.i64.wrap ((i:Int)+(1:Nat))).tmod l.length))))=_;rw[e,kX];rfl
theorem qC (d:V2):DP 176 [vD d] (aD (bn d)):=by
 refine dg Tryz.func176 [] ?_;have f:bn d=true↔0<d.y\/(d.y=0/\0<d.x):=by unfold bn;rw[XU];exact ZC
 have g:(0<d.y\/(d.y=0/\0<d.x))->bn d=true:=f.2;have i:¬(0<d.y\/(d.y=0/\0<d.x))->bn d=false:=λh=>by
  cases l:bn d with
  |false=>rfl
  |true=>exact absurd (f.1 l) h
 refine ab.mk (λa=>?_) (λa=>?_)
 ·have j:0<d.y:=XB a;repeat' first|refine ab.dA a ?_|refine ab.cP a ?_|refine ab.t ?_|refine ab.f ?_|fail
  exact Fin.bool (g (.inl j)).symm
 ·have j:¬0<d.y:=XA a;repeat' first|refine ab.dA a ?_|refine ab.cP a ?_|refine ab.t ?_|refine ab.f ?_|fail
  refine ab.mk (λb=>?_) (λb=>?_)
  ·have k:d.y=0:=(by simpa using b);repeat' first|refine ab.dA b ?_|refine ab.cP b ?_|refine ab.dA a ?_|refine ab.cP a ?_|refine ab.t ?_|refine ab.f ?_|fail
   refine Fin.bool ?_;by_cases c:0<d.x;rw[g (.inr ⟨k,c⟩)];exact X8 c;rw[i (by omega)];exact X1 c
  ·have k:¬d.y=0:=(by simpa using b);repeat' first|refine ab.dA b ?_|refine ab.cP b ?_|refine ab.dA a ?_|refine ab.cP a ?_|refine ab.t ?_|refine ab.f ?_|fail
   exact Fin.bool (i (by omega)).symm
def CT (l:LV):Bool:=bJ l.length λi=>aP (gt l i) 8000
theorem O8 (v:V2):DP 215 [vD v] (aD (!aP v 8000)):=by
 refine dg Tryz.func215 [] ?_;refine ah.bool (cA v 8000) (λb a=>?_);exact Fin.bool (by rw[a])
theorem yX (l:LV) (a:l.length<=40000:=by omega):DP 175 [.one (aS l)] (aD (CT l)):=by
 refine dg Tryz.func175 [] ?_;refine ah.mk' (Ig l 215 0 (λ_=> .v Go.undef) (λk=>!aP (gt l k) 8000) a (λk b=>O8 (gt l k))) ?_;exact Fin.bool (by unfold CT;simp)
def Od (l:LV):Nat->Nat
 |0=>0
 |k+1=>Od l k+if(!bn (cT (bw l k) (gt l k))&&bn (cT (bw l (k+1)) (bw l k)))=true then 1 else 0
theorem Ki (l:LV):∀k,Od l k<=k
 |0=>XP 0
 |k+1=>by have:=Ki l k;simp only[Od];split<;>omega
structure MV (l:LV):Prop where
 three:3<=l.length
 C0:l.length<=160
 fE:CT l=true
 left:∀i,i<l.length->0<fI (cT (bw l i) (gt l i)) (cT (bw l (i+1)) (bw l i))
 one:Od l l.length=1
theorem mm {l:LV} (h:MV l):DP 104 [.one (aS l)] (aD true):=by
 refine dg Tryz.func104 [] ?_;have y:=h.three;have z:=h.C0;have g:decide ((l.length:Int)<3)=false:=dF;have j:decide ((l.length:Int)>160)=false:=dF;repeat' first|refine ab.cP g ?_|refine ab.cP j ?_|refine ab.t ?_|refine ab.f ?_|fail
 refine ah.mk' (kM.vt (yX l) true h.fE) ?_;repeat' first|refine ab.cP g ?_|refine ab.cP j ?_|refine ab.t ?_|refine ab.f ?_|fail
 refine Loop.by (α:=Nat) (λi=>[(0,.d (.one (aS l))),(3,an (Od l i:Nat)),(21,.d (.one (aS l))),(22,an l.length),(23,an i)]) (λ_=>[((5:Id),.none),(6,.none),(7,.none)]) (λi=>i<=l.length) (λi=>l.length-i)
  (aH.at 0 (XS _) (.none (.none (.none .nil))) (.cS (.cS (.cS (.cS (.cS .nil)))))) (λi A=>?_)
 refine ab.mk (λf=>?_) (λf=>?_)
 ·have o:i<l.length:=(by have:=XB f;omega);have B:=Ki l i;refine aj.o ?_;refine ah.mk' (lA l i) ?_;refine ah.v (bY (bw l i) (gt l i)) (λa k=>?_);refine ah.mk' ((lA l (i+1)).le (.cR (.cons (dV.of_eq (by rw[hw _];rfl)) .nil))) ?_;refine ah.mk' (lA l i) ?_;refine ah.v (bY (bw l (i+1)) (bw l i)) (λb m=>?_);refine aj.n ?_;have p:=h.left i o;have c:Od l (i+1)=Od l i+if(!bn a&&bn b)=true then 1 else 0:=(by rw[k,m];rfl);rw[<-k,<-m]at p;refine ah.int (dW a b) (λx C=>?_);refine ab.cP (dF) ?_;refine ah.bool (qC a) (λu q=>?_);rw[<-q]at c;cases u with
  |true=>
   repeat' first|apply ab.t|apply ab.f
   exact aH.back (x:=i) (i+1) (by show i+1<=_;omega) (by omega) (.none (.none (.none .nil))) (.cS (.cons (ao.int (by rw[c];rfl)) (.cS (.cS (.cons (ao.int (by rw[hw _];omega)) .nil)))))
  |false=>
   repeat' first|apply ab.t|apply ab.f
   refine ah.bool (qC b) (λw r=>?_);rw[<-r]at c;cases w with
   |true=>
    repeat' first|apply ab.t|apply ab.f
    exact aH.back (x:=i) (i+1) (by show i+1<=_;omega) (by omega) (.none (.none (.none .nil))) (.cS (.cons (ao.int (by rw[c,hw _];simp)) (.cS (.cS (.cons (ao.int (by rw[hw _];omega)) .nil)))))
   |false=>
    repeat' first|apply ab.t|apply ab.f
    exact aH.back (x:=i) (i+1) (by show i+1<=_;omega) (by omega) (.none (.none (.none .nil))) (.cS (.cons (ao.int (by rw[c];rfl)) (.cS (.cS (.cons (ao.int (by rw[hw _];omega)) .nil)))))
 ·have t:i=l.length:=(by have:=XA f;omega);subst t;exact Fin.bool (by rw[h.one];rfl)
theorem qF (l:LV) (c:l.length<=40000:=by omega) (b:0<l.length:=by omega):DP 106 [.one (aS l)] (.d (.one (aS (aO l)))):=by
 refine dg Tryz.func106 [] ?_;have k:eR l<l.length:=w4 l _ b;refine ah.v (wV l c b) (λv g=>?_);subst g;refine ah.int (sZ l c b) (λn h=>?_);subst h;refine aj.o ?_;refine aj.o ?_;refine ah.mk' (xz (l.length-eR l) (eR l-0) _ _ _ (by omega) (by omega) rfl rfl) ?_;refine aj.n ?_;refine Fin.one ?_;refine aC.qo (by simp only[aO,eh];omega) (λi m j o=>aC.of_eq ?_);have f:i<l.length:=by omega
 by_cases a:i<l.length-eR l;rw[iI a,ZG];refine kW ?_ j;rw[aO,oT _ _ _ (by omega) f,XG a];rfl;rw[hM a,ZM];refine kW ?_ j;rw[aO,oT _ _ _ (by omega) f,XD a,X6]
def jO (l:LV) (k:Nat):LV:=(List.range k).map λi=>cT (bw l i) (gt l i)
theorem zr (l:LV) (k:Nat):jO l (k+1)=jO l k++[cT (bw l k) (gt l k)]:=by
 unfold jO;rw[ZU,Ys];rfl
theorem ou (l:LV) (k:Nat):(jO l k).length=k:=by simp[jO]
theorem y3 (l:LV) (m:l.length<=10000:=by omega):oC Tryz.prog 178 [.d (.one (aS l))] [] (.aL (.n 3000) 0) [] (.aJ 0 (jO l l.length).length 2 50 (vG (jO l l.length))):=by
 refine dC kL mixed Tryz.func178 rfl rfl [] (XJ rfl) (XJ rfl) (gQ rfl) ?_;refine Loop.by (α:=Nat) (λi=>[(0,.d (.one (aS l))),(3,.aL 501 0),(6,.d (.one (aS l))),(7,an l.length),(8,an i)]) (λi=>[((5:Id),.none),(501,.aJ 0 (jO l i).length 2 50 (vG (jO l i)))]) (λi=>i<=l.length) (λi=>l.length-i)
  (aH.nil 3 501 2 50 (vG []) rfl rfl (aH.at 0 (XS _) (.none (.cons (.bj rfl (λi c=>absurd c (XL i))) .nil)) (.cS (.cH (.cS (.cS (.cS .nil)))))))
  (λi c=>?_)
 refine ab.mk (λb=>?_) (λb=>?_);have o:i<l.length:=(by have:=XB b;omega);refine aj.o ?_;refine ah.mk' (lA l i) ?_;refine ah.mk' (bY (bw l i) (gt l i)) ?_;refine aj.mk (aY (by rw[ou];omega)) ?_;refine aj.n ?_;exact aH.back (x:=i) (i+1) (by show i+1<=_;omega) (by omega) (.none (.cons (.bj (by rw[zr,XR];rfl) (λa f j g=>by rw[zr];exact nq _ (cT (bw l i) (gt l i)) a j f g)) .nil)) (.cS (.cH (.cS (.cS (.cons (ao.int (by rw[hw _];omega)) .nil)))));have k:i=l.length:=(by have:=XA b;omega);subst k;exact lS.mk ⟨.n 501,.one (.aL rfl rfl rfl),.nil _,.inr ⟨.aJ (λh=>absurd h (by decide)) (λ_ _ _ _=>aC.refl _),rfl⟩⟩
def RT (l:LV) (p:V2):Nat->Int
 |0=>2
 |k+1=>if cQ (gt l k) (bw l k) p=0 then 1 else RT l p k
def O4 (l:LV) (p:V2):Int:=if aP p 8000=false then 0 else if(bJ l.length λi=>!decide (cQ (gt l i) (bw l i) p= -1))=false then 0 else RT l p l.length
theorem Fx {l:LV} (h:MV l) (p:V2):DP 58 [.one (aS l),vD p] (an (O4 l p)):=by
 refine dg Tryz.func58 [] ?_;have F:=h.three;have G:=h.C0;refine ah.bool (cA p 8000) (λb A=>?_);unfold O4;rw[<-A];refine ab.mk (λf=>?_) (λf=>?_);have B:b=false:=(by simpa using f);exact Fin.int (by rw[XG B]);have C:¬b=false:=by have:b=true:=(by simpa using f);rw[this];decide
 rw[XD C];have u:∀i,cQ (gt l i) (bw l i) p=cQ (gt l i) (bw l i) p:=λ_=>rfl;refine Loop.by (α:=Nat) (λi=>[(0,.d (.one (aS l))),(3,.ptr 3 0),(5,an (RT l p i)),(11,.d (.one (aS l))),(12,an l.length),(13,an i)]) (λ_=>[(3,.box (vL p)),((7:Id),.none)]) (λi=>i<=l.length/\∀j,j<i->(!decide (cQ (gt l j) (bw l j) p= -1))=true) (λi=>l.length-i)
  (aH.at 0 ⟨XS _,λ_ h=>absurd h (XL _)⟩ (.cX (.none .nil)) (.cS (.cB (.cS (.cS (.cS (.cS .nil))))))) (λi w=>?_)
 obtain⟨w,y⟩:=w;refine ab.mk (λg=>?_) (λg=>?_)
 ·have D:i<l.length:=(by have:=XB g;omega);refine aj.o ?_;refine ah.mk' (lA l i) ?_;have a:RT l p (i+1)=if cQ (gt l i) (bw l i) p=0 then 1 else RT l p i:=rfl;have z:cQ (gt l i) (bw l i) p= -1->(bJ l.length λi=>!decide (cQ (gt l i) (bw l i) p= -1))=false:=λe=>bS i D (by rw[X8 e];rfl);have k:¬cQ (gt l i) (bw l i) p= -1->∀j,j<i+1->(!decide (cQ (gt l j) (bw l j) p= -1))=true:=λe j H=>by by_cases q:j=i;rw[q,X1 e];rfl;exact y j (by omega)
  refine ah.int (hN (gt l i) (bw l i) p) (λt u=>?_);refine aj.n ?_;rw[<-u]at a z k;refine ab.mk (λm=>?_) (λm=>?_);have c:t= -1:=(by simpa using m);exact Fin.int (by rw[XG (z c)]);have c:¬t= -1:=(by simpa using m);refine ab.mk (λo=>?_) (λo=>?_);have r:t=0:=(by simpa using o);rw[XG r]at a;exact aH.back (x:=i) (i+1) ⟨by omega,k c⟩ (by omega) (.cX (.none .nil)) (.cS (.cB (.cons (ao.int a.symm) (.cS (.cS (.cons (ao.int (by rw[hw _];omega)) .nil))))));have r:¬t=0:=(by simpa using o);rw[XD r]at a;exact aH.back (x:=i) (i+1) ⟨by omega,k c⟩ (by omega) (.cX (.none .nil)) (.cS (.cB (.cons (ao.int a.symm) (.cS (.cS (.cons (ao.int (by rw[hw _];omega)) .nil))))))
 ·have E:i=l.length:=(by have:=XA g;omega);subst E;refine ah.mk' (mm h) ?_;repeat' first|apply ab.t|apply ab.f
  exact Fin.int (by rw[XD (by rw[aE.2 y];decide)])
def Jb (d:V2):V2:=⟨cp (0-d.x),cp (0-d.y)⟩
theorem JW (d:V2):DP 105 [vD d] (.d (vD (Jb d))):=by
 refine dg Tryz.func105 [] ?_;repeat' first|refine aj.n ?_|fail
 exact Fin.rfl'
theorem LM {l:LV} (h:MV l):DP 54 [.one (aS l)] (.eG [.one (aS (aO (l.map Jb))),.one (i64 0)]):=by
 refine dg Tryz.func54 [] ?_;have p:=h.three;have q:=h.C0;refine ah.mk' (mm h) ?_;repeat' first|apply ab.t|apply ab.f
 refine Loop.by (α:=Nat) (λi=>[(4,.aL 501 0),(10,.d (.one (aS l))),(11,an l.length),(12,an i)]) (λi=>[((6:Id),.none),(501,.aJ 0 ((l.take i).map Jb).length 2 50 (vG ((l.take i).map Jb)))]) (λi=>i<=l.length) (λi=>l.length-i)
  (aH.nil 4 501 2 50 (vG []) rfl rfl (aH.at 0 (XS _) (.none (.cons (.bj rfl (λi c=>absurd c (XL i))) .nil)) (.cH (.cS (.cS (.cS .nil))))))
  (λi c=>?_)
 refine ab.mk (λb=>?_) (λb=>?_);have g:i<l.length:=(by have:=XB b;omega);have f:(l.take (i+1)).map Jb=(l.take i).map Jb++[Jb (gt l i)]:=(by rw[YC,Ys];simp[List.getD,g]);refine aj.o ?_;refine ah.mk' (JW (gt l i)) ?_;refine aj.mk (aY (by rw[X9,Yu];omega)) ?_;exact aH.back (x:=i) (i+1) (by show i+1<=_;omega) (by omega) (.none (.cons (.bj (by rw[f,XR];rfl) (λa k j m=>by rw[f];exact nq _ (Jb (gt l i)) a j k m)) .nil)) (.cH (.cS (.cS (.cons (ao.int (by rw[hw _];omega)) .nil))));have o:i=l.length:=(by have:=XA b;omega);subst o;rw[YT];have r:(l.map Jb).length=l.length:=X9 ..;refine ah.mk' (qF (l.map Jb)) ?_;exact Fin.rfl'
theorem GC (d:V2):DP 179 [vD d] (an (Dr d)):=by
 refine dg Tryz.func179 [] ?_;refine ah.bool (qC d) (λu a=>?_);unfold Dr;rw[<-a];cases u with
 |true=>
  repeat' first|apply ab.t|apply ab.f
  exact Fin.int (by rw[XG rfl])
 |false=>
  repeat' first|apply ab.t|apply ab.f
  exact Fin.int (by rw[XD (by decide)])
def xD (x y:V2):Int:=SM (yo (Dr x) (Dr y)) (yo 0 (fI x y))
abbrev PZ:Nat->SV:=λj=>[SV.ad 1 λj=>[SV.fn 179 0 λ_=> .v Go.undef].getD j (.v Go.undef)].getD j (.v Go.undef)
theorem uQ (x y:V2):DP 181 [vD x,vD y,.one (PZ 0)] (an (xD x y)):=by
 refine dg Tryz.func181 [] ?_;refine ah.int (GC x) (λa f=>?_);refine ah.int (GC y) (λb h=>?_);refine ah.int (rR a b) (λc i=>?_);refine ah.int (dW x y) (λd j=>?_);refine ah.int (rR 0 d) (λe k=>?_);refine ah.int (Lt c e _ rfl rfl) (λg l=>?_);refine aj.n ?_;exact Fin.int (by unfold xD;rw[l,i,k,f,h,j])
def Is (a:LV->LV):Prop:=(∀l,(a l).length=l.length)/\∀l:LV,l.length<=1000->oC Tryz.prog 180 [.aL (.n 2000) 1,.d (.one (.fn 181 1 PZ))] [.aJ 1 l.length 2 50 (vG l)] (.eG []) [.aJ 1 l.length 2 50 (vG (a l))] .none
def D6 (p:V2) (S:LV):Nat->V2
 |0=>p
 |k+1=>kc (D6 p S k) (gt S k)
def Es (p:V2) (S:LV):Nat->LV
 |0=>[]
 |k+1=>if k=0\/fI (gt S (k-1)) (gt S k)≠0 then Es p S k++[D6 p S k]else Es p S k
theorem uP (p:V2) (S:LV):∀k,(Es p S k).length<=k
 |0=>XP 0
 |k+1=>by have:=uP p S k;simp only[Es];split;simp;omega;omega
def GB (c:LV->LV) (a b:LV):LV:=c (jO (aO a) (aO a).length++jO (aO b) (aO b).length)
def x7 (c:LV->LV) (a b:LV):LV:=Es (kc (gt (aO a) 0) (gt (aO b) 0)) (GB c a b) (GB c a b).length
theorem iR {m:Id->Mem} {c:Id->Id} {g n a k:Nat} {e:TypeId} {get b:Nat->Nat->SV} (f:n=a) (h:∀i,i<n->∀j,j<k->aC (get i j) (b i j)):kd m c (.aJ g n k e get) (.aJ 1 a k e b):=by
 subst f;exact .aJ h
structure zO (ss:LV->LV) (a b:LV):Prop where
 fE:CT (x7 ss a b)=true
 C0:(x7 ss a b).length<=160
theorem LG {m:LV->LV} (w:Is m) {a b:LV} (o:MV a) (p:MV b) (y:zO m a b):DP 107 [.one (aS a),.one (aS b)] (.eG [.one (aS (x7 m a b)),.one (i64 0)]):=by
 refine ic kL mixed Tryz.func107 rfl rfl [178+2000000,180+2000000] (XJ rfl) ?_;have J:=o.three;have K:=o.C0;have M:=p.three;have N:=p.C0;refine ah.mk' (mm o) ?_;repeat' first|apply ab.t|apply ab.f
 refine ah.mk' (mm p) ?_;repeat' first|apply ab.t|apply ab.f
 refine ah.mk' (qF a) ?_;refine ah.mk' (qF b) ?_;have O:(aO a).length=a.length:=by rw[aO,eh]
 have P:(aO b).length=b.length:=by rw[aO,eh]
 have C:=y.fE;have Q:=y.C0;unfold x7 GB at*;generalize aO a=A at*;generalize aO b=B at*;refine eu.mk' [] (y3 A) ⟨.nil,.cD .nil,rfl,rfl,λ_=>rfl⟩ ?_;refine eu.mk' [] (y3 B) ⟨.nil,.cD .nil,rfl,rfl,λ_=>rfl⟩ ?_;have R:=ou A A.length;have T:=ou B B.length;refine aj.mk (aY) ?_;have D:(jO A A.length++jO B B.length).length=(jO A A.length).length+(jO B B.length).length:=XR;refine eu.mk' [25] (w.2 (jO A A.length++jO B B.length) (by omega)) ⟨.cons (iR D.symm (λi E j l=>se)) .nil,.cH (.cD .nil),rfl,rfl,λh=>absurd rfl h⟩ ?_;have z:=w.1 (jO A A.length++jO B B.length);generalize m (jO A A.length++jO B B.length)=S at*;have U:S.length<=320:=by omega
 generalize F:kc (gt A 0) (gt B 0)=p0 at*;refine aj.o ?_;refine aj.o ?_;refine ah.mk' ((kV (gt A 0) (gt B 0)).eq (by rw[F])) ?_;refine aj.n ?_;refine Loop.by (α:=Nat) (λi=>[(6,.aL 25 0),(8,.ptr 8 0),(9,.aL 501 0),(39,.aL 25 0),(40,an S.length),(41,an i)]) (λi=>[(8,.box (vL (D6 p0 S i))),((11:Id),.none),(25,.aJ 0 S.length 2 50 (vG S)),(501,.aJ 0 (Es p0 S i).length 2 50 (vG (Es p0 S i)))]) (λi=>i<=S.length) (λi=>S.length-i)
  (aH.nil 9 501 2 50 (vG []) rfl rfl (aH.at 0 (XS _) (.cX (.none (.cons (.bj z.symm (λ_ _ _ _=>aC.refl _)) (.cons (.bj rfl (λ_ h=>absurd h (XL _))) .nil)))) (.cH (.cB (.cH (.cH (.cons (ao.int (by rw[z])) (.cS .nil)))))))) (λi E=>?_)
 refine ab.mk (λq=>?_) (λq=>?_)
 ·have V:i<S.length:=(by have:=XB q;omega);have G:=uP p0 S i;refine aj.o ?_;refine ab.mk (λc=>?_) (λc=>?_)
  ·have r:i=0:=(by have:(i:Int)=0:=(by simpa using c);omega);repeat' first|refine ab.dA c ?_|refine ab.cP c ?_|refine ab.t ?_|refine ab.f ?_|fail
   refine aj.n ?_;repeat' first|refine ab.dA c ?_|refine ab.cP c ?_|refine ab.t ?_|refine ab.f ?_|fail
   have f:Es p0 S (i+1)=Es p0 S i++[D6 p0 S i]:=XG (.inl r);refine aj.mk (aY) ?_;refine ah.mk' (kV (D6 p0 S i) (gt S i)) ?_;exact aH.back (x:=i) (i+1) (by show i+1<=_;omega) (by omega) (.cX (.none (.cons (.bj rfl (λ_ _ _ _=>aC.refl _)) (.cons (.bj (by rw[f,XR];rfl) (λx g j l=>by rw[f];exact nq _ (D6 p0 S i) x j g l)) .nil)))) (.cH (.cB (.cH (.cH (.cS (.cons (ao.int (by rw[hw _];omega)) .nil))))))
  ·have r:¬i=0:=(by have:¬(i:Int)=0:=(by simpa using c);omega);have H:IntKind.i64.wrap ((i:Int)-1)=((i-1:Nat):Int):=(by rw[hw _];omega);repeat' first|refine ab.dA c ?_|refine ab.cP c ?_|refine ab.t ?_|refine ab.f ?_|fail
   refine aj.o ?_;repeat' first|refine ab.dA c ?_|refine ab.cP c ?_|refine ab.t ?_|refine ab.f ?_|fail
   refine ah.int ((dW (gt S (i-1)) (gt S i)).le (.cons (dV.of_eq (by rw[H];rfl)) (.cR .nil))) (λx g=>?_);repeat' first|refine ab.dA c ?_|refine ab.cP c ?_|refine ab.t ?_|refine ab.f ?_|fail
   refine aj.n ?_;refine ab.mk (λt=>?_) (λt=>?_);have u:x≠0:=(by simpa[bne]using t);have f:Es p0 S (i+1)=Es p0 S i++[D6 p0 S i]:=XG (.inr (by rw[<-g];exact u));refine aj.mk (aY) ?_;refine ah.mk' (kV (D6 p0 S i) (gt S i)) ?_;exact aH.back (x:=i) (i+1) (by show i+1<=_;omega) (by omega) (.cX (.none (.cons (.bj rfl (λ_ _ _ _=>aC.refl _)) (.cons (.bj (by rw[f,XR];rfl) (λx g j l=>by rw[f];exact nq _ (D6 p0 S i) x j g l)) .nil)))) (.cH (.cB (.cH (.cH (.cS (.cons (ao.int (by rw[hw _];omega)) .nil))))));have u:x=0:=(by simpa[bne]using t);have f:Es p0 S (i+1)=Es p0 S i:=XD (λh=>h.elim r (λk=>by rw[<-g]at k;exact k u));refine ah.mk' (kV (D6 p0 S i) (gt S i)) ?_;exact aH.back (x:=i) (i+1) (by show i+1<=_;omega) (by omega) (.cX (.none (.cons (.bj rfl (λ_ _ _ _=>aC.refl _)) (.cons (.bj (by rw[f]) (λx g j l=>by rw[f];exact aC.refl _)) .nil)))) (.cH (.cB (.cH (.cH (.cS (.cons (ao.int (by rw[hw _];omega)) .nil))))))
 ·have I:i=S.length:=(by have:=XA q;omega);subst I;have G:=uP p0 S S.length;refine ah.mk' (kM.vt (yX (Es p0 S S.length)) true C) ?_;repeat' first|apply ab.t|apply ab.f
  refine ab.cP (dF) ?_;exact Fin.eG (.cR (.cR .nil))
theorem HJ (L:List (LV)) (r:LV) (a:Nat) (b:a<L.length+1):aC (bif Nat.blt a L.length then aS (L.getD a [])else[aS r].getD ((a-L.length)*1+0) (.v Go.undef)) (aS ((L++[r]).getD a [])):=by
 refine aC.bif (λh=>aC.of_eq ?_) (λh=>aC.of_eq ?_);rw[List.getD,List.getD,YW h];obtain rfl:a=L.length:=(by omega);rw[YM,List.getD,List.getD,YS (XP _),YM];rfl
def hC (c:LV->LV) (A B:List (LV)):List (LV):=A.flatMap λa=>B.map λb=>x7 c a b
theorem xN (b:LV->LV) (A B:List (LV)):(hC b A B).length=A.length*B.length:=by
 unfold hC;induction A with
 |nil=>simp
 |cons a A c=>simp only[WR,XR,X9,c,XZ,aah];omega
theorem LY {c:LV->LV} (C:Is c) {A B:List (LV)} (D:∀a∈A,MV a) (E:∀b∈B,MV b) (F:∀a∈A,∀b∈B,zO c a b) (K:A.length<=10000) (M:B.length<=10000) (N:A.length*B.length<=10000):
  DP 55 [.one (hS A),.one (hS B)] (.eG [.one (hS (hC c A B)),.one (i64 0)]):=by
 refine dg Tryz.func55 [] ?_;refine Loop.by (α:=Nat) (λi=>[(1,.d (.one (hS B))),(6,.aL 501 0),(13,.d (.one (hS A))),(14,an A.length),(15,an i)]) (λi=>[(501,.aJ 0 (hC c (A.take i) B).length 1 42 λk _=>aS ((hC c (A.take i) B).getD k []))]) (λi=>i<=A.length) (λi=>A.length-i)
  (aH.nil 6 501 1 42 (λk _=>aS (([]:List (LV)).getD k [])) rfl rfl (aH.at 0 (XS _) (.cons (.bj rfl (λi f=>absurd f (XL i))) .nil) (.cS (.cH (.cS (.cS (.cS .nil)))))))
  (λi f=>?_)
 refine ab.mk (λg=>?_) (λg=>?_)
 ·have p:i<A.length:=(by have:=XB g;omega);obtain⟨a,h⟩:∃a,a=A.getD (i:Int).toNat []:=⟨_,rfl⟩;have r:a∈A:=(by rw[h];simp[List.getD,p]);have G:A.take (i+1)=A.take i++[a]:=(by rw[YC,h];simp[List.getD,p]);have t:hC c (A.take (i+1)) B=hC c (A.take i) B++B.map λb=>x7 c a b:=(by unfold hC;rw[G,W5];simp);have H:=xN c (A.take i) B;rw[Yu,Xp f]at H;have O:i*B.length+B.length<=10000:=(by have:=XX B.length (show i+1<=A.length by omega);rw[aah]at this;omega);refine aj.o ?_;refine Loop.by (α:=Nat) (λk=>[(1,.d (.one (hS B))),(6,.aL 501 0),(8,.d (.one (aS a))),(13,.d (.one (hS A))),(14,an A.length),(15,an i),(19,.d (.one (hS B))),(20,an B.length),(21,an k)])
   (λk=>[(501,.aJ 0 (hC c (A.take i) B++(B.take k).map λb=>x7 c a b).length 1 42 λq _=>aS ((hC c (A.take i) B++(B.take k).map λb=>x7 c a b).getD q []))]) (λk=>k<=B.length) (λk=>B.length-k)
   (aH.at 0 (XS _) (.cons (.bj (by simp) (λq l j u=>by rw[Z9,W7,YO];exact aC.refl _)) .nil) (.cS (.cH (.cons (.data (dV.of_eq (by rw[h]))) (.cS (.cS (.cS (.cS (.cS (.cS .nil)))))))))) (λk P=>?_)
  refine ab.mk (λm=>?_) (λm=>?_)
  ·have w:k<B.length:=(by have:=XB m;omega);obtain⟨b,o⟩:∃b,b=B.getD (k:Int).toNat []:=⟨_,rfl⟩;have y:b∈B:=(by rw[o];simp[List.getD,w]);have z:(B.take (k+1)).map (λb=>x7 c a b)=(B.take k).map (λb=>x7 c a b)++[x7 c a b]:=(by rw[YC,Ys,o];simp[List.getD,w]);refine aj.o ?_;refine ah.mk' ((LG C (D a r) (E b y) (F a r b y)).le (.cR (.cons (dV.of_eq (by rw[o])) .nil))) ?_;repeat' first|apply ab.t|apply ab.f
   refine aj.mk (aY (by rw[XR,X9,Yu];omega)) ?_;refine aH.back (x:=k) (k+1) (by show k+1<=_;omega) (by omega) (.cons (.bj (by rw[z,<-Yk];exact(XR (bs:=[x7 c a b])).symm) (λq l j u=>?_)) .nil) (.cS (.cH (.cS (.cS (.cS (.cS (.cS (.cS (.cons (ao.int (by rw[hw _];omega)) .nil)))))))));obtain rfl:j=0:=(by omega);rw[z,<-Yk];exact HJ _ _ q l
  ·have I:k=B.length:=(by have:=XA m;omega);subst I;exact aH.back (x:=i) (i+1) (by show i+1<=_;omega) (by omega) (.cons (.bj (by rw[t,YT]) (λq l j u=>by rw[t,YT];exact aC.refl _)) .nil) (.cS (.cH (.cS (.cS (.cons (ao.int (by rw[hw _];omega)) .nil)))))
 ·have J:i=A.length:=(by have:=XA g;omega);subst J;rw[YT];exact Fin.eG (.cR (.cR .nil))
def mX (r:LV):LV:=aO (r.map Jb)
theorem OW {g:LV->LV} (r:Is g) {A B:List (LV)} (t:∀a∈A,MV a) (u:∀b∈B,MV b) (w:∀b∈B,MV (mX b)) (y:∀a∈A,∀b∈B,zO g a (mX b)) (z:A.length<=10000) (J:B.length<=10000) (C:A.length*B.length<=10000):
  DP 23 [.one (hS A),.one (hS B)] (.eG [.one (hS (hC g A (B.map mX))),.one (i64 0)]):=by
 refine dg Tryz.func23 [] ?_;have D:IntKind.i64.wrap ((A.length:Int)*(B.length:Int))=((A.length*B.length:Nat):Int):=by rw[<-Xs,hw _]
 refine ab.cP (X1 (by rw[D];omega)) ?_;refine Loop.by (α:=Nat) (λi=>[(0,.d (.one (hS A))),(6,.aL 501 0),(19,.d (.one (hS B))),(20,an B.length),(21,an i)]) (λi=>[(501,.aJ 0 ((B.take i).map mX).length 1 42 λk _=>aS (((B.take i).map mX).getD k []))]) (λi=>i<=B.length) (λi=>B.length-i)
  (aH.nil 6 501 1 42 (λk _=>aS (([]:List (LV)).getD k [])) rfl rfl (aH.at 0 (XS _) (.cons (.bj rfl (λi m=>absurd m (XL i))) .nil) (.cS (.cH (.cS (.cS (.cS .nil)))))))
  (λi m=>?_)
 refine ab.mk (λh=>?_) (λh=>?_)
 ·have o:i<B.length:=(by have:=XB h;omega);obtain⟨b,f⟩:∃b,b=B.getD (i:Int).toNat []:=⟨_,rfl⟩;have E:b∈B:=(by rw[f];simp[List.getD,o]);have p:(B.take (i+1)).map mX=(B.take i).map mX++[mX b]:=(by rw[YC,Ys,f];simp[List.getD,o]);refine aj.o ?_;refine ah.mk' ((LM (u b E)).le (.cons (dV.of_eq (by rw[f])) .nil)) ?_;repeat' first|apply ab.t|apply ab.f
  refine aj.mk (aY (by rw[X9,Yu];omega)) ?_;refine aH.back (x:=i) (i+1) (by show i+1<=_;omega) (by omega) (.cons (.bj (by rw[p];exact(XR (bs:=[mX b])).symm) (λq F j K=>?_)) .nil) (.cS (.cH (.cS (.cS (.cons (ao.int (by rw[hw _];omega)) .nil)))));obtain rfl:j=0:=(by omega);rw[p];exact HJ _ _ q F
 ·have G:i=B.length:=(by have:=XA h;omega);subst G;rw[YT];have H:(B.map mX).length=B.length:=X9 ..;refine ah.mk' (LY r t (B:=B.map mX) (λb f=>by obtain⟨c,l,rfl⟩:=XQ.1 f;exact w c l) (λa I b f=>by obtain⟨c,l,rfl⟩:=XQ.1 f;exact y a I c l) z (by omega) (by rw[H];exact C)) ?_;exact Fin.rfl'
def yk (S:List (LV)) (v:V2):Bool:=!bJ S.length λk=>!decide (O4 (S.getD k []) v=2)
theorem R7 (l:LV) (h:MV l) (v:V2):DP 57 [.one (aS l),.one (.ad 2 λj=>(vL v).getD j (.v Go.undef))] (aD (decide (O4 l v=2))):=by
 refine dg Tryz.func57 [] ?_;refine ah.int (Fx h v) (λn a=>?_);exact Fin.bool (by rw[<-a];rfl)
theorem xe {S:List (LV)} (a:∀r∈S,MV r) (b:S.length<=40000) (v:V2):DP 24 [.one (hS S),vD v] (aD (yk S v)):=by
 refine dg Tryz.func24 [] ?_;refine ah.mk' (PY S 57 1 (λj=>[SV.ad 2 λj=>(vL v).getD j (.v Go.undef)].getD j (.v Go.undef)) (λk=>decide (O4 (S.getD k []) v=2)) b (λk c=>R7 _ (a _ (by simp[List.getD,c])) v)) ?_;exact Fin.bool rfl
def TO (lo hi p:V2):Bool:=decide (p.x>=lo.x)&&(decide (p.x<=hi.x)&&(decide (p.y>=lo.y)&&decide (p.y<=hi.y)))
theorem Pr (lo hi p:V2):DP 44 [Ue lo hi,vD p] (aD (TO lo hi p)):=by
 refine dg Tryz.func44 [] ?_;unfold TO;repeat' first|refine ab.t ?_|refine ab.f ?_|refine ab.mk (λ_=>?_) (λ_=>?_)|refine aj.n ?_|refine Fin.bool ?_|fail
 all_goals simp_all
 all_goals try (intros;omega)
abbrev pQ:=LV×List (LV)
abbrev xV (L:List pQ):Nat->Nat->SV:=λi j=>match j with
 |0=>aS (L.getD i ([],[])).1
 |_=>hS (L.getD i ([],[])).2
theorem ua (L:List pQ) (b:∀s∈L,VS s.1 s.2) (f:L.length<=1000:=by omega):DP 39 [.one (.sl L.length 2 (xV L))] (aD true):=by
 refine dg Tryz.func39 [] ?_;refine Loop.by (α:=Nat) (λi=>[(5,.d (.one (.sl L.length 2 (xV L)))),(6,an L.length),(7,an i)]) (λ_=>[((4:Id),.none)]) (λi=>i<=L.length) (λi=>L.length-i)
  (aH.at 0 (XS _) (.none .nil) (.cS (.cS (.cS .nil)))) (λi g=>?_)
 refine ab.mk (λa=>?_) (λa=>?_);have c:i<L.length:=(by have:=XB a;omega);refine aj.o ?_;refine ah.mk' (gp (b (L.getD i ([],[])) (by simp[List.getD,c]))) ?_;refine ab.f ?_;exact aH.back (x:=i) (i+1) (by show i+1<=_;omega) (by omega) (.none .nil) (.cS (.cS (.cons (ao.int (by rw[hw _];omega)) .nil)));exact Fin.bool rfl
def EA (lo hi:V2):LV:=U0 (cT lo ⟨1,1⟩) (kc hi ⟨1,1⟩)
theorem Jv (o:LV) (hs:List (LV)) (lo hi:V2) (a:(cT lo ⟨1,1⟩).x<(kc hi ⟨1,1⟩).x) (b:(cT lo ⟨1,1⟩).y<(kc hi ⟨1,1⟩).y) (c:aP (cT lo ⟨1,1⟩) 2000=true) (h2:aP (kc hi ⟨1,1⟩) 2000=true):
  DP 42 [hF o hs,Ue lo hi] (.d (hF (EA lo hi) [o])):=by
 refine dg Tryz.func42 [] ?_;refine ah.mk' (bY lo ⟨1,1⟩) ?_;refine ah.mk' (kV hi ⟨1,1⟩) ?_;refine ah.mk' (EY (cT lo ⟨1,1⟩) (kc hi ⟨1,1⟩) a b c h2) ?_;refine aj.n ?_;refine Fin.agg (.cons (aC.refl _) (.cons (aC.qo rfl (λi hi j f=>?_)) .nil));obtain rfl:i=0:=by have:i<1:=hi;omega
 obtain rfl:j=0:=by have:j<1:=f;omega
 exact aC.refl _
abbrev Pz (lo hi:V2) (S:List (LV)):DV:= .agg [i64 lo.x,i64 lo.y,i64 hi.x,i64 hi.y,hS S]
def Vb (lo hi:V2) (S:List (LV)) (v:V2):Bool:=TO lo hi v&&(aP v 8000&&!yk S v)
theorem Ee (lo hi:V2) {S:List (LV)} (a:∀r∈S,MV r) (b:S.length<=40000) (v:V2):DP 18 [Pz lo hi S,vD v] (aD (Vb lo hi S v)):=by
 refine dg Tryz.func18 [] ?_;unfold Vb;refine ah.bool (Pr lo hi v) (λx c=>?_);rw[<-c];cases x with
 |false=>
  repeat' first|apply ab.t|apply ab.f
  exact Fin.bool rfl
 |true=>
 repeat' first|apply ab.t|apply ab.f
 refine ah.bool (cA v 8000) (λy f=>?_);rw[<-f];repeat' first|apply ab.t|apply ab.f
 cases y with
 |false=>
  repeat' first|apply ab.t|apply ab.f
  exact Fin.bool rfl
 |true=>
 repeat' first|apply ab.t|apply ab.f
 refine ah.bool (xe a b v) (λz g=>?_);rw[<-g];repeat' first|apply ab.t|apply ab.f
 exact Fin.bool rfl
def xc (o:LV) (hs:List (LV)) (a:List pQ):List pQ:=(EA (ht o) (hx o),[o])::hs.map (λh=>(h,[]))++a
theorem Tr (L:List pQ) (s:pQ) (a j:Nat) (c:a<L.length+1) (b:j<2):aC (bif Nat.blt a L.length then xV L a j else[aS s.1,hS s.2].getD ((a-L.length)*2+j) (.v Go.undef)) (xV (L++[s]) a j):=by
 refine aC.bif (λh=>aC.of_eq ?_) (λh=>aC.of_eq ?_);have:(L++[s]).getD a ([],[])=L.getD a ([],[]):=(by rw[List.getD,List.getD,YW h]);unfold xV;rw[this]
 ·obtain rfl:a=L.length:=(by omega);have:(L++[s]).getD L.length ([],[])=s:=(by rw[List.getD,YS (XP _),YM];rfl);unfold xV;rw[this,YM]
  match j,b with
  |0,_=>rfl
  |1,_=>rfl
theorem IK (L:List pQ) (h:LV) (a j:Nat) (f:a<L.length+1) (c:j<2):aC (bif Nat.blt a L.length then xV L a j else[aS h,.v AX].getD ((a-L.length)*2+j) (.v Go.undef)) (xV (L++[(h,[])]) a j):=by
 refine aC.bif (λb=>aC.of_eq ?_) (λb=>?_);have:(L++[((h,[]):pQ)]).getD a ([],[])=L.getD a ([],[]):=(by rw[List.getD,List.getD,YW b]);unfold xV;rw[this]
 ·obtain rfl:a=L.length:=(by omega);have:(L++[((h,[]):pQ)]).getD L.length ([],[])=(h,[]):=(by rw[List.getD,YS (XP _),YM];rfl);unfold xV;rw[this,YM]
  match j,c with
  |0,_=>exact aC.refl _
  |1,_=>exact aC.nil _ _
theorem Om (A B:List pQ) (a j:Nat):aC (bif Nat.blt a A.length then xV A a j else xV B (a-A.length) j) (xV (A++B) a j):=by
 refine aC.bif (λh=>aC.of_eq ?_) (λh=>aC.of_eq ?_);have:(A++B).getD a ([],[])=A.getD a ([],[]):=(by rw[List.getD,List.getD,YW h]);unfold xV;rw[this];have:(A++B).getD a ([],[])=B.getD (a-A.length) ([],[]):=(by rw[List.getD,List.getD,YS h]);unfold xV;rw[this]
structure UQ (o:LV) (hs:List (LV)) (ob:List pQ) (mo:LV) (mh:List (LV)) (P Q:pQ->List (LV)):Prop where
 vc:VS o hs
 vm:VS mo mh
 vo:∀s∈ob,VS s.1 s.2
 zl:ob.length<=10
 b1:aP (ht o) 1999=true
 b2:aP (hx o) 1999=true
 fx:(cT (ht o) ⟨1,1⟩).x<(kc (hx o) ⟨1,1⟩).x
 fy:(cT (ht o) ⟨1,1⟩).y<(kc (hx o) ⟨1,1⟩).y
 f1:aP (cT (ht o) ⟨1,1⟩) 2000=true
 f2:aP (kc (hx o) ⟨1,1⟩) 2000=true
 pm:DP 19 [hF mo mh] (.eG [.one (hS (P (mo,mh))),.one (i64 0)])
 pf:∀s∈xc o hs ob,DP 19 [hF s.1 s.2] (.eG [.one (hS (P s)),.one (i64 0)])
 qf:∀s∈xc o hs ob,DP 23 [.one (hS (P s)),.one (hS (P (mo,mh)))] (.eG [.one (hS (Q s)),.one (i64 0)])
 ql:((xc o hs ob).flatMap Q).length<=90000
theorem Jw {o:LV} {hs:List (LV)} {b:List pQ} {c:LV} {m:List (LV)} {P Q:pQ->List (LV)} (H:UQ o hs b c m P Q):
  DP 17 [hF o hs,.one (.sl b.length 2 (xV b)),hF c m] (.eG [Pz (cT (ht o) (ht c)) (cT (hx o) (hx c)) ((xc o hs b).flatMap Q),.one (i64 0)]):=by
 refine dg Tryz.func17 [6000053,30] ?_;have a2:=H.vc.GD;have a3:=H.zl;refine ah.mk' ((ua [(o,hs),(c,m)] (λs M=>by
  simp only[XF,ZA,WZ]at M;rcases M with rfl|rfl;exact H.vc
  ·exact H.vm) (by simp)).le (.cons (.one (aC.qo rfl (λi p j f=>?_))) .nil)) ?_
 ·match i,p,j,f with
  |0,_,0,_=>exact aC.refl _
  |0,_,1,_=>exact aC.refl _
  |1,_,0,_=>exact aC.refl _
  |1,_,1,_=>exact aC.refl _
 repeat' first|apply ab.t|apply ab.f
 refine ah.mk' (ua b H.vo) ?_;repeat' first|apply ab.t|apply ab.f
 refine ah.mk' (yK H.vc) ?_;refine ah.mk' (kM.vt (cA (ht o) 1999) true H.b1) ?_;repeat' first|apply ab.t|apply ab.f
 refine ah.mk' (kM.vt (cA (hx o) 1999) true H.b2) ?_;repeat' first|apply ab.t|apply ab.f
 refine ah.mk' (Jv o hs (ht o) (hx o) H.fx H.fy H.f1 H.f2) ?_;obtain⟨g,N⟩:∃g:pQ,g=(EA (ht o) (hx o),[o]):=⟨_,rfl⟩;refine Loop.by (α:=Nat) (λi=>[(1,.d (.one (.sl b.length 2 (xV b)))),(3,.ptr 3 0),(5,.ptr 5 0),(6,.ptr 6 0),(8,.ptr 8 0),(10,.aL 53 0),(55,.d (.one (hS hs))),(56,an hs.length),(57,an i)])
  (λi=>[(3,.box [aS o,hS hs]),(5,.box [aS c,hS m]),(6,.box [i64 0,i64 0,i64 0,i64 0,.v AX]),(8,.box (JD (ht o).x (ht o).y (hx o).x (hx o).y)),(53,.aJ 0 (g::(hs.take i).map λh=>((h,[]):pQ)).length 2 45 (xV (g::(hs.take i).map λh=>((h,[]):pQ))))]) (λi=>i<=hs.length) (λi=>hs.length-i)
  (aH.at 0 (XS _) (.cX (.cX (.cX (.cX (.cons (.bj (by simp) (λi p j f=>?_)) .nil))))) (.cS (.cB (.cB (.cB (.cB (.cH (.cS (.cS (.cS .nil)))))))))) (λi p=>?_)
 ·obtain rfl:i=0:=(by have:i<1:=p;omega);have f:j<2:=f;rw[N]
  match j,f with
  |0,_=>exact aC.refl _
  |1,_=>exact aC.refl _
 refine ab.mk (λB=>?_) (λB=>?_);have w:i<hs.length:=(by have:=XB B;omega);have r:(g::(hs.take (i+1)).map λh=>((h,[]):pQ))=(g::(hs.take i).map λh=>((h,[]):pQ))++[(hs.getD (i:Int).toNat [],[])]:=(by rw[YC,Ys,YG];simp[List.getD,w]);refine aj.o ?_;refine aj.mk (aY (by simp only[XZ,X9,Yu];omega)) ?_;refine aH.back (x:=i) (i+1) (by show i+1<=_;omega) (by omega) (.cX (.cX (.cX (.cX (.cons (.bj (by rw[r];exact(XR (bs:=[_])).symm) (λa O j f=>by rw[r];exact IK _ _ a j O f)) .nil))))) (.cS (.cB (.cB (.cB (.cB (.cH (.cS (.cS (.cons (ao.int (by rw[hw _];omega)) .nil)))))))));have C:i=hs.length:=by have:=XA B;omega
 subst C;rw[YT];obtain⟨l,D⟩:∃l:List pQ,l=g::hs.map λh=>(h,[]):=⟨_,rfl⟩;have R:xc o hs b=l++b:=by rw[D,N];rfl
 have a4:l.length<=7:=by rw[D];simp;omega
 rw[<-D];refine aj.mk (aY) ?_;refine ah.mk' H.pm ?_;repeat' first|apply ab.t|apply ab.f
 refine ah.mk' (yK H.vm) ?_;refine ah.v (bY (ht o) (ht c)) (λy U=>?_);refine ah.v (bY (hx o) (hx c)) (λz V=>?_);refine aj.n ?_;have E:=H.pf;have G:=H.qf;have I:=H.ql;rw[<-U,<-V];rw[R]at E G I|-;obtain⟨F,u⟩:∃F,F=l++b:=⟨_,rfl⟩;rw[<-u]at E G R;rw[<-u];rw[<-u]at I;have S:F.length=l.length+b.length:=by rw[u,XR]
 obtain⟨X,A⟩:∃X:Nat->List (LV),X=λi=>(F.take i).flatMap Q:=⟨_,rfl⟩;have Y:∀i,(X i).length<=90000:=λi=>by have:F.flatMap Q=(F.take i).flatMap Q++(F.drop i).flatMap Q:=(by rw[<-W5,ZH]);rw[this,XR]at I;rw[A];show((F.take i).flatMap Q).length<=_;omega
 have Z:F.flatMap Q=X F.length:=by rw[A];show _=(F.take F.length).flatMap Q;rw[YT]
 have a0:X 0=[]:=by rw[A];rfl
 rw[Z];refine Loop.by (α:=Nat) (λi=>[(5,.ptr 5 0),(6,.ptr 6 0),(13,.d (.one (hS (P (c,m))))),(17,.ptr 17 0),(96,.aL 53 0),(97,an F.length),(98,an i)])
  (λi=>[(5,.box [aS c,hS m]),(6,.box [i64 0,i64 0,i64 0,i64 0,.v AX]),(17,.obj [.s (i64 y.x),.s (i64 y.y),.s (i64 z.x),.s (i64 z.y),.aL 502 0]),((19:Id),.none),(53,.aJ 0 F.length 2 45 (xV F)),(502,.aJ 0 (X i).length 1 42 λk _=>aS ((X i).getD k []))]) (λi=>i<=F.length) (λi=>F.length-i)
  (aH.rp 17 4 502 1 42 (λk _=>aS ((X 0).getD k [])) _ _ rfl rfl rfl rfl (aH.at 0 (XS _) (.cX (.cX (.cons (.obj (.cons (.s (aC.refl _)) (.cons (.s (aC.refl _)) (.cons (.s (aC.refl _)) (.cons (.s (aC.refl _)) (.cons (.aL (by intro q;cases q) rfl rfl) .nil)))))) (.none (.cons (.bj S.symm (λi p j f=>by rw[u];exact Om l b i j)) (.cons (.bj (by rw[a0];rfl) (λ_ h=>absurd h (XL _))) .nil)))))) (.cB (.cB (.cS (.cons (.ptr (by intro q;cases q)) (.cH (.cons (ao.int (by rw[S])) (.cS .nil))))))))) (λi p=>?_)
 refine ab.mk (λJ=>?_) (λJ=>?_)
 ·have w:i<F.length:=(by have:=XB J;omega);obtain⟨t,K⟩:∃t,t=F.getD (i:Int).toNat ([],[]):=⟨_,rfl⟩;have T:t∈F:=(by rw[K];simp[List.getD,w]);have r:X (i+1)=X i++Q t:=(by rw[A];show(F.take (i+1)).flatMap Q=(F.take i).flatMap Q++_;rw[YC,W5,K];simp[List.getD,w]);have a1:=Y (i+1);rw[r,XR]at a1;refine aj.o ?_;refine ah.mk' ((E t T).le (.cons (dV.of_eq (by rw[K])) .nil)) ?_;repeat' first|apply ab.t|apply ab.f
  refine ah.mk' (G t T) ?_;repeat' first|apply ab.t|apply ab.f
  refine aj.mk (aY) ?_;refine aH.back (x:=i) (i+1) (by show i+1<=_;omega) (by omega) (.cX (.cX (.cons (.obj (.cons (.s (aC.refl _)) (.cons (.s (aC.refl _)) (.cons (.s (aC.refl _)) (.cons (.s (aC.refl _)) (.cons (.aL (by intro q;cases q) rfl rfl) .nil)))))) (.none (.cons (.bj rfl (λ_ _ _ _=>aC.refl _)) (.cons (.bj (by rw[r,XR]) (λa O j f=>?_)) .nil)))))) (.cB (.cB (.cS (.cons (.ptr (by intro q;cases q)) (.cH (.cS (.cons (ao.int (by rw[hw _];omega)) .nil)))))));obtain rfl:j=0:=(by omega);rw[r];refine aC.bif (λh=>aC.of_eq ?_) (λh=>aC.of_eq ?_);show aS _=aS _;rw[List.getD,List.getD,YW h];show aS _=aS _;rw[List.getD,List.getD,YS h]
 ·have C:i=F.length:=(by have:=XA J;omega);subst C;refine⟨aH.s8 17 502 _ [.s (i64 y.x),.s (i64 y.y),.s (i64 z.x),.s (i64 z.y),.s (.sl (X F.length).length 1 λk _=>aS ((X F.length).getD k []))] 0 _ 1 42 _ rfl rfl (.same (.same (.same (.same (.shut .nil))))) (aH.id ?_)⟩;exact Fin.eG (.cR (.cR .nil))
theorem rl (lo hi:V2):bw (aR lo hi) 0=⟨hi.x,lo.y⟩/\bw (aR lo hi) 1=hi/\bw (aR lo hi) 2=⟨lo.x,hi.y⟩/\bw (aR lo hi) 3=lo:=by
 have h:∀i,bw (aR lo hi) i=gt (aR lo hi) ((i+1)%4):=λi=>rfl;rw[h,h,h,h];exact⟨rfl,rfl,rfl,rfl⟩
theorem LZ (lo hi:V2):iZ (aR lo hi) 0=⟨lo.x,hi.y⟩/\iZ (aR lo hi) 1=lo/\iZ (aR lo hi) 2=⟨hi.x,lo.y⟩/\iZ (aR lo hi) 3=hi:=by
 have h:∀i,iZ (aR lo hi) i=gt (aR lo hi) ((i+4-1)%4):=λi=>rfl;rw[h,h,h,h];exact⟨rfl,rfl,rfl,rfl⟩
theorem MQ (lo hi:V2):bH (aR lo hi)=[(lo,⟨hi.x,lo.y⟩),(⟨hi.x,lo.y⟩,hi),(hi,⟨lo.x,hi.y⟩),(⟨lo.x,hi.y⟩,lo)]:=by
 obtain⟨a,b,c,d⟩:=rl lo hi;show[(gt (aR lo hi) 0,bw (aR lo hi) 0),(gt (aR lo hi) 1,bw (aR lo hi) 1),(gt (aR lo hi) 2,bw (aR lo hi) 2),(gt (aR lo hi) 3,bw (aR lo hi) 3)]=_;rw[a,b,c,d];rfl
variable {hi lo:V2}
theorem ev {v:V2}:ai lo ⟨hi.x,lo.y⟩ v=(hi.x-lo.x)*(v.y-lo.y)/\ai ⟨hi.x,lo.y⟩ hi v=(hi.y-lo.y)*(hi.x-v.x)/\ai hi ⟨lo.x,hi.y⟩ v=(hi.x-lo.x)*(hi.y-v.y)/\ai ⟨lo.x,hi.y⟩ lo v=(hi.y-lo.y)*(v.x-lo.x):=by
 simp only[ai,aa,af];refine⟨?_,?_,?_,?_⟩<;>grind
theorem OE (H:lo.x<hi.x) (I:lo.y<hi.y) (g:In 2000 lo) (h2:In 2000 hi):bk (aR lo hi):=by
 have z:0<hi.x-lo.x:=by omega
 have C:0<hi.y-lo.y:=by omega
 have D:=XC z C;have q:∀i,gt (aR lo hi) i=gt (aR lo hi) i:=λi=>rfl;refine⟨show 3<=4 by decide,show 4<=40 by decide,lx (λi f=>?_),?_,λi f=>?_,λi f k E J F G=>?_⟩
 ·have f:i<4:=f;have j:=g.x0;have l:=g.x1;have m:=g.y0;have o:=g.y1;have p:=h2.x0;have r:=h2.x1;have u:=h2.y0;have w:=h2.y1;rcases(show i=0\/i=1\/i=2\/i=3 by omega)with k|k|k|k<;>subst k
  ·exact g.within (by decide) (by decide)
  ·exact In.within (v:=⟨hi.x,lo.y⟩) (by decide) (by decide) ⟨p,r,m,o⟩
  ·exact h2.within (by decide) (by decide)
  ·exact In.within (v:=⟨lo.x,hi.y⟩) (by decide) (by decide) ⟨j,l,u,w⟩
 ·have:lM (aR lo hi)=2*((hi.x-lo.x)*(hi.y-lo.y)):=(by obtain⟨a,b,c,d⟩:=rl lo hi;show 0+aa lo (bw (aR lo hi) 0)+aa ⟨hi.x,lo.y⟩ (bw (aR lo hi) 1)+aa hi (bw (aR lo hi) 2)+aa ⟨lo.x,hi.y⟩ (bw (aR lo hi) 3)=_;rw[a,b,c,d];simp only[aa];grind);omega
 ·have t:∀a b c:V2,ai a b c=(hi.x-lo.x)*(hi.y-lo.y)->iW a b c≠0:=(by intro a b c h;have:iW a b c=bM (ai a b c):=rfl;rw[this,h,bM,XG D];decide);have f:i<4:=f;obtain⟨j,l,m,o⟩:=rl lo hi;obtain⟨p,r,u,w⟩:=LZ lo hi;rcases(show i=0\/i=1\/i=2\/i=3 by omega)with k|k|k|k<;>subst k
  ·rw[j,p];refine t ⟨lo.x,hi.y⟩ lo ⟨hi.x,lo.y⟩ ?_;rw[(ev (lo:=lo) (hi:=hi)).2.2.2];grind
  ·rw[l,r];refine t lo ⟨hi.x,lo.y⟩ hi ?_;rw[(ev (lo:=lo) (hi:=hi)).1]
  ·rw[m,u];refine t ⟨hi.x,lo.y⟩ hi ⟨lo.x,hi.y⟩ ?_;rw[(ev (lo:=lo) (hi:=hi)).2.1];grind
  ·rw[o,w];refine t hi ⟨lo.x,hi.y⟩ lo ?_;rw[(ev (lo:=lo) (hi:=hi)).2.2.1]
 ·have f:i<4:=f;have E:k<4:=E;have F:k≠(i+1)%4:=F;have G:i≠(k+1)%4:=G;have nr:dJ (aR lo hi)=true:=lx (λi f=>by
   have f:i<4:=f;have j:=g.x0;have l:=g.x1;have m:=g.y0;have o:=g.y1;have p:=h2.x0;have r:=h2.x1;have u:=h2.y0;have w:=h2.y1;rcases(show i=0\/i=1\/i=2\/i=3 by omega)with k|k|k|k<;>subst k
   ·exact g.within (by decide) (by decide)
   ·exact In.within (v:=⟨hi.x,lo.y⟩) (by decide) (by decide) ⟨p,r,m,o⟩
   ·exact h2.within (by decide) (by decide)
   ·exact In.within (v:=⟨lo.x,hi.y⟩) (by decide) (by decide) ⟨j,l,u,w⟩)
  rw[pd (cx nr i) (cx nr k)];have c:(i=0/\k=2)\/(i=2/\k=0)\/(i=1/\k=3)\/(i=3/\k=1):=(by omega);have A:NM lo ⟨hi.x,lo.y⟩ hi ⟨lo.x,hi.y⟩:=q3 (.inl ⟨by rw[(ev (lo:=lo) (hi:=hi)).1];exact D,by rw[(ev (lo:=lo) (hi:=hi)).1];exact D⟩);have B:NM ⟨hi.x,lo.y⟩ hi ⟨lo.x,hi.y⟩ lo:=q3 (.inl ⟨by rw[(ev (lo:=lo) (hi:=hi)).2.1];exact XC C z,by rw[(ev (lo:=lo) (hi:=hi)).2.1];exact XC C z⟩);obtain⟨j,l,m,o⟩:=rl lo hi;unfold bN;rcases c with⟨x,y⟩|⟨x,y⟩|⟨x,y⟩|⟨x,y⟩<;>subst x<;>subst y<;>simp only[j,l,m,o]
  ·exact A
  ·exact A.sym
  ·exact B
  ·exact B.sym
theorem MF (q:In 2000 lo) (h2:In 2000 hi) {o:LV} (k:bk o) (b:∀i,i<o.length->lo.x<(gt o i).x/\(gt o i).x<hi.x/\lo.y<(gt o i).y/\(gt o i).y<hi.y):cJ (aR lo hi) [o]:=by
 have u:=b 0 (by have:=k.three;omega);have l:lo.x<hi.x:=by omega
 have p:lo.y<hi.y:=by omega
 have c:0<hi.x-lo.x:=by omega
 have f:0<hi.y-lo.y:=by omega
 refine⟨OE l p q h2,λh a=>?_,λh a=>?_,λh a=>?_,List.pairwise_singleton _ _⟩;rw[YB]at a;subst a;exact k
 ·rw[YB]at a;subst a;intro x g y r;obtain⟨i,j,rfl⟩:=bC.1 r;have v:=b i j;have w:=b ((i+1)%h.length) (mLt);show NM x.1 x.2 (gt h i) (gt h ((i+1)%h.length));rw[MQ]at g;simp only[XF,ZA,WZ]at g;rcases g with e|e|e|e<;>subst e<;>refine q3 (.inl ⟨?_,?_⟩)
  ·rw[(ev (lo:=lo) (hi:=hi)).1];exact XC c (by omega)
  ·rw[(ev (lo:=lo) (hi:=hi)).1];exact XC c (by omega)
  ·rw[(ev (lo:=lo) (hi:=hi)).2.1];exact XC f (by omega)
  ·rw[(ev (lo:=lo) (hi:=hi)).2.1];exact XC f (by omega)
  ·rw[(ev (lo:=lo) (hi:=hi)).2.2.1];exact XC c (by omega)
  ·rw[(ev (lo:=lo) (hi:=hi)).2.2.1];exact XC c (by omega)
  ·rw[(ev (lo:=lo) (hi:=hi)).2.2.2];exact XC f (by omega)
  ·rw[(ev (lo:=lo) (hi:=hi)).2.2.2];exact XC f (by omega)
 ·rw[YB]at a;subst a;intro e t;obtain⟨i,j,rfl⟩:=bC.1 t;have v:=b i j;have:=Fe l p (m:=1) (z:=gt h i)
  rwa [gT]at this
theorem A5 (X:Nat->Int):∀k i,i<k->pN X k<=X i
 |0,i,h=>absurd h (XL _)
 |k+1,i,h=>by rw[pN];have a:cK (pN X k) (X k)<=pN X k/\cK (pN X k) (X k)<=X k:=(by unfold cK;split<;>omega);by_cases c:i=k;subst c;exact a.2;have:=A5 X k i (by omega);omega
theorem A7 (X:Nat->Int):∀k i,i<k->X i<=pO X k
 |0,i,h=>absurd h (XL _)
 |k+1,i,h=>by rw[pO];have a:pO X k<=cG (pO X k) (X k)/\X k<=cG (pO X k) (X k):=(by unfold cG;split<;>omega);by_cases c:i=k;subst c;exact a.2;have:=A7 X k i (by omega);omega
theorem A6 (X:Nat->Int):∀k,0<k->∃i,i<k/\pN X k=X i
 |0,h=>absurd h (Zg _)
 |k+1,_=>by
  rw[pN];unfold cK;split;exact⟨k,by omega,rfl⟩
  ·cases k with
   |zero=>exact⟨0,by omega,rfl⟩
   |succ k=>obtain⟨i,hi,e⟩:=A6 X (k+1) (by omega);exact⟨i,by omega,e⟩
theorem A8 (X:Nat->Int):∀k,0<k->∃i,i<k/\pO X k=X i
 |0,h=>absurd h (Zg _)
 |k+1,_=>by
  rw[pO];unfold cG;split;exact⟨k,by omega,rfl⟩
  ·cases k with
   |zero=>exact⟨0,by omega,rfl⟩
   |succ k=>obtain⟨i,hi,e⟩:=A8 X (k+1) (by omega);exact⟨i,by omega,e⟩
def sR (v:V2) (E:Ed):Ed:=E.map λe=>(ak v e.1,ak v e.2)
theorem P9 (v:V2) (E:Ed) (m:Int) (z:V2):W (bD m (sR v E)) z=W (bD m E) (af z (ag m v)):=by
 have q:∀a:V2,af (ag m (ak v a)) z=af (ag m a) (af z (ag m v)):=by intro a;simp only[af,ak,ag,WC];congr 1<;>omega
 induction E with
 |nil=>rfl
 |cons e E b=>show cq (af (ag m (ak v e.1)) z) (af (ag m (ak v e.2)) z)+W (bD m (sR v E)) z=cq (af (ag m e.1) _) (af (ag m e.2) _)+W (bD m E) _;rw[b,q,q]
theorem vI (v a b c:V2):ai (ak v a) (ak v b) (ak v c)=ai a b c:=by
 simp only[ai,aa,af,ak];grind
theorem G0 (v a b p:V2):aV (ak v a) (ak v b) (ak v p)↔aV a b p:=by
 unfold aV;rw[vI];simp only[ak];omega
theorem TG {v a b p q:V2} (h:NM a b p q):NM (ak v a) (ak v b) (ak v p) (ak v q):=by
 refine⟨?_,?_,?_,?_,?_⟩;rw[G0];exact h.a_;rw[G0];exact h.b_;rw[G0];exact h.p_;rw[G0];exact h.q_;rw[vI,vI,vI,vI];exact h.cr
theorem mJ (v:V2) (l:LV):bH (l.map (ak v))=sR v (bH l):=by
 unfold bH sR;rw[X9,Yq];refine Yx (λi hi=>?_);have hi:=X4.1 hi;have a:(i+1)%l.length<l.length:=mLt;simp[bw,gt,List.getD,hi,a]
theorem mn {v:V2} {E:Ed} {e:V2×V2}:e∈sR v E↔∃x∈E,(ak v x.1,ak v x.2)=e:=XQ
variable {A B:Ed}
theorem qd.mv (h:qd A B) (v:V2):qd (sR v A) (sR v B):=by
 intro a c b f;obtain⟨x,g,rfl⟩:=mn.1 c;obtain⟨y,i,rfl⟩:=mn.1 f;exact TG (h x g y i)
theorem ND (v:V2) (E:Ed) (a:V2):W (sR v E) (ak v a)=W E a:=by
 have:=P9 v E 1 (ak v a);rw[gT,gT,bt]at this;rw[this];congr 1;simp only[af,ak];cases a;congr 1<;>simp only<;>omega
theorem ku.of_map {l:LV} {v:V2}:ku l (l.map (ak v)) v:=by
 refine⟨by simp,λi hi=>?_⟩;simp[gt,List.getD,hi,ak,eF,Int.add_comm]
theorem cJ.mv {o:LV} {hs:List (LV)} (S:cJ o hs) (v:V2) (j:∀r∈o::hs,dJ (r.map (ak v))=true):cJ (o.map (ak v)) (hs.map λh=>h.map (ak v)):=by
 refine⟨ku.of_map.ok S.outer (j _ XW),λh f=>?_,λh f=>?_,λh f=>?_,?_⟩;obtain⟨r,c,rfl⟩:=XQ.1 f;exact ku.of_map.ok (S.ring r c) (j _ (XK _ c));obtain⟨r,c,rfl⟩:=XQ.1 f;rw[mJ,mJ];exact(S.off r c).mv v;obtain⟨r,c,rfl⟩:=XQ.1 f;rw[mJ,mJ];intro e g;obtain⟨x,i,rfl⟩:=mn.1 g;rw[ND];exact S.Pq r c x i;rw[ZE];refine S.pair.imp (λ{a b} h=>?_);obtain⟨k,l,m⟩:=h;rw[mJ,mJ];refine⟨k.mv v,λe g=>?_,λe g=>?_⟩;obtain⟨x,i,rfl⟩:=mn.1 g;rw[ND];exact l x i;obtain⟨x,i,rfl⟩:=mn.1 g;rw[ND];exact m x i
theorem O5 (v:V2) (E:Ed):sR v (dx E)=dx (sR v E):=by simp[sR,dx]
theorem Hg (v:V2) (E F:Ed):sR v (E++F)=sR v E++sR v F:=by simp[sR]
theorem Se (v:V2) (o:LV) (hs:List (LV)):dk (o.map (ak v)) (hs.map λh=>h.map (ak v))=sR v (dk o hs):=by
 unfold dk;rw[mJ,Hg];congr 1;induction hs with
 |nil=>rfl
 |cons h r a=>rw[Yg,cL,cL,a,mJ,Hg,O5]
theorem KZ (l:LV) (k:Nat):l=l.take k++l.drop k:=(ZH k l).symm
theorem px (l:LV):(bH (aO l)).Perm (bH l):=by
 have:=H0 (l.take (eR l)) (l.drop (eR l))
 rwa [ZH]at this
theorem zD {l:LV} (a:bk l):aZ l=aO l:=by rw[aZ,XG (ez.2 a)]
theorem mL {l:LV} (a:bk l):(bH (aZ l)).Perm (bH l):=by rw[zD a];exact px l
theorem rh {l:LV} (a:bk l):bk (aZ l):=by rw[zD a];exact(zJ l).ok a
theorem qd.perm {c f:Ed} (h:qd A B) (a:c.Perm A) (b:f.Perm B):qd c f:=λx g y i=>h x (a.mem_iff.1 g) y (b.mem_iff.1 i)
abbrev QS (h k:LV):Prop:=qd (bH h) (bH k)/\(∀e∈bH k,W (bH h) e.1=0)/\∀e∈bH h,W (bH k) e.1=0
theorem cJ.perm {o:LV} {hs b:List (LV)} (S:cJ o hs) (p:b.Perm hs):cJ o b:=
 ⟨S.outer,λh a=>S.ring h (p.mem_iff.1 a),λh a=>S.off h (p.mem_iff.1 a),λh a=>S.Pq h (p.mem_iff.1 a),
  (List.Perm.pairwise_iff (R:=QS) (λh=>⟨h.1.sym,h.2.2,h.2.1⟩) p.symm).1 S.pair⟩
theorem Dn {hs a:List (LV)} (p:hs.Perm a):(cL hs).Perm (cL a):=by
 induction p with
 |nil=>exact .refl _
 |cons x _ b=>exact(List.Perm.refl _).append b
 |swap x y l=>show(dx (bH y)++(dx (bH x)++cL l)).Perm (dx (bH x)++(dx (bH y)++cL l));rw[<-Yk,<-Yk];exact List.perm_append_comm.append (.refl _)
 |trans _ _ c f=>exact c.trans f
theorem w8:∀{a:List (LV)},(∀h∈a,bk h)->(cL (a.map aZ)).Perm (cL a)
 |[],_=> .refl _
 |h::r,H=>by rw[Yg,cL,cL];exact((mL (H h XW)).map _).append (w8 λx b=>H x (XK _ b))
theorem cJ.can {o:LV} {hs:List (LV)} (S:cJ o hs):cJ (aZ o) (hs.map aZ):=by
 have k:=mL S.outer;refine⟨rh S.outer,λh f=>?_,λh f=>?_,λh f=>?_,?_⟩;obtain⟨r,c,rfl⟩:=XQ.1 f;exact rh (S.ring r c);obtain⟨r,c,rfl⟩:=XQ.1 f;exact(S.off r c).perm k (mL (S.ring r c));obtain⟨r,c,rfl⟩:=XQ.1 f;intro e g;rw[jT k];exact S.Pq r c e ((mL (S.ring r c)).mem_iff.1 g);rw[ZE];refine S.pair.imp_of_mem (λ{a b} l m h=>?_);have i:=mL (S.ring a l);have j:=mL (S.ring b m);refine⟨h.1.perm i j,λe g=>?_,λe g=>?_⟩;rw[jT i];exact h.2.1 e (j.mem_iff.1 g);rw[jT j];exact h.2.2 e (i.mem_iff.1 g)
theorem cJ.eZ {o:LV} {hs:List (LV)} (S:cJ o hs):cJ (aZ o) (eZ hs):=S.can.perm (lL hs)
theorem HW {o:LV} {hs:List (LV)} (S:cJ o hs):(dk (aZ o) (eZ hs)).Perm (dk o hs):=
 (mL S.outer).append ((Dn (lL hs)).trans (w8 S.ring))
variable {i:Nat}
theorem HM {a b:LV} (h:i<a.length):gt (a++b) i=gt a i:=by
 simp only[gt,List.getD];rw[YW h]
theorem HL (a b:LV) (i:Nat):gt (a++b) (a.length+i)=gt b i:=by
 simp only[gt,List.getD];rw[YS (by omega),Nat.add_sub_cancel_left]
theorem ei {l:LV} (h:i<l.length):gt l i∈l:=by
 have:gt l i=l[i]:=by simp[gt,List.getD,h]
 rw[this];exact YU h
theorem eB (r:LV) (L:List (LV)):aF (r::L)=r.length+aF L:=by simp[aF]
section
variable {P:Nat->V2}
theorem HX {a:Nat} {r:LV} (h:∀i,i<r.length->P (a+i)=gt r i):eA P (nn a r.length)=bH r:=by
 unfold eA nn bH;rw[Yq];refine Yx λi b=>?_;have b:=X4.1 b;show(P (a+i),P (a+(i+1)%r.length))=(gt r i,gt r ((i+1)%r.length));rw[h i b,h _ (mLt)]
theorem Sf (l:List Dt):eA P (l.map iK)=dx (eA P l):=by simp[eA,dx,iK,Function.comp_def]
theorem HY:∀(H:List (LV)) (a:Nat),(∀i,i<aF H->P (a+i)=gt H.flatten i)->eA P ((iL a H).map iK)=cL H
 |[],_,_=>rfl
 |r::H,a,h=>by rw[iL,Ys,gX,Sf,HX (λi b=>?_),cL,HY H (a+r.length) (λi b=>?_)];rw[YQ,h _ (by rw[eB];omega),Za,HL];rw[h _ (by rw[eB];omega),Za,HM b]
end
abbrev mY (o:LV) (hs:List (LV)):List Dt:=r8 (aZ o::eZ hs)
theorem Bq (o:LV) (hs:List (LV)):eA (gt (aA o hs)) (mY o hs)=dk (aZ o) (eZ hs):=by
 unfold mY aA;rw[r8,gX,HX (λi a=>?_),HY _ _ (λi a=>?_)];rfl;rw[Za,HL];rw[Za,X6,HM a]
theorem GO (a n:Nat):(nn a n).map (·.1)=(List.range n).map (a+·):=by unfold nn;rw[Yq];rfl
theorem GN (a n:Nat):((nn a n).map (·.2)).Perm ((List.range n).map (a+·)):=by
 cases n with
 |zero=>exact .refl _
 |succ m=>have:(nn a (m+1)).map (·.2)=((List.range (m+1)).map λi=>(i+1)%(m+1)).map (a+·):=(by unfold nn;rw[Yq,Yq];rfl);rw[this];exact(Cv m).map _
theorem oX (a m n:Nat):(List.range (m+n)).map (a+·)=(List.range m).map (a+·)++(List.range n).map (a+m+·):=by
 rw[List.range_add,Ys,Yq];congr 1;exact Yx λi _=>(YQ a m i).symm
theorem GQ:∀(H:List (LV)) (a:Nat),(iL a H).map (·.1)=(List.range (aF H)).map (a+·)
 |[],_=>rfl
 |r::H,a=>by rw[iL,Ys,GO,GQ H,eB,oX]
theorem GP:∀(H:List (LV)) (a:Nat),((iL a H).map (·.2)).Perm ((List.range (aF H)).map (a+·))
 |[],_=> .refl _
 |r::H,a=>by rw[iL,Ys,eB,oX];exact(GN a _).append (GP H _)
theorem range_zero (n:Nat):(List.range n).map (0+·)=List.range n:=by
 have:(λx=>0+x)=(id:Nat->Nat):=funext λx=>X6 x;rw[this,aas]
theorem OD (r:LV) (H:List (LV)):((r8 (r::H)).map (·.1)).Perm (List.range (aF (r::H))):=by
 rw[r8,Ys,Yq,eB,<-range_zero,oX];refine aar ?_ ?_;rw[GO];rw[X6];exact GP H r.length
theorem OC (r:LV) (H:List (LV)):((r8 (r::H)).map (·.2)).Perm (List.range (aF (r::H))):=by
 rw[r8,Ys,Yq,eB,<-range_zero,oX];refine aar (GN 0 _) ?_;rw[X6];have:(iL r.length H).map ((λx=>x.2)∘iK)=(iL r.length H).map (·.1):=rfl;rw[this,GQ]
theorem zF (o:LV) (hs:List (LV)):(aA o hs).length=aF (aZ o::eZ hs):=gk _
section
variable {o:LV} {hs:List (LV)}
theorem qM:((mY o hs).map (·.1)).Perm (List.range (aA o hs).length):=by rw[zF];exact OD _ _
theorem Sb:((mY o hs).map (·.2)).Perm (List.range (aA o hs).length):=by rw[zF];exact OC _ _
theorem MN {d:Dt} (h:d∈mY o hs):d.1<(aA o hs).length/\d.2<(aA o hs).length:=
 ⟨X4.1 (qM.mem_iff.1 (List.mem_map_of_mem h)),X4.1 (Sb.mem_iff.1 (List.mem_map_of_mem h))⟩
theorem TY (h:i<(aA o hs).length):∃k,(i,k)∈mY o hs:=by
 obtain⟨d,a,e⟩:=XQ.1 (qM.mem_iff.2 (X4.2 h));exact⟨d.2,by rw[<-e];exact a⟩
theorem AV {α a:Type} {f:α->a} {l:List α} (h:(l.map f).Nodup):l.Nodup:=by
 rw[List.Nodup,ZE]at h;exact h.imp λk e=>k (by rw[e])
theorem DC:(mY o hs).Nodup:=AV (qM.symm.nodup Wn)
theorem iU.Bo {E:Ed} (s:iU E) {e f:V2×V2} (g:e∈E) (a:f∈E) (h:e.1=f.1):e=f:=by
 obtain⟨i,l,j,_,k⟩:=s.out e g;by_cases c:f=e;exact c.symm;exfalso;by_cases b:f=i;exact s.nz f a (by rw[<-h,<-j,b]);exact k f a c b (by rw[h];exact cd _ _)
theorem ML (S:cJ o hs):iU (eA (gt (aA o hs)) (mY o hs)):=by rw[Bq];exact S.eZ.oO
theorem Sc (S:cJ o hs):nc (eA (gt (aA o hs)) (mY o hs)) 0:=by rw[Bq];exact S.eZ.wu
theorem Sd (S:cJ o hs) (m:Int) (z:V2):W (bD m (eA (gt (aA o hs)) (mY o hs))) z=W (bD m (dk o hs)) z:=by
 rw[Bq];exact jT ((HW S).map _) z
theorem FY (S:cJ o hs):(aA o hs).Nodup:=by
 have s:=ML S;have a:((eA (gt (aA o hs)) (mY o hs)).map (·.1)).Nodup:=by rw[List.Nodup,ZE];exact s.nodup.imp_of_mem λb c f e=>f (s.Bo b c e)
 have g:(eA (gt (aA o hs)) (mY o hs)).map (·.1)=((mY o hs).map (·.1)).map (gt (aA o hs)):=by unfold eA;rw[Yq,Yq];rfl
 rw[g]at a;have j:=(qM.map (gt (aA o hs))).nodup a;have k:(List.range (aA o hs).length).map (gt (aA o hs))=aA o hs:=by apply Wo;simp;intro i h _;have l:i<(aA o hs).length:=(by simpa using h);simp[gt,List.getD,l]
 rwa [k]at j
theorem LB {l:LV} (h:l.Nodup) {k:Nat} (hi:i<l.length) (a:k<l.length) (e:gt l i=gt l k):i=k:=by
 have b:l[i]=l[k]:=by simpa[gt,List.getD,hi,a]using e
 have P:=Y5.1 h;rcases Z4 i k with c|c|c;exact absurd b (P i k hi a c);exact c;exact absurd b.symm (P k i a hi c)
theorem oz (S:cJ o hs) (i k:Nat) (hi:i<(aA o hs).length) (a:k<(aA o hs).length) (e:gt (aA o hs) i=gt (aA o hs) k):i=k:=LB (FY S) hi a e
theorem TX (h:i<(aA o hs).length):Vx (eA (gt (aA o hs)) (mY o hs)) (gt (aA o hs) i):=by
 obtain⟨k,a⟩:=TY h;exact⟨_,dL a,rfl⟩
theorem MM {v:V2} (h:Vx (eA (gt (aA o hs)) (mY o hs)) v):∃i,i<(aA o hs).length/\gt (aA o hs) i=v:=by
 obtain⟨e,a,rfl⟩:=h;obtain⟨d,b,rfl⟩:=XQ.1 a;exact⟨d.1,(MN b).1,rfl⟩
end
theorem GF:∀(O:List Dt) (l:List Nat) {p:Nat},p∉O.map (·.1)->(O.foldl (λl d=>l.set d.1 d.2) l).getD p 0=l.getD p 0
 |[],_,_,_=>rfl
 |e::O,l,p,h=>by simp only[Yg,XF,not_or]at h;rw[ZP,GF O _ h.2];simp[List.getD,List.getElem?_set,Zr h.1]
theorem KI:∀(O:List Dt) (l:List Nat),(O.map (·.1)).Nodup->(∀d∈O,d.1<l.length)->∀d∈O,(O.foldl (λl d=>l.set d.1 d.2) l).getD d.1 0=d.2
 |[],_,_,_,_,h=>nomatch h
 |e::O,l,a,b,d,f=>by rw[Yg,Yy]at a;rw[ZP];rcases XF.1 f with c|c;subst c;rw[GF O _ a.1];simp[List.getD,b d XW];exact KI O _ a.2 (λx g=>by rw[Xq];exact b x (XK _ g)) d c
section
variable {o:LV} {hs:List (LV)}
theorem RO {d:Dt} (h:d∈mY o hs):(NX o hs).getD d.1 0=d.2:=
 KI _ _ (qM.symm.nodup Wn) (λx a=>by rw[List.length_replicate];exact(MN a).1) d h
theorem HS:∀D:List Dt,(D.flatMap λd=>[d,iK d]).Perm (D++D.map iK)
 |[]=> .refl _
 |d::D=>by rw[WR,Yg,YG];show(d::iK d::(D.flatMap λd=>[d,iK d])).Perm (d::(D++iK d::D.map iK));exact(((HS D).cons _).trans List.perm_middle.symm).cons _
theorem G4:(NX o hs).length=(aA o hs).length:=u7 _ _
theorem B9 (D:List Dt):(Qt (NX o hs).length (NX o hs) D).Perm (oh (mY o hs) D):=by
 unfold Qt oh;refine aar ?_ (HS D);rw[G4];have e:mY o hs=((mY o hs).map (·.1)).map λp=>(p,(NX o hs).getD p 0):=by
  rw[Yq]
  conv=>lhs;rw[<-aas (mY o hs)]
  refine Yx λd a=>?_;show d=(d.1,(NX o hs).getD d.1 0);rw[RO a]
 rw[e];exact(qM.map _).symm
end
theorem vb {k:Int} (c:0<k) (a b:Int):(cK (k*a) (k*b)<=0↔cK a b<=0)/\(0<=cG (k*a) (k*b)↔0<=cG a b):=by
 have h:∀x:Int,(k*x<=0↔x<=0)/\(0<=k*x↔0<=x):=λx=>by have p:=tT c (x:=x) (y:=0);have q:=tT c (x:=0) (y:=x);rw[Yh]at p q;exact⟨p,q⟩
 have l:=tT c (x:=a) (y:=b);have f:=tT c (x:=b) (y:=a);have g:=h a;have i:=h b;unfold cK cG;constructor<;>(split<;>split<;>omega)
structure At (p:P3) (m:Int) (z:V2):Prop where
 pos:0<m
 ok:en p=true
 at_:∃k:Int,0<k/\∀v,af z (ag m v)=ag k (fu p v)
theorem QO {v:V2} (h:In 4000 v):At (cb v) 1 v:=by
 refine⟨by decide,GV h,1,by decide,λu=>?_⟩;simp only[fu,cb,af,ag,ZY,aau]
section
variable {p:P3} {m:Int} {z:V2}
theorem z7 (z v:V2):fu (cb z) v=af z v:=by simp only[fu,cb,af,ZY]
theorem At.on (A:At p m z) (a b:V2):qA ⟨a,b⟩ p=true↔aV (ag m a) (ag m b) z:=by
 obtain⟨k,f,h⟩:=A.at_;rw[<-AU];have g:kP ⟨ag m a,ag m b⟩ (cb z)=m*k*kP ⟨a,b⟩ p:=by unfold kP;rw[z7,h,hQ];simp only[aa,ag,ZL];grind
 have i:=XC A.pos f;have e:(kP ⟨ag m a,ag m b⟩ (cb z)=0)↔kP ⟨a,b⟩ p=0:=by rw[g];constructor;intro q;rcases Zy.1 q with c|c;omega;exact c;intro q;rw[q,Yh]
 unfold qA;simp only[XH,XU];rw[e];simp only[z7,h];show _↔(((_/\cK (k*_) (k*_)<=0)/\0<=cG (k*_) (k*_))/\cK (k*_) (k*_)<=0)/\0<=cG (k*_) (k*_);rw[(vb f _ _).1,(vb f _ _).2,(vb f _ _).1,(vb f _ _).2]
theorem At.crs (A:At p m z) (a b:V2):gZ ⟨ag m a,ag m b⟩ (cb z)=gZ ⟨a,b⟩ p:=by
 obtain⟨k,c,h⟩:=A.at_;have f:kP ⟨ag m a,ag m b⟩ (cb z)=m*k*kP ⟨a,b⟩ p:=by unfold kP;rw[z7,h,hQ];simp only[aa,ag,ZL];grind
 have i:=XC A.pos c;have e:decide (0<kP ⟨ag m a,ag m b⟩ (cb z))=decide (0<kP ⟨a,b⟩ p):=by rw[f];refine Yj.2 ⟨λq=>(bg (x:=kP ⟨a,b⟩ p) (show 1<=m*k by omega)).1.1 q,λq=>XC i q⟩
 have g:∀x:Int,decide (0<=k*x)=decide (0<=x):=λx=>Yj.2 (by
  have q:=tT c (x:=0) (y:=x)
  rwa [Yh]at q)
 unfold gZ;rw[e];simp only[z7,h];show(!(decide (0<=k*_)==decide (0<=k*_))&&(decide (0<=k*_)==_))=_;rw[g,g]
theorem u5 {l:LV} (f:V2->V2) {i:Nat} (hi:i<l.length):gt (l.map f) i=f (gt l i)/\bw (l.map f) i=f (bw l i):=by
 have a:(i+1)%l.length<l.length:=mLt;constructor<;>simp[bw,gt,List.getD,hi,a]
theorem At.QY (A:At p m z) (l:LV):cz (l.map (ag m)) (cb z)=cz l p:=by
 unfold cz;have b:fW (l.map (ag m)) (cb z)=fW l p:=by unfold fW;rw[X9];congr 1;refine Gc λi a=>?_;congr 1;rw[Zd];unfold bN;rw[(u5 _ a).1,(u5 _ a).2,A.on];exact AU
 have c:nO (l.map (ag m)) (cb z) (l.map (ag m)).length=nO l p l.length:=by rw[pc,pc,X9];refine ib λi a=>?_;unfold bN;rw[(u5 _ a).1,(u5 _ a).2,A.crs]
 rw[b,c]
theorem At.uV (A:At p m z) {l:LV} (a:bk l) (h:∃e∈bH l,aV (ag m e.1) (ag m e.2) z):bL l p=1:=by
 obtain⟨e,b,c⟩:=h;obtain⟨i,f,rfl⟩:=bC.1 b;rw[bL,XG ⟨ez.2 a,A.ok⟩,cz,XG];unfold fW;rw[bS i f];rfl;have:qA (bN l i) p=true:=(A.on _ _).2 c;rw[this];rfl
theorem At.fC (A:At p m z) {l:LV} (a:bk l) (h:∀e∈bH l,¬aV (ag m e.1) (ag m e.2) z):bL l p=2*W (bD m (bH l)) z:=by
 rw[bL,XG ⟨ez.2 a,A.ok⟩,<-A.QY l];refine(Sg.fC a A.pos λe b=>?_).2;obtain⟨x,c,rfl⟩:=aK.1 b;exact h x c
theorem Pt {hs:List (LV)} (H:∀h∈hs,bk h) (f:0<m) (z:V2):W (bD m (cL hs)) z<=0/\(W (bD m (cL hs)) z=0↔∀h∈hs,W (bD m (bH h)) z=0):=by
 induction hs with
 |nil=>exact⟨Yc _,λ_ h a=>(nomatch a),λ_=>rfl⟩
 |cons r l i=>obtain⟨o,b⟩:=i λx j=>H x (XK _ j);have g:=(iA (H r XW)) m z f;have e:W (bD m (cL (r::l))) z= -W (bD m (bH r)) z+W (bD m (cL l)) z:=(by simp only[cL];rw[ed,lO,eP,ja]);rw[e];refine⟨by omega,λk h a=>?_,λk=>?_⟩;rcases XF.1 a with c|c;subst c;omega;exact b.1 (by omega) h c;rw[k r XW,b.2 λh a=>k h (XK _ a)];rfl
theorem FE {o:LV} {hs:List (LV)} (S:cJ o hs) (a:0<m) (z:V2):W (bD m (dk o hs)) z=1↔W (bD m (bH o)) z=1/\∀h∈hs,W (bD m (bH h)) z=0:=by
 have g:=(iA S.outer) m z a;obtain⟨c,b⟩:=Pt S.ring a z;rw[<-b];unfold dk;rw[ed,lO];omega
def Qd (o:LV) (hs:List (LV)) (m:Int) (z:V2):Prop:=∃r∈o::hs,∃e∈bH r,aV (ag m e.1) (ag m e.2) z
theorem u4 {o:LV} {hs:List (LV)}:Qd o hs m z↔∃e∈dk o hs,aV (ag m e.1) (ag m e.2) z:=by
 unfold dk;constructor;rintro⟨r,b,e,a,h⟩;rcases XF.1 b with c|c;subst c;exact⟨e,X0 _ a,h⟩;exact⟨(e.2,e.1),XY _ (dZ.2 ⟨r,c,a⟩),au.2 h⟩;rintro⟨e,a,h⟩;rcases XN.1 a with c|c;exact⟨o,XW,e,c,h⟩;obtain⟨r,b,k⟩:=dZ.1 c;exact⟨r,XK _ b,_,k,au.2 h⟩
theorem Gi {p:P3}:∀b:List (LV),ED p 2 b=2↔∀h∈b,bL h p≠2/\bL h p≠1
 |[]=>⟨λ_ h a=>(nomatch a),λ_=>rfl⟩
 |r::b=>by
  rw[ED];by_cases c:bL r p=2;rw[XG c];exact⟨λk=>absurd k (by decide),λk=>absurd c (k r XW).1⟩
  ·rw[XD c];by_cases f:bL r p=1;rw[XG f];exact⟨λk=>absurd k (by decide),λk=>absurd f (k r XW).2⟩
   ·rw[XD f,Gi b];exact⟨λk h a=>by
     rcases XF.1 a with e|e;subst e;exact⟨c,f⟩
     ·exact k h e,λk h a=>k h (XK _ a)⟩
theorem At.KG (A:At p m z) {o:LV} {hs:List (LV)} (S:cJ o hs):JN o hs p=2↔¬Qd o hs m z/\W (bD m (dk o hs)) z=1:=by
 unfold JN;have gen:∀{r:LV},bk r->(∃e∈bH r,aV (ag m e.1) (ag m e.2) z)\/∀e∈bH r,¬aV (ag m e.1) (ag m e.2) z:=λ_=>by refine aaw.2 λh e b k=>h ⟨e,b,k⟩
 rw[FE S A.pos];by_cases c:bL o p=2
 ·rw[XD (by simpa using c),c,Gi];have g:∀e∈bH o,¬aV (ag m e.1) (ag m e.2) z:=(by rcases gen S.outer with h|h;rw[A.uV S.outer h]at c;exact absurd c (by decide);exact h);rw[A.fC S.outer g]at c;constructor
  ·intro k;have l:∀h∈hs,(∀e∈bH h,¬aV (ag m e.1) (ag m e.2) z)/\W (bD m (bH h)) z=0:=(by intro h a;obtain⟨f,i⟩:=k h a;rcases gen (S.ring h a)with q|q;exact absurd (A.uV (S.ring h a) q) i;rw[A.fC (S.ring h a) q]at f;have:=(iA (S.ring h a)) m z A.pos;exact⟨q,by omega⟩);refine⟨?_,by omega,λh a=>(l h a).2⟩;rintro⟨r,t,e,b,q⟩;rcases XF.1 t with j|j;subst j;exact g e b q;exact(l r j).1 e b q
  ·rintro⟨f,_,u⟩ h a;have q:∀e∈bH h,¬aV (ag m e.1) (ag m e.2) z:=λe b q=>f ⟨h,XK _ a,e,b,q⟩;rw[A.fC (S.ring h a) q,u h a];decide
 ·rw[XG (by simpa using c)];refine⟨λk=>absurd k c,λk=>?_⟩;exfalso;obtain⟨f,i,_⟩:=k;have g:∀e∈bH o,¬aV (ag m e.1) (ag m e.2) z:=λe b q=>f ⟨o,XW,e,b,q⟩;rw[A.fC S.outer g,i]at c;exact c rfl
theorem Gj {p:P3} (f:∀h:LV,bL h p=0\/bL h p=1\/bL h p=2):∀a:List (LV),ED p 2 a=1->∃h∈a,bL h p=1
 |[],h=>absurd (show(2:Int)=1 from h) (by decide)
 |r::a,h=>by rw[ED]at h;by_cases c:bL r p=2;rw[XG c]at h;exact absurd h (by decide);rw[XD c]at h;by_cases b:bL r p=1;exact⟨r,XW,b⟩;rw[XD b]at h;obtain⟨x,g,e⟩:=Gj f a h;exact⟨x,XK _ g,e⟩
theorem yv (l:LV) (p:P3):bL l p=0\/bL l p=1\/bL l p=2:=by
 unfold bL cz;split;split;exact .inr (.inl rfl);split;exact .inr (.inr rfl);exact .inl rfl;exact .inl rfl
theorem At.RA (A:At p m z) {o:LV} {hs:List (LV)} (S:cJ o hs):JN o hs p=1↔Qd o hs m z:=by
 have gen:∀{r:LV},bk r->bL r p=1->∃e∈bH r,aV (ag m e.1) (ag m e.2) z:=λ{r} i h=>by refine Xz λq=>?_;rw[A.fC i λe f k=>q ⟨e,f,k⟩]at h;omega
 unfold JN;constructor;intro h;by_cases c:bL o p=2;rw[XD (by simpa using c),c]at h;obtain⟨r,i,e⟩:=Gj (λh=>yv h p) hs h;exact⟨r,XK _ i,gen (S.ring r i) e⟩;rw[XG (by simpa using c)]at h;exact⟨o,XW,gen S.outer h⟩
 ·rintro⟨r,i,e,f,q⟩;rcases XF.1 i with c|c;subst c;have w:=A.uV S.outer ⟨e,f,q⟩;rw[XG (by rw[w];decide)];exact w
  ·
   have H:∀u∈bH o,¬aV (ag m u.1) (ag m u.2) z:=λu I k=>(rn A.pos (S.off r c u I e f)).DG q k;have J:W (bD m (bH o)) z=1:=by
    have K:mT (bD m (bH o)):=(mK o).sc m;have n:∀a∈bD m (bH o),NM a.1 a.2 (ag m e.1) (ag m e.2):=λa y=>by obtain⟨x,t,rfl⟩:=aK.1 y;exact rn A.pos (S.off r c x t e f)
    rw[(BP K (b:=(ag m e.1,ag m e.2)) n q).1];show W (bD m (bH o)) (ag m e.1)=1;rw[kK A.pos];exact S.Pq r c e f
   have B:bL o p=2:=(by rw[A.fC S.outer H,J];rfl);rw[XD (by simpa using B),B];have M:∀j:List (LV),(∀h∈j,h∈hs)->j.Pairwise QS->r∈j->ED p 2 j=1:=by
    intro j;induction j with
    |nil=>intro _ _ h;cases h
    |cons g l N=>
     intro C D O;rw[ED];by_cases E:g=r;subst E;rw[A.uV (S.ring g c) ⟨e,f,q⟩];rfl
     ·have F:r∈l:=(by rcases XF.1 O with k|k;exact absurd k.symm E;exact k);have G:=(YJ.1 D).1 r F;have P:=S.ring g (C g XW);have n:∀a∈bD m (bH g),NM a.1 a.2 (ag m e.1) (ag m e.2):=λa y=>by obtain⟨x,t,rfl⟩:=aK.1 y;exact rn A.pos (G.1 x t e f)
      have Q:W (bD m (bH g)) z=0:=(by rw[(BP ((mK g).sc m) (b:=(ag m e.1,ag m e.2)) n q).1];show W (bD m (bH g)) (ag m e.1)=0;rw[kK A.pos];exact G.2.1 e f);have R:bL g p=0:=(by rw[A.fC P λx t k=>(n _ (aK.2 ⟨x,t,rfl⟩)).DG q k,Q];rfl);rw[R,XD (by decide),XD (by decide)];exact N (λh T=>C h (XK _ T)) (YJ.1 D).2 F
   exact M hs (λ_ h=>h) S.pair c
end
theorem vz {s t:cc} (hs:az s=true) (a:az t=true) (b:s.a≠s.b) (c:t.a≠t.b):zN s t=true↔AE s.a s.b t.a t.b:=by
 unfold zN;simp only[Zo,XH,XU];rw[(fG s t).1];constructor;intro h;refine Pk hs a b c ?_;rcases h with h|⟨h,k⟩;exact .inl h;exact .inr ⟨h,by rcases k with((k|k)|k)|k;exact .inl k;exact .inr (.inl k);exact .inr (.inr (.inl k));exact .inr (.inr (.inr k))⟩;intro h;rcases P6 hs a b h with h|⟨h,k⟩;exact .inl h;exact .inr ⟨h,by rcases k with k|k|k|k;exact .inl (.inl (.inl k));exact .inl (.inl (.inr k));exact .inl (.inr k);exact .inr k⟩
variable {e:cc}
theorem wZ {l:LV} (b:bk l):e∈aw l↔∃i,i<l.length/\e=bN l i:=by
 unfold aw;rw[XD b.n2,XQ];constructor;rintro⟨i,a,rfl⟩;exact⟨i,X4.1 a,rfl⟩;rintro⟨i,a,rfl⟩;exact⟨i,X4.2 a,rfl⟩
variable {Q:V2->V2->Prop} {p:V2}
section
variable {o:LV} {hs:List (LV)}
theorem cJ.qv (S:cJ o hs) {r:LV} (h:r∈o::hs):bk r:=by
 rcases XF.1 h with c|c;subst c;exact S.outer;exact S.ring r c
theorem nU (S:cJ o hs):e∈dE (o::hs)↔∃r∈o::hs,∃i,i<r.length/\e=bN r i:=by
 unfold dE;rw[ZK];constructor;rintro⟨r,a,b⟩;exact⟨r,a,(wZ (S.qv a)).1 b⟩;rintro⟨r,a,b⟩;exact⟨r,a,(wZ (S.qv a)).2 b⟩
theorem xo (S:cJ o hs) (l:∀a b,Q a b->Q b a):(∀e∈dE (o::hs),Q e.a e.b)↔∀e∈dk o hs,Q e.1 e.2:=by
 constructor;intro h e g;unfold dk at g;rcases XN.1 g with c|c;obtain⟨i,f,rfl⟩:=bC.1 c;exact h (bN o i) ((nU S).2 ⟨o,XW,i,f,rfl⟩);obtain⟨r,j,k⟩:=dZ.1 c;obtain⟨i,f,m⟩:=bC.1 k;have:=h (bN r i) ((nU S).2 ⟨r,XK _ j,i,f,rfl⟩);have p:e.2=gt r i:=X5 Prod.fst m;have q:e.1=bw r i:=X5 Prod.snd m;rw[p,q];exact l _ _ this;intro h e g;obtain⟨r,j,i,f,rfl⟩:=(nU S).1 g;unfold dk at h;rcases XF.1 j with c|c;subst c;exact h _ (X0 _ (bC.2 ⟨i,f,rfl⟩));exact l _ _ (h (bw r i,gt r i) (XY _ (dZ.2 ⟨r,c,bC.2 ⟨i,f,rfl⟩⟩)))
theorem r2 {L:List cc} {f:cc->Bool}:bJ L.length (λi=>f (bm L i))=true↔∀e∈L,f e=true:=by
 rw[aE];constructor
 ·intro h e b;obtain⟨i,a,rfl⟩:=YV.1 b;have:=h i a
  rwa [show bm L i=L[i] by simp[List.getD,a]]at this
 ·intro h i a;rw[show bm L i=L[i] by simp[List.getD,a]];exact h _ (YU a)
theorem Br (S:cJ o hs) (h:e∈dE (o::hs)):az e=true/\e.a≠e.b:=by
 obtain⟨r,a,i,b,rfl⟩:=(nU S).1 h;exact⟨cx (S.qv a).fE i,s5 (S.qv a) b⟩
theorem qu {l:LV} (a:bk l) (h:p∈l):In 2000 p:=by
 obtain⟨i,b,rfl⟩:=YV.1 h;have:=cu a.fE i
 rwa [show gt l i=l[i] by simp[gt,List.getD,b]]at this
theorem zE (S:cJ o hs) (h:p∈aA o hs):In 2000 p:=by
 obtain⟨r,b,a⟩:=DU.1 h;rcases XF.1 b with c|c;subst c;exact qu (rh S.outer) a;obtain⟨q,f,rfl⟩:=XQ.1 c;exact qu (rh (S.ring q f)) a
theorem rU (S:cJ o hs) {i:Nat} (h:i<(aA o hs).length:=by omega):In 2000 (gt (aA o hs) i):=zE S (ei h)
end
theorem Sv {c:cc} (f:In 2000 c.a) (i:In 2000 c.b):At (yg c) 2 (ak c.a c.b):=by
 have u:=f.x0;have w:=f.x1;have x:=f.y0;have y:=f.y1;have z:=i.x0;have A:=i.x1;have B:=i.y0;have C:=i.y1;refine⟨by decide,?_,?_⟩
 ·unfold yg en;rw[XH,XU,fJ];by_cases h:(c.a.x+c.b.x).tmod 2=0/\(c.a.y+c.b.y).tmod 2=0;rw[XG h];have ex:=WV (c.a.x+c.b.x) 2;have l:=WV (c.a.y+c.b.y) 2;rw[h.1]at ex;rw[h.2]at l;dsimp only;refine⟨⟨by decide,by decide,by omega,by omega,by omega,by omega⟩,Int.gcd_one⟩
  ·rw[XD h];dsimp only;refine⟨⟨by decide,by decide,by omega,by omega,by omega,by omega⟩,?_⟩;have j:((Int.gcd (Int.gcd (c.a.x+c.b.x) (c.a.y+c.b.y):Nat) 2:Nat):Int)∣2:=Int.gcd_dvd_right ..;have m:((Int.gcd (Int.gcd (c.a.x+c.b.x) (c.a.y+c.b.y):Nat) 2:Nat):Int)∣(Int.gcd (c.a.x+c.b.x) (c.a.y+c.b.y):Nat):=Int.gcd_dvd_left ..;have o:=Int.dvd_trans m (Int.gcd_dvd_left (a:=c.a.x+c.b.x) (b:=c.a.y+c.b.y));have p:=Int.dvd_trans m (Int.gcd_dvd_right (a:=c.a.x+c.b.x) (b:=c.a.y+c.b.y));generalize Int.gcd (Int.gcd (c.a.x+c.b.x) (c.a.y+c.b.y):Nat) 2=g at j o p|-;have D:=Int.le_of_dvd (by decide) j;have E:g≠0:=λq=>by rw[q]at j;obtain⟨k,r⟩:=j;simp at r
   by_cases t:g=2;exfalso;subst t;exact h ⟨Int.tmod_eq_zero_of_dvd o,Int.tmod_eq_zero_of_dvd p⟩;omega
 ·unfold yg;by_cases h:(c.a.x+c.b.x).tmod 2=0/\(c.a.y+c.b.y).tmod 2=0;(rw[XG h];have ex:=WV (c.a.x+c.b.x) 2;have l:=WV (c.a.y+c.b.y) 2;rw[h.1]at ex;rw[h.2]at l;refine⟨2,by decide,λv=>?_⟩;simp only[fu,af,ag,ak,ZY];congr 1<;>omega)
  ·rw[XD h];refine⟨1,by decide,λv=>?_⟩;simp only[fu,af,ag,ak,aau];congr 1<;>omega
theorem mH {t a:List Dt->Dt->Bool} {Q:Dt->Prop} (h:∀acc c,(∀d∈acc,Q d)->Q c->t acc c=a acc c):∀{cs acc:List Dt},(∀d∈acc,Q d)->(∀c∈cs,Q c)->cn t acc cs=cn a acc cs
 |[],_,_,_=>rfl
 |c::cs,acc,b,f=>by have i:=f c XW;rw[cn,cn,h acc c b i];by_cases e:a acc c=true;rw[XG e,XG e];refine mH h (λd j=>?_) λx g=>f x (XK _ g);rcases XN.1 j with k|k;exact b d k;rw[YB]at k;subst k;exact i;rw[XD e,XD e];exact mH h b λx g=>f x (XK _ g)
theorem wg {n i:Nat}:∀{m k:Nat},(uv n i m k).Nodup
 |0,_=>WQ
 |m+1,k=>by rw[uv,Yy];exact⟨λh=>by have:=(ra.1 h).2.1;simp only at this;omega,wg⟩
theorem tM {n:Nat}:∀{m i:Nat},i+m=n->(fV n m i).Nodup
 |0,_,_=>WQ
 |m+1,i,h=>by rw[fV,Y0];refine⟨wg,tM (by omega),λa c b f e=>?_⟩;subst e;have g:=(ra.1 c).1;have j:=((lr (by omega)).1 f).1;omega
section
variable {o:LV} {hs:List (LV)}
theorem MO (S:cJ o hs) (f:∀a b,Q a b->Q b a):(∀e∈mY o hs,Q (gt (aA o hs) e.1) (gt (aA o hs) e.2))↔∀e∈dE (o::hs),Q e.a e.b:=by
 rw[xo S f];have p:=HW S;rw[<-Bq]at p;constructor;intro h e c;obtain⟨d,g,rfl⟩:=XQ.1 (p.mem_iff.2 c);exact h d g;intro h e c;exact h (gt (aA o hs) e.1,gt (aA o hs) e.2) (p.mem_iff.1 (dL c))
theorem N8 (S:cJ o hs) {acc:List Dt} {c:Dt} (H:c.1<c.2/\c.2<(aA o hs).length) (I:∀d∈acc,d.1<d.2/\d.2<(aA o hs).length):
  IA o hs (aA o hs) acc c=true↔Good (gt (aA o hs)) (mY o hs) c/\∀d∈acc,EB (gt (aA o hs)) c d:=by
 have B:∀d:Dt,d.1<d.2/\d.2<(aA o hs).length->az (ni (aA o hs) d)=true/\gt (aA o hs) d.1≠gt (aA o hs) d.2:=λd j=>
  ⟨jL ((rU S).up (by decide)) ((rU S j.2).up (by decide)),λe=>by have:=oz S _ _ (by omega) j.2 e;omega⟩
 obtain⟨t,p⟩:=B c H;unfold IA;rw[XH,XH,XU];have J:bJ acc.length (λi=>zN (ni (aA o hs) c) (ni (aA o hs) (bf acc i)))=true↔∀d∈acc,EB (gt (aA o hs)) c d:=by rw[aE];constructor;intro h d j;obtain⟨i,l,rfl⟩:=YV.1 j;have g:=h i l;rw[show bf acc i=acc[i] by simp[List.getD,l]]at g;obtain⟨C,D⟩:=B _ (I _ j);exact(vz t C p D).1 g;intro h i l;have j:acc[i]∈acc:=YU l;rw[show bf acc i=acc[i] by simp[List.getD,l]];obtain⟨C,D⟩:=B _ (I _ j);exact(vz t C p D).2 (h _ j)
 have K:bJ (dE (o::hs)).length (λi=>zN (bm (dE (o::hs)) i) (ni (aA o hs) c))=true↔∀e∈mY o hs,EB (gt (aA o hs)) c e:=by rw[r2 (f:=λe=>zN e (ni (aA o hs) c))];unfold EB;rw[MO S (Q:=λa b=>AE (gt (aA o hs) c.1) (gt (aA o hs) c.2) a b) λa b h=>h.sym.swap.sym];constructor;intro h e m;obtain⟨E,F⟩:=Br S m;exact((vz E t F p).1 (h e m)).sym;intro h e m;obtain⟨E,F⟩:=Br S m;exact(vz E t F p).2 (h e m).sym
 rw[J,K];have A:=Sv (c:=ni (aA o hs) c) (rU S) (rU S H.2);rw[A.KG S];constructor;rintro⟨G,w,_,z⟩;exact⟨⟨w,by rw[Sd S];exact z⟩,G⟩;rintro⟨⟨w,z⟩,G⟩;refine⟨G,w,?_,by rw[Sd S]at z;exact z⟩;rintro⟨r,M,e,m,N⟩;obtain⟨i,l,rfl⟩:=bC.1 m;have q:=(MO S (Q:=λa b=>AE (gt (aA o hs) c.1) (gt (aA o hs) c.2) a b) λa b h=>h.sym.swap.sym).1 w (bN r i) ((nU S).2 ⟨r,M,i,l,rfl⟩);obtain⟨O,P,R⟩:=ml (x:=1) (y:=1) (by decide) (by decide) p (u:=ak (gt (aA o hs) c.1) (gt (aA o hs) c.2)) (by simp only[ak];omega) (by simp only[ak];omega);rcases(q 2 _ (by decide) O N).1 with k|k;exact P k;exact R k
abbrev yn (o:LV) (hs:List (LV)):List Dt:=qQ o hs (aA o hs)
theorem nM (S:cJ o hs):pR (eA (gt (aA o hs)) (mY o hs)) (eA (gt (aA o hs)) (yn o hs)):=by
 let f:List Dt->Dt->Bool:=λa c=>@decide (Good (gt (aA o hs)) (mY o hs) c/\∀d∈a,EB (gt (aA o hs)) c d) (Classical.propDecidable _);have e:yn o hs=cn f [] (fV (aA o hs).length (aA o hs).length 0):=by unfold yn qQ;refine mH (Q:=λd=>d.1<d.2/\d.2<(aA o hs).length) (λa c g b=>?_) (λd j=>(nomatch j)) λc b=>?_;rw[Zd,N8 S b g];show _↔@decide _ (Classical.propDecidable _)=true;rw[@XU _ (Classical.propDecidable _)];have:=(lr (by omega)).1 b;exact⟨this.2.1,this.2.2⟩
 rw[e];refine Du (n:=(aA o hs).length) (ML S) (Sc S) (oz S) (λi k=>TX k) (λv l=>MM l) (λa c=>?_) (λc=>?_);show@decide _ (Classical.propDecidable _)=true↔_;rw[@XU _ (Classical.propDecidable _)];rw[lr (by omega)];exact⟨λh=>h.2,λh=>⟨XS _,h⟩⟩
theorem xp:(yn o hs).Nodup:=mE (by rw[Ww];exact tM (by omega))
end
variable {a:V2}
theorem Pa {b:V2} (f:a≠⟨0,0⟩) (g:b≠⟨0,0⟩) (h:¬(aa a b=0/\0<ay a b)):nj a b\/nj b a:=by
 unfold nj;have i:=dP a b;by_cases u:fa a<;>by_cases w:fa b
 ·by_cases c:aa a b=0;exact absurd ((gK f g (by unfold bn;rw[X8 u,X8 w]) c).par f) h;rcases Yi c with k|k;exact .inr (.inr ⟨⟨λ_=>u,λ_=>w⟩,by omega⟩);exact .inl (.inr ⟨⟨λ_=>w,λ_=>u⟩,by omega⟩)
 ·exact .inl (.inl ⟨u,w⟩)
 ·exact .inr (.inl ⟨w,u⟩)
 ·by_cases c:aa a b=0;exact absurd ((gK f g (by unfold bn;rw[X1 u,X1 w]) c).par f) h;rcases Yi c with k|k;exact .inr (.inr ⟨⟨λq=>absurd q w,λq=>absurd q u⟩,by omega⟩);exact .inl (.inr ⟨⟨λq=>absurd q u,λq=>absurd q w⟩,by omega⟩)
theorem pg {b c:V2} (f:a≠⟨0,0⟩) (g:b≠⟨0,0⟩) (h:c≠⟨0,0⟩) (i:nj a b) (h2:nj b c):nj a c:=
 rv.1 (sS f g h (rv.2 i) (rv.2 h2))
theorem uI {d:V2}:bn d=true↔fa d:=by unfold bn;rw[XU]
theorem nF {n:Int}:(0<bM n↔0<n)/\(bM n<0↔n<0):=by unfold bM;split<;>(try split)<;>omega
theorem EO {b:V2} (c:In 2000 a) (f:In 2000 b):cT a b=af a b/\In 4000 (af a b):=by
 obtain⟨e,i⟩:=gP (by decide) c f;exact⟨e,i.up (by decide)⟩
variable {i k p:Nat}
theorem BH {v:LV} (c:∀i,In 2000 (gt v i)):Ub v p i k<0↔nj (af (gt v i) (gt v p)) (af (gt v k) (gt v p)):=by
 obtain⟨f,g⟩:=EO (c i) (c p);obtain⟨h,j⟩:=EO (c k) (c p);unfold Ub;rw[f,h,jt (m:=4000) (by decide) (by decide) ⟨by decide,by decide,by decide,by decide⟩ g j];generalize af (gt v i) (gt v p)=a;generalize af (gt v k) (gt v p)=b;have l:iW ⟨0,0⟩ a b=bM (aa a b):=by unfold iW;congr 2<;>simp only[af,Int.sub_zero]
 rw[l];have s:=nF (n:=aa a b);unfold nj Dr;rw[<-uI,<-uI];cases bn a<;>cases bn b<;>simp<;>omega
variable {cf:Nat->Nat->Int}
theorem pP.of_lt {n:Nat} {g:Nat->V2} (f:∀i,i<n->g i≠⟨0,0⟩) (h:∀i k,i<n->k<n->(cf i k<0↔nj (g i) (g k))) (o:∀i k,i<n->k<n->i≠k->nj (g i) (g k)\/nj (g k) (g i)):pP n cf:=by
 refine⟨λi a=>?_,λi j k a b c l m=>?_,λi j k a b c l m=>?_⟩;rw[h i i a a];exact w2;rw[h _ _ a c];exact pg (f i a) (f j b) (f k c) ((h _ _ a b).1 l) ((h _ _ b c).1 m);rw[h _ _ a b]at l;rw[h _ _ b c]at m;rw[h _ _ a c];by_cases p:i=j;subst p;exact m;by_cases q:j=k;subst q;exact l;have r:=(o i j a b p).resolve_left l;have t:=(o j k b c q).resolve_left m;intro u;exact w2 (pg (f k c) (f j b) (f k c) t (pg (f j b) (f i a) (f k c) r u))
theorem IH {n:Nat} (h:pP n cf) (g:∀i k,i<n->k<n->i≠k->cf i k<0\/cf k i<0):((List.range n).map (oN n cf)).Pairwise λi k=>cf i k<0:=by
 obtain⟨p,q⟩:=oK h;have l:=p.symm.nodup Wn;rw[Y5];intro i j a b c;have m:i<n:=by simpa using a
 have f:j<n:=by simpa using b
 simp only[WX,WM];have o:oN n cf i<n:=X4.1 (p.mem_iff.1 (XQ.2 ⟨i,X4.2 m,rfl⟩));have r:oN n cf j<n:=X4.1 (p.mem_iff.1 (XQ.2 ⟨j,X4.2 f,rfl⟩));refine(g _ _ o r λe=>?_).resolve_right (q i j c f);have:=Y5.1 l i j a b c;simp only[WX,WM]at this;exact this e
variable {nb:Nat->List Nat}
theorem Pp {d:Dt} (h:d.1≠d.2) (x:Nat):rD nb d x=if x=d.1 then nb x++[d.2]else if x=d.2 then nb x++[d.1]else nb x:=by
 unfold rD eg;by_cases c:x=d.2;subst c;rw[XG rfl,XD (λe=>h e.symm),XD (λe=>h e.symm),XG rfl];rw[XD c,XD c];by_cases a:x=d.1;rw[XG a,XG a,a];rw[XD a,XD a]
abbrev JK (d e:Dt):Prop:=e≠d/\e≠iK d
theorem za:∀(E:List Dt) (nb:Nat->List Nat),(∀p,(nb p).Nodup)->(∀d∈E,d.1≠d.2)->E.Pairwise JK->(∀d∈E,d.2∉nb d.1/\d.1∉nb d.2)->∀p,(E.foldl rD nb p).Nodup
 |[],_,h,_,_,_,p=>h p
 |d::E,nb,h,l,w,m,p=>by rw[ZP];have o:=YJ.1 w;have x:=l d XW;have t:=m d XW;refine za E (rD nb d) (λq=>?_) (λe g=>l e (XK _ g)) o.2 (λe g=>?_) p;rw[Pp x];by_cases c:q=d.1;rw[XG c,c,Y0];exact⟨h _,by simp,λa i b f e=>by rw[YB]at f;subst f;subst e;exact t.1 i⟩;rw[XD c];by_cases j:q=d.2;rw[XG j,j,Y0];exact⟨h _,by simp,λa i b f e=>by rw[YB]at f;subst f;subst e;exact t.2 i⟩;rw[XD j];exact h q;have r:=o.1 e g;have u:=m e (XK _ g);rw[w7,w7];refine⟨λk=>?_,λk=>?_⟩;rcases k with k|k|k;exact u.1 k;exact r.1 k.symm;exact r.2 (by rw[k];rfl);rcases k with k|k|k;exact u.2 k;exact r.2 (by rw[k];rfl);exact r.1 k.symm
theorem vP (d:Dt):iK (iK d)=d:=rfl
theorem Lc (B:List Dt):(B.map iK).Pairwise JK↔B.Pairwise JK:=by
 rw[ZE];constructor;intro h;exact h.imp λ{a b} k=>⟨λe=>k.1 (by rw[e]),λe=>k.2 (by rw[e])⟩;intro h;exact h.imp λ{a b} k=>⟨λe=>k.1 (by rw[<-vP b,e,vP]),λe=>k.2 (by rw[<-vP b,e,vP])⟩
theorem Lb {A B C:List Dt} (h:(A++B.map iK++C).Pairwise JK):(A++B++C).Pairwise JK:=by
 rw[Zw,Zw]at h|-;obtain⟨⟨a,b,j⟩,c,i⟩:=h;refine⟨⟨a,(Lc B).1 b,λx g y f=>?_⟩,c,λx g y f=>?_⟩;have:=j x g (iK y) (XQ.2 ⟨y,f,rfl⟩);exact⟨λe=>this.2 (by rw[e]),λe=>this.1 (by rw[e,vP])⟩;rcases XN.1 g with k|k;exact i x (X0 _ k) y f;have:=i (iK x) (XY _ (XQ.2 ⟨x,k,rfl⟩)) y f;exact⟨λe=>this.2 (by rw[e,vP]),λe=>this.1 e⟩
variable {y:Nat}
section
variable {o:LV} {hs:List (LV)}
abbrev kD (o:LV) (hs:List (LV)):List Dt:=iL 0 (aZ o::eZ hs)++yn o hs
theorem uT:((p,y)∈kD o hs\/(y,p)∈kD o hs)↔((p,y)∈mY o hs++yn o hs\/(y,p)∈mY o hs++yn o hs):=by
 unfold kD mY;rw[iL,r8,X6];have q:∀a b:Nat,(a,b)∈(iL (aZ o).length (eZ hs)).map iK↔(b,a)∈iL (aZ o).length (eZ hs):=λa b=>by
  constructor
  ·intro h;obtain⟨d,c,e⟩:=XQ.1 h;have:d=(b,a):=by rw[<-vP d,e];rfl
   rwa [<-this]
  ·intro h;exact XQ.2 ⟨_,h,rfl⟩
 simp only[XN,q];constructor;rintro(((h|h)|h)|((h|h)|h));exact .inl (.inl (.inl h));exact .inr (.inl (.inr h));exact .inl (.inr h);exact .inr (.inl (.inl h));exact .inl (.inl (.inr h));exact .inr (.inr h);rintro(((h|h)|h)|((h|h)|h));exact .inl (.inl (.inl h));exact .inr (.inl (.inr h));exact .inl (.inr h);exact .inr (.inl (.inl h));exact .inl (.inl (.inr h));exact .inr (.inr h)
theorem QL {d:Dt} (h:d∈yn o hs):d.1<d.2/\d.2<(aA o hs).length:=wA h
theorem Gb {d:Dt} (h:d∈mY o hs++yn o hs):d.1<(aA o hs).length/\d.2<(aA o hs).length:=by
 rcases XN.1 h with k|k;exact MN k;have:=QL k;omega
theorem rM {d:Dt} (h:d∈mY o hs++yn o hs):(gt (aA o hs) d.1,gt (aA o hs) d.2)∈eA (gt (aA o hs)) (mY o hs)++eA (gt (aA o hs)) (yn o hs):=by
 rw[<-gX];exact dL h
theorem Ny (S:cJ o hs) {d:Dt} (h:d∈mY o hs++yn o hs):d.1≠d.2:=λe=>by
 have:=((nM S).toDis.ends (rM h)).2.2;exact this (by show gt (aA o hs) d.1=gt (aA o hs) d.2;rw[e])
theorem sJ (h:y∈dD (kD o hs) p):p<(aA o hs).length/\y<(aA o hs).length:=by
 rcases uT.1 (oe.1 h)with k|k;exact Gb k;exact(Gb k).symm
theorem AG (h:y∈dD (kD o hs) p):oB (eA (gt (aA o hs)) (mY o hs)) (eA (gt (aA o hs)) (yn o hs)) (gt (aA o hs) p) (gt (aA o hs) y):=by
 rcases uT.1 (oe.1 h)with k|k;exact .inl (rM k);exact .inr (rM k)
theorem Nx (S:cJ o hs):(mY o hs++yn o hs).Pairwise JK:=by
 have D:=(nM S).toDis;have f:(mY o hs++yn o hs).Nodup:=by have:=xu D DC xp;unfold oh at this;rw[<-Yk]at this;exact(Y0.1 this).1
 refine List.Pairwise.imp_of_mem (λ{a b} g i h=>⟨λe=>h e.symm,λe=>?_⟩) f;have j:=rM g;have c:=rM i;rw[e]at c;exact D.Gn j c
theorem sH (S:cJ o hs) (p:Nat):(dD (kD o hs) p).Nodup:=by
 have q:∀d∈kD o hs,d.1≠d.2:=λd a=>by rcases uT.1 (.inl (show(d.1,d.2)∈kD o hs from a))with k|k;exact Ny S k;exact(Ny S k).symm
 refine za (kD o hs) (λ_=>[]) (λ_=>WQ) q ?_ (λd _=>⟨by simp,by simp⟩) p;have h:=Nx S;unfold mY at h;rw[r8]at h;have:=Lb h;unfold kD;rw[iL,X6];exact this
theorem FN (S:cJ o hs) (h:y∈dD (kD o hs) p):af (gt (aA o hs) y) (gt (aA o hs) p)≠⟨0,0⟩:=
 df λe=>(AG h).ne (nM S).toDis e.symm
theorem hK (S:cJ o hs) (i:Nat):In 2000 (gt (aA o hs) i):=by
 by_cases h:i<(aA o hs).length;exact rU S h;have:gt (aA o hs) i=⟨0,0⟩:=(by simp[gt,List.getD,h]);rw[this];exact⟨by decide,by decide,by decide,by decide⟩
theorem GK (S:cJ o hs) {x:Nat} (a:x∈dD (kD o hs) p) (b:y∈dD (kD o hs) p) (h:x≠y):
  nj (af (gt (aA o hs) x) (gt (aA o hs) p)) (af (gt (aA o hs) y) (gt (aA o hs) p))\/nj (af (gt (aA o hs) y) (gt (aA o hs) p)) (af (gt (aA o hs) x) (gt (aA o hs) p)):=
 Pa (FN S a) (FN S b) (Hd (nM S).toDis (AG a) (AG b) λe=>h (oz S _ _ (sJ a).2 (sJ b).2 e))
theorem lE {l:List Nat} (h:i<l.length):l.getD i 0∈l:=by
 rw[show l.getD i 0=l[i] by simp[List.getD,h]];exact YU h
theorem wH {l:List Nat} (h:l.Nodup) (hi:i<l.length) (a:k<l.length) (e:l.getD i 0=l.getD k 0):i=k:=by
 have b:l[i]=l[k]:=by simpa[List.getD,hi,a]using e
 have P:=Y5.1 h;rcases Z4 i k with c|c|c;exact absurd b (P i k hi a c);exact c;exact absurd b.symm (P k i a hi c)
theorem AF (S:cJ o hs) (p:Nat):pP (dD (kD o hs) p).length (N0 (aA o hs) p (dD (kD o hs) p)):=
 pP.of_lt (g:=λi=>af (gt (aA o hs) ((dD (kD o hs) p).getD i 0)) (gt (aA o hs) p)) (λi a=>FN S (lE a)) (λi k _ _=>BH (hK S))
  λi k a b h=>GK S (lE a) (lE b) λe=>h (wH (sH S p) a b e)
theorem ly (S:cJ o hs) (p:Nat):(CW o hs p).Perm (dD (kD o hs) p):=by
 unfold CW nA;split;exact yG (AF S p);exact .refl _
theorem OZ (S:cJ o hs) (p:Nat):(CW o hs p).Pairwise λi k=>nj (af (gt (aA o hs) i) (gt (aA o hs) p)) (af (gt (aA o hs) k) (gt (aA o hs) p)):=by
 by_cases h:p<(aA o hs).length;have e:CW o hs p=((List.range (dD (kD o hs) p).length).map (oN (dD (kD o hs) p).length (N0 (aA o hs) p (dD (kD o hs) p)))).map λi=>(dD (kD o hs) p).getD i 0:=(by unfold CW nA;rw[XG h];rfl);rw[e,ZE];refine(IH (AF S p) λi k a b c=>?_).imp λ{i k} q=>(BH (hK S)).1 q;rcases GK S (lE a) (lE b) (λe=>c (wH (sH S p) a b e))with q|q;exact .inl ((BH (hK S)).2 q);exact .inr ((BH (hK S)).2 q);have e:CW o hs p=[]:=(by apply Wp.2;intro y f;exact h (sJ ((ly S p).mem_iff.1 f)).1);rw[e];exact aak
theorem VY (S:cJ o hs):tA (gt (aA o hs)) (aA o hs).length (mY o hs) (yn o hs) (CW o hs):=
 ⟨oz S,λ_ h=>Gb h,λp y=>by rw[(ly S p).mem_iff,oe];exact uT,OZ S⟩
theorem QG (S:cJ o hs) (nb:Nat->List Nat) (p q:Nat):Ew (aA o hs) nb p q=nT (gt (aA o hs)) nb p q:=by
 unfold Ew nT;refine Yj.2 ?_;rw[jt (m:=2000) (by decide) (by decide) (hK S _) (hK S _) (hK S _)];have:=nF (n:=ai (gt (aA o hs) p) (gt (aA o hs) (bP (nb p) q)) (gt (aA o hs) (JC (nb p) q)));show bM (ai _ _ _)>=0↔_;omega
theorem Si (h:∀p,(nb p).Nodup) {q:Nat} (g:p≠q:=by omega):Bw nb p q=dU nb p q:=by
 have f:∀(l:List Nat) (a:Nat),l.Nodup->(l.filter λx=>!decide (x=a))=l.erase a:=λl a i=>by rw[i.erase_eq_filter];refine List.filter_congr λx _=>?_;by_cases j:x=a<;>simp[j]
 funext x;unfold Bw dU eg;by_cases c:x=q;subst c;rw[XG rfl,XD (λe=>g e.symm),XD (λe=>g e.symm),XG rfl,f _ _ (h x)];rw[XD c,XD c];by_cases b:x=p;rw[XG b,XG b,f _ _ (h p)];rw[XD b,XD b]
theorem FM (h:∀p,(nb p).Nodup) (p q x:Nat):(dU nb p q x).Nodup:=by
 unfold dU;split;exact(h p).erase q;split;exact(h q).erase p;exact h x
theorem Kt (S:cJ o hs):∀(L:List Dt) (nb:Nat->List Nat),(∀p,(nb p).Nodup)->(∀d∈L,d.1<d.2)->L.Nodup->(∀d∈L,d.2∈nb d.1/\d.1∈nb d.2)->yF (aA o hs) nb L=cZ (gt (aA o hs)) nb L/\Gf (aA o hs) nb L
 |[],_,_,_,_,_=>⟨rfl,trivial⟩
 |d::L,nb,h,l,b,g=>by
  have t:=l d XW;have f:=g d XW;have i:∀e∈L,e.1<e.2:=λe a=>l e (XK _ a);rw[Yy]at b;rw[yF,cZ,Gf,QG S,QG S];by_cases c:(nT (gt (aA o hs)) nb d.1 d.2&&nT (gt (aA o hs)) nb d.2 d.1)=true
  ·rw[XG c,XG c,XG c,Si h];obtain⟨j,k⟩:=Kt S L (dU nb d.1 d.2) (FM h _ _) i b.2 (λe a=>by
    have m:=g e (XK _ a);have r:e≠d:=λq=>b.1 (q▸a);have u:=i e a;rw[fQ h,fQ h];refine⟨⟨m.1,λq=>r ?_,λq=>?_⟩,⟨m.2,λq=>?_,λq=>r ?_⟩⟩;exact WE q.1 q.2;omega;omega
    ·exact WE q.2 q.1)
   exact⟨j,⟨f.1,f.2,h _,h _,by omega⟩,k⟩
  ·rw[XD c,XD c,XD c];obtain⟨j,k⟩:=Kt S L nb h i b.2 λe a=>g e (XK _ a);exact⟨by rw[j],⟨f.1,f.2,h _,h _,by omega⟩,k⟩
theorem Rx (S:cJ o hs):yE o hs=cZ (gt (aA o hs)) (CW o hs) (yn o hs)/\Gf (aA o hs) (CW o hs) (yn o hs):=by
 have G:=VY S;refine Kt S (yn o hs) (CW o hs) (λp=>(ly S p).symm.nodup (sH S p)) (λd a=>(QL a).1) xp λd a=>?_;rw[G.mem,G.mem];exact⟨.inl (XY _ a),.inr (XY _ a)⟩
end
def B1 (fc:Dt->List Dt):List Dt->List Dt->List (List Dt)
 |[],_=>[]
 |d::S,a=>if d∈a then B1 fc S a else fc d::B1 fc S (a++fc d)
theorem oI (v:LV) (fc:Dt->List Dt):∀S a:List Dt,uh v fc S a=(B1 fc S a).map λf=>aO (et (fY v f) f.length)
 |[],_=>rfl
 |d::S,a=>by rw[uh,B1];by_cases c:d∈a;rw[XG c,XG c,oI v fc S a];rw[XD c,XD c,Yg,oI v fc S]
theorem lX {fc:Dt->List Dt}:∀{S dn:List Dt} {f:List Dt},f∈B1 fc S dn->∃d∈S,f=fc d
 |[],_,_,h=>(nomatch h)
 |d::S,dn,f,h=>by rw[B1]at h;by_cases c:d∈dn;rw[XG c]at h;obtain⟨e,a,q⟩:=lX h;exact⟨e,XK _ a,q⟩;rw[XD c]at h;rcases XF.1 h with k|k;exact⟨d,XW,k⟩;obtain⟨e,a,q⟩:=lX k;exact⟨e,XK _ a,q⟩
theorem sf {fc:Dt->List Dt}:∀{S dn:List Dt},(∀d∈S,(fc d).Nodup)->(∀d∈S,∀e∈S,e∉fc d->∀x∈fc e,x∉fc d)->(∀e∈S,e∉dn->∀x∈fc e,x∉dn)->
  (B1 fc S dn).flatten.Nodup/\∀x∈(B1 fc S dn).flatten,x∉dn
 |[],_,_,_,_=>⟨WQ,λx h=>(nomatch h)⟩
 |d::S,dn,o,p,i=>by
  have r:∀e∈S,(fc e).Nodup:=λe f=>o e (XK _ f);have t:∀d∈S,∀e∈S,e∉fc d->∀x∈fc e,x∉fc d:=λa j b l=>p a (XK _ j) b (XK _ l);rw[B1];by_cases c:d∈dn;rw[XG c];exact sf r t λe f=>i e (XK _ f)
  ·rw[XD c,Za];obtain⟨w,u⟩:=sf (fc:=fc) (S:=S) (dn:=dn++fc d) r t (λe f m x g y=>by
    rw[XN,not_or]at m;rcases XN.1 y with q|q;exact i e (XK _ f) m.1 x g q
    ·exact p d XW e (XK _ f) m.2 x g q)
   refine⟨Y0.2 ⟨o d XW,w,λa j b l e=>?_⟩,λx g=>?_⟩;subst e;exact u a l (XY _ j);rcases XN.1 g with q|q;exact i d XW c x q;exact λk=>u x q (X0 _ k)
theorem z1 {fc:Dt->List Dt}:∀{S dn:List Dt},(∀d∈S,d∈fc d)->∀d∈S,d∈dn\/d∈(B1 fc S dn).flatten
 |[],_,_,_,h=>(nomatch h)
 |e::S,dn,h,d,a=>by have b:∀d∈S,d∈fc d:=λx f=>h x (XK _ f);rw[B1];by_cases c:e∈dn;rw[XG c];rcases XF.1 a with k|k;subst k;exact .inl c;exact z1 b d k;rw[XD c,Za];rcases XF.1 a with k|k;subst k;exact .inr (X0 _ (h d XW));rcases z1 (dn:=dn++fc e) b d k with q|q;rcases XN.1 q with q|q;exact .inl q;exact .inr (X0 _ q);exact .inr (XY _ q)
theorem Hw {f:Dt->Dt}:∀{l:List Dt} {d e:Dt},mR f d l e->∀i,i<(d::l).length->f (bf (d::l) i)=if i+1<(d::l).length then bf (d::l) (i+1)else e
 |[],d,e,h,i,a=>by have:i=0:=(by simp at a;exact a);subst this;exact h
 |x::l,d,e,h,i,a=>by
  cases i with
  |zero=>exact h.1
  |succ i=>have:=Hw h.2 i (by simpa using a);show f (bf (x::l) i)=if i+1+1<(d::x::l).length then bf (x::l) (i+1)else e;rw[this];simp only[XZ];by_cases c:i+1<l.length+1;rw[XG c,iP];rw[XD c,iN]
variable {i:Nat}
theorem PI {f:Dt->Dt} {d:Dt} {l:List Dt} (h:Cy f (d::l)) (hi:i<(d::l).length):f (bf (d::l) i)=bf (d::l) ((i+1)%(d::l).length):=by
 rw[Hw (show mR f d l d from h) i hi];by_cases c:i+1<(d::l).length;rw[XG c,X3 c];rw[XD c,show i+1=(d::l).length by omega,Zz];rfl
section
variable {v:LV} (hv:∀i,In 2000 (gt v i))
include hv
theorem PO {f:List Dt} (a:∀i,i<f.length->(bf f ((i+1)%f.length)).1=(bf f i).2) (hi:i<f.length):
  M8 (fY v f) i=true↔aa (bz (gt v) (bf f ((i+f.length-1)%f.length))) (bz (gt v) (bf f i))≠0:=by
 have h:(fY v f).length=f.length:=by simp[fY]
 have g:∀k,k<f.length->gt (fY v f) k=gt v (bf f k).1:=λk j=>by simp[fY,gt,List.getD,j]
 have l:(i+1)%f.length<f.length:=mLt;have b:(i+f.length-1)%f.length<f.length:=mLt;unfold M8 iZ bw;rw[h,g i hi,g _ l,g _ b,XU,jt (m:=2000) (by decide) (by decide) (hv _) (hv _) (hv _),a i hi];have o:(bf f ((i+f.length-1)%f.length)).2=(bf f i).1:=by rw[<-a _ b];congr 2;by_cases c:i=0;subst c;rw[show 0+f.length-1=f.length-1 by omega,X3 (show f.length-1<f.length by omega),show f.length-1+1=f.length by omega,Zz];rw[show i+f.length-1=(i-1)+f.length by omega,YE,X3 (show i-1<f.length by omega),show i-1+1=i by omega,X3 hi]
 have p:aa (bz (gt v) (bf f ((i+f.length-1)%f.length))) (bz (gt v) (bf f i))=ai (gt v (bf f ((i+f.length-1)%f.length)).1) (gt v (bf f i).1) (gt v (bf f i).2):=by unfold bz;rw[o];simp only[ai,aa,af];grind
 rw[p];have s:=nF (n:=ai (gt v (bf f ((i+f.length-1)%f.length)).1) (gt v (bf f i).1) (gt v (bf f i).2));show bM (ai _ _ _)≠0↔_;omega
theorem tW {f:List Dt} (h:∀i,i<f.length->(bf f ((i+1)%f.length)).1=(bf f i).2):∀(r:List Dt) (j:Nat) (x:Dt),f.drop j=x::r->j<f.length->
  ((List.range' j (x::r).length).filter (M8 (fY v f))).map (gt (fY v f))=kp (bz (gt v) (bf f ((j+f.length-1)%f.length))) (gt v x.1) (lH (gt v) (x::r))
 |r,j,x,o,a=>by
  have b:x=bf f j:=(by have:=X5 (λl=>l.getD 0 (0,0)) o;simpa[List.getD]using this.symm);have g:gt (fY v f) j=gt v x.1:=(by rw[b];simp[fY,gt,List.getD,a]);have k:f.drop (j+1)=r:=(by rw[<-aaG,o];rfl);have p:((List.range' (j+1) r.length).filter (M8 (fY v f))).map (gt (fY v f))=kp (bz (gt v) x) (ak (gt v x.1) (bz (gt v) x)) (lH (gt v) r):=by
   cases r with
   |nil=>rfl
   |cons y u=>have t:j+1<f.length:=(by have:=X5 List.length k;simp at this;omega);have w:=tW h u (j+1) y k t;have z:y=bf f (j+1):=(by have:=X5 (λl=>l.getD 0 (0,0)) k;simpa[List.getD]using this.symm);have A:bf f ((j+1+f.length-1)%f.length)=x:=(by rw[show j+1+f.length-1=j+f.length by omega,YE,X3 a,b]);have B:ak (gt v x.1) (bz (gt v) x)=gt v y.1:=(by have:=h j a;rw[X3 t,<-z,<-b]at this;unfold bz;rw[cj,this]);rw[w,A,B]
  rw[XZ,List.range'_succ,Xk];show _=if aa _ (bz (gt v) x)≠0 then gt v x.1::kp (bz (gt v) x) (ak (gt v x.1) (bz (gt v) x)) (lH (gt v) r)else kp (bz (gt v) x) (ak (gt v x.1) (bz (gt v) x)) (lH (gt v) r);have m:=PO hv h a;rw[<-b]at m;by_cases c:aa (bz (gt v) (bf f ((j+f.length-1)%f.length))) (bz (gt v) x)≠0;rw[XG (m.2 c),XG c,Yg,g,p];rw[XD (λq=>c (m.1 q)),XD c,p]
theorem HB {f:List Dt} (b:f≠[]) (a:∀i,i<f.length->(bf f ((i+1)%f.length)).1=(bf f i).2):et (fY v f) f.length=BE (gt v) f:=by
 match f,b,a with
 |d::l,_,a=>have:=tW hv a l 0 d rfl (by simp);unfold et BE;rw[List.range_eq_range',this];congr 2;rw[show 0+(d::l).length-1=l.length by simp,X3 (by simp)];rw[List.getLast_eq_getElem];simp[List.getD]
end
theorem we {n:Nat}:∀{m i:Nat},i+m=n->2*(fV n m i).length=m*(m-1)
 |0,_,_=>rfl
 |m+1,i,h=>by
  rw[fV,XR,wh,Xv,we (by omega),show n-(i+1)=m by omega];cases m with
  |zero=>rfl
  |succ m=>simp only[WK];grind
theorem sq (P:Nat->V2):∀(L:List Dt) (nb:Nat->List Nat),(cZ P nb L).2.length<=L.length
 |[],_=>XP _
 |d::L,nb=>by rw[cZ];by_cases c:(nT P nb d.1 d.2&&nT P nb d.2 d.1)=true;rw[XG c];have:=sq P L (dU nb d.1 d.2);simp only[XZ];omega;rw[XD c];have:=sq P L nb;simp only[XZ];omega
theorem zj:∀{L:List (List Dt)},(∀f∈L,3<=f.length)->3*L.length<=L.flatten.length
 |[],_=>XP _
 |f::L,h=>by have b:=h f XW;have c:=zj λx a=>h x (XK f a);rw[Za,XR,XZ];omega
structure Ek (o:LV) (hs:List (LV)) (L:List (LV)):Prop where
 VF:DP 19 [hF o hs] (.eG [.one (hS L),.one (i64 0)])
 cv:∀r∈L,gd r
 sub:∀r∈L,∀x∈r,x∈aA o hs
 QX:∀(m:Int) (z:V2),0<m->W (bD m (dk o hs)) z=WL m L z
 zl:3*L.length<=aF (o::hs)*aF (o::hs)
 VA:3*L.length<=aF (o::hs)+2*(yE o hs).2.length
theorem gd.begin {l:LV} (C:gd l):gd (aO l):=by
 have:=C;rw[KZ l (eR l)]at this;exact this.VO
theorem Qb (l:LV) (m:Int) (z:V2):W (bD m (bH (aO l))) z=W (bD m (bH l)) z:=jT ((px l).map _) z
theorem R0 {P:Nat->V2} {n:Nat} {f:List Dt} (c:∀i,i<f.length->(bf f ((i+1)%f.length)).1=(bf f i).2) (v:LV) (h:∀d∈f,d.1<v.length):∀x∈et (fY v f) f.length,x∈v:=by
 intro x b;unfold et at b;obtain⟨i,a,rfl⟩:=XQ.1 b;have a:=X4.1 (Wx.1 a).1;have:gt (fY v f) i=gt v (bf f i).1:=by simp[fY,gt,List.getD,a]
 rw[this];exact ei (h _ (by rw[show bf f i=f[i] by simp[List.getD,a]];exact YU a))
theorem Qc {m:Int} {z:V2} {A B:List (LV)} (h:A.Perm B):WL m A z=WL m B z:=by
 induction h with
 |nil=>rfl
 |cons x _ a=>rw[jd,jd,a]
 |swap x y l=>rw[jd,jd,jd,jd];omega
 |trans _ _ b c=>exact b.trans c
theorem yT {o:LV} {hs:List (LV)} (V:VS o hs):∃L,Ek o hs L:=by
 have S:=V.ok;obtain⟨b2,c9⟩:=Rx S;obtain⟨B,G,F,N,Y,a1⟩:=(VY S).pieces (nM S) DC xp;rw[<-b2]at G F N Y a1;have d0:=An V (oz S) (λp _=>AF S p) c9;have b3:(aA o hs).length=aF (o::hs):=jR V;have a2:(aA o hs).length<=80:=by rw[b3];exact V.er
 have e6:2*(yE o hs).2.length<=(aA o hs).length*((aA o hs).length-1):=by have a3:(yE o hs).2.length<=(yn o hs).length:=(by rw[b2];exact sq _ _ _);have d1:(yn o hs).length<=([]:List Dt).length+_:=mG;rw[Wy,X6]at d1;have d2:=we (n:=(aA o hs).length) (m:=(aA o hs).length) (i:=0) (by omega);omega
 have e7:(aA o hs).length+(aA o hs).length*((aA o hs).length-1)=(aA o hs).length*(aA o hs).length:=by
  cases (aA o hs).length with
  |zero=>rfl
  |succ n=>rw[WK,Ws,Xv,Xd,Ws n,Zm];grind
 have e8:(aA o hs).length*(aA o hs).length<=6400:=Yf (ZS a2 a2) (by decide);have T:B.flatten.Nodup:=F.nd;have b4:=B9 (o:=o) (hs:=hs) (yE o hs).2;generalize b5:Qt (NX o hs).length (NX o hs) (yE o hs).2=w at b4;have K:w.Perm B.flatten:=b4.trans N.symm;have d3:w.Nodup:=K.symm.nodup T;have e9:B.flatten.length=(aA o hs).length+2*(yE o hs).2.length:=by rw[N.length_eq];unfold oh;rw[XR,XR,X9];have:(mY o hs).length=(aA o hs).length:=(by have:=(qM (o:=o) (hs:=hs)).length_eq;simpa using this);omega
 have f0:B.flatten.length<=(aA o hs).length*(aA o hs).length:=by omega
 have ex:∀d,∃U:List Dt,d∈w->∃f∈B,∃l,U=d::l/\f.Perm U/\Cy (nx (yE o hs).1) U:=λd=>by by_cases h:d∈w;obtain⟨f,R,u,d4,_,_⟩:=jB (K.mem_iff.1 h);obtain⟨l,A,M⟩:=DJ (F.cy f u) d4;exact⟨d::l,λ_=>⟨f,u,l,rfl,A,M⟩⟩;exact⟨[],λq=>absurd q h⟩
 obtain⟨fc,C⟩:=Wq ex;have d5:∀{f g:List Dt} {x:Dt},f∈B->g∈B->x∈f->x∈g->f=g:=by intro f g x u H b6 b7;have P:=(List.pairwise_flatten.1 T).2;obtain⟨i,I,a4⟩:=YV.1 u;obtain⟨j,b8,a5⟩:=YV.1 H;have Q:=Y5.1 P;rcases Z4 i j with c|c|c;exact absurd rfl (Q i j I b8 c x (by rw[a4];exact b6) x (by rw[a5];exact b7));subst c;exact a4.symm.trans a5;exact absurd rfl (Q j i b8 I c x (by rw[a5];exact b7) x (by rw[a4];exact b6))
 have Z:∀d∈w,∀x∈fc d,x∈B.flatten:=λd b x E=>by obtain⟨f,u,l,_,A,_⟩:=C d b;exact Zi.2 ⟨f,u,A.mem_iff.2 E⟩
 have a6:∀d∈w,(fc d).Nodup:=λd b=>by obtain⟨f,u,l,_,A,_⟩:=C d b;exact A.nodup ((List.pairwise_flatten.1 T).1 f u)
 have b9:∀d∈w,∀e∈w,e∉fc d->∀x∈fc e,x∉fc d:=λd b e a7 d6 x E O=>by obtain⟨f,u,l,_,A,_⟩:=C d b;obtain⟨g,H,f1,d7,c0,_⟩:=C e a7;have:=d5 u H (A.mem_iff.2 O) (c0.mem_iff.2 E);subst this;exact d6 (A.mem_iff.1 (c0.mem_iff.2 (by rw[d7];exact XW)))
 have a8:∀d∈w,∀i,i<(fc d).length->nx (yE o hs).1 (bf (fc d) i)=bf (fc d) ((i+1)%(fc d).length):=λd b i I=>by obtain⟨f,u,l,e,A,M⟩:=C d b;rw[e]at M I|-;exact PI M I
 have a9:∀d∈w,∀i,i<(fc d).length->(bf (fc d) ((i+1)%(fc d).length)).1=(bf (fc d) i).2:=λd b i I=>by rw[<-a8 d b i I];rfl
 have b0:∀d∈w,fc d≠[]:=λd b=>by obtain⟨f,u,l,e,_⟩:=C d b;rw[e];exact List.cons_ne_nil _ _
 have c1:∀d∈w,0<(fc d).length:=λd b=>Z7.2 (b0 d b);have c2:∀d∈w,bf (fc d) 0=d:=λd b=>by obtain⟨f,u,l,e,_⟩:=C d b;rw[e];rfl
 have X:(B1 fc w []).flatten.Perm w:=by obtain⟨d8,_⟩:=sf (fc:=fc) (S:=w) (dn:=[]) a6 b9 (λ_ _ _ _ _ h=>(nomatch h));refine(List.perm_ext_iff_of_nodup d8 d3).2 λa=>⟨λh=>?_,λh=>?_⟩;obtain⟨f,u,d9⟩:=Zi.1 h;obtain⟨d,b,rfl⟩:=lX u;exact K.mem_iff.2 (Z d b a d9);refine(z1 (λd b=>?_) a h).resolve_left (λq=>(nomatch q));obtain⟨f,u,l,e,_⟩:=C d b;rw[e];exact XW
 have U:Fc (gt (aA o hs)) (yE o hs).1 (B1 fc w []):=by refine⟨λf u=>?_,λf u=>?_,(X.trans K).symm.nodup T,λd b=>F.left d ((X.trans K).mem_iff.1 b),λd b=>F.rev d ((X.trans K).mem_iff.1 b)⟩;obtain⟨d,b,rfl⟩:=lX u;obtain⟨_,_,_,_,_,M⟩:=C d b;exact M;obtain⟨d,b,rfl⟩:=lX u;obtain⟨f,u,_,_,A,_⟩:=C d b;rw[<-jo _ A];exact F.one f u
 obtain⟨c3,e0⟩:=a1 (B1 fc w []) U ((X.trans K).trans N);have b1:∀f∈B1 fc w [],et (fY (aA o hs) f) f.length=BE (gt (aA o hs)) f:=λf u=>by obtain⟨d,b,rfl⟩:=lX u;exact HB (hK S) (b0 d b) (a9 d b)
 have e1:∀f∈B1 fc w [],3<=(et (fY (aA o hs) f) f.length).length:=λf u=>by rw[b1 f u];exact(c3 f u).n3
 have e2:∀d∈w,0<(et (fY (aA o hs) (fc d)) (fc d).length).length:=λd b=>by have f2:Fc (gt (aA o hs)) (yE o hs).1 B:=F;obtain⟨f,u,l,e,A,M⟩:=C d b;obtain⟨R,c4⟩:∃R,B.Perm (f::R):=(by obtain⟨s,t,q⟩:=WN u;exact⟨s++t,by rw[q];exact WW⟩);have a0:(fc d::R).flatten.Perm B.flatten:=(by rw[Za];exact(A.symm.append (List.Perm.refl _)).trans (by rw[<-Za];exact c4.symm.flatten));have c5:∀g∈R,g∈B:=λg H=>c4.mem_iff.2 (XK _ H);have e3:Fc (gt (aA o hs)) (yE o hs).1 (fc d::R):=(by refine⟨λg H=>?_,λg H=>?_,a0.symm.nodup T,λx E=>F.left x (a0.mem_iff.1 E),λx E=>F.rev x (a0.mem_iff.1 E)⟩;rcases XF.1 H with k|k;subst k;exact M;exact F.cy g (c5 g k);rcases XF.1 H with k|k;subst k;rw[<-jo _ A];exact F.one f u;exact F.one g (c5 g k));have:=(a1 (fc d::R) e3 (a0.trans N)).1 (fc d) XW;rw[HB (hK S) (b0 d b) (a9 d b)];have:=this.n3;omega
 have c6:∀p,((yE o hs).1 p).Nodup:=G.nd;have c7:Wm (aA o hs) (yE o hs).1 w fc:=by refine⟨c1,c2,λd b i I=>?_,λd b=>?_,a6,b9,λd b x E=>?_,e2,λd b=>?_⟩;rw[a8 d b i (by omega),X3 I];have f3:=c1 d b;rw[a8 d b _ (by omega),show(fc d).length-1+1=(fc d).length by omega,Zz,c2 d b];have O:=Z d b x E;have r:=F.rev x O;have f4:=N.mem_iff.1 O;have c8:=sJ ((ly S x.2).mem_iff.1 (Y _ _ r));refine⟨c8.2,c8.1,r,c6 _,?_⟩;have a3:((yE o hs).1 x.2).length<=(List.range (aA o hs).length).length:=(by refine WY (c6 _) λy e4=>?_;exact X4.2 (sJ ((ly S x.2).mem_iff.1 (Y _ _ e4))).2);rw[List.length_range]at a3;omega;have a3:(fc d).length<=B.flatten.length:=WY (a6 d b) (Z d b);omega
 rw[<-b5]at c7;have D:=Fh V d0 G4 a2 (by omega) c7;rw[b5]at D;refine⟨_,D,λr J=>?_,λr J x E=>?_,λm z e5=>?_,?_,?_⟩;have J:=(oM _).mem_iff.1 J;rw[oI]at J;obtain⟨f,u,rfl⟩:=XQ.1 J;rw[b1 f u];exact(c3 f u).begin;have J:=(oM _).mem_iff.1 J;rw[oI]at J;obtain⟨f,u,rfl⟩:=XQ.1 J;obtain⟨d,b,rfl⟩:=lX u;refine R0 (P:=gt (aA o hs)) (n:=0) (a9 d b) (aA o hs) (λe a7=>?_) x (xI E);have O:=Z d b e a7;exact(sJ ((ly S e.2).mem_iff.1 (Y _ _ (F.rev e O)))).2;rw[<-Sd S,e0 m z e5,Qc (oM _),oI];unfold WL;rw[Yq,Yq];congr 1;refine Yx λf u=>?_;show W (bD m (bH (BE _ f))) z=W (bD m (bH (aO (et _ _)))) z;rw[Qb,b1 f u];all_goals
  rw[(oM _).length_eq,oI,X9,<-b3];have d2:=zj (L:=B1 fc w []) λf u=>Yf (e1 f u) (pn _ _);have f5:=(X.trans K).length_eq;omega
end Sg
end Go.Vm
