import Derived.Test.YtobmlkopbmakcaaGreatLM
import Derived.Test.YtobmlkopbmakcaaGreatRows
set_option linter.unusedVariables false
set_option linter.unusedSimpArgs false
set_option maxRecDepth 20000
namespace Go.Vm
open Go Go.RowKit Go.Proofs
namespace Sg
abbrev EU:LV:=U0 ⟨0,0⟩ ⟨2,2⟩
theorem mW:yt EU []:=Cf
theorem Ry:∃L,Ek EU [] L/\L.length=1:=by
 obtain⟨L,P⟩:=yT mW.vs;refine⟨L,P,?_⟩;have a:=P.VA;have e:(yE EU []).2=[]:=by kernel_rfl
 have b:aF [EU]=4:=rfl;rw[e,b]at a;have a:3*L.length<=4:=a;have c:L≠[]:=λq=>by have w:=P.QX 1 ⟨1,1⟩ (by decide);rw[q]at w;have r:=Fe (lo:=⟨0,0⟩) (hi:=⟨2,2⟩) (by decide) (by decide) (m:=1) (z:=⟨1,1⟩) (by decide) (by decide);have:W (bD 1 (dk EU [])) ⟨1,1⟩=1:=(by show W (bD 1 (bH EU++[])) _=1;rw[YO];exact r);rw[this]at w;exact absurd w (by decide)
 have:=Z7.2 c;omega
theorem GA {L:List (LV)} (P:Ek EU [] L) {v:V2} (a:In 40 v):yk (hC ee L (L.map mX)) v=!rN EU [] (ef EU v) []:=by
 obtain⟨Vm,em,_⟩:=mW.LH a;rw[Zd,s9 mW.vs mW.vs P P (a.up (by decide)),YK,<-Wr];have:=H5 mW.vs.ok Vm.ok;rw[em]at this;rw[show rN EU [] (ef EU v) []=rN EU [] (ef EU v) ([].map λh=>ef h v) from rfl,this];exact Classical.not_not.symm
variable {P:Program} {args:List DV} {K:TV->Prop}
theorem ah.tb {f:FuncId} {e:Bool} (h:kM P f args (.eG [.one (.v (.bool e)),.one (i64 0)])) (a:∀b,b=e->K (.eG [.one (.v (.bool b)),.one (i64 0)])):ah P f args K:=⟨_,h,a e rfl⟩
theorem ah.tsh {f:FuncId} {o:LV} {hs:List (LV)} (h:kM P f args (.eG [hF o hs,.one (i64 0)])) (c:∀a b,a=o->b=hs->K (.eG [hF a b,.one (i64 0)])):ah P f args K:=⟨_,h,c o hs rfl rfl⟩
theorem ah.tft {f:FuncId} {lo hi:V2} {S:List (LV)} (h:kM P f args (.eG [Pz lo hi S,.one (i64 0)])) (g:∀a b c,a=lo->b=hi->c=S->K (.eG [Pz a b c,.one (i64 0)])):ah P f args K:=⟨_,h,g lo hi S rfl rfl rfl⟩
theorem JF:DP 6 [] (aD true):=by
 obtain⟨L,P,c⟩:=Ry;have f:=(Ga (P.OB mW.vs) (P.OB mW.vs)).2;have g:(hC ee L (L.map mX)).length<=40000:=by rw[xN,X9,c];decide
 have h:yk (hC ee L (L.map mX)) ⟨1,0⟩=true:=by rw[GA P ⟨by decide,by decide,by decide,by decide⟩];kernel_rfl
 have i:yk (hC ee L (L.map mX)) ⟨2,0⟩=false:=by rw[GA P ⟨by decide,by decide,by decide,by decide⟩];kernel_rfl
 have k:rN EU [] EU []=false:=by kernel_rfl
 have j:=G6 mW.vs mW.vs P P (by omega) (by omega) (by rw[c];decide);have l:=P.VF;generalize hC ee L (L.map mX)=S at f g h i j;clear P;obtain⟨r,rfl⟩:=List.length_eq_one_iff.1 c;refine dg Tryz.func6 [] ?_;refine ah.mk' (Ff ⟨0,0⟩ ⟨2,2⟩) ?_;refine ah.mk' l ?_;refine ah.mk' j ?_;refine ah.tb (DF mW.vs mW.vs) (λb a=>?_);obtain rfl:b=false:=a.trans k;repeat' first|apply ab.t|apply ab.f
 refine ah.bool (xe f g ⟨1,0⟩) (λb a=>?_);obtain rfl:b=true:=a.trans h;repeat' first|apply ab.t|apply ab.f
 refine ah.bool (xe f g ⟨2,0⟩) (λb a=>?_);obtain rfl:b=false:=a.trans i;repeat' first|apply ab.t|apply ab.f
 refine ah.mk' (gp mW.vs) ?_;repeat' first|apply ab.t|apply ab.f
 exact Fin.rfl'
abbrev Uc (b:LV) (c:List (LV)) (a:List pQ) (f:LV) (g:List (LV)):DV:= .agg [aS b,hS c,.sl a.length 2 (xV a),aS f,hS g]
theorem Oa (j:LV) (k:List (LV)) (a:List pQ) (l:LV) (m:List (LV)) (v:V2) (R:j.length<=maxLen) (T:k.length<=maxLen) (b1:a.length<=maxLen) (U:l.length<=maxLen) (V:m.length<=maxLen)
  (B:∀s∈a,s.1.length<=maxLen/\s.2.length<=maxLen):DP 4 [Uc j k a l m,vD v] (aD true):=by
 refine dg Tryz.func4 [] ?_;refine ah.mk' JF ?_;repeat' first|apply ab.t|apply ab.f
 refine ah.bool (su j k 20 T R) (λX o=>?_);cases X with
 |false=>
  repeat' first|apply ab.t|apply ab.f
  exact Fin.rfl'
 |true=>
 repeat' first|apply ab.t|apply ab.f
 refine ah.bool (su l m 20 V U) (λY p=>?_);cases Y with
 |false=>
  repeat' first|apply ab.t|apply ab.f
  exact Fin.rfl'
 |true=>
 repeat' first|apply ab.t|apply ab.f
 refine ab.mk (λc=>?_) (λc=>?_)
 ·repeat' first|refine ab.t ?_|refine ab.f ?_|refine ab.dA c ?_|fail
  exact Fin.rfl'
 repeat' first|refine ab.t ?_|refine ab.f ?_|refine ab.cP c ?_|fail
 have Z:a.length<=2:=by have:=XA c;omega
 refine ah.bool (eK v 40) (λa0 t=>?_);cases a0 with
 |false=>
  repeat' first|apply ab.t|apply ab.f
  exact Fin.rfl'
 |true=>
 repeat' first|apply ab.t|apply ab.f
 have C:=Cf o.symm;have M:=Cf p.symm;have u:In 40 v:=In.of (by decide) (by decide) t.symm;obtain⟨Vm,_,nr⟩:=M.LH u;refine ah.tsh (E0 M.vs v ((u.up (by decide)).within (by decide) (by decide)) nr) (λw y D E=>?_);rw[<-D,<-E]at Vm;refine ah.tb (Mh C.vs Vm) (λb a1=>?_);refine Loop.by (α:=Nat×Bool) (λq=>[(2,.ptr 2 0),(3,.ptr 3 0),(5,.ptr 5 0),(6,an 0),(7,aD q.2),(8,an 0),(9,an q.1)]) (λ_=>[(2,.box [aS j,hS k,.sl a.length 2 (xV a),aS l,hS m]),(3,.box [i64 v.x,i64 v.y]),(5,.box [aS w,hS y])])
  (λq=>q.1<=a.length/\(∀i,i<q.1->Ap (a.getD i ([],[])).1 (a.getD i ([],[])).2 20=true)/\q.2=(b&&bJ q.1 λi=>rN (a.getD i ([],[])).1 (a.getD i ([],[])).2 w y)) (λq=>a.length-q.1)
  (aH.at (0,b) ⟨XS _,λi h=>absurd h (XL _),by show b=(b&&true);rw[Bool.and_true]⟩ (.cX (.cX (.cX .nil))) (.cB (.cB (.cB (.cS (.cS (.cS (.cS .nil)))))))) (λq a2=>?_)
 obtain⟨b2,G,H⟩:=a2;refine ab.mk (λd=>?_) (λd=>?_)
 ·have z:q.1<a.length:=(by have:=XB d;omega);have I:a.getD q.1 ([],[])∈a:=(by rw[show a.getD q.1 ([],[])=a[q.1] by simp[List.getD,z]];exact YU z);refine aj.o ?_;refine ah.bool ((su (a.getD q.1 ([],[])).1 (a.getD q.1 ([],[])).2 20 (B _ I).2 (B _ I).1).le (.cons (dV.of_eq (by simp only[Yw])) (.cR .nil))) (λa3 J=>?_);cases a3 with
  |false=>
   repeat' first|apply ab.t|apply ab.f
   exact Fin.rfl'
  |true=>
  repeat' first|apply ab.t|apply ab.f
  refine aj.o ?_;refine ah.tb ((DF (Cf J.symm).vs Vm).le (.cons (dV.of_eq (by simp only[Yw])) (.cR .nil))) (λK a4=>?_);refine aj.n ?_;have step:∀r,r=(q.2&&K)->(q.1+1<=a.length/\(∀i,i<q.1+1->Ap (a.getD i ([],[])).1 (a.getD i ([],[])).2 20=true)/\r=(b&&bJ (q.1+1) λi=>rN (a.getD i ([],[])).1 (a.getD i ([],[])).2 w y)):=by
   intro r a5;refine⟨z,λi A=>?_,?_⟩;by_cases e:i=q.1;rw[e];exact J.symm;exact G i (by omega)
   ·rw[a5,H,a4];have:∀f:Nat->Bool,bJ (q.1+1) f=(bJ q.1 f&&f q.1):=λf=>by unfold bJ;rw[ZU,List.all_append];simp
    rw[this,aaK]
  cases g:q.2 with
  |false=>
   repeat' first|apply ab.t|apply ab.f
   exact aH.back (x:=q) (q.1+1,false) (step false (by rw[g];rfl)) (by show a.length-(q.1+1)<a.length-q.1;omega) (.cX (.cX (.cX .nil))) (.cB (.cB (.cB (.cS (.cS (.cS (.cons (ao.int (by rw[wid];show _=((q.1+1:Nat):Int);omega)) .nil)))))))
  |true=>
   repeat' first|apply ab.t|apply ab.f
   cases K with
   |false=>
    repeat' first|apply ab.t|apply ab.f
    exact aH.back (x:=q) (q.1+1,false) (step false (by rw[g];rfl)) (by show a.length-(q.1+1)<a.length-q.1;omega) (.cX (.cX (.cX .nil))) (.cB (.cB (.cB (.cS (.cS (.cS (.cons (ao.int (by rw[wid];show _=((q.1+1:Nat):Int);omega)) .nil)))))))
   |true=>
    repeat' first|apply ab.t|apply ab.f
    exact aH.back (x:=q) (q.1+1,true) (step true (by rw[g];rfl)) (by show a.length-(q.1+1)<a.length-q.1;omega) (.cX (.cX (.cX .nil))) (.cB (.cB (.cB (.cS (.cS (.cS (.cons (ao.int (by rw[wid];show _=((q.1+1:Nat):Int);omega)) .nil)))))))
 ·have g:q.1=a.length:=(by have:=XA d;omega);have O:∀s∈a,yt s.1 s.2:=λs a6=>by obtain⟨i,A,e⟩:=YV.1 a6;have:=G i (by omega);rw[show a.getD i ([],[])=s by rw[<-e];simp[List.getD,A]]at this;exact Cf this
  obtain⟨P,a7,a8,F,a9,b0⟩:=TD C M O Z;have N:=R8 C M O u a7 a8;rw[<-D,<-E,<-a1,<-g,<-H]at N;refine ah.tft (Jw F) (λb3 A S o p t=>?_);subst o p t;repeat' first|apply ab.t|apply ab.f
  refine ah.bool (Ee _ _ b0 a9 v) (λb4 Q=>?_);rw[N]at Q;subst Q;repeat' first|refine ab.t ?_|refine ab.f ?_|refine aj.n ?_|fail
  exact Fin.bool (by simp)
variable {c:SV}
theorem CB (h:jU Tryz.prog 42 [c]):∃l:LV,l.length<=maxLen/\aC c (aS l):=by
 obtain⟨m,g,e,a,b⟩:=jU.Bl (P:=Tryz.prog) (e:=50) rfl h;have f:c= .sl m 2 g:=by have:[c]=[.sl m 2 g]:=e;simpa using this
 obtain⟨l,i,j⟩:=Pg b;exact⟨l,by rw[i];exact a,by rw[f];exact λS w x r=>j S w x r⟩
theorem K2 (h:jU Tryz.prog 43 [c]):∃L:List (LV),L.length<=maxLen/\aC c (hS L):=by
 obtain⟨n,b,e,f,g⟩:=jU.Bl (P:=Tryz.prog) (e:=42) rfl h;have k:c= .sl n 1 b:=by have:[c]=[.sl n 1 b]:=e;simpa using this
 have m:∀i,∃l:LV,i<n->aC (b i 0) (aS l):=λi=>by by_cases a:i<n;obtain⟨l,_,o⟩:=CB (c:=b i 0) (g i a);exact⟨l,λ_=>o⟩;exact⟨[],λq=>absurd q a⟩
 obtain⟨R,p⟩:=Wq m;have r:∀i,i<n->((List.range n).map R).getD i []=R i:=λi a=>by simp[List.getD,a]
 refine⟨(List.range n).map R,by simpa using f,?_⟩;rw[k];refine aC.qo (by simp) (λi a j t=>?_);obtain rfl:j=0:=by omega
 show aC (b i 0) (aS (((List.range n).map R).getD i []));rw[r i a];exact p i a
theorem EZ {a b:SV} (h:jU Tryz.prog 45 [a,b]):∃(o:LV) (f:List (LV)),o.length<=maxLen/\f.length<=maxLen/\aC a (aS o)/\aC b (hS f):=by
 obtain⟨o,g,i⟩:=CB (c:=a) (h.field rfl 0 0 1 42 rfl);obtain⟨f,j,k⟩:=K2 (c:=b) (h.field rfl 1 1 1 43 rfl);exact⟨o,f,g,j,i,k⟩
theorem Ol (h:jU Tryz.prog 46 [c]):∃k:List pQ,k.length<=maxLen/\(∀s∈k,s.1.length<=maxLen/\s.2.length<=maxLen)/\aC c (.sl k.length 2 (xV k)):=by
 obtain⟨n,f,e,r,t⟩:=jU.Bl (P:=Tryz.prog) (e:=45) rfl h;have u:c= .sl n 2 f:=by have:[c]=[.sl n 2 f]:=e;simpa using this
 have w:∀i,∃s:pQ,(s.1.length<=maxLen/\s.2.length<=maxLen)/\(i<n->aC (f i 0) (aS s.1)/\aC (f i 1) (hS s.2)):=λi=>by by_cases g:i<n;obtain⟨o,l,x,y,z,A⟩:=EZ (a:=f i 0) (b:=f i 1) (t i g);exact⟨(o,l),⟨x,y⟩,λ_=>⟨z,A⟩⟩;exact⟨([],[]),⟨XS _,XS _⟩,λq=>absurd q g⟩
 obtain⟨R,m⟩:=Wq w;have p:∀i,i<n->((List.range n).map R).getD i ([],[])=R i:=λi g=>by simp[List.getD,g]
 refine⟨(List.range n).map R,by simpa using r,λs l=>?_,?_⟩;obtain⟨i,_,rfl⟩:=XQ.1 l;exact(m i).1
 ·rw[u];refine aC.qo (by simp) (λi g j B=>?_);have q:=(m i).2 g
  match j,B with
  |0,_=>show aC (f i 0) (aS (((List.range n).map R).getD i ([],[])).1);rw[p i g];exact q.1
  |1,_=>show aC (f i 1) (hS (((List.range n).map R).getD i ([],[])).2);rw[p i g];exact q.2
theorem Ob:∀f,xR Tryz.prog Tryz.f4.params.toList f->DP 4 f (aD true):=by
 intro f h;obtain⟨G,r,rfl,i,h⟩:=xR.Df h;obtain⟨H,r,rfl,j,h⟩:=xR.Df h;cases h;obtain⟨v,rfl,_,_⟩:=SR j;obtain⟨g,rfl,t⟩:=Eh.agg (by kernel_rfl) i;have k:g.length=5:=(jU.Bk rfl t).1
 match g,k,t with
 |[a,b,c,d,e],_,t=>obtain⟨l,m,o,p,q,u⟩:=EZ (a:=a) (b:=b) (t.field rfl 0 0 2 45 rfl);obtain⟨w,x,y,z⟩:=Ol (c:=c) (t.field rfl 1 2 1 46 rfl);obtain⟨A,B,C,D,E,F⟩:=EZ (a:=d) (b:=e) (t.field rfl 2 3 2 45 rfl);exact(Oa l m w A B v o p x C D y).le (.cons (dV.agg (.cons q (.cons u (.cons z (.cons E (.cons F .nil)))))) (.cR .nil))
end Sg
end Go.Vm
namespace Go.Proofs.YtobmlkopbmakcaaGreat
open Go Go.Vm Go.ChangeShapes Go.WideShapes Go.ChangeAt Go.RowKit Go.Proofs
theorem wC:ownKnob Tryz.prog.godebug=none:=by kernel_rfl
theorem qH:laidOutB Tryz.prog=true:=by kernel_rfl
set_option maxRecDepth 100000 in
theorem ry (b:Os) (c:b.Started) (H:Type) (enc:TypeId×Value->H):
  ReturnsInHanded {} Tryz.checked b 4 .any (Rows.topInnerFitSpec.pre6 enc Tryz.prog Tryz.f4 Rows.topInnerFitRow.domain false) (Rows.topInnerFitSpec.post enc Tryz.prog Tryz.f4 false true false false):=by
 refine returnsInHanded_of_change (C:=Tryz.checked) wC c (by kernel_rfl) Tryz.func4
  (ChangeSpec.witness6 (enc:=enc) (C:=Tryz.checked) false ⟨#[],#[.agg #[.slice none 0 0,.slice none 0 0,.slice none 0 0,.slice none 0 0,.slice none 0 0],.agg #[.int .i64 0,.int .i64 0]],[]⟩ 8 (by kernel_rfl) (by kernel_rfl) (by kernel_rfl) (by kernel_rfl)) ?_
 intro W f args a g i j k l _;exact Bf (n:=8) rfl rfl rfl (by kernel_rfl) (by kernel_rfl) qH (λa h=>match a,h with|[m,o],_=>⟨rfl,rfl,rfl⟩) Sg.Ob W f args a g i j k
theorem uz:Rows.topInnerFitRow.holds Tryz.pinned (OpenSpec.ofChange Rows.topInnerFitSpec):=
 OpenClaim.holds_of_wide 4 Tryz.f4 rfl rfl rfl rfl rfl rfl rfl ⟨rfl,rfl,rfl,rfl,rfl⟩ rfl rfl rfl rfl rfl (by kernel_rfl) Tryz.func4 (by kernel_rfl)
  (XB (by kernel_rfl)) (by unfold Func.isWrapper;first|(rw[XG (by decide+kernel)];kernel_rfl)|(rw[XD (by decide+kernel)];exact⟨rfl,rfl⟩))
  (λa b H c _=>ry a b H c)
theorem provedTopInnerFit:Rows.TopInnerFitSaid:=uz
#print axioms provedTopInnerFit
end Go.Proofs.YtobmlkopbmakcaaGreat
