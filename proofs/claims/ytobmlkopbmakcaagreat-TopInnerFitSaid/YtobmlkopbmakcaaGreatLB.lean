import Derived.Test.YtobmlkopbmakcaaGreatLA
import Derived.Laws.AppendOwn
import Derived.Laws.OwnMore
set_option linter.unusedVariables false
set_option linter.unusedSimpArgs false
set_option maxRecDepth 20000
namespace Go.Vm
open Go Go.RowKit
theorem qa (off:Nat):∀(a xs:List Value) (j:Nat),
  ((a.zipIdx j).foldl (λb (p:Value×Nat)=>b.setIfInBounds (off+p.2) p.1) xs.toArray)=(setCells xs (off+j) a).toArray
 |[],_,_=>rfl
 |u::a,xs,j=>by simp only[List.zipIdx_cons,ZP,setCells];have h:=qa off a (xs.set (off+j) u) (j+1);rw[show off+(j+1)=off+j+1 by omega]at h;simpa using h
theorem rK {t:Nat->TV} (z:Nat->Option (Nat×Nat)):∀(D:List (Nat×Operand)) (b:List SV) (K:List SV->Prop),
  gi t (λi=>(z i).map (·.2)) D=true->oo t (λi=>(z i).map (·.1)) b D K->
  ∃A,K A/\A.length=b.length/\∀(E:Env) (m:Id->Mem) (k:Id->Option (Nat×Nat)) (w:World) (a:Act) (f:List Value),(∀p∈D,dm E m k w (a.eval p.2) (bG t p.2))->eJ (L E m k w) w f b->
   ∃F:List Value,Instr.fill z f.toArray (D.map λp=>(p.1,a.eval p.2))=some F.toArray/\eJ (L E m k w) w F A
 |[],b,K,_,h=>⟨b,h,rfl,λE m k w a f _ G=>⟨f,by simp[Instr.fill],G⟩⟩
 |(i,x)::r,b,K,J,h=>by
  simp only[oo]at h;simp only[gi,XH]at J;obtain⟨g,Q⟩:=J;cases B:z i with
  |none=>simp[B]at h
  |some p=>
   obtain⟨o,M⟩:=p;simp only[B,WI]at h g;obtain⟨l,h,R⟩:=xE h;replace h:=aM h;obtain⟨S,h⟩:=h;have a4:o+l.length<=b.length:=XJ S;rw[lJ,oQ]at h;obtain⟨A,T,U,V⟩:=rK z r (setCells b o l) K Q h;refine⟨A,T,by rw[U,eU],λE m k w a f N G=>?_⟩;have q:=N (i,x) (by simp);obtain⟨u,y,O⟩:=R E m k w _ q;have a5:=O.length;have a6:=G.length;obtain⟨F,X,Y⟩:=V E m k w a (setCells f o u) (λp B=>N p (by simp[B])) (eJ.setCells O o G);refine⟨F,?_,Y⟩;have Z:u.length=M:=by
    revert g q;cases bG t x with
    |d a0=>
     cases a0 with
     |one c=>intro g q;have C:=XE g;have H:(a.eval x).cells.size=1:=(by have C:=Rd.bO (show Rd _ _ (a.eval x) c from q);revert C;cases a.eval x<;>intro C<;>first|rfl|(simp[Value.oneCell']at C));rw[y]at H;simp at H;omega
     |agg b=>intro g q;have C:=XE g;obtain⟨a1,I,a2⟩:=q;have H:=a2.length;rw[I]at y;simp only[Value.cells]at y;have:a1=u:=(by simpa using y);subst this;omega
    |_=>intro g;simp at g
   have a3:(a.eval x).cells.size=M:=(by rw[y];simpa using Z);have P:=qa o u f 0;simp only[YR]at P;simp only[Yg,Instr.fill,B,a3,ne_eq,not_true,decide_false,Bool.false_or,XU];rw[XD (by simp;omega),y];have I:u.toArray.zipIdx.foldl (λ(b:Array Value) (x:Value×Nat)=>match x with|(c,j)=>b.setIfInBounds (o+j) c) f.toArray=(setCells f o u).toArray:=(by rw[<-P];simp);rw[I];exact X
variable {P:Program} {T:Ty}
theorem ij {t:TypeId} (b:cW P t T) (S:Nat->Prop) (w:World):∃i z,P.info? t=some i/\i.size=T.size/\i.bytes=T.bytes/\i.zero=some z/\z.cells.size=T.size/\eJ S w z.cells.toList T.zero:=by
 obtain⟨i,z,c,f,g,h,j,k,m⟩:=b.info;refine⟨i,z,c,f,g,h,m,?_⟩;rw[<-j];have a:∀x∈z.cells.toList,x.oneCell'=true:=λx o=>Zj.1 k x o;revert a;generalize z.cells.toList=l;intro a;induction l with
 |nil=>exact .nil
 |cons x l p=>exact .cons (.v (a x (by simp))) (p (λy q=>a y (by simp[q])))
theorem pa {o:Oper} {a:Array (Nat×Operand)} (h:o.op.operands=(a.toList.map (·.2)).toArray) (p:Nat×Operand) (b:p∈a.toList):p.2∈o.op.operands.toList:=by
 rw[h];simp only[XQ];exact⟨p,b,rfl⟩
variable {m:Id->Mem} {ty:TypeId} {K:List SV->Prop}
theorem uq {o:Oper} {t:Nat->TV} {TT:iu} (y:cC P TT) (A:TT ty=some T) {b:List (Nat×TypeId×Nat)} (B:T.kind= .str b) {c:Array (Nat×Operand)} (j:o.op= .build ty c)
  (C:gi t (λi=>(b[i]?).map (·.2.2)) c.toList=true) (h:oo t (λi=>(b[i]?).map (·.1)) T.zero c.toList K):∃f,K f/\aG P o t m (.d (.agg f)) [] []:=by
 have k:=y ty T A;have l:=k.kind;rw[B]at l;obtain⟨F,D,a0,G⟩:=l;have H:(λi:Nat=>(((b.map λx:Nat×TypeId×Nat=>(x.1,x.2.2)).toArray[i]?).map (·.2):Option Nat))=λi:Nat=>(b[i]?).map (·.2.2):=by funext i;simp only[YN,Zt,Option.map_map];rfl
 have I:(λi:Nat=>(((b.map λx:Nat×TypeId×Nat=>(x.1,x.2.2)).toArray[i]?).map (·.1):Option Nat))=λi:Nat=>(b[i]?).map (·.1):=by funext i;simp only[YN,Zt,Option.map_map];rfl
 obtain⟨f,J,_,M⟩:=rK (t:=t) (λi:Nat=>(b.map λx:Nat×TypeId×Nat=>(x.1,x.2.2)).toArray[i]?) c.toList T.zero K (by rw[H];exact C) (by rw[I];exact h);refine⟨f,J,aB λE q a1 r a w a2 N _ O=>?_⟩;obtain⟨i,z,Q,a3,a4,R,a5,S⟩:=ij k (L E r q w) w;obtain⟨g,U,V⟩:=M E r q w a z.cells.toList (λp X=>by have u:=(ax O p.2).1;rw[aq N (pa (by rw[j];rfl) p X)]at u;exact u) S;have Y:P.built ty (c.map λ(i,x)=>(i,a.eval x)).toList=some g.toArray:=by unfold Program.built;simp only[Q,D,R,G,Array.toList_map];exact U
 refine⟨.agg g.toArray,?_,⟨g,rfl,V⟩,λ_ h=>h.elim⟩;have Z:=run_build (P:=P) w ty (c.map λ(i,x)=>(i,a.eval x)) g.toArray Y;simp[execOp,j,Z]
variable {e:TypeId} {TE:Ty}
theorem ur {o:Oper} {t:Nat->TV} {TT:iu} (k:cC P TT) (y:TT ty=some T) {n:Nat} (A:T.kind= .arr n e) (B:TT e=some TE) {b:Array (Nat×Operand)} (l:o.op= .build ty b)
  (C:gi t (λ_=>some TE.size) b.toList=true) (h:oo t (λi=>some (i*TE.size)) T.zero b.toList K):∃c,K c/\aG P o t m (.d (.agg c)) [] []:=by
 have q:=k ty T y;have r:=q.kind;rw[A]at r;obtain⟨c,D,_,F⟩:=rK (t:=t) (λi=>some (i*TE.size,TE.size)) b.toList T.zero K C h;refine⟨c,D,aB λE g X j a w Y G _ H=>?_⟩;obtain⟨i,z,I,Z,a0,J,a1,M⟩:=ij q (L E j g w) w;obtain⟨a2,a3,N,O,a4,a5,a6,_⟩:=ij (k e TE B) (L E j g w) w;obtain⟨f,Q,R⟩:=F E j g w a z.cells.toList (λp S=>by have u:=(ax H p.2).1;rw[aq G (pa (by rw[l];rfl) p S)]at u;exact u) M;have U:P.built ty (b.map λ(i,x)=>(i,a.eval x)).toList=some f.toArray:=by unfold Program.built;simp only[I,r,J,N,O,Array.toList_map];exact Q
 refine⟨.agg f.toArray,?_,⟨f,rfl,R⟩,λ_ h=>h.elim⟩;have V:=run_build (P:=P) w ty (b.map λ(i,x)=>(i,a.eval x)) f.toArray U;simp[execOp,l,V]
theorem jI:∀(n:Nat) (l:List SV),(gU n l).length=n*l.length
 |0,_=>by simp[gU]
 |n+1,l=>by simp[gU,jI n,Ym,Zm]
def dI:Nat->List Value->List Value
 |0,_=>[]
 |n+1,l=>l++dI n l
theorem jH:∀(n:Nat) (l:List Value),(dI n l).length=n*l.length
 |0,_=>by simp[dI]
 |n+1,l=>by simp[dI,jH n,Ym,Zm]
theorem mP {S:Nat->Prop} {w:World} {xs:List Value} {cs:List SV} (h:eJ S w xs cs):∀n,eJ S w (dI n xs) (gU n cs)
 |0=> .nil
 |n+1=>h.append (mP h n)
theorem fP (l:List Value) (b:0<l.length):∀(n j:Nat),j<n*l.length->(dI n l)[j]? =l[j%l.length]?
 |0,j,h=>by simp at h
 |n+1,j,h=>by rw[dI,Yo];by_cases a:j<l.length;rw[XG a,X3 a];rw[XD a,fP l b n (j-l.length) (by rw[Ym]at h;omega)];congr 1;rw[<-Wt (by omega)]
theorem kn (z:Array Value) (n:Nat) (a:0<z.size:=by omega):(Array.range (n*z.size)).map (z[·%z.size]!)=(dI n z.toList).toArray:=by
 apply aae;intro j;have c:0<z.toList.length:=by simpa using a
 by_cases b:j<n*z.size;have f:=fP z.toList c n j (by simpa using b);have g:j%z.size<z.size:=ZJ _ a;simp only[YN,f,Array.getElem?_map];simp[b,g];have h:(dI n z.toList).length=n*z.size:=(by rw[jH];simp);rw[ZX (by simp;omega),ZX (by simp[h];omega)]
theorem qZ {o:Oper} {t:Nat->TV} {TT:iu} (C:cC P TT) (X:TT ty=some T) (Y:T.kind= .ju e) (H:TT e=some TE) {z:Array (Nat×Operand)} {len:Nat} (I:o.op= .buildSlice ty len z)
  (c2:len*TE.size<=65536) (J:0<TE.size) (Z:0<len) (a0:gi t (λ_=>some TE.size) z.toList=true) (h:oo t (λi=>some (i*TE.size)) (gU len TE.zero) z.toList K):
  ∃q,K q/\aG P o t m (.d (.one (.sl len TE.size λi j=>q.getD (i*TE.size+j) (.v Go.undef)))) [] []:=by
 have a1:=C ty T X;have a2:P.underlying ty=some (.slice e):=by have:=a1.kind;rw[Y]at this;exact this
 obtain⟨q,a3,a4,a5⟩:=rK (t:=t) (λi=>some (i*TE.size,TE.size)) z.toList (gU len TE.zero) K a0 h;refine⟨q,a3,?_⟩;intro E g c3 k a w c4 a6 _ a7 u c5 Q a8;obtain⟨c6,M,a9,c7,c8,b0,D,N⟩:=ij (C e TE H) (L E k g w) w;have O:=N.length;simp at O;rw[jI,<-O,D]at a4;obtain⟨f,b1,R⟩:=a5 E k g w a (dI len M.cells.toList) (λp b2=>by have S:=(ax u p.2).1;rw[aq a6 (pa (by rw[I];rfl) p b2)]at S;exact S) (mP N len);have U:=kn M.cells len;rw[D]at U;have b3:len*TE.size≠0:=Nat.ne_of_gt (Nat.mul_pos Z J);have b4:(execOp a.eval o).run P w= .ok (.value (.slice (some ⟨w.heap.size,0,none⟩) len len)) (w.alloc (.cells f.toArray e)):=by have b5:¬(16777216<len*TE.size):=(by omega);simp[execOp,I,Instr.buildSlice,run_underlying a2,bT (C e TE H),b5,zeroValue,typeInfo,a9,b0,D,newRow];rw[XD b3,U,b1];simp
 have b6:=u.grow (ek w (.cells f.toArray e));have c9:=R.length;have b7:w.heap.size<(w.alloc (.cells f.toArray e)).heap.size:=by simp
 have b8:L E k g (w.alloc (.cells f.toArray e)) w.heap.size:=⟨.inr (.inr ⟨u.below.size,b7⟩),λb9 c l r=>absurd (u.lo b9 _ c l r).2 (Zg _)⟩;have c0:∀b,L E k g w b->L E k g (w.alloc (.cells f.toArray e)) b/\(w.alloc (.cells f.toArray e)).heap[b]? =w.heap[b]?:=λb F=>
  ⟨⟨F.1.imp id (λG=>G.imp id (λG=>⟨G.1,by omega⟩)),F.2⟩,iT w _ b (xS u F)⟩
 unfold Oper.wp;rw[b4];refine a8 g _ _ (b6.put a7 ?_ (λ_ h=>h.elim));show Rd _ _ _ _;have V:∀i,i<len->∀j,j<TE.size->∃x,f[i*TE.size+j]? =some x/\Rd (L E k g w) w x (q.getD (i*TE.size+j) (.v Go.undef)):=by intro i y j A;refine R.du _ ?_;have:(i+1)*TE.size<=len*TE.size:=XX _ y;rw[Ym]at this;omega
 refine Rd.sl (λi j=>(f[i*TE.size+j]?).getD Go.undef) b8 (XP _) ?_ (λi y j A=>?_) (λi y j A=>?_);have:len<=len*TE.size:=Nat.le_mul_of_pos_right _ J;simp only[maxLen];omega;obtain⟨x,B,_⟩:=V i y j A;rw[B];simp only[World.cell?,bX,Option.isSome_none,Y4,Z3,YN,X6,B,Yt];obtain⟨x,B,c1⟩:=V i y j A;simp only[B,Yt];exact c1.mono c0
variable {P:Program} {m:Id->Mem} {op:BinOp} {ty B0:TypeId} {x y:Operand} {K:TV->Prop}
theorem P1 {o:Oper} {t:Nat->TV} (j:o.op= .binOp op ty x y B0) (h:Su op (bG t x) (bG t y) K):
  ∃z,K z/\aG P o t m z [] []:=by
 have C:x∈o.op.operands.toList:=by rw[j];simp[Op.operands]
 have D:y∈o.op.operands.toList:=by rw[j];simp[Op.operands]
 have i:∀(u v:Value) (r:Value),bG t x= .d (.one (.v u))->bG t y= .d (.one (.v v))->r.oneCell'=true->(∀(w:World),((do eqGuard op ty x y u v;binOp op ty u v:Sem Value)).run P w= .ok r w)->aG P o t m (.d (.one (.v r))) [] []:=by intro u v r c f F G;refine aB λE M N O a w Q p _ q=>?_;have A:=(ax q x).1;have B:=(ax q y).1;rw[aq p C,c]at A;rw[aq p D,f]at B;have H:=(Rd.cm (show Rd _ _ _ _ from A)).1;have I:=(Rd.cm (show Rd _ _ _ _ from B)).1;refine⟨r,?_,Rd.v F,λ_ h=>h.elim⟩;have:=G w;simp only[execOp,j,H,I];rw[Sem.run_bind,this];rfl
 unfold Su at h;split at h
 ·rename_i k a c;split at h
  ·rename_i R b f;replace h:=aM h;obtain⟨J,h⟩:=h;obtain rfl:=Me J;have g:∀(w:World),(eqGuard op ty x y (.int k a) (.int k b)).run P w= .ok () w:=(by intro w;cases op<;>simp[eqGuard]);cases op with
   |add=>exact⟨_,h,i _ _ _ c f rfl (λw=>by simp[g w,binOp,Op.intArith])⟩
   |sub=>exact⟨_,h,i _ _ _ c f rfl (λw=>by simp[g w,binOp,Op.intArith])⟩
   |mul=>exact⟨_,h,i _ _ _ c f rfl (λw=>by simp[g w,binOp,Op.intArith])⟩
   |quo=>obtain⟨l,h⟩:=h;exact⟨_,h,i _ _ _ c f rfl (λw=>by simp[g w,binOp,Op.intDiv,l])⟩
   |rem=>obtain⟨l,h⟩:=h;exact⟨_,h,i _ _ _ c f rfl (λw=>by simp[g w,binOp,Op.intDiv,l])⟩
   |eql=>exact⟨_,h,i _ _ _ c f rfl (λw=>by simp[g w,binOp,Op.intCmp])⟩
   |neq=>exact⟨_,h,i _ _ _ c f rfl (λw=>by simp[g w,binOp,Op.intCmp])⟩
   |lss=>exact⟨_,h,i _ _ _ c f rfl (λw=>by simp[g w,binOp,Op.intCmp])⟩
   |leq=>exact⟨_,h,i _ _ _ c f rfl (λw=>by simp[g w,binOp,Op.intCmp])⟩
   |gtr=>exact⟨_,h,i _ _ _ c f rfl (λw=>by simp[g w,binOp,Op.intCmp])⟩
   |geq=>exact⟨_,h,i _ _ _ c f rfl (λw=>by simp[g w,binOp,Op.intCmp])⟩
   |_=>exact h.elim
  ·exact h.elim
 ·rename_i a c;split at h
  ·rename_i b f;have g:∀(w:World),(eqGuard op ty x y (.string a) (.string b)).run P w= .ok () w:=(by intro w;cases op<;>simp[eqGuard]);cases op with
   |eql=>exact⟨_,h,i _ _ _ c f rfl (λw=>by simp[g w,binOp,Op.stringOp])⟩
   |neq=>exact⟨_,h,i _ _ _ c f rfl (λw=>by simp[g w,binOp,Op.stringOp])⟩
   |_=>exact h.elim
  ·exact h.elim
 ·exact h.elim
theorem MJ {o:Oper} {t:Nat->TV} (f:o.op= .binOp op ty x y B0) {xs g:List SV} (A:bG t x= .d (.agg xs)) (B:bG t y= .d (.agg g)) {b:Bool} (h:xT P ty xs g b):
  (op= .eql->aG P o t m (aD b) [] [])/\(op= .neq->aG P o t m (aD (!b)) [] []):=by
 have C:x∈o.op.operands.toList:=by rw[f];simp[Op.operands]
 have D:y∈o.op.operands.toList:=by rw[f];simp[Op.operands]
 obtain⟨i,F⟩:=h;have j:∀(c:Bool),((op= .eql/\c=b)\/(op= .neq/\c=!b))->aG P o t m (aD c) [] []:=by intro c G;refine aB λE M N O a w Q k _ l=>?_;have p:=(ax l x).1;have q:=(ax l y).1;rw[aq k C,A]at p;rw[aq k D,B]at q;obtain⟨H,r,I⟩:=p;obtain⟨J,u,K⟩:=q;refine⟨.bool c,?_,Rd.v rfl,λ_ h=>h.elim⟩;have z:=F _ w H J I K;rcases G with⟨rfl,rfl⟩|⟨rfl,rfl⟩;simp[execOp,f,r,u,eqGuard,i,binOp,z];simp[execOp,f,r,u,eqGuard,i,binOp,z]
 exact⟨λe=>j b (.inl ⟨e,rfl⟩),λe=>j (!b) (.inr ⟨e,rfl⟩)⟩
variable {q:Bool}
theorem zm {o:Oper} {t:Nat->TV} (c:o.op= .binOp op ty x y B0) {p:Bool} (z:bG t x=aD p) (A:bG t y=aD q) (B:P.underlying ty=some .bool):
  (op= .eql->aG P o t m (aD (p==q)) [] [])/\(op= .neq->aG P o t m (aD (!(p==q))) [] []):=by
 have C:x∈o.op.operands.toList:=by rw[c];simp[Op.operands]
 have D:y∈o.op.operands.toList:=by rw[c];simp[Op.operands]
 have f:∀(b:Bool),((op= .eql/\b=(p==q))\/(op= .neq/\b=!(p==q)))->aG P o t m (aD b) [] []:=by intro b F;refine aB λE G H I a w J g _ i=>?_;have j:=(ax i x).1;have k:=(ax i y).1;rw[aq g C,z]at j;rw[aq g D,A]at k;have l:=(Rd.cm (show Rd _ _ _ _ from j)).1;have r:=(Rd.cm (show Rd _ _ _ _ from k)).1;refine⟨.bool b,?_,Rd.v rfl,λ_ h=>h.elim⟩;have u:(Op.equal ty (.bool p) (.bool q)).run P w= .ok (p==q) w:=(by unfold Op.equal Op.maxDepth;exact run_equalIn_bool w 9999 ty p q B);rcases F with⟨rfl,rfl⟩|⟨rfl,rfl⟩;simp[execOp,c,l,r,eqGuard,binOp,u];simp[execOp,c,l,r,eqGuard,binOp,u]
 exact⟨λe=>f _ (.inl ⟨e,rfl⟩),λe=>f _ (.inr ⟨e,rfl⟩)⟩
theorem lg {o:Oper} {t:Nat->TV} (c:x∈o.op.operands.toList) {u r:Value} (f:bG t x= .d (.one (.v u))) (g:r.oneCell'=true)
  (i:∀(a:Act) (w:World),a.eval x=u->(execOp a.eval o).run P w= .ok (.value r) w):aG P o t m (.d (.one (.v r))) [] []:=by
 refine aB λE p q y a w z j _ k=>?_;have b:=(ax k x).1;rw[aq j c,f]at b;have l:=(Rd.cm (show Rd _ _ _ _ from b)).1;exact⟨r,i a w l,Rd.v g,λ_ h=>h.elim⟩
theorem tG {o:Oper} {t:Nat->TV} (b:o.op= .move x\/o.op= .assign x):aG P o t m (bG t x) [] []:=by
 refine aB λE h i j a w k f _ g=>?_;have c:=ax g x;rw[aq f (by rcases b with b|b<;>rw[b]<;>simp[Op.operands])]at c;refine⟨a.eval x,?_,c⟩;rcases b with b|b<;>simp[execOp,b]
theorem tF {o:Oper} {t:Nat->TV} {c:Operand} (b:o.op= .pick c x y) (k:bG t c=aD q):aG P o t m (bif q then bG t x else bG t y) [] []:=by
 refine aB λE p r u a w z g _ f=>?_;have h:=(ax f c).1;rw[aq g (by rw[b];simp[Op.operands]),k]at h;have l:=(Rd.cm (show Rd _ _ _ _ from h)).1;have i:=ax f x;have j:=ax f y;rw[aq g (by rw[b];simp[Op.operands])]at i j;refine⟨if q then a.eval x else a.eval y,?_,?_⟩;simp[execOp,b,l,asBool];cases q;exact j;exact i
theorem eE (b off n:Nat):(⟨b,off,none⟩:Addr).add n=⟨b,off+n,none⟩:=by
 unfold Addr.add;split<;>simp_all
theorem vT {o:Oper} {t:Nat->TV} {i:Nat} (b:o.op= .extract x i) {xs:List DV} (f:bG t x= .eG xs) {v:DV} (g:xs[i]? =some v):aG P o t m (.d v) [] []:=by
 refine aB λE y z A a w B j _ k=>?_;have c:=(ax k x).1;rw[aq j (by rw[b];simp[Op.operands]),f]at c;obtain⟨C,l,p⟩:=c;obtain⟨u,q,r⟩:=p.get i v g;exact⟨u,by simp[execOp,b,l,Instr.extract,q],r,λ_ h=>h.elim⟩
variable {w:World}
theorem wc (b off:Nat) (f:Field) (h:0<P.cellsOf f.type):(fieldPlace ⟨b,off,none⟩ f).run P w= .ok ⟨b,off+f.offset,none⟩ w:=by
 unfold Program.cellsOf at h;cases a:P.info? f.type with
 |none=>simp[a]at h
 |some i=>simp[a]at h;have c:i.size≠0:=(by omega);simp[fieldPlace,sizeOf,typeInfo,a,c,eE]
variable {T:Ty} {ft size:Nat}
theorem Cs (j:cW P ty T) {g:List (Nat×TypeId×Nat)} (k:T.kind= .str g) {f off:Nat} (l:g[f]? =some (off,ft,size)) (hs:0<size) (w:World) (b p:Nat):
  (Instr.fieldAt ty (.pointer (some ⟨b,p,none⟩)) f).run P w= .ok (.pointer (some ⟨b,p+off,none⟩)) w:=by
 have h:=j.kind;rw[k]at h;obtain⟨F,m,o,_⟩:=h;have a:(F.toList.map (λf=>(f.offset,f.type,P.cellsOf f.type)))[f]? =some (off,ft,size):=by rw[o];exact l
 rw[Zt]at a;cases c:F.toList[f]? with
 |none=>simp[c]at a
 |some i=>simp[c]at a;obtain⟨q,x,r⟩:=a;have t:=wc (P:=P) (w:=w) b p i (by rw[r];exact hs);have u:F[f]? =some i:=(by simpa using c);simp[Instr.fieldAt,run_underlying m,u,Instr.sureAddr,t,q]
theorem so {o:Oper} {t:Nat->TV} {TT:iu} (O:cC P TT) (Q:TT ty=some T) {H:List (Nat×TypeId×Nat)} (R:T.kind= .str H) {f off:Nat} (S:H[f]? =some (off,ft,size)) (hs:0<size) (I:o.op= .fieldAddr ty x f):
  (∀b p,bG t x= .ptr b p->(m b).dw=true->aG P o t m (.ptr b (p+off)) [] [b.key])/\
  (∀b g i p n k,bG t x= .ep b g i p->(m b).bK=some (g,n,k)->aG P o t m (.ep b g i (p+off)) [] [b.key])/\
  (∀n D,bG t x= .d (.one (.ad n D))->aG P o t m (.d (.one (.ad (n-off) λj=>D (off+j)))) [] []):=by
 have F:x∈o.op.operands.toList:=by rw[I];simp[Op.operands]
 have U:=O ty T Q;have G:∀(a:Act) (w:World) (b p:Nat),a.eval x= .pointer (some ⟨b,p,none⟩)->(execOp a.eval o).run P w= .ok (.value (.pointer (some ⟨b,p+off,none⟩))) w:=by intro a w b p r;simp[execOp,I,r,Cs U R S hs w b p]
 refine⟨λb p r q=>?_,λb g i p n k r q=>?_,λn D r=>?_⟩;refine aB λE J K M a w N u C y=>?_;have l:=(ax y x).1;rw[aq u F,r]at l;rw[<-C.at b]at q;simp only[dm]at l;rw[bQ q]at l;obtain⟨z,c,A,B⟩:=l;exact⟨_,G a w z p B,by simp only[dm];rw[bQ q];exact⟨z,c,A,rfl⟩,λ_ h=>by cases h;intro e;rw[e]at q;simp[Mem.dw]at q⟩;refine aB λE J K M a w N u C y=>?_;have l:=(ax y x).1;rw[aq u F,r]at l;rw[<-C.at b]at q;rw[dv q]at l;obtain⟨V,z,c,A,B⟩:=l.2 rfl;refine⟨_,G a w z _ B,?_,λ_ h=>by cases h;exact(cM q).2⟩;rw[dv q];exact⟨XP _,λ_=>⟨V,z,c,A,by rw[YQ]⟩⟩;refine aB λE J K M a w N u C y=>?_;have l:=(ax y x).1;rw[aq u F,r]at l;obtain⟨b,p,X,A,B,Y,Z⟩:=Rd.qJ (show Rd _ _ _ _ from l);refine⟨_,G a w b p A,Rd.ad (λj=>X (off+j)) B (λj a0=>?_) (λj a0=>Z _ (by omega)),λ_ h=>h.elim⟩;rw[YQ];exact Y _ (by omega)
theorem wb (a:cW P ty T) (w:World) (xs:List Value) (off:Nat) (h:off+T.size<=xs.length) (f:T.kind.isAgg=false->T.size=1):
  (part ty xs.toArray off).run P w= .ok (pack T.kind.isAgg ((xs.drop off).take T.size)) w:=by
 cases b:T.kind.isAgg with
 |true=>simp[part,me a,b,bT a,pack]
 |false=>have g:=f b;have c:off<xs.length:=(by omega);have i:(xs.drop off).take 1=[xs[off]]:=(by rw[Y6 c];rfl);simp[part,me a,b,pack,g,c,i]
theorem Aj {o:Oper} {t:Nat->TV} {TT:iu} (g:cC P TT) (q:TT ty=some T) {i:List (Nat×TypeId×Nat)} (r:T.kind= .str i) {f off:Nat} (u:i[f]? =some (off,ft,size)) {TF:Ty} (A:TT ft=some TF) (B:TF.size=size) (j:o.op= .field ty x f)
  {cs:List SV} (C:bG t x= .d (.agg cs)) (a0:off+size<=cs.length) {K:TV->Prop} (h:mZ TF ((cs.drop off).take size) K):∃z,K z/\aG P o t m z [] []:=by
 have D:x∈o.op.operands.toList:=by rw[j];simp[Op.operands]
 have G:=g ty T q;obtain⟨y,H,I,J⟩:=jn h;refine⟨_,H,aB λE ρ a2 a3 a w a4 M _ N=>?_⟩;have k:=(ax N x).1;rw[aq M D,C]at k;obtain⟨O,Q,l⟩:=k;have a5:=l.length;have p:=G.kind;rw[r]at p;obtain⟨F,R,S,_⟩:=p;have b:(F.toList.map (λf=>(f.offset,f.type,P.cellsOf f.type)))[f]? =some (off,ft,size):=by rw[S];exact u
 rw[Zt]at b;cases c:F.toList[f]? with
 |none=>simp[c]at b
 |some U=>simp[c]at b;obtain⟨V,X,a6⟩:=b;have Y:F[f]? =some U:=(by simpa using c);subst B;have Z:=wb (P:=P) (g ft TF A) w O off (by omega) (λe=>by have:=I e;simp at this;omega);refine⟨_,?_,J _ w _ ((l.drop off).take TF.size),λ_ h=>h.elim⟩;simp[execOp,j,Q,Instr.field,run_underlying R,Y,asAgg,V,X,Z]
variable {e:Nat} {TE:Ty} {i:Operand}
theorem Ai {o:Oper} {t:Nat->TV} {TT:iu} (b:cC P TT) (u:TT ty=some T) {len:Nat} (A:T.kind= .arr len e) (f:TT e=some TE) (c:o.op= .index ty x i)
  {cs:List SV} (B:bG t x= .d (.agg cs)) {k:IntKind} {n:Int} (hi:bG t i= .d (.one (.v (.int k n)))) (g:0<=n/\n<len/\n.toNat*TE.size+TE.size<=cs.length) {K:TV->Prop} (h:mZ TE ((cs.drop (n.toNat*TE.size)).take TE.size) K):∃z,K z/\aG P o t m z [] []:=by
 have C:x∈o.op.operands.toList:=by rw[c];simp[Op.operands]
 have D:i∈o.op.operands.toList:=by rw[c];simp[Op.operands]
 have F:=b ty T u;obtain⟨y,G,H,I⟩:=jn h;refine⟨_,G,aB λE R S U a w V j _ l=>?_⟩;have p:=(ax l x).1;have q:=(ax l i).1;rw[aq j C,B]at p;rw[aq j D,hi]at q;have J:=(Rd.cm (show Rd _ _ _ _ from q)).1;obtain⟨M,N,r⟩:=p;have X:=r.length;have O:P.underlying ty=some (.array len e):=by have:=F.kind;rw[A]at this;exact this
 have Q:=wb (P:=P) (b e TE f) w M (n.toNat*TE.size) (by omega) (λe=>by have:=H e;simp at this;omega);refine⟨_,?_,I _ w _ ((r.drop _).take TE.size),λ_ h=>h.elim⟩;simp[execOp,c,N,J,Instr.index,asIntOf,run_underlying O,g.1,g.2.1,bT (b e TE f),Q]
theorem dM {o:Oper} {t:Nat->TV} {TT:iu} (O:cC P TT) (Z:TT ty=some T) {len:Nat} (a0:T.kind= .arr len e) (a1:TT e=some TE) (H:o.op= .indexAddr ty x i)
  {k:IntKind} {n:Int} (hi:bG t i= .d (.one (.v (.int k n)))) (Q:0<=n/\n<len):
  (∀b p,bG t x= .ptr b p->(m b).dw=true->aG P o t m (.ptr b (p+n.toNat*TE.size)) [] [b.key])/\
  (∀b g r p R S,bG t x= .ep b g r p->(m b).bK=some (g,R,S)->aG P o t m (.ep b g r (p+n.toNat*TE.size)) [] [b.key])/\
  (∀q I J,bG t x= .d (.one (.ad q I))->J<=q-n.toNat*TE.size->aG P o t m (.d (.one (.ad J λj=>I (n.toNat*TE.size+j)))) [] []):=by
 have K:x∈o.op.operands.toList:=by rw[H];simp[Op.operands]
 have M:i∈o.op.operands.toList:=by rw[H];simp[Op.operands]
 have a2:=O ty T Z;have a3:P.underlying ty=some (.array len e):=by have:=a2.kind;rw[a0]at this;exact this
 have N:∀(a:Act) (w:World) (b p:Nat),a.eval x= .pointer (some ⟨b,p,none⟩)->a.eval i= .int k n->(execOp a.eval o).run P w= .ok (.value (.pointer (some ⟨b,p+n.toNat*TE.size,none⟩))) w:=by intro a w b p A hi;simp[execOp,H,A,hi,Instr.indexAt,asIntOf,run_underlying a3,Instr.sureAddr,Q.1,Q.2,bT (O e TE a1),eE]
 refine⟨λb p A l=>?_,λb g r p R S A l=>?_,λq I J A a9=>?_⟩;refine aB λE U V X a w Y u G y=>?_;have f:=(ax y x).1;have z:=(ax y i).1;rw[aq u K,A]at f;rw[aq u M,hi]at z;have B:=(Rd.cm (show Rd _ _ _ _ from z)).1;rw[<-G.at b]at l;simp only[dm]at f;rw[bQ l]at f;obtain⟨C,c,D,F⟩:=f;exact⟨_,N a w C p F B,by simp only[dm];rw[bQ l];exact⟨C,c,D,rfl⟩,λ_ h=>by cases h;intro e;rw[e]at l;simp[Mem.dw]at l⟩;refine aB λE U V X a w Y u G y=>?_;have f:=(ax y x).1;have z:=(ax y i).1;rw[aq u K,A]at f;rw[aq u M,hi]at z;have B:=(Rd.cm (show Rd _ _ _ _ from z)).1;rw[<-G.at b]at l;rw[dv l]at f;obtain⟨a4,C,c,D,F⟩:=f.2 rfl;refine⟨_,N a w C _ F B,?_,λ_ h=>by cases h;exact(cM l).2⟩;rw[dv l];exact⟨XP _,λ_=>⟨a4,C,c,D,by rw[YQ]⟩⟩;refine aB λE U V X a w Y u G y=>?_;have f:=(ax y x).1;have z:=(ax y i).1;rw[aq u K,A]at f;rw[aq u M,hi]at z;have B:=(Rd.cm (show Rd _ _ _ _ from z)).1;obtain⟨b,p,a5,D,F,a6,a7⟩:=Rd.qJ (show Rd _ _ _ _ from f);refine⟨_,N a w b p D B,Rd.ad (λj=>a5 (n.toNat*TE.size+j)) F (λj a8=>?_) (λj a8=>a7 _ (by omega)),λ_ h=>h.elim⟩;rw[YQ];exact a6 _ (by omega)
theorem fA {o:Oper} {t:Nat->TV} {TT:iu} (U:cC P TT) (a1:TT ty=some T) (a2:T.kind= .ju e) (a3:TT e=some TE) (K:o.op= .indexAddr ty x i)
  {V:IntKind} {q:Int} (hi:bG t i= .d (.one (.v (.int V q)))):
  (∀n k M,bG t x= .d (.one (.sl n k M))->k=TE.size->0<=q->q<n->aG P o t m (.d (.one (.ad k (M q.toNat)))) [] [])/\
  (∀b g n k,bG t x= .aL b g->(m b).bK=some (g,n,k)->k=TE.size->0<=q->q<n->aG P o t m (.ep b g q.toNat 0) [] [b.key])/\
  (∀b g lo I n k,bG t x= .sub b g lo I->(m b).bK=some (g,n,k)->k=TE.size->0<=q->q<I->aG P o t m (.ep b g (lo+q.toNat) 0) [] [b.key]):=by
 have N:x∈o.op.operands.toList:=by rw[K];simp[Op.operands]
 have O:i∈o.op.operands.toList:=by rw[K];simp[Op.operands]
 have a4:=U ty T a1;have a5:P.underlying ty=some (.slice e):=by have:=a4.kind;rw[a2]at this;exact this
 have Q:∀(a:Act) (w:World) (b p n c:Nat),a.eval x= .slice (some ⟨b,p,none⟩) n c->a.eval i= .int V q->0<=q->q<n->(execOp a.eval o).run P w= .ok (.value (.pointer (some ⟨b,p+q.toNat*TE.size,none⟩))) w:=by intro a w b p n c z hi A f;simp[execOp,K,z,hi,Instr.indexAt,asIntOf,run_underlying a5,A,f,bT (U e TE a3),eE]
 refine⟨λn k M z C A D=>?_,λb g n k z l C A D=>?_,λb g lo I n k z l C A D=>?_⟩;refine aB λE X Y Z a w a0 u J r=>?_;have f:=(ax r x).1;have y:=(ax r i).1;rw[aq u N,z]at f;rw[aq u O,hi]at y;have F:=(Rd.cm (show Rd _ _ _ _ from y)).1;rcases Rd.sY (show Rd _ _ _ _ from f)with⟨_,a6⟩|⟨_,_,_,a6⟩|⟨b,a7,cap,a8,a9,b0,b5,b6,b1,b2⟩;omega;omega;refine⟨_,Q a w b a7 n cap a9 F A D,Rd.ad (a8 q.toNat) b0 (λj R=>?_) (λj R=>b2 q.toNat (by omega) j R),λ_ h=>h.elim⟩;rw[YQ,<-C];exact b1 q.toNat (by omega) j R;refine aB λE X Y Z a w a0 u J r=>?_;have f:=(ax r x).1;have y:=(ax r i).1;rw[aq u N,z]at f;rw[aq u O,hi]at y;have F:=(Rd.cm (show Rd _ _ _ _ from y)).1;rw[<-J.at b]at l;simp only[dm]at f;rw[bB l]at f;have B:=f.2.2 rfl;rcases jD l (r.mem b)with⟨_,b3⟩|⟨G,cap,b4,_,H,_⟩;omega;simp only[cE,H]at B;refine⟨_,Q a w G 0 n cap B F A D,?_,λ_ h=>by cases h;exact(cM l).2⟩;rw[dv l];exact⟨XP _,λ_=>⟨by omega,G,cap,H,by rw[<-C];simp⟩⟩;refine aB λE X Y Z a w a0 u J r=>?_;have f:=(ax r x).1;have y:=(ax r i).1;rw[aq u N,z]at f;rw[aq u O,hi]at y;have F:=(Rd.cm (show Rd _ _ _ _ from y)).1;rw[<-J.at b]at l;simp only[dm]at f;rw[dq l]at f;obtain⟨b7,B⟩:=f.2.2 rfl;rcases jD l (r.mem b)with⟨_,b3⟩|⟨G,cap,b4,_,H,_,_,b8,_⟩;omega;simp only[hj,H]at B;obtain⟨b9,B,S⟩:=B;have S:=S (.inl (by omega));subst S;refine⟨_,Q a w G (lo*k) I (cap-lo) B F A D,?_,λ_ h=>by cases h;exact(cM l).2⟩;rw[dv l];exact⟨XP _,λ_=>⟨by omega,G,cap,H,by rw[<-C,Ym,YR]⟩⟩
theorem Ag {o:Oper} {t:Nat->TV} {TT:iu} (F:cC P TT) (b5:TT ty=some T) (b6:T.kind= .ju e) {lo hi:Option Operand} (A:o.op= .slice ty x lo hi none) (Q:TT e=some TE) (h:EW TE.size (bG t x) t lo hi K):∃z,K z/\aG P o t m z [] []:=by
 have a6:x∈o.op.operands.toList:=by rw[A];simp[Op.operands]
 have b7:=F ty T b5;have R:P.underlying ty=some (.slice e):=by have:=b7.kind;rw[b6]at this;exact this
 have S:∀(d:Nat) (b:Option Operand) (K:Nat->Int->Prop),(∀y,b=some y->y∈o.op.operands.toList)->uA t d b K->∃(n:Nat) (z:Int),K n z/\n=z.toNat/\(b=none->z=d)/\
   ∀(E:Env) (q:Id->Option (Nat×Nat)) (f:Nat->TV) (r:Id->Mem) (a:Act) (w:World),fe o t f->Rel E q f r a w->∀y,b=some y->∃k,a.eval y= .int k z:=by
  intro d b K b8 G;cases b with
  |none=>exact⟨d,d,G,by simp,λ_=>rfl,λ_ _ _ _ _ _ _ _ y c=>by cases c⟩
  |some y=>simp only[uA,mM]at G;split at G;rename_i k z c;refine⟨z.toNat,z,G,rfl,(λe=>by cases e),λE q f r a w g l d3 b9=>?_⟩;cases b9;have u:=(ax l y).1;rw[aq g (b8 y rfl),c]at u;exact⟨k,(Rd.cm (show Rd _ _ _ _ from u)).1⟩;exact G.elim
 have a7:∀y,lo=some y->y∈o.op.operands.toList:=by intro y c;rw[A,c];simp[Op.operands]
 have a8:∀y,hi=some y->y∈o.op.operands.toList:=by intro y c;rw[A,c];simp[Op.operands]
 unfold EW at h;split at h
 ·rename_i n k d4 V;replace h:=aM h;obtain⟨X,h⟩:=h;have X:=XE X;obtain⟨p,hz,h,a9,b0,Y⟩:=S n hi _ a8 h;obtain⟨ll,lz,h,b1,Z,a0⟩:=S 0 lo _ a7 h;obtain⟨⟨a1,b2,d5⟩,h⟩:=h;refine⟨_,h,aB λE q f r a w c0 g c1 l=>?_⟩;have u:=(ax l x).1;rw[aq g a6,V]at u;have H:∀cap,n<=cap->(Instr.sliceBounds true n cap (lo.map a.eval) (hi.map a.eval) none).run P w= .ok (ll,p,cap) w:=by
   intro cap d6;have I:∀y,hi=some y->(Instr.sliceBound (a.eval y) cap .sliceAcap).run P w= .ok p w:=(by intro y c;obtain⟨a2,B⟩:=Y E q f r a w g l y c;have c2:0<=hz:=(by omega);have a3:hz<=(cap:Int):=(by omega);simp[Instr.sliceBound,B,asIntOf,c2,a3,a9]);have J:∀y,lo=some y->(Instr.sliceBound (a.eval y) p .sliceB).run P w= .ok ll w:=(by intro y c;obtain⟨a2,B⟩:=a0 E q f r a w g l y c;have a3:lz<=(p:Int):=(by omega);simp[Instr.sliceBound,B,asIntOf,a1,a3,b1]);cases hi with
   |none=>
    have d7:=b0 rfl;have c3:p=n:=(by omega);subst c3;cases lo with
    |none=>have:=Z rfl;have:ll=0:=(by omega);subst this;simp[Instr.sliceBounds]
    |some y=>simp[Instr.sliceBounds,J y rfl]
   |some M=>
    cases lo with
    |none=>have:=Z rfl;have:ll=0:=(by omega);subst this;simp[Instr.sliceBounds,I M rfl]
    |some y=>simp[Instr.sliceBounds,I M rfl,J y rfl]
  rcases Rd.sY (show Rd _ _ _ _ from u)with⟨C,a4⟩|⟨b3,cap,C,a4⟩|⟨b,b4,cap,c4,C,c5,c6,d8,c7,c8⟩
  rotate_left
  ·have D:=H cap (by omega);rw[a4]at D;have N:ll=0:=(by omega);have O:p=0:=(by omega);refine⟨.slice (some b3) 0 cap,?_,?_,λ_ h=>h.elim⟩;simp[execOp,A,C,Instr.sliceAt,Instr.slice,run_underlying R,D,bT (F e TE Q),N,O,Addr.add];show Rd _ _ _ _;rw[N,O];exact Rd.emp b3 cap k _
  rotate_left
  ·have D:=H 0 (by omega);rw[a4]at D;have N:ll=0:=(by omega);have O:p=0:=(by omega);refine⟨.slice none 0 0,?_,?_,λ_ h=>h.elim⟩;simp[execOp,A,C,Instr.sliceAt,Instr.slice,run_underlying R,D,bT (F e TE Q),N,O];show Rd _ _ _ _;rw[N,O];exact Rd.nil k _
  ·have D:=H cap c6;refine⟨.slice (some ⟨b,if cap=ll then b4 else b4+ll*TE.size,none⟩) (p-ll) (cap-ll),?_,?_,λ_ h=>h.elim⟩;simp[execOp,A,C,Instr.sliceAt,Instr.slice,run_underlying R,D,bT (F e TE Q)];by_cases U:cap=ll;simp[U];simp[U,eE];show Rd _ _ _ _;refine Rd.sl (λi j=>c4 (ll+i) j) c5 (by omega) (by omega) (λi c9 j a5=>?_) (λi c9 j a5=>c8 (ll+i) (by omega) j a5);have U:cap≠ll:=(by omega);rw[XD U,YQ,<-X,<-YQ (ll*k),<-Ym];exact c7 (ll+i) (by omega) j a5
 ·rename_i V;obtain⟨p,hz,d0,a9,b0,Y⟩:=S 0 hi _ a8 h;obtain⟨ll,lz,d1,b1,Z,a0⟩:=S 0 lo _ a7 d0;obtain⟨⟨a1,b2⟩,d2⟩:=d1;subst a1;subst b2;refine⟨_,d2,aB λE q f r a w c0 g c1 l=>?_⟩;have u:=(ax l x).1;rw[aq g a6,V]at u;have C:=(Rd.cm (show Rd _ _ _ _ from u)).1;have H:(Instr.sliceBounds true 0 0 (lo.map a.eval) (hi.map a.eval) none).run P w= .ok (0,0,0) w:=by
   have I:∀y,hi=some y->(Instr.sliceBound (a.eval y) 0 .sliceAcap).run P w= .ok 0 w:=(by intro y c;obtain⟨a2,B⟩:=Y E q f r a w g l y c;simp[Instr.sliceBound,B,asIntOf]);have J:∀y,lo=some y->(Instr.sliceBound (a.eval y) 0 .sliceB).run P w= .ok 0 w:=(by intro y c;obtain⟨a2,B⟩:=a0 E q f r a w g l y c;simp[Instr.sliceBound,B,asIntOf]);cases hi with
   |none=>cases lo with
    |none=>simp[Instr.sliceBounds]
    |some y=>simp[Instr.sliceBounds,J y rfl]
   |some M=>cases lo with
    |none=>simp[Instr.sliceBounds,I M rfl]
    |some y=>simp[Instr.sliceBounds,I M rfl,J y rfl]
  refine⟨.slice none 0 0,?_,Rd.v rfl,λ_ h=>h.elim⟩;simp[execOp,A,C,Instr.sliceAt,Instr.slice,run_underlying R,H,bT (F e TE Q)]
 ·exact h.elim
variable {cap ll:Nat} {lo:Option Value} {hz lz:Int}
theorem xH {n:Nat} {hi:Option Value} {a:Nat} (j:ll=lz.toNat) (l:a=hz.toNat) (m:∀y,lo=some y->∃k,y= .int k lz) (o:∀y,hi=some y->∃k,y= .int k hz)
  (f:lo=none->lz=0) (p:hi=none->hz=n) (q:0<=lz) (A:lz<=hz) (r:hz<=cap:=by omega):(Instr.sliceBounds true n cap lo hi none).run P w= .ok (ll,a,cap) w:=by
 have g:∀y,hi=some y->(Instr.sliceBound y cap .sliceAcap).run P w= .ok a w:=by intro y b;obtain⟨t,c⟩:=o y b;have u:0<=hz:=(by omega);simp[Instr.sliceBound,c,asIntOf,u,r,l]
 have h:∀y,lo=some y->(Instr.sliceBound y a .sliceB).run P w= .ok ll w:=by intro y b;obtain⟨t,c⟩:=m y b;have x:lz<=(a:Int):=(by omega);simp[Instr.sliceBound,c,asIntOf,q,x,j]
 cases hi with
 |none=>
  have B:=p rfl;have z:a=n:=(by omega);subst z;cases lo with
  |none=>have:=f rfl;have:ll=0:=(by omega);subst this;simp[Instr.sliceBounds]
  |some y=>simp[Instr.sliceBounds,h y rfl]
 |some i=>
  cases lo with
  |none=>have:=f rfl;have:ll=0:=(by omega);subst this;simp[Instr.sliceBounds,g i rfl]
  |some y=>simp[Instr.sliceBounds,g i rfl,h y rfl]
theorem D0 {n:Nat} {hi mx:Value} {mz:Int} (g:ll=lz.toNat) (h:∀y,lo=some y->∃k,y= .int k lz) (i:∃k,hi= .int k hz) (j:∃k,mx= .int k mz)
  (l:lo=none->lz=0) (m:0<=lz) (p:lz<=hz) (q:hz<=mz) (b:mz<=cap:=by omega):(Instr.sliceBounds true n cap lo (some hi) (some mx)).run P w= .ok (ll,hz.toNat,mz.toNat) w:=by
 obtain⟨r,rfl⟩:=i;obtain⟨t,rfl⟩:=j;have c:0<=hz:=by omega
 have f:0<=mz:=by omega
 have u:hz<=(mz.toNat:Int):=by omega
 have x:lz<=(hz.toNat:Int):=by omega
 cases lo with
 |none=>have:=l rfl;have:ll=0:=(by omega);subst this;have a:hz<=max mz 0:=(by omega);simp[Instr.sliceBounds,Instr.sliceBound,asIntOf,c,f,a,b]
 |some y=>obtain⟨z,rfl⟩:=h y rfl;have a:hz<=max mz 0:=(by omega);have o:lz<=max hz 0:=(by omega);simp[Instr.sliceBounds,Instr.sliceBound,asIntOf,c,f,a,o,m,b,g]
theorem AS {o:Oper} {t:Nat->TV} (d:Nat) (b:Option Operand) {K:Nat->Int->Prop} (l:∀y,b=some y->y∈o.op.operands.toList) (c:uA t d b K):∃(n:Nat) (z:Int),K n z/\n=z.toNat/\(b=none->z=d)/\
  ∀(E:Env) (h:Id->Option (Nat×Nat)) (f:Nat->TV) (i:Id->Mem) (a:Act) (w:World),fe o t f->Rel E h f i a w->∀y,b.map a.eval=some y->∃k,y= .int k z:=by
 cases b with
 |none=>exact⟨d,d,c,by simp,λ_=>rfl,λ_ _ _ _ _ _ _ _ y g=>by cases g⟩
 |some y=>simp only[uA,mM]at c;split at c;rename_i k z g;refine⟨z.toNat,z,c,rfl,(λe=>by cases e),λE h f i a w m p r q=>?_⟩;cases q;have j:=(ax p y).1;rw[aq m (l y rfl),g]at j;exact⟨k,(Rd.cm (show Rd _ _ _ _ from j)).1⟩;exact c.elim
theorem zH {o:Oper} {t:Nat->TV} {b:Operand} {K:Nat->Int->Prop} (j:b∈o.op.operands.toList) (c:mM (bG t b) K):∃(n:Nat) (z:Int),K n z/\
  ∀(E:Env) (g:Id->Option (Nat×Nat)) (f:Nat->TV) (h:Id->Mem) (a:Act) (w:World),fe o t f->Rel E g f h a w->∃k,a.eval b= .int k z:=by
 unfold mM at c;split at c;rename_i k z l;refine⟨z.toNat,z,c,λE g f h a w m p=>?_⟩;have i:=(ax p b).1;rw[aq m j,l]at i;exact⟨k,(Rd.cm (show Rd _ _ _ _ from i)).1⟩;exact c.elim
theorem Bd {o:Oper} {t:Nat->TV} (F:x∈o.op.operands.toList) {K:Nat->List Nat->Prop} (h:w5 m (bG t x) K):∃n M,K n M/\
  ∀(E:Env) (u:Id->Option (Nat×Nat)) (l:Nat->TV) (p:Id->Mem) (a:Act) (w:World),fe o t l->hE M m p->Rel E u l p a w->∃q cap,a.eval x= .slice q n cap/\n<=cap/\(q=none->n=0):=by
 have N:∀b g c n k,bG t x= .aL b g->(m b).bK=some (c,n,k)->g=c->∀(E:Env) (u:Id->Option (Nat×Nat)) (l:Nat->TV) (p:Id->Mem) (a:Act) (w:World),fe o t l->hE [b.key] m p->Rel E u l p a w->∃q cap,a.eval x= .slice q n cap/\n<=cap/\(q=none->n=0):=by intro b g c n k j f H E u l p a w z I y;have i:=(ax y x).1;rw[aq z F,j]at i;rw[<-I.at b]at f;simp only[dm]at i;rw[bB f]at i;have r:=i.2.2 H;rcases jD f (y.mem b)with⟨A,O⟩|⟨R,cap,S,_,A,_,_,P,_⟩;simp only[cE,A]at r;subst O;exact⟨none,0,r,XP _,λ_=>rfl⟩;simp only[cE,A]at r;exact⟨_,cap,r,P,λe=>by simp at e⟩
 have Q:∀b g c lo n C k,bG t x= .sub b g lo n->(m b).bK=some (c,C,k)->g=c->∀(E:Env) (u:Id->Option (Nat×Nat)) (l:Nat->TV) (p:Id->Mem) (a:Act) (w:World),fe o t l->hE [b.key] m p->Rel E u l p a w->∃q cap,a.eval x= .slice q n cap/\n<=cap/\(q=none->n=0):=by intro b g c lo n C k j f H E u l p a w z I y;have i:=(ax y x).1;rw[aq z F,j]at i;rw[<-I.at b]at f;simp only[dm]at i;rw[dq f]at i;obtain⟨U,r⟩:=i.2.2 H;rcases jD f (y.mem b)with⟨A,O⟩|⟨R,cap,S,_,A,_,_,P,_⟩;simp only[hj,A]at r;have:n=0:=(by omega);subst this;exact⟨none,0,r,XP _,λ_=>rfl⟩;simp only[hj,A]at r;obtain⟨q,r,_⟩:=r;exact⟨_,_,r,by omega,λe=>by simp at e⟩
 unfold w5 at h;split at h;rename_i n k G j;refine⟨_,_,h,λE u l p a w z _ y=>?_⟩;have i:=(ax y x).1;rw[aq z F,j]at i;rcases Rd.sY (show Rd _ _ _ _ from i)with⟨D,J⟩|⟨q,cap,D,J⟩|⟨b,V,cap,X,D,Y,T,_⟩;subst J;exact⟨none,0,D,XP _,λ_=>rfl⟩;subst J;exact⟨some q,cap,D,XS _,λ_=>rfl⟩;exact⟨_,cap,D,T,λe=>by simp at e⟩;rename_i j;refine⟨_,_,h,λE u l p a w z _ y=>?_⟩;have i:=(ax y x).1;rw[aq z F,j]at i;exact⟨none,0,(Rd.cm (show Rd _ _ _ _ from i)).1,XP _,λ_=>rfl⟩;rename_i b g j;replace h:=bp h;split at h;rename_i c n k e G f;replace h:=aM h;obtain⟨B,h⟩:=h;exact⟨_,_,h,N b g c n k j (by rw[f];rfl) (XE B)⟩;rename_i c n k e G f;replace h:=aM h;obtain⟨B,h⟩:=h;exact⟨_,_,h,N b g c n k j (by rw[f];rfl) (XE B)⟩;exact h.elim;rename_i b g lo n j;replace h:=bp h;split at h;rename_i c C k e G f;replace h:=aM h;obtain⟨B,h⟩:=h;exact⟨_,_,h,Q b g c lo n C k j (by rw[f];rfl) (XE B)⟩;rename_i c C k e G f;replace h:=aM h;obtain⟨B,h⟩:=h;exact⟨_,_,h,Q b g c lo n C k j (by rw[f];rfl) (XE B)⟩;exact h.elim;exact h.elim
theorem xZ {o:Oper} {t:Nat->TV} {TT:iu} (l:cC P TT) (B:TT ty=some T) (C:T.kind= .ju e) (D:TT e=some TE) {hi mx:Operand} {lo:Option Operand} (b:o.op= .slice ty x lo (some hi) (some mx)) {K:fh}
  (h:w5 m (bG t x) λn c=>uA t 0 lo λ_ p=>mM (bG t hi) λ_ q=>mM (bG t mx) λ_ r=>aj (0<=p/\p<=q/\q<=r/\r<=n) (K .any [] c)):∃z u c,K z u c/\aG P o t m z u c:=by
 have F:x∈o.op.operands.toList:=by rw[b];simp[Op.operands]
 have G:P.underlying ty=some (.slice e):=by have:=(l ty T B).kind;rw[C]at this;exact this
 obtain⟨n,c,h,H⟩:=Bd F h;obtain⟨ll,lz,h,I,J,M⟩:=AS (o:=o) 0 lo (by intro y N;rw[b,N];simp[Op.operands]) h;obtain⟨Z,hz,h,O⟩:=zH (o:=o) (by rw[b];simp[Op.operands]) h;obtain⟨a0,mz,h,Q⟩:=zH (o:=o) (by rw[b];simp[Op.operands]) h;obtain⟨⟨R,S,U,a1⟩,h⟩:=h;refine⟨_,_,_,h,aB λE f g i a w a2 j V k=>?_⟩;obtain⟨A,cap,X,a3,_⟩:=H E f g i a w j V k;have Y:=D0 (P:=P) (w:=w) (n:=n) (cap:=cap) (lo:=lo.map a.eval) (hi:=a.eval hi) (mx:=a.eval mx) I (M E f g i a w j k) (O E f g i a w j k) (Q E f g i a w j k) (λe=>by cases lo with|none=>exact J rfl|some y=>cases e) R S U;refine⟨.slice (if mz.toNat=ll then A else A.map (·.add (ll*TE.size))) (hz.toNat-ll) (mz.toNat-ll),?_,trivial,λ_ h=>h.elim⟩;simp[execOp,b,X,Instr.sliceAt,Instr.slice,run_underlying G,Y,bT (l e TE D)]
theorem uu (w:World) (d:Nat) {e:TypeId} (b:P.underlying ty=some (.slice e)) (a:Option Addr) (n cap:Nat):(Op.equalIn (d+1) ty (.slice a n cap) (.slice none 0 0)).run P w= .ok a.isNone w:=by
 cases a with
 |none=>simp[Op.equalIn,run_underlying b]
 |some a=>simp[Op.equalIn,run_underlying b]
variable {neg:Bool}
theorem qX {o:Oper} {t:Nat->TV} {TT:iu} (r:cC P TT) (u:TT ty=some T) (A:T.kind= .ju e) (f:o.op= .binOp op ty x y B0) (B:bG t y= .d (.one (.v (.slice none 0 0)))) (C:(op= .eql/\neg=false)\/(op= .neq/\neg=true)) {K:fh}
  (h:w5 m (bG t x) λn b=>K (.nb n neg) [] b):∃z g b,K z g b/\aG P o t m z g b:=by
 have D:x∈o.op.operands.toList:=by rw[f];simp[Op.operands]
 have F:y∈o.op.operands.toList:=by rw[f];simp[Op.operands]
 have G:P.underlying ty=some (.slice e):=by have:=(r ty T u).kind;rw[A]at this;exact this
 obtain⟨n,b,h,H⟩:=Bd D h;refine⟨_,_,_,h,aB λE I J M a w R i N j=>?_⟩;obtain⟨c,cap,k,S,O⟩:=H E I J M a w i N j;have l:=(ax j y).1;rw[aq i F,B]at l;have p:=(Rd.cm (show Rd _ _ _ _ from l)).1;have q:(Op.equal ty (.slice c n cap) (.slice none 0 0)).run P w= .ok c.isNone w:=by unfold Op.equal Op.maxDepth;exact uu w 9999 G c n cap
 refine⟨.bool (c.isNone !=neg),?_,⟨c.isNone,rfl,λQ=>O (by simpa using Q)⟩,λ_ h=>h.elim⟩;rcases C with⟨rfl,rfl⟩|⟨rfl,rfl⟩;simp[execOp,f,k,p,eqGuard,binOp,q];simp[execOp,f,k,p,eqGuard,binOp,q]
theorem Ah {o:Oper} {t:Nat->TV} (c:o.op= .unOp .not ty x) {n:Nat} (g:bG t x= .nb n neg):aG P o t m (.nb n (!neg)) [] []:=by
 have i:x∈o.op.operands.toList:=by rw[c];simp[Op.operands]
 refine aB λE q r u a w y j z k=>?_;have f:=(ax k x).1;rw[aq j i,g]at f;obtain⟨b,l,p⟩:=f;refine⟨.bool (b !=!neg),?_,⟨b,rfl,p⟩,λ_ h=>h.elim⟩;simp[execOp,c,l,Op.unary]
theorem kA {o:Oper} {t:Nat->TV} {TT:iu} (a1:cC P TT) (c8:TT ty=some T) (c9:T.kind= .ju e) (a7:TT e=some TE) {lo hi:Option Operand} (X:o.op= .slice ty x lo hi none) {b:Id} {g f G:Nat}
  (M:(bG t x= .aL b g/\f=0/\∃n,(m b).bK.map (·.2.1)=some n/\G=n)\/bG t x= .sub b g f G) {K:fh} (h:As TE.size m b g f G t lo hi K):∃z a8 a9,K z a8 a9/\aG P o t m z a8 a9:=by
 have d0:x∈o.op.operands.toList:=by rw[X];simp[Op.operands]
 have b0:P.underlying ty=some (.slice e):=by have:=(a1 ty T c8).kind;rw[c9]at this;exact this
 unfold As at h;replace h:=bp h;split at h
 ·rename_i e2 n k N O U;replace h:=aM h;obtain⟨a2,h⟩:=h;simp only[XH]at a2;obtain rfl:=XE a2.1;obtain rfl:=XE a2.2;obtain⟨H,hz,h,b1,b2,b3⟩:=AS (o:=o) G hi (by intro y a3;rw[X,a3];simp[Op.operands]) h;obtain⟨ll,lz,h,b4,b5,b6⟩:=AS (o:=o) 0 lo (by intro y a3;rw[X,a3];simp[Op.operands]) h;obtain⟨⟨b7,b8,e3⟩,h⟩:=h;have b9:∀E p D l a w,fe o t D->hE [b.key] m l->Rel E p D l a w->(p b=none/\n=0/\(execOp a.eval o).run P w= .ok (.value (.slice none 0 0)) w)\/
    ∃q cap u,p b=some (q,cap)/\n<=cap/\(execOp a.eval o).run P w= .ok (.value (.slice (some u) (H-ll) (cap-(f+ll)))) w/\(f+ll<cap\/f+ll=0->u=⟨q,(f+ll)*TE.size,none⟩):=by
   intro E p D l a w I Q A;have r:=(ax A x).1;rw[aq I d0]at r;have F:l b= .aJ g n TE.size N O:=(by rw[Q.at b];exact U);have J:(l b).bK=some (g,n,TE.size):=(by rw[F];rfl);have d1:(p b=none/\n=0/\a.eval x= .slice none 0 0/\G=0)\/∃q cap u,p b=some (q,cap)/\n<=cap/\a.eval x= .slice (some u) G (cap-f)/\(f<cap\/f=0->u=⟨q,f*TE.size,none⟩)/\f<=cap:=(by rcases M with⟨M,rfl,e4,c0,rfl⟩|M;rw[U]at c0;obtain rfl:n=G:=(by simpa[Mem.bK]using c0);rw[M]at r;simp only[dm]at r;rw[bB J]at r;have B:=r.2.2 rfl;rcases jD J (A.mem b)with⟨c,R⟩|⟨q,cap,a4,_,c,_,_,S,_⟩;simp only[cE,c]at B;subst R;exact .inl ⟨c,rfl,B,rfl⟩;simp only[cE,c]at B;exact .inr ⟨q,cap,_,c,S,B,λ_=>by simp,XS _⟩;rw[M]at r;simp only[dm]at r;rw[dq J]at r;obtain⟨e5,B⟩:=r.2.2 rfl;rcases jD J (A.mem b)with⟨c,R⟩|⟨q,cap,a4,_,c,_,_,S,_⟩;simp only[hj,c]at B;exact .inl ⟨c,R,B,by omega⟩;simp only[hj,c]at B;obtain⟨u,B,c1⟩:=B;exact .inr ⟨q,cap,u,c,S,B,c1,by omega⟩);rcases d1 with⟨c,R,a5,d2⟩|⟨q,cap,u,c,S,a5,V,e6⟩;refine .inl ⟨c,R,?_⟩;have C:=xH (P:=P) (w:=w) (n:=G) (cap:=0) (lo:=lo.map a.eval) (hi:=hi.map a.eval) b4 b1 (b6 E p D l a w I A) (b3 E p D l a w I A) (λe=>by cases lo with|none=>exact b5 rfl|some y=>cases e) (λe=>by cases hi with|none=>exact b2 rfl|some y=>cases e) b7 b8;have Y:ll=0:=(by omega);have d3:H=0:=(by omega);rw[d2]at C;simp[execOp,X,a5,Instr.sliceAt,Instr.slice,run_underlying b0,C,bT (a1 e TE a7),Y,d3]
   ·have C:=xH (P:=P) (w:=w) (n:=G) (cap:=cap-f) (lo:=lo.map a.eval) (hi:=hi.map a.eval) b4 b1 (b6 E p D l a w I A) (b3 E p D l a w I A) (λe=>by cases lo with|none=>exact b5 rfl|some y=>cases e) (λe=>by cases hi with|none=>exact b2 rfl|some y=>cases e) b7 b8;refine .inr ⟨q,cap,if cap-f=ll then u else u.add (ll*TE.size),c,S,?_,λc2=>?_⟩;(simp only[execOp,X,a5,Instr.sliceAt,Instr.slice,Sem.run_bind,run_underlying b0,Result.andThen_ok,Option.map_none,C,bT (a1 e TE a7),Sem.run_pure,WI];rw[show cap-f-ll=cap-(f+ll) by omega];by_cases c2:cap-f=ll<;>simp[c2])
    ·by_cases Z:cap-f=ll;rw[XG Z];have e7:f+ll=0:=(by omega);have:f=0:=(by omega);have Y:ll=0:=(by omega);rw[V (.inr this),Y,YR];rw[XD Z,V (by omega),eE,Ym]
  rcases h.h with h|⟨d4,h⟩;refine⟨_,_,_,h,aB λE p D l a w d5 I Q A=>?_⟩;have F:l b= .aJ g n TE.size N O:=(by rw[Q.at b];exact U);have J:(l b).bK=some (g,n,TE.size):=(by rw[F];rfl);have c3:f+ll+(H-ll)<=n:=(by omega);rcases b9 E p D l a w I Q A with⟨c,R,C⟩|⟨q,cap,u,c,S,C,V⟩;refine⟨_,C,?_,λ_ h=>by cases h;rw[F];simp⟩;simp only[dm];rw[dq J];refine⟨rfl,XP _,λ_=>⟨c3,?_⟩⟩;simp only[hj,c];refine⟨_,C,?_,λ_ h=>by cases h;rw[F];simp⟩;simp only[dm];rw[dq J];refine⟨rfl,XP _,λ_=>⟨c3,?_⟩⟩;simp only[hj,c];exact⟨u,rfl,V⟩
  ·refine⟨_,_,_,h,bW λE p D l a w d5 I Q e8 A=>?_⟩;have F:l b= .aJ g n TE.size N O:=(by rw[Q.at b];exact U);have J:(l b).bK=some (g,n,TE.size):=(by rw[F];rfl);have c4:(Mem.aJ (g+2) H TE.size N O).bK=some (g+2,H,TE.size):=rfl;have Y:ll=0:=(by omega);have d6:f=0:=(by omega);have c5:=A.Tx J (nm:= .aJ (g+2) H TE.size N O) c4 (by omega) (by omega) (λ_ h=>h.elim) (λ_ d7=>by
    have c6:=A.mem b;rw[F]at c6;rcases c6 with⟨r,a0⟩|⟨q,cap,a4,r,a0,B,c1,d8,d9⟩;exact .inl ⟨r,by omega⟩
    ·refine .inr ⟨q,cap,a4,r,a0,B,by omega,d8,λi hi j e0=>?_⟩;obtain⟨x,M,e1⟩:=d9 i (by omega) j e0;exact⟨x,M,e1.mono (λb U=>⟨d7 b U,rfl⟩)⟩)
   have c7:∀v,v.oneCell'=true->cE p v b H->dm E (bo l b (.aJ (g+2) H TE.size N O)) p w v (.aL b (g+2)):=λv r a0=>by simp only[dm];rw[bB (by rw[ar];exact c4)];exact⟨r,XP _,λ_=>a0⟩
   have Z:∀a6,(TV.aL b (g+2)).refs a6->bo l b (.aJ (g+2) H TE.size N O) a6≠ .none:=λa6 F=>by cases F;rw[ar];simp
   rcases b9 E p D l a w I Q A with⟨c,R,C⟩|⟨q,cap,u,c,S,C,V⟩;exact⟨_,_,_,_,C,.inl rfl,c5,c7 _ rfl (by simp only[cE,c]),Z⟩;refine⟨_,_,_,_,C,.inl rfl,c5,c7 _ rfl ?_,Z⟩;simp only[cE,c];rw[V (.inr d4),Y,d6];simp
 ·exact h.elim
theorem Ho {P:Program}:∀(l:List TV) (k:IntKind) (x:Int) (K:Int->Prop),LN k x l K->
  ∃n,K n/\∀(E:Env) (m:Id->Mem) (j:Id->Option (Nat×Nat)) (w:World) (c:List Value),c.length=l.length->(∀(i:Nat) (v:Value) (o:TV),c[i]? =some v->l[i]? =some o->dm E m j w v o)->
   ∀f,(c.foldlM Builtin.min2 (.int k x)).run P f= .ok (.int k n) f
 |[],k,x,K,h=>⟨x,h,λE m j w c g _ f=>by obtain rfl:c=[]:=Y1 g;simp⟩
 |y::r,k,x,K,h=>by
  simp only[LN]at h;split at h
  ·rename_i B C;obtain⟨n,q,t⟩:=Ho (P:=P) r k _ K h;refine⟨n,q,λE m j w c g p f=>?_⟩
   match c,g,p with
   |v::c,g,p=>have u:=p 0 v _ rfl rfl;have z:=(Rd.cm (show Rd _ _ _ _ from u)).1;have A:=t E m j w c (by simpa using g) (λi v o a b=>p (i+1) v o (by simpa using a) (by simpa using b)) f;simp[List.foldlM_cons,z,Builtin.min2,A]
  ·exact h.elim
theorem Hs {P:Program}:∀(l:List TV) (k:IntKind) (x:Int) (K:Int->Prop),LW k x l K->
  ∃n,K n/\∀(E:Env) (m:Id->Mem) (j:Id->Option (Nat×Nat)) (w:World) (c:List Value),c.length=l.length->(∀(i:Nat) (v:Value) (o:TV),c[i]? =some v->l[i]? =some o->dm E m j w v o)->
   ∀f,(c.foldlM Builtin.max2 (.int k x)).run P f= .ok (.int k n) f
 |[],k,x,K,h=>⟨x,h,λE m j w c g _ f=>by obtain rfl:c=[]:=Y1 g;simp⟩
 |y::r,k,x,K,h=>by
  simp only[LW]at h;split at h
  ·rename_i B C;obtain⟨n,t,u⟩:=Hs (P:=P) r k _ K h;refine⟨n,t,λE m j w c g p f=>?_⟩
   match c,g,p with
   |v::c,g,p=>have z:=p 0 v _ rfl rfl;have A:=(Rd.cm (show Rd _ _ _ _ from z)).1;have q:=u E m j w c (by simpa using g) (λi v o a b=>p (i+1) v o (by simpa using a) (by simpa using b)) f;simp only[gt_iff_lt]at q;simp[List.foldlM_cons,A,Builtin.max2,q]
  ·exact h.elim
variable {E:Env} {ρ:Id->Option (Nat×Nat)} {m:Id->Mem} {a:Act} {w w':World}
theorem QU {t:Nat->TV} (h:Rel E ρ t m a w) (o:Id) (nm:Mem) (c:Nat)
  (j:Below w.heap.size w w') (q:w.heap.size<w'.heap.size):∀b,L E m ρ w b->L E (bo m o nm) (bo ρ o (some (w.heap.size,c))) w' b/\w'.heap[b]? =w.heap[b]?:=by
 intro b f;have k:=xS h f;refine⟨⟨f.1.imp id (λg=>g.imp id (λg=>⟨g.1,by omega⟩)),λi p l r=>?_⟩,j.block b k⟩;by_cases e:i=o;subst e;rw[ar]at r;simp at r;omega;rw[av _ _ _ e]at l r;exact f.2 i p l r
structure dS (E:Env) (m:Id->Mem) (o:Id) (g:Nat):Prop where
 one:g≠1
 h:(m o= .none/\E.m0 o= .none)\/∃g0 n0 k0,(m o).bK=some (g0,n0,k0)/\g0<g
theorem dS.fresh {d:Nat} (h:m (.n d)= .none) (a:d<E.N):dS E m (.n d) 0:=⟨by omega,.inl ⟨h,E.yj d (ZN a)⟩⟩
variable {g k:Nat} {e:TypeId}
theorem dS.VQ {o:Id} {n:Nat} {get:Nat->Nat->SV} (h:m o= .aJ g n k e get):dS E m o (g+2):=⟨by omega,.inr ⟨g,n,k,by rw[h];rfl,by omega⟩⟩
theorem Rel.Ft {t:Nat->TV} (h:Rel E ρ t m a w) {o:Id} {n:Nat} {get:Nat->Nat->SV} {nr:Option (Nat×Nat)} (z:dS E m o g)
  (C:Bx E.w0.heap.size E.X w w')
  (D:∀b,L E m ρ w b->L E (bo m o (.aJ g n k e get)) (bo ρ o nr) w' b/\w'.heap[b]? =w.heap[b]?)
  (F:∀j b c,j≠o->(m j).live->ρ j=some (b,c)->w'.heap[b]? =w.heap[b]?)
  (G:∀b c,nr=some (b,c)->((E.X b\/E.w0.heap.size<=b)/\b<w'.heap.size)/\∀j H,j≠o->(m j).live->ρ j≠some (b,H))
  (I:iJ E (bo m o (.aJ g n k e get)) (bo ρ o nr) w' o (.aJ g n k e get)):Rel E (bo ρ o nr) t (bo m o (.aJ g n k e get)) a w':=by
 have A:(bo m o (.aJ g n k e get) o).bK=some (g,n,k):=by rw[ar];rfl
 have B:m o≠ .none->∃p r u,(m o).bK=some (p,r,u)/\p<g:=λl=>z.h.resolve_left (λh=>l h.1);refine h.one o _ nr C D F (λ_=>G) (by simp) (λ_ h=>h.elim) (λe=>?_) (λe=>absurd e z.one) I (λl=>?_) (λx q i J l=>?_) (λx q K c l=>?_);rcases z.h with f|⟨p,r,u,f,_⟩;exact f.2;exact absurd e (cM f).2;obtain⟨p,r,u,f,y⟩:=B l;exact kk f A y;obtain⟨p,r,u,f,y⟩:=B l;exact wN f A y x q i J;obtain⟨p,r,u,f,y⟩:=B l;exact sP f A y x q K c
theorem Rel.wO {t:Nat->TV} (h:Rel E ρ t m a w) (o:Id) (g n k cap:Nat) (e:TypeId) (get:Nat->Nat->SV) (f:Array Value)
  (q:Below w.heap.size w w') (y:w.heap.size<w'.heap.size) (A:w'.heap[w.heap.size]? =some (.cells f e (0,0))) (B:f.size=cap*k) (C:n<=cap) (D:cap<=maxLen)
  (F:∀i,i<n->∀j,j<k->∃x,f[i*k+j]? =some x/\Rd (L E m ρ w) w x (get i j)) (G:dS E m o g):
  Rel E (bo ρ o (some (w.heap.size,cap))) t (bo m o (.aJ g n k e get)) a w'/\dm E (bo m o (.aJ g n k e get)) (bo ρ o (some (w.heap.size,cap))) w' (.slice (some ⟨w.heap.size,0,none⟩) n cap) (.aL o g):=by
 have z:=QU h o (.aJ g n k e get) cap q y;refine⟨h.Ft G (Bx.of q h.below.size) z ?_ ?_ ?_,?_⟩;intro u b c _ l r;exact q.block b (h.lo u b c l r).2;intro b c p;simp only[Y9,Zq]at p;obtain⟨rfl,rfl⟩:=p;exact⟨⟨.inr h.below.size,y⟩,λu H _ l r=>absurd (h.lo u _ H l r).2 (Zg _)⟩;refine .inr ⟨w.heap.size,cap,f,ar _ _ _,A,B,C,D,λi I j J=>?_⟩;obtain⟨x,K,p⟩:=F i I j J;exact⟨x,K,p.mono z⟩;simp only[dm,bF,cE,ar];exact⟨rfl,XP _,λ_=>trivial⟩
theorem Rel.wJ {t:Nat->TV} (h:Rel E ρ t m a w) (o:Id) (g k:Nat) (e:TypeId) (get:Nat->Nat->SV) (j:dS E m o g):
  Rel E (bo ρ o none) t (bo m o (.aJ g 0 k e get)) a w/\dm E (bo m o (.aJ g 0 k e get)) (bo ρ o none) w (.slice none 0 0) (.aL o g):=by
 have p:∀b,L E m ρ w b->L E (bo m o (.aJ g 0 k e get)) (bo ρ o none) w b/\w.heap[b]? =w.heap[b]?:=by intro b f;refine⟨⟨f.1,λi q l r=>?_⟩,rfl⟩;by_cases e:i=o;subst e;rw[ar]at r;simp at r;rw[av _ _ _ e]at l r;exact f.2 i q l r
 refine⟨h.Ft j (Bx.refl _ _ _) p (λ_ _ _ _ _ _=>rfl) (λb c u=>by simp at u) (.inl ⟨ar _ _ _,rfl⟩),?_⟩;simp only[dm,bF,cE,ar];exact⟨rfl,XP _,λ_=>trivial⟩
theorem Rel.Aw {t:Nat->TV} (h:Rel E ρ t m a w) (o:Id) (l:(m o).live) (g n k b cap:Nat) (p:ρ o=some (b,cap)) (e:TypeId) (get:Nat->Nat->SV) (r c:Array Value)
  (u:w.heap[b]? =some (.cells r e (0,0))) (y:c.size=cap*k) (z:n<=cap) (A:cap<=maxLen)
  (B:∀i,i<n->∀j,j<k->∃x,c[i*k+j]? =some x/\Rd (L E m ρ w) w x (get i j)) (C:dS E m o g):
  Rel E (bo ρ o (some (b,cap))) t (bo m o (.aJ g n k e get)) a (w.setRow b c):=by
 obtain⟨D,q,F⟩:=BR h l p (.aJ g n k e get) c;refine h.Ft C D q F ?_ ?_;intro R S f;simp only[Y9,Zq]at f;obtain⟨rfl,rfl⟩:=f;obtain⟨G,H⟩:=h.lo o b cap l p;exact⟨⟨G,by simpa using H⟩,λI J K M N=>K (h.inj I o b J cap M l N p)⟩;refine .inr ⟨b,cap,c,ar _ _ _,setRow_heap w b _ _ e _ u,y,z,A,λi O j P=>?_⟩;obtain⟨x,Q,f⟩:=B i O j P;exact⟨x,Q,f.mono q⟩
theorem Rel.KJ {t:Nat->TV} (h:Rel E ρ t m a w) (o:Id) (l:(m o).live) (g n k b cap:Nat) (p:ρ o=some (b,cap)) (e:TypeId) (get:Nat->Nat->SV) (f c:Array Value)
  (q:w.heap[b]? =some (.cells f e (0,0))) (r:c.size=cap*k) (u:n<=cap) (y:cap<=maxLen)
  (z:∀i,i<n->∀j,j<k->∃x,c[i*k+j]? =some x/\Rd (L E m ρ w) w x (get i j)) (A:dS E m o g):
  Rel E (bo ρ o (some (b,cap))) t (bo m o (.aJ g n k e get)) a (w.setRow b c)/\dm E (bo m o (.aJ g n k e get)) (bo ρ o (some (b,cap))) (w.setRow b c) (.slice (some ⟨b,0,none⟩) n cap) (.aL o g):=by
 refine⟨h.Aw o l g n k b cap p e get f c q r u y z A,?_⟩;simp only[dm,bF,cE,ar];exact⟨rfl,XP _,λ_=>trivial⟩
def UO (S:Nat->Prop) (w:World) (v:Value) (n k:Nat) (get:Nat->Nat->SV):Prop:=
 (v= .slice none 0 0/\n=0)\/∃(a:Addr) (c:Nat) (b:Nat->Nat->Value),v= .slice (some a) n c/\
  (∀i,i<n->∀j,j<k->w.cell? (a.add (i*k+j))=some (b i j))/\∀i,i<n->∀j,j<k->Rd S w (b i j) (get i j)
variable {x:Operand}
theorem Ao {o:Oper} {t:Nat->TV} (N:x∈o.op.operands.toList) {K:Nat->(Nat->Nat->SV)->List Nat->Prop} (h:Kw m k (bG t x) K):
  ∃n z X,K n z X/\∀(E:Env) (ρ:Id->Option (Nat×Nat)) (G:Nat->TV) (p:Id->Mem) (a:Act) (w:World),fe o t G->hE X m p->Rel E ρ G p a w->UO (L E p ρ w) w (a.eval x) n k z:=by
 unfold Kw at h;split at h;rename_i n H z A;replace h:=aM h;obtain⟨q,h⟩:=h;obtain rfl:=XE q;refine⟨_,_,_,h,λE ρ G p a w B _ r=>?_⟩;have c:=(ax r x).1;rw[aq B N,A]at c;rcases Rd.sY (show Rd _ _ _ _ from c)with a0|⟨P,C,Q,a1⟩|⟨b,a2,C,a3,Q,b2,b3,b4,a4,a5⟩;exact .inl a0;subst a1;exact .inr ⟨P,C,λ_ _=>Go.undef,Q,λi f=>absurd f (XL i),λi f=>absurd f (XL i)⟩;exact .inr ⟨⟨b,a2,none⟩,C,a3,Q,λi f j u=>by rw[eE];exact a4 i f j u,a5⟩;rename_i A;refine⟨_,_,_,h,λE ρ G p a w B _ r=>?_⟩;have c:=(ax r x).1;rw[aq B N,A]at c;exact .inl ⟨(Rd.cm (show Rd _ _ _ _ from c)).1,rfl⟩;rename_i b g A;replace h:=bp h;split at h;rename_i a6 n H e z R;replace h:=aM h;obtain⟨q,h⟩:=h;simp only[XH]at q;obtain rfl:=XE q.1;obtain rfl:=XE q.2;refine⟨_,_,_,h,λE ρ G p a w B S r=>?_⟩;have c:=(ax r x).1;rw[aq B N,A]at c;have I:p b= .aJ g n H e z:=(by rw[S.at b];exact R);simp only[dm,bF,cE,I]at c;have l:=c.2.2 trivial;have J:=r.mem b;rw[I]at J;rcases J with⟨D,Y⟩|⟨Z,C,T,D,U,a7,a8,a9,M⟩;rw[D]at l;subst Y;exact .inl ⟨l,rfl⟩;rw[D]at l;refine .inr ⟨⟨Z,0,none⟩,C,λi j=>(T[i*H+j]?).getD Go.undef,l,λi f j u=>?_,λi f j u=>?_⟩;obtain⟨y,F,_⟩:=M i f j u;simp[eE,World.cell?,U,F];obtain⟨y,F,V⟩:=M i f j u;simp only[F,Yt];exact V;exact h.elim;rename_i b g O n A;replace h:=bp h;split at h;rename_i a6 b0 H e z R;replace h:=aM h;obtain⟨q,h⟩:=h;simp only[XH]at q;obtain rfl:=XE q.1;obtain rfl:=XE q.2;refine⟨_,_,_,h,λE ρ G p a w B S r=>?_⟩;have c:=(ax r x).1;rw[aq B N,A]at c;have I:p b= .aJ g b0 H e z:=(by rw[S.at b];exact R);simp only[dm,fj,hj,I]at c;obtain⟨b5,l⟩:=c.2.2 trivial;have J:=r.mem b;rw[I]at J;rcases J with⟨D,Y⟩|⟨Z,C,T,D,U,a7,a8,a9,M⟩;rw[D]at l;exact .inl ⟨by simpa using l,by omega⟩;rw[D]at l;obtain⟨P,l,b1⟩:=l;refine .inr ⟨P,C-O,λi j=>(T[(O+i)*H+j]?).getD Go.undef,l,λi f j u=>?_,λi f j u=>?_⟩;obtain⟨y,F,_⟩:=M (O+i) (by omega) j u;rw[b1 (.inl (by omega)),eE,<-YQ,<-Ym];simp[World.cell?,U,F];obtain⟨y,F,V⟩:=M (O+i) (by omega) j u;simp only[F,Yt];exact V;exact h.elim;exact h.elim
theorem nB {S:Nat->Prop} {a:Addr} {n:Nat} {xs:Nat->Nat->Value} {get:Nat->Nat->SV}
  (r:∀i,i<n->∀j,j<k->w.cell? (a.add (i*k+j))=some (xs i j)) (t:∀i,i<n->∀j,j<k->Rd S w (xs i j) (get i j)):
  ∃f:List Value,f.length=n*k/\(∀j u,f[j]? =some u->w.cell? (a.add j)=some u)/\(∀u∈f,u.oneCell'=true)/\∀i,i<n->∀j,j<k->f[i*k+j]? =some (xs i j):=by
 have q:∀p,p<n*k->p/k<n/\p%k<k/\p/k*k+p%k=p:=by intro p g;have l:0<k:=(by rcases Zv k with h|h;subst h;simp at g;exact h);refine⟨(Nat.div_lt_iff_lt_mul l).2 g,ZJ _ l,?_⟩;rw[Ws];exact Nat.div_add_mod p k
 refine⟨(List.range (n*k)).map λp=>xs (p/k) (p%k),by simp,λj u b=>?_,λu b=>?_,λi x j c=>?_⟩;simp only[Zt]at b;by_cases c:j<n*k;simp[c]at b;obtain⟨m,o,y⟩:=q j c;have:=r _ m _ o;rw[y]at this;rw[this,b];simp[c]at b;simp only[XQ,X4]at b;obtain⟨p,g,rfl⟩:=b;obtain⟨m,o,_⟩:=q p g;exact(t _ m _ o).bO;have z:i*k+j<n*k:=(by have:(i+1)*k<=n*k:=XX k x;rw[Ym]at this;omega);have l:0<k:=(by omega);have A:(i*k+j)/k=i:=(by rw[Ws,Nat.mul_add_div l,Nat.div_eq_of_lt c,YR]);have B:(i*k+j)%k=j:=(by rw[Ws,Xo,X3 c]);simp[z,A,B]
variable {P:Program} {ty B0:TypeId}
theorem JH {a:TypeId} (h:P.underlying ty=some (.slice e)) (b:P.underlying B0=some (.slice a)) {t:TypeId} {u v:Value}:
  (Builtin.append_ #[ty,B0] t #[u,v]).run P w=(Builtin.append_ #[ty,ty] t #[u,v]).run P w:=by
 unfold Builtin.append_;cases u<;>simp[run_underlying h,run_underlying b]
theorem hU (t ty e:TypeId) (i:TypeInfo) (b:P.underlying t=some (.slice e)) (hi:P.info? e=some i) (a:Addr) (c:Nat):
  (Builtin.append_ #[t,t] ty #[.slice none 0 0,.slice (some a) 0 c]).run P w= .ok (.slice none 0 0) w:=by
 simp[Builtin.append_,run_underlying b,sizeOf,typeInfo,hi,Builtin.lenOf,Builtin.firstCells,loadCells,loadCellsFrom]
theorem iM (t ty e:TypeId) (i:TypeInfo) (a:P.underlying t=some (.slice e)) (hi:P.info? e=some i):
  (Builtin.append_ #[t,t] ty #[.slice none 0 0,.slice none 0 0]).run P w= .ok (.slice none 0 0) w:=by
 simp[Builtin.append_,run_underlying a,sizeOf,typeInfo,hi,Builtin.lenOf,Builtin.firstCells]
theorem iX (t ty e:TypeId) (i:TypeInfo) (a:P.underlying t=some (.slice e)) (hi:P.info? e=some i) (b:Addr) (n cap:Nat) (h:n<=cap:=by omega):
  (Builtin.append_ #[t,t] ty #[.slice (some b) n cap,.slice none 0 0]).run P w= .ok (.slice (some b) n cap) w:=by
 simp[Builtin.append_,run_underlying a,sizeOf,typeInfo,hi,Builtin.lenOf,Builtin.firstCells,h,storeCells]
theorem ie (w:World) (o:Obj):Below w.heap.size w (w.drew.alloc o):=
 (((Below.refl w.heap.size w).drew).alloc (XP _) o)
variable {T:Ty}
theorem yH {t:TypeId} (c:cW P t T) {i:TypeInfo} {z:Value} (hi:P.info? t=some i) (f:i.zero=some z):z.cells.size=i.size:=by
 obtain⟨j,k,a,g,l,b,m,o,h⟩:=c.info;rw[hi]at a;cases a;rw[f]at b;cases b;rw[h,g]
theorem da (z:Array Value) (n:Nat):(Builtin.zeroCells z n).size=n*z.size:=by simp[Builtin.zeroCells]
variable {TE:Ty} {s:Operand}
theorem pV {o:Oper} {t:Nat->TV} {TT:iu} (g2:cC P TT) (h1:TT ty=some T) {e:Nat} (b0:T.kind= .ju e) (h2:TT e=some TE) {d:Nat} (h3:o.dst=some d)
  {c:Call} (e8:o.op= .call c) (e9:c.callee= .builtin .append) (h4:c.args.toList=[s,x]) {B0:TypeId} (h5:c.argTypes.toList=[ty,B0]) (f0:∃l,P.underlying B0=some (.slice l)) {K:fh} (h:r0 TE e d m (bG t s) (bG t x) K):
  ∃z g3 d9,K z g3 d9/\aG P o t m z g3 d9:=by
 obtain⟨k0,f0⟩:=f0;have f1:c.args=#[s,x]:=by rw[<-Yr (xs:=c.args),h4]
 have h6:c.argTypes=#[ty,B0]:=by rw[<-Yr (xs:=c.argTypes),h5]
 have f2:s∈o.op.operands.toList:=by rw[e8];simp[Op.operands,Call.operands,e9,f1]
 have f3:x∈o.op.operands.toList:=by rw[e8];simp[Op.operands,Call.operands,e9,f1]
 have h7:=g2 ty T h1;have a3:P.underlying ty=some (.slice e):=by have:=h7.kind;rw[b0]at this;exact this
 have g4:=g2 e TE h2;obtain⟨a5,c9,a4,a6,f4,e5,_⟩:=g4.info;have f5:=yH g4 a4 e5;have b2:∀(a:Act) (w:World) (u v r:Value) (w':World),a.eval s=u->a.eval x=v->(Builtin.append_ #[ty,ty] o.type #[u,v]).run P w= .ok r w'->(execOp a.eval o).run P w= .ok (.value r) w':=by intro a w u v r w' h8 d0 U;rw[<-JH a3 f0]at U;simp[execOp,e8,resolve,invoke,e9,f1,h6,builtin,h8,d0,U]
 have f6:∀(E:Env) (ρ:Id->Option (Nat×Nat)) (Z:Nat->TV) (p:Id->Mem) (a:Act) (w:World),Rel E ρ Z p a w->∀(b:Id) (g n f d1:Nat) (get A:Nat->Nat->SV) (X q:List Value) (e0:Array Value),
   dS E p b g->
   X.length=n*TE.size->q.length=f*TE.size->e0.size=(d1-(n+f))*TE.size->n+f<=d1->d1<=maxLen->
   (∀i,i<n->∀j,j<TE.size->∃y,X[i*TE.size+j]? =some y/\Rd (L E p ρ w) w y (get i j))->
   (∀i,i<f->∀j,j<TE.size->∃y,q[i*TE.size+j]? =some y/\Rd (L E p ρ w) w y (A i j))->
   ∃c2,Rel E c2 Z (bo p b (.aJ g (n+f) TE.size e λi j=>bif Nat.blt i n then get i j else A (i-n) j)) a (w.drew.alloc (.cells (X.toArray++q.toArray++e0) e))/\
    dm E (bo p b (.aJ g (n+f) TE.size e λi j=>bif Nat.blt i n then get i j else A (i-n) j)) c2 (w.drew.alloc (.cells (X.toArray++q.toArray++e0) e)) (.slice (some ⟨w.heap.size,0,none⟩) (n+f) d1) (.aL b g):=by
  intro E ρ Z p a w F b g n f d1 get A X q e0 h9 i0 i1 i2 i3 i4 i5 i6;refine⟨_,F.wO b g (n+f) TE.size d1 e _ (X.toArray++q.toArray++e0) (ie w _) (by simp) (bX w.drew _) ?_ i3 i4 ?_ h9⟩;simp only[aan,Z5,i0,i1,i2,<-Ym];congr 1;omega;intro i C j B;by_cases a7:i<n;obtain⟨y,O,U⟩:=i5 i a7 j B;refine⟨y,?_,?_⟩;have a9:i*TE.size+j<X.length:=(by rcases Wu (i*TE.size+j) X.length with h|h;exact h;rw[YY h]at O;simp at O);rw[YZ,XG (by simp;omega),YZ,XG (by simpa using a9)];simpa using O;show Rd _ _ y (bif _ then _ else _);rw[iI a7];exact U;obtain⟨y,O,U⟩:=i6 (i-n) (by omega) j B;refine⟨y,?_,?_⟩;have a9:(i-n)*TE.size+j<q.length:=(by rcases Wu ((i-n)*TE.size+j) q.length with h|h;exact h;rw[YY h]at O;simp at O);have d2:i*TE.size+j-X.length=(i-n)*TE.size+j:=(by have:i*TE.size=n*TE.size+(i-n)*TE.size:=(by rw[<-Ym];congr 1;omega);omega);have d3:¬i*TE.size+j<X.length:=(by have:n*TE.size<=i*TE.size:=XX _ (by omega);omega);rw[YZ,XG (by simp;omega),YZ,XD (by simpa using d3)];simp only[Z5,YN,d2];exact O;show Rd _ _ y (bif _ then _ else _);rw[hM a7];exact U
 unfold r0 at h;split at h
 ·
  rename_i e1;split at h
  ·rename_i i7;obtain⟨f,A,d9,h,c5⟩:=Ao (o:=o) f3 h;obtain⟨⟨f7,d4⟩,h⟩:=h;refine⟨_,_,_,h,bW λE ρ Z p a w g5 b3 b4 f8 F=>?_⟩;have i8:p (.n d)= .none:=(by rw[b4.at (.n d) (by simp[Id.key])];exact i7);have b5:=(ax F s).1;rw[aq b3 f2,e1]at b5;have g6:=(Rd.cm (show Rd _ _ _ _ from b5)).1;have g7:dS E p (.n d) 0:= .fresh i8 (f8 d h3);have c6:f=0->(Builtin.append_ #[ty,ty] o.type #[.slice none 0 0,a.eval x]).run P w= .ok (.slice none 0 0) w->
     ∃n v w' c2,(execOp a.eval o).run P w= .ok n w'/\(n= .value v\/(n= .skip/\v=Go.undef))/\Rel E c2 Z (bo p (.n d) (.aJ 0 f TE.size e A)) a w'/\dm E (bo p (.n d) (.aJ 0 f TE.size e A)) c2 w' v (.aL d 0)/\∀a2,(TV.aL d 0).refs a2->bo p (.n d) (.aJ 0 f TE.size e A) a2≠ .none:=by
    intro Q R;subst Q;obtain⟨J,M⟩:=F.wJ (.n d) 0 TE.size e A g7;exact⟨_,_,_,_,b2 a w _ _ _ _ g6 rfl R,.inl rfl,J,M,λa2 S=>by cases S;rw[ar];simp⟩
   rcases c5 E ρ Z p a w b3 (b4.sub (λk b0=>by simp[b0])) F with⟨I,Y⟩|⟨b7,H,xs,I,Y,a8⟩;exact c6 Y (by rw[I];exact iM ty o.type e a5 a3 a4)
   ·rcases Zv f with Q|Q;refine c6 Q ?_;rw[I,Q];exact hU ty o.type e a5 a3 a4 _ _
    ·obtain⟨q,a0,c3,e2,c4⟩:=nB Y a8;have e3:(f:Int)<=9223372036854775807:=(by simp only[maxLen]at d4;omega);have R:=run_append_nil (P:=P) w ty o.type e a5 c9 a3 a4 e5 b7 f H q (by rw[a6];exact a0) c3 Q e3 (by rw[f4];omega);have f9:=grownCap_ge w f 0 e;have b8:=grownCap_le_maxLen w f 0 e d4;obtain⟨J,M⟩:=f6 E ρ Z p a w F (.n d) 0 0 f (grownCap w f 0 e) (λ_ _=> .v Go.undef) A [] q (Builtin.zeroCells c9.cells (grownCap w f 0 e-f)) g7 (by simp) a0 (by rw[da,f5,a6,X6]) (by omega) b8
      (λi C=>absurd C (XL i)) (λi C j B=>⟨_,c4 i C j B,a8 i C j B⟩)
     have i9:(λi j=>bif Nat.blt i 0 then SV.v Go.undef else A (i-0) j)=A:=(by funext i j;rw[hM (XL i)];rfl);rw[i9,X6]at M;simp only[aaf]at M;refine⟨_,_,_,J,b2 a w _ _ _ _ g6 I R,.inl rfl,M.1,M.2,λa2 S=>by cases S;rw[ar];simp⟩
  ·exact h.elim
 ·
  rename_i b g e1;replace h:=bp h;split at h
  ·rename_i j0 n k l get g0;replace h:=aM h;obtain⟨b9,h⟩:=h;simp only[XH]at b9;obtain rfl:=XE b9.1.1;obtain rfl:=XE b9.1.2;obtain rfl:=XE b9.2;obtain⟨f,A,d9,h,c5⟩:=Ao (o:=o) f3 h;obtain⟨⟨f7,d4⟩,h⟩:=h;refine⟨_,_,_,h,bW λE ρ Z p a w g5 b3 b4 f8 F=>?_⟩;have S:p b= .aJ g n TE.size l get:=(by rw[b4.at b];exact g0);have b5:=(ax F s).1;rw[aq b3 f2,e1]at b5;simp only[dm,bF,cE,S]at b5;have a1:=b5.2.2 trivial;have c0:dS E p b (g+2):= .VQ S;have c1:∀a2,(TV.aL b (g+2)).refs a2->bo p b (.aJ (g+2) (n+f) TE.size l λi j=>bif Nat.blt i n then get i j else A (i-n) j) a2≠ .none:=λa2 S=>by cases S;rw[ar];simp
   have e4:=F.mem b;rw[S]at e4;rcases e4 with⟨b1,Q⟩|⟨V,H,D,b1,b6,d5,d6,b8,c7⟩
   ·rw[b1]at a1;subst Q;have c6:f=0->(Builtin.append_ #[ty,ty] o.type #[.slice none 0 0,a.eval x]).run P w= .ok (.slice none 0 0) w->
      ∃n v w' c2,(execOp a.eval o).run P w= .ok n w'/\(n= .value v\/(n= .skip/\v=Go.undef))/\Rel E c2 Z (bo p b (.aJ (g+2) (0+f) TE.size l λi j=>bif Nat.blt i 0 then get i j else A (i-0) j)) a w'/\
       dm E (bo p b (.aJ (g+2) (0+f) TE.size l λi j=>bif Nat.blt i 0 then get i j else A (i-0) j)) c2 w' v (.aL b (g+2))/\∀a2,(TV.aL b (g+2)).refs a2->bo p b (.aJ (g+2) (0+f) TE.size l λi j=>bif Nat.blt i 0 then get i j else A (i-0) j) a2≠ .none:=by
     intro Q R;subst Q;obtain⟨J,M⟩:=F.wJ b (g+2) TE.size l (λi j=>bif Nat.blt i 0 then get i j else A (i-0) j) c0;exact⟨_,_,_,_,b2 a w _ _ _ _ a1 rfl R,.inl rfl,J,M,c1⟩
    rcases c5 E ρ Z p a w b3 (b4.sub (λk b0=>by simp[b0])) F with⟨I,Y⟩|⟨b7,H,xs,I,Y,a8⟩;exact c6 Y (by rw[I];exact iM ty o.type l a5 a3 a4)
    ·rcases Zv f with Q|Q;refine c6 Q ?_;rw[I,Q];exact hU ty o.type l a5 a3 a4 _ _
     ·obtain⟨q,a0,c3,e2,c4⟩:=nB Y a8;have e3:(f:Int)<=9223372036854775807:=(by simp only[maxLen]at d4;omega);have R:=run_append_nil (P:=P) w ty o.type l a5 c9 a3 a4 e5 b7 f H q (by rw[a6];exact a0) c3 Q e3 (by rw[f4];rw[X6]at f7;omega);have f9:=grownCap_ge w f 0 l;have b8:=grownCap_le_maxLen w f 0 l (by omega);obtain⟨J,M⟩:=f6 E ρ Z p a w F b (g+2) 0 f (grownCap w f 0 l) get A [] q (Builtin.zeroCells c9.cells (grownCap w f 0 l-f)) c0 (by simp) a0 (by rw[da,f5,a6,X6]) (by omega) b8
       (λi C=>absurd C (XL i)) (λi C j B=>⟨_,c4 i C j B,a8 i C j B⟩)
      simp only[aaf]at M;refine⟨_,_,_,J,b2 a w _ _ _ _ a1 I R,.inl rfl,M.1,?_,c1⟩;have:=M.2;rw[X6]at this|-;exact this
   ·rw[b1]at a1;rcases c5 E ρ Z p a w b3 (b4.sub (λk b0=>by simp[b0])) F with⟨I,Y⟩|⟨b7,e6,xs,I,Y,a8⟩;subst Y;have R:=iX (P:=P) (w:=w) ty o.type l a5 a3 a4 ⟨V,0,none⟩ n H d6;have g1:w.setRow V D=w:=setRow_self w V D l (0,0) b6;obtain⟨J,M⟩:=F.KJ b (cU S) (g+2) (n+0) TE.size V H b1 l (λi j=>bif Nat.blt i n then get i j else A (i-n) j) D D b6 d5 d6 b8 (λi C j B=>by obtain⟨y,O,U⟩:=c7 i C j B;refine⟨y,O,?_⟩;rw[iI (show i<n from C)];exact U) c0;rw[g1]at J M;exact⟨_,_,_,_,b2 a w _ _ _ _ a1 I R,.inl rfl,J,M,c1⟩
    ·obtain⟨q,a0,c3,e2,c4⟩:=nB Y a8;by_cases d7:n+f<=H
     ·have g8:n*TE.size+q.length<=D.size:=(by rw[a0,d5,<-Ym];exact XX _ d7);have R:=run_append_room (P:=P) w ty o.type l a5 a3 a4 V n H D b6 b7 f e6 q (by rw[a6];exact a0) c3 e2 d7 (by rw[a6];exact g8);rw[a6]at R;obtain⟨J,M⟩:=F.KJ b (cU S) (g+2) (n+f) TE.size V H b1 l (λi j=>bif Nat.blt i n then get i j else A (i-n) j) D (D.toList.take (n*TE.size)++q++D.toList.drop (n*TE.size+q.length)).toArray b6
       (by simp;omega) d7 b8 (λi C j B=>by
        by_cases a7:i<n;obtain⟨y,O,U⟩:=c7 i a7 j B;refine⟨y,?_,by rw[iI a7];exact U⟩;have a9:i*TE.size+j<n*TE.size:=(by have:(i+1)*TE.size<=n*TE.size:=XX _ a7;rw[Ym]at this;omega);have c8:min (n*TE.size) D.size=n*TE.size:=(by omega);simp only[YN,Yk,Yo,Yu,Y8,c8,XG a9,Y2];simpa using O
        ·have d8:i-n<f:=(by omega);refine⟨_,?_,by rw[hM a7];exact a8 (i-n) d8 j B⟩;have d3:¬i*TE.size+j<n*TE.size:=(by have:n*TE.size<=i*TE.size:=XX _ (by omega);omega);have d2:i*TE.size+j-n*TE.size=(i-n)*TE.size+j:=(by have:i*TE.size=n*TE.size+(i-n)*TE.size:=(by rw[<-Ym];congr 1;omega);omega);have a9:(i-n)*TE.size+j<q.length:=(by rw[a0];have:(i-n+1)*TE.size<=f*TE.size:=XX _ d8;rw[Ym]at this;omega);have c8:min (n*TE.size) D.size=n*TE.size:=(by omega);simp only[YN,Yk,Yo,Yu,Y8,c8,XD d3,d2,XG a9];exact c4 (i-n) d8 j B) c0
      exact⟨_,_,_,_,b2 a w _ _ _ _ a1 I R,.inl rfl,J,M,c1⟩
     ·have e3:((n+f:Nat):Int)<=9223372036854775807:=(by simp only[maxLen]at d4;omega);have j1:∃X:List Value,X.length=n*TE.size/\(∀j v,X[j]? =some v->w.cell? ((⟨V,0,none⟩:Addr).add j)=some v)/\∀i,i<n->∀j,j<TE.size->∃y,X[i*TE.size+j]? =some y/\Rd (L E p ρ w) w y (get i j):=(by have k1:n*TE.size<=D.size:=(by rw[d5];exact XX _ d6);refine⟨D.toList.take (n*TE.size),by simp;omega,λj v d0=>?_,λi C j B=>?_⟩;rw[Y2]at d0;split at d0;rw[eE];have:D[j]? =some v:=(by simpa using d0);simp[World.cell?,b6,this];simp at d0;obtain⟨y,O,U⟩:=c7 i C j B;refine⟨y,?_,U⟩;have a9:i*TE.size+j<n*TE.size:=(by have:(i+1)*TE.size<=n*TE.size:=XX _ C;rw[Ym]at this;omega);rw[Y2,XG a9];simpa using O);obtain⟨X,g9,j2,j3⟩:=j1;have R:=run_append_grow (P:=P) w ty o.type l a5 c9 a3 a4 e5 ⟨V,0,none⟩ n H X (by rw[a6];exact g9) j2 b7 f e6 q (by rw[a6];exact a0) c3 (by omega) e3 (by rw[f4];exact growslice_fits (by omega) f7);have f9:=grownCap_ge w (n+f) H l;have j4:=grownCap_le_maxLen w (n+f) H l d4;obtain⟨J,M⟩:=f6 E ρ Z p a w F b (g+2) n f (grownCap w (n+f) H l) get A X q (Builtin.zeroCells c9.cells (grownCap w (n+f) H l-(n+f))) c0 g9 a0 (by rw[da,f5,a6]) f9 j4 j3 (λi C j B=>⟨_,c4 i C j B,a8 i C j B⟩);exact⟨_,_,_,J,b2 a w _ _ _ _ a1 I R,.inl rfl,M.1,M.2,c1⟩
  ·exact h.elim
 ·
  rename_i b g k2 n e1;replace h:=bp h;split at h
  ·rename_i j0 N k l get g0;replace h:=aM h;obtain⟨b9,h⟩:=h;simp only[XH]at b9;obtain rfl:=XE b9.1.1;obtain rfl:=XE b9.1.2;obtain rfl:=XE b9.2;obtain⟨f,A,d9,h,c5⟩:=Ao (o:=o) f3 h;obtain⟨⟨j5,g8⟩,j6⟩:=h;subst j5;refine⟨_,_,_,j6,bW λE ρ Z p a w g5 b3 b4 f8 F=>?_⟩;have S:p b= .aJ g N TE.size l get:=(by rw[b4.at b];exact g0);have b5:=(ax F s).1;rw[aq b3 f2,e1]at b5;simp only[dm,fj,hj,S]at b5;obtain⟨k3,a1⟩:=b5.2.2 trivial;have c0:dS E p b (g+2):= .VQ S;have c1:∀(G:Nat->Nat->SV) a2,(TV.sub b (g+2) 0 (n+f)).refs a2->bo p b (.aJ (g+2) N TE.size l G) a2≠ .none:=λG a2 S=>by cases S;rw[ar];simp
   have e4:=F.mem b;rw[S]at e4;rcases e4 with⟨b1,Q⟩|⟨V,H,D,b1,b6,d5,d6,b8,c7⟩;rw[b1]at a1;subst Q;have Q:n=0:=(by omega);have j7:f=0:=(by omega);subst Q;subst j7;have c6:(Builtin.append_ #[ty,ty] o.type #[.slice none 0 0,a.eval x]).run P w= .ok (.slice none 0 0) w:=(by rcases c5 E ρ Z p a w b3 (b4.sub (λk b0=>by simp[b0])) F with⟨I,Y⟩|⟨b7,H,xs,I,Y,a8⟩;rw[I];exact iM ty o.type l a5 a3 a4;rw[I];exact hU ty o.type l a5 a3 a4 _ _);obtain⟨J,_⟩:=F.wJ b (g+2) TE.size l (λi j=>bif Nat.blt i 0 then get i j else bif Nat.blt i (0+0)then A (i-0) j else get i j) c0;refine⟨_,_,_,_,b2 a w _ _ _ _ a1 rfl c6,.inl rfl,J,?_,c1 _⟩;simp only[dm,fj,hj,ar];exact⟨rfl,XP _,λ_=>⟨by omega,trivial⟩⟩
   ·rw[b1]at a1;obtain⟨k4,a1,e7⟩:=a1;have e7:=e7 (.inr trivial);rw[W6]at e7;subst e7;rw[aai]at a1;have h0:∀(G:Nat->Nat->SV) (w':World),dm E (bo p b (.aJ (g+2) N TE.size l G)) (bo ρ b (some (V,H))) w' (.slice (some ⟨V,0,none⟩) (n+f) H) (.sub b (g+2) 0 (n+f)):=λG w'=>by simp only[dm,fj,hj,ar];exact⟨rfl,XP _,λ_=>⟨by omega,⟨V,0,none⟩,by simp,λ_=>by simp⟩⟩
    rcases c5 E ρ Z p a w b3 (b4.sub (λk b0=>by simp[b0])) F with⟨I,Y⟩|⟨b7,e6,xs,I,Y,a8⟩;subst Y;have R:=iX (P:=P) (w:=w) ty o.type l a5 a3 a4 ⟨V,0,none⟩ n H;have g1:w.setRow V D=w:=setRow_self w V D l (0,0) b6;have J:=F.Aw b (cU S) (g+2) N TE.size V H b1 l (λi j=>bif Nat.blt i n then get i j else bif Nat.blt i (n+0)then A (i-n) j else get i j) D D b6 d5 d6 b8 (λi C j B=>by obtain⟨y,O,U⟩:=c7 i C j B;refine⟨y,O,?_⟩;rw[YR];cases Nat.blt i n<;>exact U) c0;rw[g1]at J;exact⟨_,_,_,_,b2 a w _ _ _ _ a1 I R,.inl rfl,J,h0 _ w,c1 _⟩
    ·obtain⟨q,a0,c3,e2,c4⟩:=nB Y a8;have d7:n+f<=H:=(by omega);have j8:n*TE.size+q.length<=D.size:=(by rw[a0,d5,<-Ym];exact XX _ d7);have R:=run_append_room (P:=P) w ty o.type l a5 a3 a4 V n H D b6 b7 f e6 q (by rw[a6];exact a0) c3 e2 d7 (by rw[a6];exact j8);rw[a6]at R;have J:=F.Aw b (cU S) (g+2) N TE.size V H b1 l (λi j=>bif Nat.blt i n then get i j else bif Nat.blt i (n+f)then A (i-n) j else get i j) D (D.toList.take (n*TE.size)++q++D.toList.drop (n*TE.size+q.length)).toArray b6
      (by simp;omega) d6 b8 (λi C j B=>by
       have c8:min (n*TE.size) D.size=n*TE.size:=(by omega);by_cases a7:i<n;obtain⟨y,O,U⟩:=c7 i C j B;refine⟨y,?_,by rw[iI a7];exact U⟩;have a9:i*TE.size+j<n*TE.size:=(by have:(i+1)*TE.size<=n*TE.size:=XX _ a7;rw[Ym]at this;omega);simp only[YN,Yk,Yo,Yu,Y8,c8,XG a9,Y2];simpa using O
       ·have d3:¬i*TE.size+j<n*TE.size:=(by have:n*TE.size<=i*TE.size:=XX _ (by omega);omega);have d2:i*TE.size+j-n*TE.size=(i-n)*TE.size+j:=(by have:i*TE.size=n*TE.size+(i-n)*TE.size:=(by rw[<-Ym];congr 1;omega);omega);by_cases d8:i<n+f;refine⟨_,?_,by rw[hM a7,iI d8];exact a8 (i-n) (by omega) j B⟩;have a9:(i-n)*TE.size+j<q.length:=(by rw[a0];have:(i-n+1)*TE.size<=f*TE.size:=XX _ (by omega);rw[Ym]at this;omega);simp only[YN,Yk,Yo,Yu,Y8,c8,XD d3,d2,XG a9];exact c4 (i-n) (by omega) j B
        ·obtain⟨y,O,U⟩:=c7 i C j B;refine⟨y,?_,by rw[hM a7,hM d8];exact U⟩;have j9:¬(i-n)*TE.size+j<q.length:=(by rw[a0];have:f*TE.size<=(i-n)*TE.size:=XX _ (by omega);omega);simp only[YN,Yk,Yo,Yu,Y8,c8,XD d3,d2,XD j9,Zn];rw[show n*TE.size+q.length+((i-n)*TE.size+j-q.length)=i*TE.size+j by omega];simpa using O) c0
     exact⟨_,_,_,_,b2 a w _ _ _ _ a1 I R,.inl rfl,J,h0 _ _,c1 _⟩
  ·exact h.elim
 ·exact h.elim
theorem sC (w:World) (t a ty e:TypeId) (i:TypeInfo) (z:Value) (c:IntKind) (f:P.underlying t=some (.slice e)) (g:P.underlying a=some (.int c)) (hi:P.info? e=some i) (j:i.zero=some z) (k:0<i.size)
  (n:Nat) (b:0<n) (u:(n:Int)<=9223372036854775807) (x:n*i.bytes<=140737488355328):
  (Builtin.append_ #[t,a] ty #[.slice none 0 0,.int .i64 n]).run P w=
   .ok (.slice (some ⟨w.heap.size,0,none⟩) n (grownCap w n 0 e)) (w.drew.alloc (.cells (Builtin.zeroCells z.cells n++Builtin.zeroCells z.cells (grownCap w n 0 e-n)) e)):=by
 have l:n≠0:=by omega
 have m:IntKind.i64.wrap (n:Int)=n:=by simp only[IntKind.wrap,IntKind.signed,IntKind.bits];simp;omega
 have o:¬((n:Int)<0):=by omega
 have p:¬(281474976710656<(n:Int)*(i.bytes:Int)):=by rw[<-Xs];omega
 have q:¬(9223372036854775807<(n:Int)):=by omega
 have r:¬(281474976710656<Builtin.nextslicecap n 0*i.bytes):=by rw[nextslicecap_zero b];omega
 have y:i.size≠0:=by omega
 simp[Builtin.append_,run_underlying f,run_underlying g,sizeOf,typeInfo,zeroValue,hi,j,l,asInt,m,o,p,q,r,asIntOf,Question.forced,run_firstCells_none,newRow,grownCap];intro h;exact absurd h (Nat.ne_of_gt (Nat.mul_pos b k))
theorem xY (z:Array Value) (n i j:Nat) (hi:i<n) (a:j<z.size:=by omega):(Builtin.zeroCells z n)[i*z.size+j]? =z[j]?:=by
 have b:(i*z.size+j)%z.size=j:=by rw[Ws,Xo,X3 a]
 have c:i*z.size+j<n*z.size:=by have:(i+1)*z.size<=n*z.size:=XX _ hi;rw[Ym]at this;omega
 simp only[Builtin.zeroCells,Array.getElem?_map];simp[c,b,a]
theorem vV {o:Oper} {t:Nat->TV} {TT:iu} (b:cC P TT) {f:Ty} (O:TT ty=some T) {e:Nat} (Q:T.kind= .ju e) (R:TT e=some TE) (S:TT B0=some f) (U:f.kind= .int .i64) {d:Nat} (V:o.dst=some d)
  {c:Call} (g:o.op= .call c) (k:c.callee= .builtin .append) (X:c.args.toList=[s,x]) (Y:c.argTypes.toList=[ty,B0]) {K:fh} (h:vu TE e d m (bG t s) (bG t x) K):
  ∃z u A,K z u A/\aG P o t m z u A:=by
 have l:c.args=#[s,x]:=by rw[<-Yr (xs:=c.args),X]
 have Z:c.argTypes=#[ty,B0]:=by rw[<-Yr (xs:=c.argTypes),Y]
 have a0:s∈o.op.operands.toList:=by rw[g];simp[Op.operands,Call.operands,k,l]
 have a1:x∈o.op.operands.toList:=by rw[g];simp[Op.operands,Call.operands,k,l]
 have a2:P.underlying ty=some (.slice e):=by have:=(b ty T O).kind;rw[Q]at this;exact this
 have a3:P.underlying B0=some (.int .i64):=by have:=(b B0 f S).kind;rw[U]at this;exact this
 unfold vu at h;split at h
 ·rename_i n a4 a5 a6;obtain⟨⟨c5,c6,c7,c8⟩,h⟩:=h;refine⟨_,_,_,h,bW λE ρ c9 B a w d0 C a7 a8 p=>?_⟩;have a9:B (.n d)= .none:=(by rw[a7.at (.n d) (by simp[Id.key])];exact a6);have D:=(ax p s).1;rw[aq C a0,a4]at D;have b0:=(Rd.cm (show Rd _ _ _ _ from D)).1;have F:=(ax p x).1;rw[aq C a1,a5]at F;have b1:=(Rd.cm (show Rd _ _ _ _ from F)).1;obtain⟨G,q,b2,d1,b3,b4,r,H⟩:=ij (b e TE R) (L E B ρ w) w;have I:(n.toNat:Int)=n:=(by omega);have b5:n.toNat*G.bytes<=140737488355328:=(by rw[b3];have:((n.toNat*TE.bytes:Nat):Int)=n*TE.bytes:=(by rw[Xs,I]);omega);have J:n.toNat<=maxLen:=(by omega);have M:=sC (P:=P) w ty B0 o.type e G q .i64 a2 a3 b2 b4 (by omega) n.toNat (by omega) (by simp only[maxLen]at J;omega) b5;rw[I]at M;have b6:=grownCap_ge w n.toNat 0 e;have b7:=grownCap_le_maxLen w n.toNat 0 e J;have b8:=H.length;simp only[Y8]at b8;obtain⟨b9,c0⟩:=p.wO (.n d) 0 n.toNat TE.size (grownCap w n.toNat 0 e) e (λ_ j=>TE.zero.getD j (.v Go.undef)) (Builtin.zeroCells q.cells n.toNat++Builtin.zeroCells q.cells (grownCap w n.toNat 0 e-n.toNat)) (ie w _) (by simp) (bX w.drew _) (by
    rw[aan,da,da,r,<-Ym];congr 1;omega) b6 b7 (λi N j d2=>by
    obtain⟨y,c1,c2⟩:=H.du j (by omega);refine⟨y,?_,c2⟩;have c3:i*TE.size+j<n.toNat*TE.size:=(by have:(i+1)*TE.size<=n.toNat*TE.size:=XX _ N;rw[Ym]at this;omega);rw[YZ,XG (by rw[da,r];exact c3),<-r,xY _ _ _ _ N];simpa using c1) (dS.fresh a9 (a8 d V))
  refine⟨_,_,_,_,?_,.inl rfl,b9,c0,λd3 c4=>by cases c4;rw[ar];simp⟩;simp[execOp,g,resolve,invoke,k,l,Z,builtin,b0,b1,M]
 ·exact h.elim
theorem Ak {o:Oper} {t:Nat->TV} {TT:iu} (S:cC P TT) (a7:TT ty=some T) {e:Nat} (a8:T.kind= .ju e) (a9:TT e=some TE)
  {c:Call} (U:o.op= .call c) (V:c.callee= .builtin .clear) (b0:c.args.toList=[x]) (b1:c.argTypes.toList=[ty]) {b:Id} {g lo n N:Nat} {get:Nat->Nat->SV} (b2:bG t x= .sub b g lo n) (b3:m b= .aJ g N TE.size e get):
  aG P o t m .any [(b,.aJ g N TE.size e λi j=>bif Nat.ble lo i&&Nat.blt i (lo+n)then TE.zero.getD j (.v Go.undef)else get i j)] [b.key]:=by
 have X:c.args=#[x]:=by rw[<-Yr (xs:=c.args),b0]
 have b4:c.argTypes=#[ty]:=by rw[<-Yr (xs:=c.argTypes),b1]
 have b5:x∈o.op.operands.toList:=by rw[U];simp[Op.operands,Call.operands,V,X]
 have F:P.underlying ty=some (.slice e):=by have:=(S ty T a7).kind;rw[a8]at this;exact this
 refine bW λE ρ d4 G a w d5 b6 b7 d6 A=>?_;have r:G b= .aJ g N TE.size e get:=by rw[b7.at b];exact b3
 have l:=(ax A x).1;rw[aq b6 b5,b2]at l;simp only[dm,fj,hj,r]at l;obtain⟨d7,p⟩:=l.2.2 trivial;have H:∀(u:Value) (w':World),a.eval x=u->(Builtin.clear_ #[ty] o.type #[u]).run P w= .ok (.tuple #[]) w'->(execOp a.eval o).run P w= .ok (.value (.tuple #[])) w':=by intro u w' b8 b9;simp[execOp,U,resolve,invoke,V,X,b4,builtin,b8,b9]
 have Y:=A.mem b;rw[r]at Y;have Z:n=0->(λi j=>bif Nat.ble lo i&&Nat.blt i (lo+n)then TE.zero.getD j (.v Go.undef)else get i j)=get:=by intro q;funext i j;subst q;have:(Nat.ble lo i&&Nat.blt i (lo+0))=false:=(by by_cases h:lo<=i;rw[hM (show¬i<lo+0 by omega),WD];rw[D3 h];rfl);rw[this];rfl
 rcases Y with⟨C,a0⟩|⟨z,I,D,C,a1,a2,c0,c1,c2⟩;rw[C]at p;have q:n=0:=(by omega);rw[Z q,<-r,fw];exact⟨_,_,w,ρ,H _ w p (by simp[Builtin.clear_,run_underlying F]),.inl rfl,A,trivial,λ_ h=>h.elim⟩
 ·rw[C]at p;obtain⟨d8,p,c3⟩:=p;rcases Zv n with q|q;rw[Z q,<-r,fw];subst q;exact⟨_,_,w,ρ,H _ w p (by simp[Builtin.clear_,run_underlying F]),.inl rfl,A,trivial,λ_ h=>h.elim⟩
  ·obtain⟨d9,f,c4,e0,e1,c5,J,K⟩:=ij (S e TE a9) (L E G ρ w) w;have c6:=K.length;simp only[Y8]at c6;have c7:=c3 (.inl (by omega));subst c7;have c8:Builtin.zeroCells f.cells n=(dI n f.cells.toList).toArray:=by
    have B:0<f.cells.size\/f.cells.size=0:=(by omega);rcases B with B|B;exact kn f.cells n B
    ·have l:f.cells=#[]:=Array.eq_empty_of_size_eq_zero B;apply Xc;rw[l];have:∀n,dI n ([]:List Value)=[]:=λn=>by induction n with
      |zero=>rfl
      |succ n c9=>simp[dI,c9]
     simp[this,Builtin.zeroCells]
   have d0:=mP K n;have a3:(dI n f.cells.toList).length=n*TE.size:=(by rw[jH];simp[J]);have M:lo*TE.size+(dI n f.cells.toList).length<=D.size:=(by rw[a3,a2,<-Ym];exact XX _ (by omega));have a4:=run_storeCells_at (P:=P) z (lo*TE.size) e (dI n f.cells.toList) 0 D w a1 (by simpa using M) d0.bO;simp only[YR]at a4;have d1:(Builtin.clear_ #[ty] o.type #[.slice (some ⟨z,lo*TE.size,none⟩) n (I-lo)]).run P w= .ok (.tuple #[]) (w.setRow z (setCells D.toList (lo*TE.size) (dI n f.cells.toList)).toArray):=(by have a0:n≠0:=(by omega);rw[kg _ _ _ (by simpa using M)];simp[Builtin.clear_,run_underlying F,zeroValue,typeInfo,c4,c5,c8,a0,a4]);have d2:(G b).bK=some (g,N,TE.size):=(by rw[r];rfl);refine⟨_,_,_,bo ρ b (some (z,I)),H _ _ p d1,.inl rfl,A.q8 (cU r) C _ _ (.bK d2 rfl) (λ_ h=>h.elim) (λa5 _=>?_),trivial,λ_ h=>h.elim⟩;refine .inr ⟨z,I,_,ar _ _ _,setRow_heap w z _ _ e _ a1,by simp[eU,a2],c0,c1,λi d3 j a6=>?_⟩;have k:=ko (dI n f.cells.toList) D.toList (lo*TE.size) (by simpa using M) (i*TE.size+j);rw[a3]at k;by_cases O:lo<=i/\i<lo+n
   ·obtain⟨y,Q,R⟩:=K.du j (by omega);refine⟨y,?_,?_⟩
    ·have e2:lo*TE.size<=i*TE.size:=XX _ O.1;have e3:(i-lo)*TE.size+TE.size<=n*TE.size:=by
      have:(i-lo+1)*TE.size<=n*TE.size:=XX _ (by omega)
      rwa [Ym,Nat.one_mul]at this
     have e4:(i-lo)*TE.size=i*TE.size-lo*TE.size:=Nat.sub_mul _ _ _;rw[iP]at k;rw[fP _ (by simp;omega) _ _ (by simp[J];omega)]at k;rw[show i*TE.size+j-lo*TE.size=(i-lo)*TE.size+j by omega]at k;simp only[Y8,J]at k;rw[show((i-lo)*TE.size+j)%TE.size=j by rw[Ws,Xo,X3 a6]]at k;simpa[k]using Q
    ·show Rd _ _ y (bif _ then _ else _);rw[Ii O.1,iI O.2];exact R.mono a5
   ·obtain⟨y,Q,R⟩:=c2 i d3 j a6;refine⟨y,?_,?_⟩;have:¬(lo*TE.size<=i*TE.size+j/\i*TE.size+j<lo*TE.size+n*TE.size):=(by rw[<-Ym];by_cases l:i<lo;have:(i+1)*TE.size<=lo*TE.size:=XX _ l;rw[Ym]at this;omega;have:(lo+n)*TE.size<=i*TE.size:=XX _ (by omega);omega);rw[XD this]at k;simpa[k]using Q;show Rd _ _ y (bif _ then _ else _);have:(Nat.ble lo i&&Nat.blt i (lo+n))=false:=(by by_cases h:lo<=i;rw[hM,WD];rw[D3 h];rfl);rw[this];exact R.mono a5
def Sx (E:Env) (m:Id->Mem) (ρ:Id->Option (Nat×Nat)) (w:World) (hs:List Id) (ft:Bool) (b:Nat):Prop:=
 L E m ρ w b\/∃o,(o∈hs\/ft=true)/\(m o).live/\∃c,ρ o=some (b,c)
variable {E:Env} {m:Id->Mem} {ρ:Id->Option (Nat×Nat)} {w:World} {hs R2:List Id} {ft R6:Bool}
theorem Sx.mono (a:∀o∈hs,o∈R2) (h2:ft=true->R6=true) {b:Nat} (h:Sx E m ρ w hs ft b):Sx E m ρ w R2 R6 b:=
 h.imp id (λ⟨o,c,r⟩=>⟨o,c.imp (a o) h2,r⟩)
theorem wx (a:List Value) (n:Nat) (h:a.length=n:=by omega):a=(List.range n).map (λj=>(a[j]?).getD Go.undef):=by
 apply Xe;intro j;by_cases b:j<n;have c:j<a.length:=(by omega);simp[b,c];rw[YY (by omega),YY (by simp;omega)]
variable {S:Nat->Prop} {xs:List Value}
theorem qP.length {cs:List CR} (a:qP S m ρ w xs cs):xs.length=cs.length:=by
 induction a with
 |nil=>rfl
 |cons _ _ b=>simp[b]
theorem qP.get {cs:List CR} (a:qP S m ρ w xs cs):∀(j:Nat) (c:CR),cs[j]? =some c->∃x,xs[j]? =some x/\UW S m ρ w x c:=by
 induction a with
 |nil=>intro j c h;simp at h
 |@cons x c xs cs b _ f=>
  intro j g h;cases j with
  |zero=>simp at h;subst h;exact⟨x,by simp,b⟩
  |succ j=>simpa using f j g (by simpa using h)
theorem mS.rd {ks:List Nat} {c:CV} {x:SV} (h:mS m ks c x) {m':Id->Mem} (S:hE ks m m') (T:Own E ρ m' w):
  ∀v,kR (L E m' ρ w) m' ρ w v c->Rd (Sx E m' ρ w [] true) w v x:=by
 have U:∀o b c,(m' o).live->ρ o=some (b,c)->Sx E m' ρ w [] true b:=λo b c l r=> .inr ⟨o,.inr rfl,l,c,r⟩;induction h with
 |s c=>intro v B;exact Rd.mono (λb K=>⟨.inl K,rfl⟩) B
 |@box o p q l I h a8=>intro v B;rw[<-S o I]at h;have V:(m' o).dw=true:=(by rcases h with h|h<;>rw[h]<;>rfl);obtain⟨A,c,C,X⟩:=(bQ V).1 B;have a9:∃xs e,Sx E m' ρ w [] true A/\w.heap[A]? =some (.cells xs.toArray e (0,0))/\eJ (L E m' ρ w) w xs l:=(by have u:=T.mem o;rcases h with h|h;rw[h]at u;obtain⟨M,N,xs,e,G,Y,z⟩:=u;rw[C]at G;obtain⟨rfl,rfl⟩:A=M/\c=N:=(by simpa using G);exact⟨xs,e,U o A c (fN h) C,Y,z⟩;rw[h]at u;obtain⟨M,N,xs,e,G,b0,Y,z⟩:=u;rw[C]at G;obtain⟨rfl,rfl⟩:A=M/\c=N:=(by simpa using G);exact⟨xs,e,.inl b0,Y,z⟩);obtain⟨xs,e,hS,J,O⟩:=a9;rw[X];refine Rd.ad (λj=>(xs[p+j]?).getD Go.undef) hS (λj t=>?_) (λj t=>?_);obtain⟨y,a,_⟩:=O.du (p+j) (by omega);simp[World.cell?,J,a];obtain⟨y,a,D⟩:=O.du (p+j) (by omega);simp only[a,Yt];exact D.mono (λb K=>⟨.inl K,rfl⟩)
 |@obj o p q l b1 I h a8 a5 P=>intro v B;rw[<-S o I]at h;have V:(m' o).dw=true:=(by rw[h];rfl);obtain⟨A,c,C,X⟩:=(bQ V).1 B;have u:=T.mem o;rw[h]at u;obtain⟨M,N,xs,e,G,J,O⟩:=u;rw[C]at G;obtain⟨rfl,rfl⟩:A=M/\c=N:=(by simpa using G);rw[X];refine Rd.ad (λj=>(xs[p+j]?).getD Go.undef) (U o A c (ru h) C) (λj t=>?_) (λj t=>?_);obtain⟨y,a,_⟩:=O.getElem (p+j) (by omega) (.s (.v Go.undef));simp[World.cell?,J,a];obtain⟨y,a,D⟩:=O.getElem (p+j) (by omega) (.s (.v Go.undef));simp only[a,Yt];exact P j t y D
 |@aJ o g n k e a6 I h=>intro v B;rw[<-S o I]at h;have Z:(m' o).bK=some (g,n,k):=(by rw[h];rfl);have z:=((bB Z).1 B).2.2 rfl;have u:=T.mem o;rw[h]at u;rcases u with⟨F,a0⟩|⟨A,a1,a2,F,J,b2,a3,a4,Q⟩;simp only[cE,F]at z;rw[z,a0];exact Rd.nil k a6;simp only[cE,F]at z;rw[z];refine Rd.sl (λi j=>(a2[i*k+j]?).getD Go.undef) (U o A a1 (cU h) F) a3 a4 (λi H j t=>?_) (λi H j t=>?_);obtain⟨y,a,_⟩:=Q i H j t;simp[World.cell?,J,a];obtain⟨y,a,D⟩:=Q i H j t;simp only[a,Yt];exact D.mono (λb K=>⟨.inl K,rfl⟩)
 |@br o g n k e a6 b5 I h a5 P=>intro v B;rw[<-S o I]at h;have Z:(m' o).bK=some (g,n,k):=(by rw[h];rfl);have z:=((bB Z).1 B).2.2 rfl;have u:=T.mem o;rw[h]at u;rcases u with⟨F,a0⟩|⟨A,a1,a2,F,J,b2,a3,a4,Q⟩;simp only[cE,F]at z;rw[z,a0];exact Rd.nil k _;simp only[cE,F]at z;rw[z];refine Rd.sl (λi j=>(a2[i*k+j]?).getD Go.undef) (U o A a1 (pX h) F) a3 a4 (λi H j t=>?_) (λi H j t=>?_);obtain⟨y,a,_⟩:=Q i H j t;simp[World.cell?,J,a];obtain⟨y,a,D⟩:=Q i H j t;simp only[a,Yt];exact P i H j t y D
 |@cV f n R b1 b6 a5 b3 P=>intro v B;obtain⟨xs,b4,C⟩:=B;have b7:=C.length;rw[b4.inv b3,wx xs n];refine Rd.fn _ (λj t=>?_);have a7:j<R.length:=(by omega);obtain⟨y,a,D⟩:=C.get j R[j] (by simp[a7]);simp only[a,Yt];refine P j t y ?_;have:R.getD j (.s (.v Go.undef))=R[j]:=(by simp[List.getD,a7]);rw[this];revert D;cases R[j]<;>exact id
theorem Ij {o:Oper} {t:Nat->TV} {x:Operand} (O:x∈o.op.operands.toList) {K:DV->List Id->List Nat->Bool->Prop} (h:P4 m (bG t x) K):
  ∃v hs M ft,K v hs M ft/\(∀b∈hs,b.key∈M)/\(∀b∈hs,∃g n k e I,m b= .aJ g n k e I)/\
   ∀(E:Env) (ρ:Id->Option (Nat×Nat)) (C:Nat->TV) (q:Id->Mem) (a:Act) (w:World),fe o t C->hE M m q->Rel E ρ C q a w->nf (Sx E q ρ w hs ft) w (a.eval x) v:=by
 have U:∀(c:CV),bG t x=c.tv->Em m c (λx a1=>K (.one x) [] a1 true)->∃v hs M ft,K v hs M ft/\(∀b∈hs,b.key∈M)/\(∀b∈hs,∃g n k e I,m b= .aJ g n k e I)/\
   ∀(E:Env) (ρ:Id->Option (Nat×Nat)) (C:Nat->TV) (q:Id->Mem) (a:Act) (w:World),fe o t C->hE M m q->Rel E ρ C q a w->nf (Sx E q ρ w hs ft) w (a.eval x) v:=by
  intro c u h;obtain⟨y,a1,a7,h⟩:=h.h;refine⟨_,_,_,_,h,by simp,by simp,λE ρ C q a w F N z=>?_⟩;have l:=(ax z x).1;rw[aq F O,u]at l;exact a7.rd N z.toOwn _ (by cases c<;>exact l)
 unfold P4 at h;split at h;rename_i v u;refine⟨_,_,_,_,h,by simp,by simp,λE ρ C q a w F _ z=>?_⟩;have l:=(ax z x).1;rw[aq F O,u]at l;exact nf.mono (λb r=>⟨.inl r,rfl⟩) l;rename_i b g u;replace h:=bp h;split at h;rename_i a8 n k e I r;replace h:=aM h;obtain⟨V,h⟩:=h;obtain rfl:=XE V;refine⟨_,_,_,_,h,by simp,by simp[r],λE ρ C q a w F N z=>?_⟩;have l:=(ax z x).1;rw[aq F O,u]at l;have D:q b= .aJ g n k e I:=(by rw[N.at b];exact r);simp only[dm,bF,cE,D]at l;have A:=l.2.2 trivial;have J:=z.mem b;rw[D]at J;show Rd _ _ _ _;rcases J with⟨G,a2⟩|⟨X,Y,Z,G,P,a9,a3,a4,Q⟩;rw[G]at A;rw[A,a2];exact Rd.nil k I;rw[G]at A;rw[A];refine Rd.sl (λi j=>(Z[i*k+j]?).getD Go.undef) (.inr ⟨b,.inl (by simp),cU D,Y,G⟩) a3 a4 (λi R j H=>?_) (λi R j H=>?_);obtain⟨y,B,_⟩:=Q i R j H;simp[World.cell?,P,B];obtain⟨y,B,S⟩:=Q i R j H;simp only[B,Yt];exact S.mono (λb r=>⟨.inl r,rfl⟩);exact U (.aL b g) u h;rename_i b g a0 n u;replace h:=bp h;split at h;rename_i a8 b0 k e I r;replace h:=aM h;obtain⟨V,h⟩:=h;obtain rfl:=XE V;refine⟨_,_,_,_,h,by simp,by simp[r],λE ρ C q a w F N z=>?_⟩;have l:=(ax z x).1;rw[aq F O,u]at l;have D:q b= .aJ g b0 k e I:=(by rw[N.at b];exact r);simp only[dm,fj,hj,D]at l;obtain⟨c0,A⟩:=l.2.2 trivial;have J:=z.mem b;rw[D]at J;show Rd _ _ _ _;rcases J with⟨G,a2⟩|⟨X,Y,Z,G,P,a9,a3,a4,Q⟩;rw[G]at A;have T:n=0:=(by omega);simp only at A;rw[A,T];exact Rd.nil k _;rw[G]at A;obtain⟨b1,A,b2⟩:=A;rw[A];rcases Zv n with T|T;rw[T];exact Rd.emp b1 _ k _;rw[b2 (.inl (by omega))];refine Rd.sl (λi j=>(Z[(a0+i)*k+j]?).getD Go.undef) (.inr ⟨b,.inl (by simp),cU D,Y,G⟩) (by omega) (by omega) (λi R j H=>?_) (λi R j H=>?_);obtain⟨y,B,_⟩:=Q (a0+i) (by omega) j H;rw[<-YQ,<-Ym];simp[World.cell?,P,B];obtain⟨y,B,S⟩:=Q (a0+i) (by omega) j H;simp only[B,Yt];exact S.mono (λb r=>⟨.inl r,rfl⟩);exact h.elim;rename_i b p u;replace h:=bp h;split at h;rename_i b3 r;refine⟨_,_,_,_,h,by simp,by simp,λE ρ C q a w F N z=>?_⟩;have l:=(ax z x).1;rw[aq F O,u]at l;have D:q b= .ro b3:=(by rw[N.at b];exact r);simp only[dm,bh,D]at l;obtain⟨X,c,b4,b5⟩:=l;have J:=z.mem b;rw[D]at J;obtain⟨b6,b7,xs,e,a5,b8,P,a6⟩:=J;rw[b4]at a5;obtain⟨rfl,rfl⟩:X=b6/\c=b7:=(by simpa using a5);show Rd _ _ _ _;rw[b5];refine Rd.ad (λj=>(xs[p+j]?).getD Go.undef) (.inl b8) (λj H=>?_) (λj H=>?_);obtain⟨y,B,_⟩:=a6.du (p+j) (by omega);simp[World.cell?,P,B];obtain⟨y,B,S⟩:=a6.du (p+j) (by omega);simp only[B,Yt];exact S.mono (λb r=>⟨.inl r,rfl⟩);exact U (.ptr b p) u h;rename_i f b9 u;exact U (.cV f b9) u h;exact h.elim
variable {x:Value}
theorem nf.sx (a:∀o∈hs,o∈R2) (h2:ft=true->R6=true) {v:DV} (h:nf (Sx E m ρ w hs ft) w x v):nf (Sx E m ρ w R2 R6) w x v:=
 nf.mono (λ_ b=>⟨b.mono a h2,rfl⟩) h
theorem dT.sx (a:∀o∈hs,o∈R2) (h2:ft=true->R6=true) {x:List Value} {v:List DV} (h:dT (Sx E m ρ w hs ft) w x v):dT (Sx E m ρ w R2 R6) w x v:=
 dT.mono (λ_ b=>⟨b.mono a h2,rfl⟩) h
theorem rX {o:Oper} {t:Nat->TV} {m:Id->Mem}:∀(xs:List Operand),(∀x∈xs,x∈o.op.operands.toList)->∀(K:List DV->List Id->List Nat->Bool->Prop),zL t m xs K->
  ∃l hs j ft,K l hs j ft/\(∀b∈hs,b.key∈j)/\(∀b∈hs,∃g n k e C,m b= .aJ g n k e C)/\
   ∀(E:Env) (ρ:Id->Option (Nat×Nat)) (i:Nat->TV) (f:Id->Mem) (a:Act) (w:World),fe o t i->hE j m f->Rel E ρ i f a w->dT (Sx E f ρ w hs ft) w (xs.map a.eval) l
 |[],_,K,h=>⟨[],[],[],false,h,by simp,by simp,λ_ _ _ _ _ _ _ _ _=> .nil⟩
 |x::r,u,K,h=>by
  simp only[zL]at h;obtain⟨v,hs,j,ft,h,D,F,G⟩:=Ij (u x (by simp)) h;obtain⟨l,R2,N,R6,h,H,I,J⟩:=rX r (λy M=>u y (by simp[M])) _ h;refine⟨_,_,_,_,h,?_,?_,λE ρ i f a w z A B=>?_⟩;intro b c;rcases XN.1 c with c|c;exact XN.2 (.inl (D b c));exact XN.2 (.inr (H b c));intro b c;rcases XN.1 c with c|c;exact F b c;exact I b c
  ·exact .cons (nf.sx (λo p=>XN.2 (.inl p)) (λe=>by rw[e];rfl) (G E ρ i f a w z (A.sub (λk q=>XN.2 (.inl q))) B))
    (dT.sx (λo p=>XN.2 (.inr p)) (λe=>by rw[e];simp) (J E ρ i f a w z (A.sub (λk q=>XN.2 (.inr q))) B))
theorem BC {m:Id->Mem}:∀(cs:List CR) (K:List DV->List Nat->Bool->Prop),M6 m cs K->
  ∃l i ft,K l i ft/\∀(E:Env) (ρ:Id->Option (Nat×Nat)) (f:Id->Mem) (w:World),hE i m f->Own E ρ f w->∀xs,qP (L E f ρ w) f ρ w xs cs->dT (Sx E f ρ w [] ft) w xs l
 |[],K,h=>⟨[],[],false,h,λ_ _ _ _ _ _ xs g=>by cases g;exact .nil⟩
 |c::r,K,h=>by
  simp only[M6]at h;split at h
  ·rename_i c;obtain⟨l,i,ft,h,t⟩:=BC r _ h;refine⟨_,_,_,h,λE ρ f w j q xs g=>?_⟩;cases g with
   |cons a b=>exact .cons (Rd.mono (λb x=>⟨.inl x,rfl⟩) (show Rd _ _ _ c from a)) (t E ρ f w j q _ b)
  ·rename_i o p;obtain⟨y,B,z,h⟩:=h.h;obtain⟨l,i,ft,h,t⟩:=BC r _ h;refine⟨_,_,_,h,λE ρ f w j q xs g=>?_⟩;cases g with
   |cons a b=>exact .cons (z.rd (j.sub (λk u=>XN.2 (.inl u))) q _ a) (dT.sx (λo A=>A) (λ_=>rfl) (t E ρ f w (j.sub (λk u=>XN.2 (.inr u))) q _ b))
theorem yM {S S':Nat->Prop} {w w':World}:∀{cs:List SV} {xs:List Value},sw cs=true->eJ S w xs cs->eJ S' w' xs cs
 |[],_,_,h=>by cases h;exact .nil
 | .v x::cs,_,a,h=>by
  cases h with
  |cons b t=>obtain⟨rfl,c⟩:=Rd.cm b;exact .cons (.v c) (yM a t)
 | .sl .. ::_,_,a,_=>by simp[sw]at a
 | .ad .. ::_,_,a,_=>by simp[sw]at a
 | .fn .. ::_,_,a,_=>by simp[sw]at a
theorem oP {S S':Nat->Prop} {w w':World}:∀{cs:List DV} {xs:List Value},kB cs=true->dT S w xs cs->dT S' w' xs cs
 |[],_,_,h=>by cases h;exact .nil
 | .one (.v x)::cs,_,a,h=>by
  cases h with
  |cons b t=>obtain⟨rfl,c⟩:=Rd.cm b;exact .cons (Rd.v c) (oP a t)
 | .agg j::cs,_,a,h=>by
  simp only[kB,XH]at a;cases h with
  |cons b t=>obtain⟨f,g,i⟩:=b;exact .cons ⟨f,g,yM a.1 i⟩ (oP a.2 t)
 | .one (.sl ..)::_,_,a,_=>by simp[kB]at a
 | .one (.ad ..)::_,_,a,_=>by simp[kB]at a
 | .one (.fn ..)::_,_,a,_=>by simp[kB]at a
variable {S':Nat->Prop}
theorem Ej.mono {r:TV} (h:∀b,S b->S' b) (a:Ej S w x r):Ej S' w x r:=by
 cases r with
 |d v=>exact nf.mono (λb c=>⟨h b c,rfl⟩) a
 |eG i=>obtain⟨xs,f,g⟩:=a;exact⟨xs,f,g.mono (λb c=>⟨h b c,rfl⟩)⟩
 |_=>exact a.elim
theorem Ej.yN {r:TV} (c:yN r=true) (a:Ej S w x r):Ej S' w x r:=by
 cases r with
 |d v=>
  have:=oP (S':=S') (w':=w) (show kB [v]=true from c) (.cons a .nil:dT S w [x] [v]);cases this with
  |cons b _=>exact b
 |eG g=>obtain⟨xs,b,f⟩:=a;exact⟨xs,b,oP c f⟩
 |_=>exact a.elim
theorem Ej.tok {r:TV} (a:Ej (L E m ρ w) w x r):dm E m ρ w x r/\∀b,r.refs b->m b≠ .none:=by
 cases r with
 |d v=>exact⟨a,λ_ h=>h.elim⟩
 |eG c=>exact⟨a,λ_ h=>h.elim⟩
 |_=>exact a.elim
variable {a:Act}
theorem Rel.Bp {t:Nat->TV} (h:Rel E ρ t m a w) (o:Id) (j:m o≠ .none):Rel E ρ t (bo m o .dead) a w:=by
 have k:bo ρ o (ρ o)=ρ:=fw ρ o;have:=h.one o .dead (ρ o) (Bx.refl _ _ _) (λb c=>⟨⟨c.1,λf q l r=>by
   by_cases e:f=o;subst e;rw[ar]at l;exact l.elim
   ·rw[av _ _ _ e]at l r;exact c.2 f q l r⟩,rfl⟩) (λ_ _ _ _ _ _=>rfl) (λl=>l.elim) (by simp) (λ_ h=>h.elim) (λe=>absurd e j) (λe=>by simp[Mem.gen]at e) trivial
   (λ_=>⟨λx p u=>by have:=u.bO;simp only[bh,ar];exact this,λx g y=>by simp only[bF,ar];exact⟨y.1,trivial⟩⟩)
   (λx g i z _ _=>by simp only[dm,ar]) (λx g A n _ hs=>by simp only[fj,ar];exact⟨hs.1,trivial⟩)
 rwa [k]at this
theorem fD {m:Id->Mem}:∀(hs:List Id) (o:Id),((cI m (hs.map λo=>(o,.dead)) o).live->(m o).live)/\(o∈hs->¬(cI m (hs.map λo=>(o,.dead)) o).live)
 |[],o=>⟨id,by simp⟩
 |h::hs,o=>by
  simp only[Yg,cI];obtain⟨a,b⟩:=fD (m:=bo m h .dead) hs o;refine⟨λl=>?_,λhm=>?_⟩
  ·have:=a l;by_cases e:o=h;subst e;rw[ar]at this;exact this.elim
   ·rwa [av _ _ _ e]at this
  ·rcases XF.1 hm with rfl|hm;intro l;have:=a l;rw[ar]at this;exact this;exact b hm
theorem Rel.HR {t:Nat->TV}:∀(hs:List Id) {m:Id->Mem},Rel E ρ t m a w->(∀o∈hs,m o≠ .none)->Rel E ρ t (cI m (hs.map λo=>(o,.dead))) a w
 |[],_,h,_=>h
 |o::hs,m,h,b=>by refine Rel.HR hs (h.Bp o (b o (by simp))) (λc f=>?_);by_cases e:c=o;subst e;rw[ar];simp;rw[av _ _ _ e];exact b c (by simp[f])
theorem tC (n:Nat) (cap:Nat->SV) (xs:Nat->Value) (h:∀j,j<n->Rd S w (xs j) (cap j)):dT S w ((List.range n).map xs) (gn n cap):=by
 have b:=pF n cap xs h;unfold gn;revert b;generalize (List.range n).map xs=f;generalize cells n cap=g;intro b;induction b with
 |nil=>exact .nil
 |cons a _ c=>exact .cons a c
variable {P:Program}
theorem DY {o:Oper} {t:Nat->TV} {f:FuncId} {l:List DV} {rd:List Nat} {K:fh} (Z:∀b∈hs,b.key∈rd) (a0:∀b∈hs,∃g n k e N,m b= .aJ g n k e N)
  (a1:∀(E:Env) (ρ:Id->Option (Nat×Nat)) (C:Nat->TV) (i:Id->Mem) (a:Act) (w:World),fe o t C->hE rd m i->Rel E ρ C i a w->
   ∃G:List Value,dT (Sx E i ρ w hs ft) w G l/\(Enters P f->(execOp a.eval o).run P w= .ok (.enter f G.toArray) w))
  (h:Ih P f l hs rd ft K):∃z O rd,K z O rd/\aG P o t m z O rd:=by
 unfold Ih at h;obtain⟨r,⟨a2,a3⟩,h⟩:=h.h;replace h:=aM h;obtain⟨R,h⟩:=h;refine⟨_,_,_,h,?_⟩;intro E ρ C i a w b9 a4 S T j a5 Q U;obtain⟨G,a6,a7⟩:=a1 E ρ C i a w a4 S j;have a8:∀o∈hs,(i o).live:=λb c=>by obtain⟨g,n,k,e,N,a9⟩:=a0 b c;rw[S b (Z b c),a9];trivial
 have b0:∀b,Sx E i ρ w hs ft b->b<w.heap.size:=λb c=>by rcases c with c|⟨q,_,l,D,r⟩;exact xS j c;exact(j.lo q b D l r).2
 have b1:=a3 w (Sx E i ρ w hs ft) _ b0 a6;unfold Oper.wp;rw[a7 a2];refine Calls.mono b1 ?_;rintro e u ⟨v,rfl,H,V⟩;have X:=j.grow H;show a5 (a.put o.dst v) u;cases F:yN r with
 |true=>refine U ρ _ u ?_;have y:=Ej.tok (Ej.yN (S':=L E i ρ u) F V);rw[F];exact X.put T y.1 y.2
 |false=>
  refine U ρ _ u ?_;have b2:ft=false:=(by rw[F]at R;simpa using R);have b3:∀o∈hs,i o≠ .none:=λb c e=>by have:=a8 b c;rw[e]at this;exact this
  have b4:=X.HR hs b3;have b5:∀b,(Sx E i ρ w hs ft b\/(w.heap.size<=b/\b<u.heap.size))->L E (cI i (hs.map λo=>(o,.dead))) ρ u b:=(by intro b c;rcases c with(c|⟨q,I,l,D,Y⟩)|⟨b6,b7⟩;refine⟨c.1.imp id (λh=>h.imp id (λh=>⟨h.1,Yl h.2 H.size⟩)),λp A x B=>c.2 p A ((fD hs p).1 x) B⟩;have I:q∈hs:=I.resolve_right (λe=>by rw[b2]at e;cases e);obtain⟨J,b8⟩:=j.lo q b D l Y;refine⟨.inr (J.imp id (λJ=>⟨J,Yl b8 H.size⟩)),λp A x B=>?_⟩;have M:=(fD hs p).1 x;have e:=j.inj q p b D A l M Y B;subst e;exact(fD hs q).2 I x;refine⟨.inr (.inr ⟨Yf j.below.size b6,b7⟩),λp A x B=>?_⟩;have M:=(fD hs p).1 x;have:=(j.lo p b A M B).2;omega);have y:=Ej.tok (Ej.mono b5 V);rw[F];exact b4.put T y.1 y.2
variable {c:Call} {fo:Operand}
theorem te {o:Oper} (b:o.op= .call c) (g:c.callee= .value fo) {f:FuncId} (a:Act) (w:World) (xs:List Value) (e1:a.eval fo= .func (.func f) #[] xs.toArray):
  (execOp a.eval o).run P w=(callFunc f (c.args.toList.map a.eval++xs).toArray).run P w:=by
 simp only[execOp,b,resolve,g,e1,Deferred.ofValue,Sem.run_bind,Sem.run_pure,Result.andThen_ok,invoke];congr 2;apply Xc;simp
theorem dN {f:FuncId} (c:Enters P f) (args:Array Value) (w:World):(callFunc f args).run P w= .ok (.enter f args) w:=by
 obtain⟨a,g,h,b⟩:=c;have i:¬a.name= "runtime.NumGoroutine" :=by simpa using h
 have j:¬a.body=none:=by intro e;rw[e]at b;simp at b
 simp[callFunc,g];rw[XD i,XD j]
theorem xm {o:Oper} (b:o.op= .call c) (g:c.callee= .value fo) {f:FuncId} (h:Enters P f) (a:Act) (w:World) (xs:List Value) (e1:a.eval fo= .func (.func f) #[] xs.toArray):
  (execOp a.eval o).run P w= .ok (.enter f (c.args.toList.map a.eval++xs).toArray) w:=by
 rw[te b g a w xs e1,dN h]
theorem Rel.Tm {t:Nat->TV} (h:Rel E ρ t m a w) (o:Id) {cs:List SV} (f:m o= .box cs):Rel E ρ t (bo m o (.ro cs)) a w:=by
 have k:bo ρ o (ρ o)=ρ:=fw ρ o;have y:=h.mem o;rw[f]at y;obtain⟨b,c,xs,e,p,B,C⟩:=y;obtain⟨q,D⟩:=h.lo o b c (fN f) p;have hs:Shape (m o) (bo m o (.ro cs) o):= .dw (by rw[f];rfl) (by rw[ar];rfl);have z:∀b,L E m ρ w b->L E (bo m o (.ro cs)) (bo ρ o (ρ o)) w b/\w.heap[b]? =w.heap[b]?:=λb A=>⟨⟨A.1,λj u l r=>by
   by_cases e:j=o;subst e;rw[ar]at l;exact l.elim
   ·rw[av _ _ _ e]at l r;exact A.2 j u l r⟩,rfl⟩
 have:=h.one o (.ro cs) (ρ o) (Bx.refl _ _ _) z (λ_ _ _ _ _ _=>rfl) (λl=>l.elim) (by simp) (λ_ h=>h.elim) (λe=>by rw[f]at e;simp at e) (λe=>by simp[Mem.gen]at e) (by
   refine⟨b,c,xs,e,by rw[ar];exact p,⟨.inr (q.imp id (λq=>⟨q,D⟩)),λj u l r=>?_⟩,B,C.mono z⟩;by_cases e:j=o;subst e;rw[ar]at l;exact l.elim
   ·rw[av _ _ _ e]at l r;exact e (h.inj j o b u c l (fN f) r p)) (λ_=>hs.carry (by rw[k])) (λx g i F _=>hs.ep (by rw[k]) x g i F) (λx g G n _=>hs.sub (by rw[k]) x g G n)
 rwa [k]at this
theorem kq {o:Oper} {t:Nat->TV} {m:Id->Mem}:∀(xs:List Operand),(∀x∈xs,x∈o.op.operands.toList)->∀(K:List SV->List (Id×Mem)->List Nat->Prop),jQ t m xs K->
  ∃l G H,K l G H/\(∀p∈G,∃C,p.2= .ro C/\m p.1= .box C/\p.1.key∈H)/\
   ∀(E:Env) (ρ:Id->Option (Nat×Nat)) (A:Nat->TV) (i:Id->Mem) (a:Act) (w:World),fe o t A->hE H m i->Rel E ρ A i a w->
    eJ (Sx E i ρ w (G.map (·.1)) false) w (xs.map a.eval) l
 |[],_,K,h=>⟨[],[],[],h,by simp,λ_ _ _ _ _ _ _ _ _=> .nil⟩
 |x::r,R,K,h=>by have U:=R x (by simp);simp only[jQ]at h;split at h;rename_i c S;obtain⟨l,G,H,h,J,M⟩:=kq r (λy f=>R y (by simp[f])) _ h;refine⟨_,_,_,h,J,λE ρ A i a w B D u=>?_⟩;have z:=(ax u x).1;rw[aq B U,S]at z;exact .cons (Rd.mono (λb g=>⟨.inl g,rfl⟩) (show Rd _ _ _ _ from z)) (M E ρ A i a w B D u);rename_i b p S;split at h;replace h:=bp h;split at h;rename_i C g;obtain⟨l,G,H,h,J,M⟩:=kq r (λy f=>R y (by simp[f])) _ h;refine⟨_,_,_,h,λq N=>?_,λE ρ A i a w B D u=>?_⟩;rcases XF.1 N with rfl|N;exact⟨C,rfl,g,by simp⟩;obtain⟨V,X,Y,Z⟩:=J q N;exact⟨V,X,Y,by simp[Z]⟩;have z:=(ax u x).1;rw[aq B U,S]at z;have I:i b= .box C:=(by rw[D.at b];exact g);simp only[dm,bh,I]at z;obtain⟨a0,c,T,a1⟩:=z;have O:=u.mem b;rw[I]at O;obtain⟨a2,a3,a4,e,P,a5,Q⟩:=O;rw[T]at P;obtain⟨rfl,rfl⟩:a0=a2/\c=a3:=(by simpa using P);refine .cons ?_ (eJ.mono (λb g=>⟨g.mono (λo a8=>by simp at a8|-;exact .inr a8) id,rfl⟩) (M E ρ A i a w B (D.sub (λk a6=>by simp[a6])) u));rw[a1];refine Rd.ad (λj=>(a4[j]?).getD Go.undef) (.inr ⟨b,.inl (by simp),fN I,c,T⟩) (λj F=>?_) (λj F=>?_);obtain⟨y,f,_⟩:=Q.du j F;simp[World.cell?,a5,f];obtain⟨y,f,a7⟩:=Q.du j F;simp only[f,Yt];exact a7.mono (λb g=>⟨.inl g,rfl⟩);rename_i C g;obtain⟨l,G,H,h,J,M⟩:=kq r (λy f=>R y (by simp[f])) _ h;refine⟨_,_,_,h,λq N=>?_,λE ρ A i a w B D u=>?_⟩;obtain⟨V,X,Y,Z⟩:=J q N;exact⟨V,X,Y,by simp[Z]⟩;have z:=(ax u x).1;rw[aq B U,S]at z;have I:i b= .ro C:=(by rw[D.at b];exact g);simp only[dm,bh,I]at z;obtain⟨a0,c,T,a1⟩:=z;have O:=u.mem b;rw[I]at O;obtain⟨a2,a3,a4,e,P,a9,a5,Q⟩:=O;rw[T]at P;obtain⟨rfl,rfl⟩:a0=a2/\c=a3:=(by simpa using P);refine .cons ?_ (M E ρ A i a w B (D.sub (λk a6=>by simp[a6])) u);rw[a1];refine Rd.ad (λj=>(a4[j]?).getD Go.undef) (.inl a9) (λj F=>?_) (λj F=>?_);obtain⟨y,f,_⟩:=Q.du j F;simp[World.cell?,a5,f];obtain⟨y,f,a7⟩:=Q.du j F;simp only[f,Yt];exact a7.mono (λb g=>⟨.inl g,rfl⟩);exact h.elim;exact h.elim;exact h.elim
theorem Rel.Qp {t:Nat->TV}:∀(c:List (Id×Mem)) {m:Id->Mem},Rel E ρ t m a w->(∀p∈c,∃f,p.2= .ro f/\(m p.1= .box f\/m p.1= .ro f))->
  Rel E ρ t (cI m c) a w/\(∀o,(cI m c o).live->(m o).live)/\(∀p∈c,¬(cI m c p.1).live)
 |[],m,h,_=>⟨h,λ_ l=>l,by simp⟩
 |(o,r)::c,m,h,j=>by
  obtain⟨f,k,b⟩:=j (o,r) (by simp);simp only at k b;subst k;have u:Rel E ρ t (bo m o (.ro f)) a w:=(by rcases b with b|b;exact h.Tm o b;have:bo m o (.ro f)=m:=(by rw[<-b];exact fw m o);rw[this];exact h);have i:=Rel.Qp c u (λp g=>by
   obtain⟨x,y,a2⟩:=j p (by simp[g]);refine⟨x,y,?_⟩;by_cases e:p.1=o;(right;rw[e,ar];rw[e]at a2;rcases b with b|b<;>rcases a2 with a2|a2<;>rw[b]at a2<;>simp at a2<;>simp[a2])
   ·rw[av _ _ _ e];exact a2)
  simp only[cI];refine⟨i.1,λq l=>?_,λp g l=>?_⟩
  ·have:=i.2.1 q l;by_cases e:q=o;subst e;rw[ar]at this;exact this.elim
   ·rwa [av _ _ _ e]at this
  ·rcases XF.1 g with rfl|g;have:=i.2.1 _ l;rw[ar]at this;exact this;exact i.2.2 p g l
theorem uo {o:Oper} {t:Nat->TV} {f:Nat} {first g:Array Operand} (r:o.op= .makeFunc (.func f) first g) (a1:first.toList=[]) {K:List SV->List (Id×Mem)->List Nat->Prop}
  (h:jQ t m g.toList K):∃l c u,K l c u/\aG P o t m (.d (.one (.fn f l.length λj=>l.getD j (.v Go.undef)))) c u:=by
 have O:first=#[]:=by rw[<-Yr (xs:=first),a1]
 obtain⟨l,c,u,h,R,a2⟩:=kq (o:=o) g.toList (λx C=>by rw[r];simp[Op.operands,O];simpa using C) _ h;refine⟨l,c,u,h,?_⟩;intro E ρ a3 z a w b7 a4 D a5 A b8 Q a6;have S:=a2 E ρ a3 z a w a4 D A;obtain⟨a7,T,a8⟩:=A.Qp c (λp k=>by obtain⟨U,a9,F,G⟩:=R p k;exact⟨U,a9,.inl (by rw[D p.1 G];exact F)⟩);have b9:∀o∈c.map (·.1),(z o).live:=λo r=>by obtain⟨p,k,rfl⟩:=XQ.1 r;obtain⟨U,_,F,G⟩:=R p k;rw[D p.1 G,F];trivial
 have b0:∀b,Sx E z ρ w (c.map (·.1)) false b->L E (cI z c) ρ w b:=by intro b i;rcases i with i|⟨V,H,X,Y,Z⟩;exact⟨i.1,λq I B J=>i.2 q I (T q B) J⟩;have H:=H.resolve_right (λe=>by cases e);obtain⟨M,b1⟩:=A.lo V b Y X Z;refine⟨.inr (M.imp id (λM=>⟨M,b1⟩)),λq I B J=>?_⟩;have e:=A.inj V q b Y I X (T q B) Z J;subst e;obtain⟨p,k,rfl⟩:=XQ.1 H;exact a8 p k B
 have b2:(execOp a.eval o).run P w= .ok (.value (.func (.func f) #[] (g.toList.map a.eval).toArray)) w:=by simp[execOp,r,Instr.makeFunc,O];apply Xc;simp
 unfold Oper.wp;rw[b2];refine a6 ρ _ w (a7.put a5 ?_ (λ_ h=>h.elim));have a0:=S.length;have C:(g.toList.map a.eval)=(List.range l.length).map (λj=>((g.toList.map a.eval)[j]?).getD Go.undef):=by revert a0;generalize g.toList.map a.eval=b3;intro a0;apply Xe;intro j;by_cases N:j<l.length;have b4:j<b3.length:=(by omega);simp[N,b4];rw[YY (by omega),YY (by simp;omega)]
 show Rd _ _ _ _;rw[C];refine Rd.fn _ (λj N=>?_);obtain⟨y,b5,b6⟩:=S.du j N;simp only[b5,Yt];exact b6.mono (λb i=>⟨b0 b i,rfl⟩)
end Go.Vm
