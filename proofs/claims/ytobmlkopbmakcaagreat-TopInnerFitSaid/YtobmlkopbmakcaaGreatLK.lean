import Derived.Test.YtobmlkopbmakcaaGreatLJ
import Derived.Shelf.SlSortCmp.NoneTotal
import Derived.Shelf.SlLaysF
import Derived.Test.YtobmlkopbmakcaaGreatLE
set_option linter.unusedVariables false
set_option linter.unusedSimpArgs false
set_option maxRecDepth 20000
namespace Go.Vm
open Go Go.RowKit
theorem F8 {w w':World} (h:Below w.heap.size w w'):∃q b,w'=Sort.grow (w.drewN q) b:=by
 refine⟨w'.drawn-w.drawn,w'.heap.extract w.heap.size w'.heap.size,?_⟩;obtain⟨a,p,r,b,t⟩:=w;obtain⟨l,u,x,y,z⟩:=w';obtain⟨⟨c,f,g,m,i⟩,o⟩:=h;simp only at c f g m i o;subst c f g;simp only[Sort.grow,World.drewN,World.mk.injEq,and_true,aaD];refine⟨?_,by omega⟩;apply aae;intro k;by_cases j:k<a.size;rw[Xb j];exact i k j;rw[Array.getElem?_append_right (by omega),Array.getElem?_extract];by_cases q:k<l.size;rw[iP,show a.size+(k-a.size)=k by omega];rw[iN,ZX (by omega)]
abbrev cellOf (a:Array Value) {n:Nat} (i:_root_.Fin n):Value:=(a[i.val]?).getD Go.undef
section
variable {E:Env} {ρ:Id->Option (Nat×Nat)} {t:Nat->TV} {m:Id->Mem} {a:Act} {w:World}
theorem Ce (h:Rel E ρ t m a w) {b:Id} {g n:Nat} {e:TypeId} {get:Nat->Nat->SV} (r:m b= .aJ g (n+1) 1 e get) {l cap:Nat} (u:ρ b=some (l,cap)) {c:Array Value} (y:w.heap[l]? =some (.cells c e (0,0))) (B:c.size=cap*1) (C:n+1<=cap) (D:cap<=maxLen)
  (F:∀i,i<n+1->∀j,j<1->∃x,c[i*1+j]? =some x/\Rd (L E m ρ w) w x (get i j)) (f:Array (_root_.Fin (n+1))) (hs:f.size=n+1) (q:Nat) (p:Array Obj):
  Rel E ρ t (bo m b (.aJ g (n+1) 1 e λi j=>get (f[i]!).val j)) a (Proofs.sortWorld (cellOf c) w l 0 q f p):=by
 have G:Sort.putRow (cellOf c) (Sort.ahead w q) l 0 f=(w.drewN q).setRow l (Sort.putCells (cellOf c) 0 f c):=by unfold Sort.putRow Sort.mapBlock World.setRow;congr 1;apply aae;intro k;show(w.heap.modify l _)[k]? =(w.heap.modify l _)[k]?;rw[Xu,Xu];by_cases o:l=k;subst o;rw[XG rfl,XG rfl,y];rfl;rw[XD o,XD o]
 show Rel E ρ t _ a (Sort.grow (Sort.putRow (cellOf c) (Sort.ahead w q) l 0 f) p);rw[G];have H:Rel E ρ t m a (w.drewN q):=h.grow ⟨⟨rfl,rfl,rfl,XP _,λ_ _=>rfl⟩,Nat.le_add_right _ _⟩;have I:(m b).live:=by rw[r];trivial
 have J:Shape (m b) (.aJ g (n+1) 1 e λi j=>get (f[i]!).val j):=by rw[r];exact .bK rfl rfl
 have K:bo ρ b (some (l,cap))=ρ:=by rw[<-u];exact fw ρ b
 have z:=H.q8 I u (.aJ g (n+1) 1 e λi j=>get (f[i]!).val j) (Sort.putCells (cellOf c) 0 f c) J (λ_ h=>h.elim) (λM _=>by
  refine .inr ⟨l,cap,Sort.putCells (cellOf c) 0 f c,ar _ _ _,setRow_heap _ _ c _ e (0,0) y,by simp[Sort.putCells,B],C,D,λi R j S=>?_⟩;obtain rfl:j=0:=(by omega);obtain⟨x,A,N⟩:=F (f[i]!).val (f[i]!).isLt 0 (by omega);refine⟨x,?_,?_⟩;simp only[Xd,YR,Sort.putCells,Array.getElem?_mapIdx]at A|-;have O:i<c.size:=(by omega);rw[Z0 O];show some (if 0<=i/\i<0+f.size then cellOf c f[i-0]! else c[i])=some x;rw[XG ⟨XS _,by omega⟩];show some ((c[(f[i]!).val]?).getD Go.undef)=some x;rw[A];rfl
  ·exact N.mono (λP Q=>by have:=M P Q;exact⟨this.1,this.2⟩))
 rw[K]at z;exact z.grow ⟨⟨rfl,rfl,rfl,by simp[Sort.grow],λk o=>by show((_:World).heap++p)[k]? =_;rw[Xb o]⟩,XP _⟩
end
def zd (n:Nat):Array (_root_.Fin (n+1)):=Array.ofFn id
def oN (n:Nat) (cf:Nat->Nat->Int):Nat->Nat:=match n with
 |0=>id
 |n+1=>λi=>((Sort.pdq (Proofs.ltOf λi j:_root_.Fin (n+1)=>cf i.val j.val) (zd n) 0 (n+1) (Lib.bitLen (n+1)) true true)[i]!).val
structure pP (n:Nat) (cf:Nat->Nat->Int):Prop where
 irrefl:∀i,i<n->¬cf i i<0
 trans:∀i j k,i<n->j<n->k<n->cf i j<0->cf j k<0->cf i k<0
 ntrans:∀i j k,i<n->j<n->k<n->¬cf i j<0->¬cf j k<0->¬cf i k<0
variable {cf:Nat->Nat->Int}
theorem pP.fin {n:Nat} (h:pP n cf):Sort.SWO (Proofs.ltOf λi j:_root_.Fin n=>cf i.val j.val) where
 irrefl x:=X1 (h.irrefl _ x.isLt)
 trans x y z a b:=X8 (h.trans _ _ _ x.isLt y.isLt z.isLt (XB a) (XB b))
 ntrans x y z a b:=X1 (h.ntrans _ _ _ x.isLt y.isLt z.isLt (XA a) (XA b))
theorem oK {n:Nat} (h:pP n cf):((List.range n).map (oN n cf)).Perm (List.range n)/\∀i j,i<j->j<n->¬cf (oN n cf j) (oN n cf i)<0:=by
 cases n with
 |zero=>exact⟨.refl _,λi j _ a=>absurd a (XL _)⟩
 |succ n=>
  have l:(zd n).size=n+1:=(by simp[zd]);obtain⟨⟨f,_,g⟩,k⟩:=Sort.pdq_sorts (Proofs.ltOf λi j:_root_.Fin (n+1)=>cf i.val j.val) h.fin (zd n) 0 (n+1) (Lib.bitLen (n+1)) true true (XS _) (by omega) (.inl rfl);generalize m:Sort.pdq (Proofs.ltOf λi j:_root_.Fin (n+1)=>cf i.val j.val) (zd n) 0 (n+1) (Lib.bitLen (n+1)) true true=d at f g k;have b:∀i,oN (n+1) cf i=(d[i]!).val:=λi=>by rw[<-m];rfl
  have o:d.size=n+1:=f.trans l;refine⟨?_,λi j p a=>?_⟩
  ·have q:(List.range (n+1)).map (oN (n+1) cf)=(d.extract 0 (n+1)).toList.map _root_.Fin.val:=(by apply Wo;simp[o];intro i c r;have t:i<n+1:=(by simpa using c);simp only[WX,WM,b];congr 1;rw[getElem!_pos d i (by omega)];simp);have u:List.range (n+1)=((zd n).extract 0 (n+1)).toList.map _root_.Fin.val:=(by apply Wo;simp[zd];intro i c r;have t:i<n+1:=(by simpa using c);simp only[WM,WX];simp[zd,-List.ofFn_succ]);rw[q]
   conv=>rhs;rw[u]
   exact g.map _
  ·have:=k i j (XS _) p a;rw[b,b];exact XA this
set_option maxHeartbeats 1000000 in
theorem sr {P:Program} {o:Oper} {t:Nat->TV} {m:Id->Mem} {c:Call} (a8:o.op= .call c) {Z:Operand} (a9:c.callee= .value Z) {R:Shelf.Ren} {F:FuncId} {d9:Nat->SV} (e0:bG t Z= .d (.one (.fn F 0 d9))) (L:Proofs.SlLaysF.n6 P R) (e1:R.f 6=F) (e2:Enters P F)
  {x y:Operand} (b0:c.args.toList=[x,y]) {b:Id} {g n:Nat} {e:TypeId} {get:Nat->Nat->SV} (e3:bG t x= .aL b g) (e4:m b= .aJ g n 1 e get) {cv:CV} (e5:bG t y=cv.tv) {ks:List Nat} {G:FuncId} {q:Nat} {cap:Nat->SV} (b8:mS m ks cv (.fn G q cap)) (e6:b.key∉ks)
  {cf:Nat->Nat->Int} (b9:pP n cf) (h3:n<=1000000) (c0:∀i j,i<n->j<n->kM P G (.one (get i 0):: .one (get j 0)::gn q cap) (an (cf i j))):
  aG P o t m (.eG []) [(b,.aJ g n 1 e λi j=>get (oN n cf i) j)] (b.key::ks):=by
 subst e1;have e7:Z∈o.op.operands.toList:=by rw[a8];simp[Op.operands,Call.operands,a9]
 have c1:∀z∈c.args.toList,z∈o.op.operands.toList:=λz a0=>by rw[a8];simp[Op.operands,Call.operands,a9];right;simpa using a0
 intro E ρ c2 B a w h4 b1 c3 e8 A K Q e9;have J:B b= .aJ g n 1 e get:=by rw[c3 b (by simp)];exact e4
 have c4:hE ks m B:=c3.sub (λk f0=>by simp[f0]);have c5:=(ax A Z).1;rw[aq b1 e7,e0]at c5;obtain⟨h5,f1,_⟩:=Rd.od (show Rd _ _ _ _ from c5);have c6:=(ax A x).1;rw[aq b1 (c1 x (by rw[b0];simp)),e3]at c6;have f2:(B b).bK=some (g,n,1):=by rw[J];rfl
 have C:=((bB f2).1 c6).2.2 rfl;have c7:∀{a1:Id->Mem} {ρ2:Id->Option (Nat×Nat)} {D:World},Rel E ρ2 c2 a1 a D->kR (Vm.L E a1 ρ2 D) a1 ρ2 D (a.eval y) cv:=λ{a1 ρ2 D} T=>by have N:=(ax T y).1;rw[aq b1 (c1 y (by rw[b0];simp)),e5]at N;cases cv<;>exact N
 have f3:=b8.rd c4 A.toOwn _ (c7 A);obtain⟨a2,c8,_⟩:=Rd.od f3;have f4:(execOp a.eval o).run P w= .ok (.enter (R.f 6) #[a.eval x,a.eval y]) w:=by have U:=xm a8 a9 e2 a w _ f1;rw[b0]at U;simpa using U
 unfold Oper.wp;rw[f4];rw[c8];have c9:∀{ρ2 D},Rel E ρ2 c2 (bo B b (.aJ g n 1 e λi j=>get (oN n cf i) j)) a D->K (a.put o.dst (.tuple #[])) D:=λT=>e9 _ _ _ (T.put e8 ⟨[],rfl,.nil⟩ (λ_ h=>h.elim));cases n with
 |zero=>
  have hw:∃p cap,a.eval x= .slice p 0 cap:=by
   simp only[cE]at C;cases d0:ρ b with
   |none=>rw[d0]at C;exact⟨_,_,C⟩
   |some f5=>obtain⟨h6,h7⟩:=f5;rw[d0]at C;exact⟨_,_,C⟩
  obtain⟨p,V,hw⟩:=hw;rw[hw];refine Calls.mono (Proofs.AnyF.slices_SortFunc_none {L with} p V _ w) ?_;rintro _ _ ⟨rfl,rfl⟩;refine c9 (ρ2:=ρ) ?_;have:(Mem.aJ g 0 1 e λi j=>get (oN 0 cf i) j)=B b:=(by rw[J];rfl);rw[this,fw];exact A
 |succ n=>
  have d1:=A.mem b;rw[J]at d1;rcases d1 with⟨_,h8⟩|⟨H,V,f,X,a3,b2,d2,d3,b3⟩;omega;simp only[cE,X]at C;rw[C];have b4:(B b).live:=(by rw[J];trivial);obtain⟨h9,f6⟩:=A.lo b H V b4 X;have a4:∀i:_root_.Fin (n+1),f[i.val]? =some (cellOf f i)/\Rd (Vm.L E B ρ w) w (cellOf f i) (get i.val 0):=λi=>by obtain⟨x,U,T⟩:=b3 i.val i.isLt 0 (by omega);simp only[Xd,YR]at U;unfold cellOf;rw[U];exact⟨rfl,T⟩
  have f7:Proofs.CmpLays1 P G ((List.range q).map a2).toArray (cellOf f) (λi j:_root_.Fin (n+1)=>cf i.val j.val) H 0 (zd n).size w:=by
   intro a5 O a6 b5 i j;have b5:a6.size=n+1:=(by rw[b5];simp[zd]);have S:=Ce A J X a3 b2 d2 d3 b3 a6 b5 a5 O;generalize d4:Proofs.sortWorld (cellOf f) w H 0 a5 a6 O=W at S|-;generalize d5:bo B b (.aJ g (n+1) 1 e λi j=>get (a6[i]!).val j)=M at S;have f8:hE ks m M:=λz a0=>by rw[<-d5,av _ _ _ (λq=>e6 (by rw[<-q];exact a0))];exact c4 z a0
   have d6:=b8.rd f8 S.toOwn _ (c7 S);rw[c8]at d6;obtain⟨a7,f9,g0⟩:=Rd.od d6;have g1:((List.range q).map a2).toArray=((List.range q).map a7).toArray:=(by injection f9);have d7:∀u,Vm.L E B ρ w u->Sx E M ρ W [] true u/\W.heap[u]? =w.heap[u]?:=λu I=>by have g2:u≠H:=λq=>I.2 b V b4 (q▸X);have g3:=xS A I;have b2:W.heap.size=w.heap.size+O.size:=(by rw[<-d4];simp[Proofs.sortWorld,Sort.putRow,Sort.mapBlock,Sort.ahead]);refine⟨.inl ⟨I.1.imp id (λh=>h.imp id (λh=>⟨h.1,by omega⟩)),λz c l r=>?_⟩,?_⟩;by_cases q:z=b;subst q;exact I.2 z c b4 r;rw[<-d5,av _ _ _ q]at l;exact I.2 z c l r;rw[<-d4];show((w.heap.modify H _)++O)[u]? =_;rw[Xb (by simpa using g3),Xu,XD (Zr g2)]
   have g4:∀u,Sx E M ρ W [] true u->u<W.heap.size:=λu I=>by rcases I with h|⟨z,_,l,c,r⟩;exact xS S h;exact(S.lo z u c l r).2
   have g5:dT (Sx E M ρ W [] true) W ([cellOf f i,cellOf f j]++(List.range q).map a7) (.one (get i.val 0):: .one (get j.val 0)::gn q cap):=
    .cons ((a4 i).2.mono d7) (.cons ((a4 j).2.mono d7) (tC q cap a7 g0))
   have g6:=(c0 i.val j.val i.isLt j.isLt).2 W (Sx E M ρ W [] true) _ g4 g5;have b6:(#[cellOf f i,cellOf f j]++((List.range q).map a2).toArray)=([cellOf f i,cellOf f j]++(List.range q).map a7).toArray:=(by rw[g1];simp);rw[b6];refine Calls.mono g6 ?_;rintro _ g7 ⟨v,rfl,g8,N⟩;have N:Rd _ _ v (i64 (cf i.val j.val)):=N;rw[(Rd.cm N).1];exact⟨rfl,F8 g8⟩
  have g9:Sort.Holds (cellOf f) w H 0 (zd n):=λj Y=>by have Y:j<n+1:=(by simpa[zd]using Y);have b6:(zd n)[j]! =⟨j,Y⟩:=(by rw[getElem!_pos (zd n) j (by simpa[zd]using Y)];simp[zd]);rw[b6];refine⟨?_,?_⟩;simp only[World.cell?,a3,X6];exact(a4 ⟨j,Y⟩).1;simp[World.frozen?,a3]
  have h0:Proofs.OneCell (cellOf (n:=n+1) f):=λi=>(a4 i).2.bO;have b7:(zd n).size=n+1:=(by simp[zd]);have h1:∀args w,(callFunc G args).run P w= .ok (.enter G args) w:=λargs w=>dN (c0 0 0 (by omega) (by omega)).1 args w;have d8:=Proofs.Any.slices_SortFunc_eq L (cellOf f) h0 (λi j:_root_.Fin (n+1)=>cf i.val j.val) b9.fin G ((List.range q).map a2).toArray H 0 V (zd n) w h1 f7 g9 f6 (by rw[b7];omega);rw[b7]at d8;refine Calls.mono d8 ?_;rintro _ g7 ⟨rfl,a5,O,rfl⟩;refine c9 (ρ2:=ρ) ?_;have h2:=Sort.pdq_sorts (Proofs.ltOf λi j:_root_.Fin (n+1)=>cf i.val j.val) b9.fin (zd n) 0 (n+1) (Lib.bitLen (n+1)) true true (XS _) (by omega) (.inl rfl);exact Ce A J X a3 b2 d2 d3 b3 _ (h2.1.1.trans b7) a5 O
end Go.Vm
namespace Go.Vm
open Go Go.RowKit Go.Proofs
namespace Sg
def IJ:Go.Shelf.Ren:=⟨λ|6=>201|15=>96|14=>231|28=>159|29=>160|20=>242|21=>243|22=>244|23=>245|24=>246|25=>247|26=>248|27=>249|46=>258|47=>207|48=>208|49=>259|50=>260|57=>265|n=>n,λ|22=>22|24=>3|25=>184|3=>3|39=>145|0=>0|53=>194|55=>196|4=>4|46=>188|45=>187|50=>86|5=>5|9=>9|66=>227|70=>231|76=>245|77=>80|n=>n,λ|n=>n⟩
theorem To:Go.Proofs.SlLaysF.n6 Tryz.prog IJ:={
 mixed:=by kernel_rfl
 f6:=⟨Tryz.f201.name,by decide,Tryz.func201.trans (X5 some (by kernel_rfl))⟩
 f14:=⟨Tryz.f231.name,by decide,Tryz.func231.trans (X5 some (by kernel_rfl))⟩
 f15:=Tryz.func96.trans (X5 some (by kernel_rfl))
 f20:=⟨Tryz.f242.name,by decide,Tryz.func242.trans (X5 some (by kernel_rfl))⟩
 f21:=⟨Tryz.f243.name,by decide,Tryz.func243.trans (X5 some (by kernel_rfl))⟩
 f22:=⟨Tryz.f244.name,by decide,Tryz.func244.trans (X5 some (by kernel_rfl))⟩
 f23:=⟨Tryz.f245.name,by decide,Tryz.func245.trans (X5 some (by kernel_rfl))⟩
 f24:=⟨Tryz.f246.name,by decide,Tryz.func246.trans (X5 some (by kernel_rfl))⟩
 f25:=⟨Tryz.f247.name,by decide,Tryz.func247.trans (X5 some (by kernel_rfl))⟩
 f26:=⟨Tryz.f248.name,by decide,Tryz.func248.trans (X5 some (by kernel_rfl))⟩
 f27:=⟨Tryz.f249.name,by decide,Tryz.func249.trans (X5 some (by kernel_rfl))⟩
 f28:=Tryz.func159.trans (X5 some (by kernel_rfl))
 f29:=Tryz.func160.trans (X5 some (by kernel_rfl))
 f46:=⟨Tryz.f258.name,by decide,Tryz.func258.trans (X5 some (by kernel_rfl))⟩
 f47:=Tryz.func207.trans (X5 some (by kernel_rfl))
 f48:=Tryz.func208.trans (X5 some (by kernel_rfl))
 f49:=⟨Tryz.f259.name,by decide,Tryz.func259.trans (X5 some (by kernel_rfl))⟩
 f50:=⟨Tryz.f260.name,by decide,Tryz.func260.trans (X5 some (by kernel_rfl))⟩
 f57:=⟨Tryz.f265.name,by decide,Tryz.func265.trans (X5 some (by kernel_rfl))⟩
 t0:=Tryz.underlying0
 a0:=Tryz.isAgg0
 z0:=Tryz.sizeOf0
 v0:=Tryz.zeroValue0
 t3:=Tryz.underlying3
 a3:=Tryz.isAgg3
 z3:=Tryz.sizeOf3
 v3:=Tryz.zeroValue3
 t4:=Tryz.underlying4
 a4:=Tryz.isAgg4
 z4:=Tryz.sizeOf4
 v4:=Tryz.zeroValue4
 t5:=Tryz.underlying5
 a5:=Tryz.isAgg5
 z5:=Tryz.sizeOf5
 v5:=Tryz.zeroValue5
 t9:=Tryz.underlying9
 a9:=Tryz.isAgg9
 z9:=Tryz.sizeOf9
 v9:=Tryz.zeroValue9
 t22:=Tryz.underlying22
 a22:=Tryz.isAgg22
 z22:=Tryz.sizeOf22
 v22:=Tryz.zeroValue22
 a24:=Tryz.isAgg3
 z24:=Tryz.sizeOf3
 t25:=Tryz.underlying184
 a25:=Tryz.isAgg184
 z25:=Tryz.sizeOf184
 v25:=Tryz.zeroValue184
 t39:=Tryz.underlying145
 a39:=Tryz.isAgg145
 z39:=Tryz.sizeOf145
 v39:=Tryz.zeroValue145
 t45:=Tryz.underlying187
 a45:=Tryz.isAgg187
 z45:=Tryz.sizeOf187
 v45:=Tryz.zeroValue187
 t46:=Tryz.underlying188
 a46:=Tryz.isAgg188
 z46:=Tryz.sizeOf188
 v46:=Tryz.zeroValue188
 t50:=Tryz.underlying86
 a50:=Tryz.isAgg86
 z50:=Tryz.sizeOf86
 v50:=Tryz.zeroValue86
 t53:=Tryz.underlying194
 a53:=Tryz.isAgg194
 z53:=Tryz.sizeOf194
 v53:=Tryz.zeroValue194
 t55:=Tryz.underlying196
 a55:=Tryz.isAgg196
 z55:=Tryz.sizeOf196
 v55:=Tryz.zeroValue196
 t66:=Tryz.underlying227
 a66:=Tryz.isAgg227
 z66:=Tryz.sizeOf227
 v66:=Tryz.zeroValue227
 t70:=Tryz.underlying231
 a70:=Tryz.isAgg231
 z70:=Tryz.sizeOf231
 v70:=Tryz.zeroValue231
 t76:=Tryz.underlying245
 a76:=Tryz.isAgg245
 z76:=Tryz.sizeOf245
 v76:=Tryz.zeroValue245
 t77:=Tryz.underlying80
 a77:=Tryz.isAgg80
 z77:=Tryz.sizeOf80
 v77:=Tryz.zeroValue80}
def II:Go.Shelf.Ren:=⟨λ|6=>48|15=>96|14=>95|28=>159|29=>160|20=>151|21=>152|22=>153|23=>154|24=>155|25=>156|26=>157|27=>158|46=>206|47=>207|48=>208|49=>209|50=>210|57=>232|n=>n,λ|22=>43|24=>42|25=>107|3=>3|39=>145|0=>0|53=>194|55=>196|4=>4|46=>188|45=>187|50=>86|5=>5|9=>9|66=>227|70=>231|76=>245|77=>80|n=>n,λ|n=>n⟩
theorem Qu:Go.Proofs.SlLaysF.n6 Tryz.prog II:={
 mixed:=by kernel_rfl
 f6:=⟨Tryz.f48.name,by decide,Tryz.func48.trans (X5 some (by kernel_rfl))⟩
 f14:=⟨Tryz.f95.name,by decide,Tryz.func95.trans (X5 some (by kernel_rfl))⟩
 f15:=Tryz.func96.trans (X5 some (by kernel_rfl))
 f20:=⟨Tryz.f151.name,by decide,Tryz.func151.trans (X5 some (by kernel_rfl))⟩
 f21:=⟨Tryz.f152.name,by decide,Tryz.func152.trans (X5 some (by kernel_rfl))⟩
 f22:=⟨Tryz.f153.name,by decide,Tryz.func153.trans (X5 some (by kernel_rfl))⟩
 f23:=⟨Tryz.f154.name,by decide,Tryz.func154.trans (X5 some (by kernel_rfl))⟩
 f24:=⟨Tryz.f155.name,by decide,Tryz.func155.trans (X5 some (by kernel_rfl))⟩
 f25:=⟨Tryz.f156.name,by decide,Tryz.func156.trans (X5 some (by kernel_rfl))⟩
 f26:=⟨Tryz.f157.name,by decide,Tryz.func157.trans (X5 some (by kernel_rfl))⟩
 f27:=⟨Tryz.f158.name,by decide,Tryz.func158.trans (X5 some (by kernel_rfl))⟩
 f28:=Tryz.func159.trans (X5 some (by kernel_rfl))
 f29:=Tryz.func160.trans (X5 some (by kernel_rfl))
 f46:=⟨Tryz.f206.name,by decide,Tryz.func206.trans (X5 some (by kernel_rfl))⟩
 f47:=Tryz.func207.trans (X5 some (by kernel_rfl))
 f48:=Tryz.func208.trans (X5 some (by kernel_rfl))
 f49:=⟨Tryz.f209.name,by decide,Tryz.func209.trans (X5 some (by kernel_rfl))⟩
 f50:=⟨Tryz.f210.name,by decide,Tryz.func210.trans (X5 some (by kernel_rfl))⟩
 f57:=⟨Tryz.f232.name,by decide,Tryz.func232.trans (X5 some (by kernel_rfl))⟩
 t0:=Tryz.underlying0
 a0:=Tryz.isAgg0
 z0:=Tryz.sizeOf0
 v0:=Tryz.zeroValue0
 t3:=Tryz.underlying3
 a3:=Tryz.isAgg3
 z3:=Tryz.sizeOf3
 v3:=Tryz.zeroValue3
 t4:=Tryz.underlying4
 a4:=Tryz.isAgg4
 z4:=Tryz.sizeOf4
 v4:=Tryz.zeroValue4
 t5:=Tryz.underlying5
 a5:=Tryz.isAgg5
 z5:=Tryz.sizeOf5
 v5:=Tryz.zeroValue5
 t9:=Tryz.underlying9
 a9:=Tryz.isAgg9
 z9:=Tryz.sizeOf9
 v9:=Tryz.zeroValue9
 t22:=Tryz.underlying43
 a22:=Tryz.isAgg43
 z22:=Tryz.sizeOf43
 v22:=Tryz.zeroValue43
 a24:=Tryz.isAgg42
 z24:=Tryz.sizeOf42
 t25:=Tryz.underlying107
 a25:=Tryz.isAgg107
 z25:=Tryz.sizeOf107
 v25:=Tryz.zeroValue107
 t39:=Tryz.underlying145
 a39:=Tryz.isAgg145
 z39:=Tryz.sizeOf145
 v39:=Tryz.zeroValue145
 t45:=Tryz.underlying187
 a45:=Tryz.isAgg187
 z45:=Tryz.sizeOf187
 v45:=Tryz.zeroValue187
 t46:=Tryz.underlying188
 a46:=Tryz.isAgg188
 z46:=Tryz.sizeOf188
 v46:=Tryz.zeroValue188
 t50:=Tryz.underlying86
 a50:=Tryz.isAgg86
 z50:=Tryz.sizeOf86
 v50:=Tryz.zeroValue86
 t53:=Tryz.underlying194
 a53:=Tryz.isAgg194
 z53:=Tryz.sizeOf194
 v53:=Tryz.zeroValue194
 t55:=Tryz.underlying196
 a55:=Tryz.isAgg196
 z55:=Tryz.sizeOf196
 v55:=Tryz.zeroValue196
 t66:=Tryz.underlying227
 a66:=Tryz.isAgg227
 z66:=Tryz.sizeOf227
 v66:=Tryz.zeroValue227
 t70:=Tryz.underlying231
 a70:=Tryz.isAgg231
 z70:=Tryz.sizeOf231
 v70:=Tryz.zeroValue231
 t76:=Tryz.underlying245
 a76:=Tryz.isAgg245
 z76:=Tryz.sizeOf245
 v76:=Tryz.zeroValue245
 t77:=Tryz.underlying80
 a77:=Tryz.isAgg80
 z77:=Tryz.sizeOf80
 v77:=Tryz.zeroValue80}
theorem enters_of {P:Program} {f:FuncId} {fn:Func} (h:P.funcs[f]? =some fn) (h2:((fn.name== "runtime.NumGoroutine")||fn.body.isNone)=false):Enters P f:=by
 have:=Bool.or_eq_false_iff.1 h2;exact⟨fn,h,this.1,this.2⟩
theorem FX (a b:LV) (f:0<a.length) (g:0<b.length):DP 199 [.one (aS a),.one (aS b)] (an (gm (gt a 0) (gt b 0))):=by
 refine dg Tryz.func199 [] ?_;refine aj.o ?_;refine aj.o ?_;refine ah.int (iw (gt a 0) (gt b 0)) (λx c=>?_);refine aj.n ?_;exact Fin.int c
variable {a:V2}
theorem rT {b:V2}:gm a b<0↔bu a b=true:=by rw[<-rS];simp
theorem gG {b:V2}:bu a b=true↔a.y<b.y\/(a.y=b.y/\a.x<b.x):=by
 unfold bu;simp
theorem DS (n:Nat) (p:Nat->V2):pP n λi j=>gm (p i) (p j) where
 irrefl i _:=by rw[rT,gG];omega
 trans i j k _ _ _:=by simp only[rT,gG];omega
 ntrans i j k _ _ _:=by simp only[rT,gG];omega
def VG (hs:List (LV)) (i j:Nat):Int:=gm (gt (aZ (hs.getD i [])) 0) (gt (aZ (hs.getD j [])) 0)
def eZ (hs:List (LV)):List (LV):=((List.range hs.length).map (oN hs.length (VG hs))).map λi=>aZ (hs.getD i [])
theorem oA (hs:List (LV)):(eZ hs).length=hs.length:=by simp[eZ]
theorem lL (hs:List (LV)):(eZ hs).Perm (hs.map aZ):=by
 have h:=(oK (DS hs.length λi=>gt (aZ (hs.getD i [])) 0)).1.map λi=>aZ (hs.getD i []);refine h.trans (aaA ?_);apply Wo;simp;intro i c a;have b:i<hs.length:=(by simpa using a);simp[List.getD,b]
theorem qN {l:LV} (h:bV l=true):(aZ l).length=l.length:=by
 rw[aZ,XG h,aO,eh]
theorem Cj {o:LV} {hs:List (LV)} (V:VS o hs):DP 141 [hF o hs] (.d (hF (aZ o) (eZ hs))):=by
 refine dg Tryz.func141 [11,9000031] ?_;have h:=V.GD;refine ah.mk' (gp V) ?_;repeat' first|apply ab.t|apply ab.f
 refine ah.mk' (zC o (fL V.vo)) ?_;refine Loop.by (α:=Nat) (λi=>[(2,.ptr 2 0),(3,.ptr 3 0),(15,.d (.one (hS hs))),(16,an hs.length),(17,an i)]) (λi=>[(2,.box [.v AX,.v AX]),(3,.obj [.s (aS (aZ o)),.aL 500 0]),(500,.aJ 0 i 1 42 λi _=>aS (aZ (hs.getD i [])))]) (λi=>i<=hs.length) (λi=>hs.length-i)
  (aH.rp 3 1 500 1 42 (λi _=>aS (aZ (hs.getD i []))) _ _ rfl rfl rfl rfl (aH.at 0 (XS _) (.cX (.cons (.obj (.cons (.s (aC.refl _)) (.cons (.aL (by intro q;cases q) rfl rfl) .nil))) (.cons (.bj rfl (λi a _ _=>absurd a (XL _))) .nil))) (.cB (.cons (.ptr (by intro q;cases q)) (.cS (.cS (.cS .nil)))))))
  (λi a=>?_)
 refine ab.mk (λc=>?_) (λc=>?_);have g:i<hs.length:=(by have:=XB c;omega);refine aj.o ?_;refine ah.mk' (zC (hs.getD i []) (fL (V.vh i g))) ?_;refine aj.mk (aY) ?_;refine aj.n ?_;refine aH.back (x:=i) (i+1) (by show i+1<=_;omega) (by omega) (.cX (.cons (.obj (.cons (.s (aC.refl _)) (.cons (.aL (by intro q;cases q) rfl rfl) .nil))) (.cons (.bj rfl (λk l j b=>?_)) .nil))) (.cB (.cons (.ptr (by intro q;cases q)) (.cS (.cS (.cons (ao.int (by rw[hw _];omega)) .nil)))));obtain rfl:j=0:=(by omega);refine aC.bif (λ_=>aC.refl _) (λm=>?_);obtain rfl:k=i:=(by omega);rw[YM];exact aC.refl _
 ·obtain rfl:i=hs.length:=(by have:=XA c;omega);have f:∀i,i<hs.length->0<(aZ (hs.getD i [])).length:=λi a=>by rw[qN (V.vh i a)];have:=(ez.1 (V.vh i a)).three;omega
  refine xX.mk' (sr (cv:= .s (.fn 199 0 λ_=> .v Go.undef)) (ks:=[]) (cf:=VG hs) rfl rfl rfl Qu rfl (enters_of Tryz.func48 rfl) rfl rfl rfl rfl (.s _) (by simp) (DS hs.length λi=>gt (aZ (hs.getD i [])) 0) (by omega) (λi j a b=>FX _ _ (f i a) (f j b))) ?_;refine⟨aH.s8 3 500 _ [.s (aS (aZ o)),.s (.sl hs.length 1 λi _=>aS (aZ (hs.getD (oN hs.length (VG hs) i) [])))] 0 _ 1 42 _ rfl rfl (.same (.shut .nil)) (aH.id ?_)⟩;refine Fin.d (dV.agg (.cons (aC.refl _) (.cons (aC.qo (by rw[oA]) (λi a j b=>aC.of_eq ?_)) .nil)));simp[eZ,List.getD,a]
def aA (o:LV) (hs:List (LV)):LV:=(aZ o::eZ hs).flatten
theorem Jl {A B:List (LV)} (h:A.Perm B):aF A=aF B:=(h.map _).sum_nat
theorem nZ {o:LV} {hs:List (LV)} (V:VS o hs):aF (aZ o::eZ hs)=aF (o::hs):=by
 have a:=Jl (lL hs);have b:aF (hs.map aZ)=aF hs:=by unfold aF;rw[Yq];congr 1;refine Yx (λr c=>qN (V.ring (by simp[c])))
 show(aZ o).length+aF (eZ hs)=o.length+aF hs;rw[a,b,qN V.vo]
theorem vE {o:LV} {hs:List (LV)} (V:VS o hs):DP 139 [hF o hs] (.eG [.one (aS (aA o hs)),.one (i64 0)]):=by
 refine dg Tryz.func139 [] ?_;have l:=V.GD;have m:=V.er;refine ah.mk' (gp V) ?_;repeat' first|apply ab.t|apply ab.f
 refine ah.mk' (Cj V) ?_;have p:=nZ V;refine ah.mk' (iy (aZ o) (eZ hs) (by rw[oA];omega) (λr g=>Yf (my g) (by omega))) ?_;unfold aA;have q:(aZ o::eZ hs).length<=7:=by simp[oA];omega
 generalize aZ o::eZ hs=L at*;refine Loop.by (α:=Nat) (λi=>[(4,.aL 501 0),(12,.d (.one (hS L))),(13,an L.length),(14,an i)]) (λi=>[(501,.aJ 0 (L.take i).flatten.length 2 50 (vG (L.take i).flatten))]) (λi=>i<=L.length) (λi=>L.length-i)
  (aH.nil 4 501 2 50 (vG []) rfl rfl (aH.at 0 (XS _) (.cons (.bj (by simp) (λi a=>absurd a (XL i))) .nil) (.cH (.cS (.cS (.cS .nil))))))
  (λi a=>?_)
 refine ab.mk (λb=>?_) (λb=>?_);have h:i<L.length:=(by have:=XB b;omega);have c:=td h;have f:(L.take (i+1)).flatten.length<=40000:=(by rw[gk];exact Yf (eQ L (i+1)) (by omega));rw[c,XR]at f;have t:(L.take i).flatten.length+(L.getD (i:Int).toNat []).length<=40000:=f;refine aj.o ?_;refine aj.mk (aY) ?_;refine aH.back (x:=i) (i+1) (by show i+1<=_;omega) (by omega) (.cons (.bj (by rw[c,XR];rfl) (λi a j k=>by rw[c];exact se)) .nil) (.cH (.cS (.cS (.cons (ao.int (by rw[hw _];omega)) .nil))));have:L.take i=L:=ZW (by have:=XA b;omega);exact Fin.eG (.cons (dV.one (aC.qo (by rw[this]) (λi a j k=>by rw[this];exact aC.refl _))) (.cR .nil))
def zN (s t:cc):Bool:=decide ((dz s t).kind=0)||(decide ((dz s t).kind=1)&&(decide (s.a=t.a)||decide (s.a=t.b)||decide (s.b=t.a)||decide (s.b=t.b)))
theorem Ef (s t:cc):DP 229 [sD s,sD t] (aD (zN s t)):=by
 refine dg Tryz.func229 [] ?_;refine ah.int (kS s t) (λm j=>?_);unfold zN;rw[<-j];refine ab.mk (λa=>?_) (λa=>?_);have e:m=0:=(by simpa using a);exact Fin.bool (by rw[e];rfl)
 ·have e:m≠0:=(by simpa using a);refine ab.mk (λb=>?_) (λb=>?_)
  ·have c:m=1:=(by simpa using b);rw[c];refine tB.v s.a t.a (λf q=>?_);have k:decide (s.a=t.a)=f:=(by cases f<;>simp_all);rw[k];cases f with
   |true=>
    repeat' first|refine ab.t ?_|refine ab.f ?_|refine aj.n ?_|fail
    exact Fin.bool rfl
   |false=>
    repeat' first|refine ab.t ?_|refine ab.f ?_|refine aj.n ?_|fail
    refine tB.v s.a t.b (λg r=>?_);have l:decide (s.a=t.b)=g:=(by cases g<;>simp_all);rw[l];cases g with
    |true=>
     repeat' first|refine ab.t ?_|refine ab.f ?_|refine aj.n ?_|fail
     exact Fin.bool rfl
    |false=>
     repeat' first|refine ab.t ?_|refine ab.f ?_|refine aj.n ?_|fail
     refine tB.v s.b t.a (λh u=>?_);have o:decide (s.b=t.a)=h:=(by cases h<;>simp_all);rw[o];cases h with
     |true=>
      repeat' first|refine ab.t ?_|refine ab.f ?_|refine aj.n ?_|fail
      exact Fin.bool rfl
     |false=>
      repeat' first|refine ab.t ?_|refine ab.f ?_|refine aj.n ?_|fail
      refine tB.v s.b t.b (λi w=>?_);have p:decide (s.b=t.b)=i:=(by cases i<;>simp_all);rw[p];repeat' first|refine ab.t ?_|refine ab.f ?_|refine aj.n ?_|fail
      exact Fin.bool rfl
  ·have c:m≠1:=(by simpa using b);exact Fin.bool (by rw[X1 e,X1 c];rfl)
structure QV (p:V2):Prop where
 x0: -8000<=p.x
 x1:p.x<=8000
 y0: -8000<=p.y
 y1:p.y<=8000
def yg (c:cc):P3:=if(c.a.x+c.b.x).tmod 2=0/\(c.a.y+c.b.y).tmod 2=0 then⟨(c.a.x+c.b.x).tdiv 2,(c.a.y+c.b.y).tdiv 2,1⟩else⟨c.a.x+c.b.x,c.a.y+c.b.y,2⟩
theorem LP (c:cc) (f:QV c.a) (g:QV c.b):DP 241 [sD c] (.d (pD (yg c))):=by
 refine dg Tryz.func241 [3] ?_;have o:=f.x0;have p:=f.x1;have q:=f.y0;have r:=f.y1;have t:=g.x0;have u:=g.x1;have w:=g.y0;have z:=g.y1;have ex:IntKind.i64.wrap (c.a.x+c.b.x)=c.a.x+c.b.x:=hw _;have k:IntKind.i64.wrap (c.a.y+c.b.y)=c.a.y+c.b.y:=hw _;refine aj.n ?_;refine Cut.mk (aH.iC [(2,.ptr 2 0),(3,an (c.a.x+c.b.x)),(4,an (c.a.y+c.b.y))] [(2,.box [i64 0,i64 0,i64 0])]
  (.cX .nil) (.cB (.cons (ao.int ex) (.cons (ao.int k) .nil))) ?_)
 unfold yg;have l: -16000<=c.a.x+c.b.x/\c.a.x+c.b.x<=16000:=by omega
 have m: -16000<=c.a.y+c.b.y/\c.a.y+c.b.y<=16000:=by omega
 generalize c.a.x+c.b.x=x at l;generalize c.a.y+c.b.y=y at m;refine aj.mk (by decide) ?_;refine ab.mk (λa=>?_) (λa=>?_)
 ·have i:x.tmod 2=0:=(by simpa using a);have A:x.tdiv 2*2=x:=Int.tdiv_mul_cancel (Int.dvd_of_tmod_eq_zero i);repeat' first|refine ab.dA a ?_|refine ab.cP a ?_|refine ab.t ?_|refine ab.f ?_|fail
  refine aj.mk (by decide) ?_;repeat' first|refine ab.dA a ?_|refine ab.cP a ?_|refine ab.t ?_|refine ab.f ?_|fail
  refine ab.mk (λb=>?_) (λb=>?_)
  ·have j:y.tmod 2=0:=(by simpa using b);have B:y.tdiv 2*2=y:=Int.tdiv_mul_cancel (Int.dvd_of_tmod_eq_zero j);repeat' first|refine ab.dA b ?_|refine ab.cP b ?_|refine ab.dA a ?_|refine ab.cP a ?_|refine ab.t ?_|refine ab.f ?_|fail
   refine aj.mk (by decide) ?_;refine aj.mk (by decide) ?_;rw[XG ⟨i,j⟩];exact Fin.d (dV.of_eq (by rw[hw (x.tdiv 2),hw (y.tdiv 2)];rfl))
  ·have j:¬y.tmod 2=0:=(by simpa using b);repeat' first|refine ab.dA b ?_|refine ab.cP b ?_|refine ab.dA a ?_|refine ab.cP a ?_|refine ab.t ?_|refine ab.f ?_|fail
   rw[XD (λh=>j h.2)];exact Fin.d (dV.refl _)
 ·have i:¬x.tmod 2=0:=(by simpa using a);repeat' first|refine ab.dA a ?_|refine ab.cP a ?_|refine ab.t ?_|refine ab.f ?_|fail
  rw[XD (λh=>i h.1)];exact Fin.d (dV.refl _)
theorem Nf {o:LV} {hs:List (LV)} (V:VS o hs) (E:List cc) (y:E.length<=40000) (c:cc) (l:QV c.a) (m:QV c.b):
  DP 230 [hF o hs,.one (nh E),sD c] (aD (bJ E.length (λi=>zN (bm E i) c)&&decide (JN o hs (yg c)=2))):=by
 refine dg Tryz.func230 [] ?_;refine Loop.by (α:=Nat) (λi=>[(3,.ptr 3 0),(5,.ptr 5 0),(9,.d (.one (nh E))),(10,an E.length),(11,an i)]) (λ_=>[(3,.box [aS o,hS hs]),(5,.box (sL c))]) (λi=>i<=E.length/\∀j,j<i->zN (bm E j) c=true) (λi=>E.length-i)
  (aH.at 0 ⟨XS _,λj h=>absurd h (XL _)⟩ (.cX (.cX .nil)) (.cB (.cB (.cS (.cS (.cS .nil)))))) (λi g=>?_)
 refine ab.mk (λa=>?_) (λa=>?_)
 ·have p:i<E.length:=(by have:=XB a;omega);refine aj.o ?_;refine ah.bool (Ef (bm E i) c) (λq k=>?_);refine ab.mk (λb=>?_) (λb=>?_);have r:zN (bm E i) c=false:=(by rw[<-k];simpa using b);exact Fin.bool (by rw[bS i p r];rfl)
  ·have f:zN (bm E i) c=true:=(by rw[<-k];simpa using b);exact aH.back (x:=i) (i+1) ⟨by omega,λj z=>by
    by_cases e:j=i;subst e;exact f
    ·exact g.2 j (by omega)⟩ (by omega) (.cX (.cX .nil)) (.cB (.cB (.cS (.cS (.cons (ao.int (by rw[hw _];omega)) .nil)))))
 ·obtain⟨A,u⟩:=g;obtain rfl:i=E.length:=(by have:=XA a;omega);have w:bJ E.length (λi=>zN (bm E i) c)=true:=aE.2 u;rw[w];refine ah.mk' (LP c l m) ?_;refine ah.int (yI V (yg c)) (λt f=>?_);refine aj.n ?_;exact Fin.bool (by rw[<-f];rfl)
abbrev Tt (c:cc):Nat->SV:=λj=>[SV.ad 4 λj=>(sL c).getD j (.v Go.undef)].getD j (.v Go.undef)
theorem I4 (c d:cc):DP 228 [sD d,.one (Tt c 0)] (aD (!zN c d)):=by
 refine dg Tryz.func228 [] ?_;refine ah.bool (Ef c d) (λb a=>?_);exact Fin.bool (by rw[a])
abbrev bf (l:List Dt) (i:Nat):Dt:=l.getD i (0,0)
abbrev kQ (l:List Dt):Nat->Nat->SV:=λi j=>match j with
 |0=>i64 ((bf l i).1:Int)
 |_=>i64 ((bf l i).2:Int)
abbrev ni (v:LV) (d:Dt):cc:=⟨gt v d.1,gt v d.2⟩
def IA (o:LV) (hs:List (LV)) (v:LV) (acc:List Dt) (c:Dt):Bool:=
 (bJ acc.length λi=>zN (ni v c) (ni v (bf acc i)))&&(bJ (dE (o::hs)).length (λi=>zN (bm (dE (o::hs)) i) (ni v c))&&decide (JN o hs (yg (ni v c))=2))
def uv (n i:Nat):Nat->Nat->List Dt
 |0,_=>[]
 |m+1,k=>(i,k)::uv n i m (k+1)
def fV (n:Nat):Nat->Nat->List Dt
 |0,_=>[]
 |m+1,i=>uv n i (n-(i+1)) (i+1)++fV n m (i+1)
def qQ (o:LV) (hs:List (LV)) (v:LV):List Dt:=cn (IA o hs v) [] (fV v.length v.length 0)
theorem ot (l:List Dt) (d:Dt) (i j:Nat) (hi:i<l.length+1) (a:j<2):aC (bif Nat.blt i l.length then kQ l i j else[i64 (d.1:Int),i64 (d.2:Int)].getD ((i-l.length)*2+j) (.v Go.undef)) (kQ (l++[d]) i j):=by
 refine aC.bif (λh=>?_) (λh=>?_);have:bf (l++[d]) i=bf l i:=(by simp[List.getD,Yo,h]);refine aC.of_eq ?_;unfold kQ;rw[this]
 ·obtain rfl:i=l.length:=(by omega);have:bf (l++[d]) l.length=d:=(by simp[List.getD]);refine aC.of_eq ?_;unfold kQ;rw[this,YM]
  match j,a with
  |0,_=>rfl
  |1,_=>rfl
theorem GJ (l:List cc) (d:cc) (i j:Nat) (hi:i<l.length+1) (a:j<4):aC (bif Nat.blt i l.length then sG l i j else[i64 d.a.x,i64 d.a.y,i64 d.b.x,i64 d.b.y].getD ((i-l.length)*4+j) (.v Go.undef)) (sG (l++[d]) i j):=by
 refine aC.bif (λh=>?_) (λh=>?_);have:bm (l++[d]) i=bm l i:=(by simp[List.getD,Yo,h]);exact aC.of_eq (KQ this.symm j)
 ·obtain rfl:i=l.length:=(by omega);have:bm (l++[d]) l.length=d:=(by simp[List.getD]);refine aC.of_eq ?_;unfold sG;rw[this,YM]
  match j,a with
  |0,_=>rfl
  |1,_=>rfl
  |2,_=>rfl
  |3,_=>rfl
set_option maxRecDepth 2000 in
theorem OL {o:LV} {hs:List (LV)} (V:VS o hs) (v:LV) (X:v.length<=80) (G:∀i,i<v.length->QV (gt v i)):
  DP 200 [hF o hs,.one (aS v)] (.d (.one (.sl (qQ o hs v).length 2 (kQ (qQ o hs v))))):=by
 refine dg Tryz.func200 [] ?_;have Y:=V.er;have K:(dE (o::hs)).length<=40000:=Yf (rL _) (by omega);refine ah.mk' (nE o hs) ?_;unfold qQ;have H:∀p c,IA o hs v p c=((bJ p.length λi=>zN (ni v c) (ni v (bf p i)))&&(bJ (dE (o::hs)).length (λi=>zN (bm (dE (o::hs)) i) (ni v c))&&decide (JN o hs (yg (ni v c))=2))):=λ_ _=>rfl;generalize IA o hs v=t at H|-;have M:∀c:cc,QV c.a->QV c.b->DP 230 [hF o hs,.one (nh (dE (o::hs))),sD c] (aD (bJ (dE (o::hs)).length (λi=>zN (bm (dE (o::hs)) i) c)&&decide (JN o hs (yg c)=2))):=λc=>Nf V _ K c;generalize dE (o::hs)=E at*;refine Loop.by (α:=Nat×List Dt) (λx=>[(1,.d (.one (aS v))),(2,.ptr 2 0),(5,.d (.one (nh E))),(6,.aL 501 0),(7,.aL 502 0),(15,an v.length),(16,an x.1)]) (λx=>[(2,.box [aS o,hS hs]),(501,.aJ 0 x.2.length 2 83 (kQ x.2)),(502,.aJ 0 (x.2.map (ni v)).length 4 163 (sG (x.2.map (ni v))))])
  (λx=>x.1<=v.length/\x.2.length<=x.1*80/\cn t x.2 (fV v.length (v.length-x.1) x.1)=cn t [] (fV v.length v.length 0)) (λx=>v.length-x.1)
  (aH.nil 6 501 2 83 (kQ []) rfl rfl (aH.nil 7 502 4 163 (sG []) rfl rfl (aH.at (0,[]) ⟨XS _,XS _,rfl⟩ (.cX (.cons (.bj rfl (λi l=>absurd l (XL i))) (.cons (.bj rfl (λi l=>absurd l (XL i))) .nil))) (.cS (.cB (.cS (.cH (.cH (.cS (.cS .nil))))))))))
  (λx y=>?_)
 obtain⟨i,p⟩:=x;obtain⟨l,N,r⟩:=y;simp only at l N r;refine ab.mk (λz=>?_) (λz=>?_)
 ·have A:i<v.length:=(by have:=XB z;omega);have I:IntKind.i64.wrap ((i:Int)+1)=((i+1:Nat):Int):=(by rw[hw _];omega);rw[show v.length-i=(v.length-(i+1))+1 by omega]at r;simp only[fV]at r;refine Loop.by (α:=Nat×List Dt) (λx=>[(1,.d (.one (aS v))),(2,.ptr 2 0),(5,.d (.one (nh E))),(6,.aL 501 0),(7,.aL 502 0),(8,an i),(9,an x.1),(15,an v.length),(16,an i)]) (λx=>[(2,.box [aS o,hS hs]),(501,.aJ 0 x.2.length 2 83 (kQ x.2)),(502,.aJ 0 (x.2.map (ni v)).length 4 163 (sG (x.2.map (ni v))))])
   (λx=>i+1<=x.1/\x.1<=v.length/\x.2.length<=i*80+x.1/\cn t x.2 (uv v.length i (v.length-x.1) x.1++fV v.length (v.length-(i+1)) (i+1))=cn t [] (fV v.length v.length 0)) (λx=>v.length-x.1)
   (aH.at (i+1,p) ⟨XP _,A,by show p.length<=i*80+(i+1);omega,r⟩ (.cX (.cons (.bj rfl (λi l j g=>aC.refl _)) (.cons (.bj rfl (λi l j g=>aC.refl _)) .nil))) (.cS (.cB (.cS (.cH (.cH (.cS (.cons (ao.int I) (.cS (.cS .nil))))))))))
   (λx y=>?_)
  obtain⟨k,f⟩:=x;obtain⟨O,P,Q,m⟩:=y;simp only at O P Q m;refine ab.mk (λB=>?_) (λB=>?_)
  ·have w:k<v.length:=(by have:=XB B;omega);have C:IntKind.i64.wrap ((k:Int)+1)=((k+1:Nat):Int):=(by rw[hw _];omega);rw[show v.length-k=(v.length-(k+1))+1 by omega]at m;simp only[uv,YG,cn]at m;have u:=H f (i,k);refine aj.o ?_;refine aj.o ?_;refine aj.n ?_;have R:∀j,j<f.length->bm (f.map (ni v)) j=ni v (bf f j):=λj g=>by simp[List.getD,g]
   have J:t f (i,k)=false->cn t f (uv v.length i (v.length-(k+1)) (k+1)++fV v.length (v.length-(i+1)) (i+1))=cn t [] (fV v.length v.length 0):=λh=>by rw[h,XD (by simp)]at m;exact m
   refine ah.bool (PW (f.map (ni v)) 228 1 (Tt (ni v (i,k))) (λj=>!zN (ni v (i,k)) (ni v (bf f j))) (by rw[X9];omega) (λj g=>by rw[X9]at g;rw[R j g];exact I4 _ _)) (λb D=>?_);have D:(bJ f.length λj=>zN (ni v (i,k)) (ni v (bf f j)))=!b:=(by rw[D,X9];simp);rw[D]at u;cases b with
   |true=>
    repeat' first|apply ab.t|apply ab.f
    exact aH.back (x:=(k,f)) (k+1,f) ⟨by show i+1<=k+1;omega,w,by show f.length<=i*80+(k+1);omega,J u⟩ (by show v.length-(k+1)<v.length-k;omega) (.cX (.cons (.bj rfl (λi l j g=>aC.refl _)) (.cons (.bj rfl (λi l j g=>aC.refl _)) .nil))) (.cS (.cB (.cS (.cH (.cH (.cS (.cons (ao.int C) (.cS (.cS .nil)))))))))
   |false=>
    repeat' first|apply ab.t|apply ab.f
    refine ah.bool (M (ni v (i,k)) (G i A) (G k w)) (λq S=>?_);rw[<-S]at u;cases q with
    |false=>
     repeat' first|apply ab.t|apply ab.f
     exact aH.back (x:=(k,f)) (k+1,f) ⟨by show i+1<=k+1;omega,w,by show f.length<=i*80+(k+1);omega,J u⟩ (by show v.length-(k+1)<v.length-k;omega) (.cX (.cons (.bj rfl (λi l j g=>aC.refl _)) (.cons (.bj rfl (λi l j g=>aC.refl _)) .nil))) (.cS (.cB (.cS (.cH (.cH (.cS (.cons (ao.int C) (.cS (.cS .nil)))))))))
    |true=>
     repeat' first|apply ab.t|apply ab.f
     rw[u,XG (by rfl)]at m;have Z:(k,f).snd.length<=10000:=(by show f.length<=_;omega);refine aj.mk (aY (by rw[X9];omega)) ?_;refine aj.mk (aY) ?_;refine aH.back (x:=(k,f)) (k+1,f++[(i,k)]) ⟨by show i+1<=k+1;omega,w,by show(f++[(i,k)]).length<=i*80+(k+1);simp;omega,m⟩ (by show v.length-(k+1)<v.length-k;omega)
      (.cX (.cons (.bj (by simp) (λa F j g=>?_)) (.cons (.bj (by simp) (λa F j g=>?_)) .nil))) (.cS (.cB (.cS (.cH (.cH (.cS (.cons (ao.int C) (.cS (.cS .nil)))))))))
     ·exact ot f (i,k) a j F g
     ·rw[Ys];exact GJ (f.map (ni v)) (ni v (i,k)) a j F g
  ·have T:k=v.length:=(by have:=XA B;omega);subst T;rw[YM]at m;exact aH.back (x:=(i,p)) (i+1,f) ⟨A,by show f.length<=(i+1)*80;omega,m⟩ (by show v.length-(i+1)<v.length-i;omega) (.cX (.cons (.bj rfl (λi l j g=>aC.refl _)) (.cons (.bj rfl (λi l j g=>aC.refl _)) .nil))) (.cS (.cB (.cS (.cH (.cH (.cS (.cons (ao.int I) .nil)))))))
 ·have U:i=v.length:=(by have:=XA z;omega);subst U;rw[YM]at r;have r:p=cn t [] (fV v.length v.length 0):=r;rw[<-r];exact Fin.one (aC.qo rfl (λi l j g=>aC.refl _))
theorem ra {n i:Nat}:∀{m k:Nat} {c:Dt},c∈uv n i m k↔c.1=i/\k<=c.2/\c.2<k+m
 |0,k,c=>by simp only[uv,ZA,aap];omega
 |m+1,k,c=>by simp only[uv,XF,ra (m:=m)];constructor;rintro(rfl|h);simp;omega;rintro⟨a,b,f⟩;by_cases e:c.2=k;left;exact WE a e;right;omega
theorem lr {n:Nat}:∀{m i:Nat} {c:Dt},i+m=n->(c∈fV n m i↔i<=c.1/\c.1<c.2/\c.2<n)
 |0,i,c,h=>by simp only[fV,ZA,aap];omega
 |m+1,i,c,h=>by have:=lr (n:=n) (m:=m) (i:=i+1) (c:=c) (by omega);simp only[fV,XN,ra,this];omega
theorem wA {o:LV} {hs:List (LV)} {v:LV} {d:Dt} (h:d∈qQ o hs v):d.1<d.2/\d.2<v.length:=by
 rcases mF d h with k|k;cases k;have:=(lr (by omega)).1 k;omega
theorem mG {t:List Dt->Dt->Bool}:∀{cs acc:List Dt},(cn t acc cs).length<=acc.length+cs.length
 |[],acc=>by simp[cn]
 |c::cs,acc=>by simp only[cn];split;have:=mG (t:=t) (cs:=cs) (acc:=acc++[c]);simp at this|-;omega;have:=mG (t:=t) (cs:=cs) (acc:=acc);simp;omega
theorem wh {n i:Nat}:∀{m k:Nat},(uv n i m k).length=m
 |0,_=>rfl
 |m+1,k=>by simp[uv,wh (m:=m)]
theorem yP {n:Nat}:∀{m i:Nat},(fV n m i).length<=m*n
 |0,_=>by simp[fV]
 |m+1,i=>by have:=yP (n:=n) (m:=m) (i:=i+1);simp only[fV,XR,wh,aah];omega
theorem u2 {o:LV} {hs:List (LV)} {v:LV} (h:v.length<=80:=by omega):(qQ o hs v).length<=6400:=by
 have a:=mG (t:=IA o hs v) (cs:=fV v.length v.length 0) (acc:=[]);have b:=yP (n:=v.length) (m:=v.length) (i:=0);have c:=ZS h h;simp only[Wy]at a;unfold qQ;omega
variable {p:V2}
theorem DU {o:LV} {hs:List (LV)}:p∈aA o hs↔∃r∈aZ o::hs.map aZ,p∈r:=by
 unfold aA;rw[Zi];constructor;rintro⟨r,a,b⟩;refine⟨r,?_,b⟩;rcases XF.1 a with h|h;rw[h];simp;exact XK _ ((lL hs).mem_iff.1 h);rintro⟨r,a,b⟩;refine⟨r,?_,b⟩;rcases XF.1 a with h|h;rw[h];simp;exact XK _ ((lL hs).mem_iff.2 h)
theorem jR {o:LV} {hs:List (LV)} (V:VS o hs):(aA o hs).length=aF (o::hs):=by
 unfold aA;rw[gk,nZ V]
theorem xI {l:LV}:p∈aO l->p∈l:=by
 intro h;rcases XN.1 h with k|k;exact List.mem_of_mem_drop k;exact List.mem_of_mem_take k
theorem DW {l:LV} (h:p∈aZ l):p∈l:=by
 unfold aZ at h;split at h;exact xI h;cases h
theorem VS.in4 {o:LV} {hs:List (LV)} (V:VS o hs) (h:p∈aA o hs):QV p:=by
 obtain⟨r,c,b⟩:=DU.1 h;obtain⟨a,f,g⟩:∃a,a∈o::hs/\p∈a:=by rcases XF.1 c with k|k;exact⟨o,by simp,DW (k▸b)⟩;obtain⟨q,i,rfl⟩:=XQ.1 k;exact⟨q,by simp[i],DW b⟩
 have:=Zj.1 (ez.1 (V.ring f)).fE p g;simp only[aP,XH,XU,ng]at this;rw[show cp (0-2000)= -2000 from wid]at this;exact⟨by omega,by omega,by omega,by omega⟩
abbrev T0 (v:LV) (D:List Dt):Nat->Nat->SV:=λi j=>match j with
 |0=>i64 (gt v (bf D i).1).x
 |1=>i64 (gt v (bf D i).1).y
 |2=>i64 (gt v (bf D i).2).x
 |_=>i64 (gt v (bf D i).2).y
theorem MX {o:LV} {hs:List (LV)} (V:VS o hs):DP 142 [hF o hs] (.eG [.one (.sl (qQ o hs (aA o hs)).length 4 (T0 (aA o hs) (qQ o hs (aA o hs)))),.one (i64 0)]):=by
 refine dg Tryz.func142 [] ?_;have p:=V.er;refine ah.mk' (vE V) ?_;repeat' first|apply ab.t|apply ab.f
 have q:=jR V;refine ah.mk' (OL V (aA o hs) (by omega) (λi b=>V.in4 (by simp[List.getD,b]))) ?_;have l:∀d∈qQ o hs (aA o hs),d.1<(aA o hs).length/\d.2<(aA o hs).length:=λd c=>by have:=wA c;omega
 have r:=u2 (o:=o) (hs:=hs) (v:=aA o hs);generalize qQ o hs (aA o hs)=D at*;generalize aA o hs=v at*;refine Loop.by (α:=Nat) (λi=>[(4,.d (.one (aS v))),(6,.aL 501 0),(19,.d (.one (.sl D.length 2 (kQ D)))),(20,an D.length),(21,an i)]) (λi=>[(501,.aJ 0 ((D.take i).map (ni v)).length 4 163 (sG ((D.take i).map (ni v))))]) (λi=>i<=D.length) (λi=>D.length-i)
  (aH.nil 6 501 4 163 (sG []) rfl rfl (aH.at 0 (XS _) (.cons (.bj rfl (λi b=>absurd b (XL i))) .nil) (.cS (.cH (.cS (.cS (.cS .nil)))))))
  (λi b=>?_)
 refine ab.mk (λf=>?_) (λf=>?_);have h:i<D.length:=(by have:=XB f;omega);have c:=l (bf D i) (by simp[List.getD,h]);have k:(D.take (i+1)).map (ni v)=(D.take i).map (ni v)++[ni v (bf D i)]:=(by rw[YC,Ys];simp[List.getD,h]);have t:(bf D (i:Int).toNat).1<v.length:=c.1;have u:(bf D (i:Int).toNat).2<v.length:=c.2;refine aj.o ?_;refine aj.mk (by decide) ?_;refine aj.o ?_;refine aj.mk (by decide) ?_;refine aj.o ?_;have w:(D.take i).length<=6400:=(by rw[Yu];omega);refine aj.mk (aY (by rw[X9];omega)) ?_;refine aj.n ?_;refine aH.back (x:=i) (i+1) (by show i+1<=_;omega) (by omega) (.cons (.bj (by rw[k,XR];rfl) (λa m j g=>?_)) .nil) (.cS (.cH (.cS (.cS (.cons (ao.int (by rw[hw _];omega)) .nil)))));rw[k];exact GJ _ (ni v (bf D i)) a j m g
 ·have:D.take i=D:=ZW (by have:=XA f;omega);rw[this];refine Fin.eG (.cons (dV.one (aC.qo (by rw[X9]) (λi b j g=>aC.of_eq ?_))) (.cR .nil));rw[X9]at b;have e:bm (D.map (ni v)) i=ni v (bf D i):=(by simp[List.getD,b]);unfold sG;rw[e]
  match j,g with
  |0,_=>rfl
  |1,_=>rfl
  |2,_=>rfl
  |3,_=>rfl
def Dr (d:V2):Int:=if bn d=true then 0 else 1
theorem Ds (d:V2):DP 203 [vD d] (an (Dr d)):=by
 refine dg Tryz.func203 [] ?_;have f:bn d=true↔0<d.y\/(d.y=0/\0<d.x):=by unfold bn;rw[XU];exact ZC
 have g:(0<d.y\/(d.y=0/\0<d.x))->Dr d=0:=λh=>by unfold Dr;rw[XG (f.2 h)]
 have i:¬(0<d.y\/(d.y=0/\0<d.x))->Dr d=1:=λh=>by unfold Dr;rw[XD (λk=>h (f.1 k))]
 refine ab.mk (λa=>?_) (λa=>?_)
 ·have j:0<d.y:=XB a;repeat' first|refine ab.dA a ?_|refine ab.cP a ?_|refine ab.t ?_|refine ab.f ?_|fail
  exact Fin.int (g (.inl j)).symm
 ·have j:¬0<d.y:=XA a;repeat' first|refine ab.dA a ?_|refine ab.cP a ?_|refine ab.t ?_|refine ab.f ?_|fail
  refine ab.mk (λb=>?_) (λb=>?_)
  ·have l:d.y=0:=(by simpa using b);repeat' first|refine ab.dA b ?_|refine ab.cP b ?_|refine ab.dA a ?_|refine ab.cP a ?_|refine ab.t ?_|refine ab.f ?_|fail
   refine ab.mk (λc=>?_) (λc=>?_);exact Fin.int (g (.inr ⟨l,XB c⟩)).symm;have:=XA c;exact Fin.int (i (by omega)).symm
  ·have l:¬d.y=0:=(by simpa using b);repeat' first|refine ab.dA b ?_|refine ab.cP b ?_|refine ab.dA a ?_|refine ab.cP a ?_|refine ab.t ?_|refine ab.f ?_|fail
   exact Fin.int (i (by omega)).symm
abbrev nG (l:List Nat):Nat->Nat->SV:=λi _=>i64 ((l.getD i 0:Nat):Int)
abbrev nS (l:List Nat):SV:= .sl l.length 1 (nG l)
abbrev nbS (n:Nat) (nb:Nat->List Nat):SV:= .sl n 1 λi _=> .sl (nb i).length 1 (nG (nb i))
def Ub (v:LV) (p i k:Nat):Int:=if Dr (cT (gt v i) (gt v p))=Dr (cT (gt v k) (gt v p))then-cQ ⟨0,0⟩ (cT (gt v i) (gt v p)) (cT (gt v k) (gt v p))else Dr (cT (gt v i) (gt v p))-Dr (cT (gt v k) (gt v p))
theorem RB (n:Int): -1<=bM n/\bM n<=1:=by
 unfold bM;split;omega;(split<;>omega)
theorem ET (v:LV) (p i k:Nat) (c0 c1:Nat->SV) (m:c0 0= .ad 1 λ_=>aS v) (o:c1 0=i64 p) (t:p<v.length) (hi:i<v.length) (u:k<v.length):
  DP 202 [.one (i64 i),.one (i64 k),.one (.ad 1 c0),.one (.ad 1 c1)] (an (Ub v p i k)):=by
 refine kM.le (xL:=[.one (i64 i),.one (i64 k),.one (.ad 1 λj=>match j with|0=> .ad 1 (λ_=>aS v)|j=>c0 j),.one (.ad 1 λj=>match j with|0=>i64 p|j=>c1 j)]) (.cR (.cR (.cons (dV.of_eq ?_) (.cons (dV.of_eq ?_) .nil)))) ?_
 ·congr 2;funext j;cases j with
  |zero=>exact m.symm▸rfl
  |succ j=>rfl
 ·congr 2;funext j;cases j with
  |zero=>exact o.symm▸rfl
  |succ j=>rfl
 refine dg Tryz.func202 [] ?_;refine aj.o ?_;refine aj.o ?_;refine ah.v (bY (gt v i) (gt v p)) (λa q=>?_);refine aj.o ?_;refine aj.o ?_;refine ah.v (bY (gt v k) (gt v p)) (λb r=>?_);refine aj.n ?_;refine ah.int (Ds a) (λx g=>?_);refine ah.int (Ds b) (λy h=>?_);refine aj.n ?_;unfold Ub;rw[<-q,<-r,<-g,<-h];have w:0<=x/\x<=1:=by rw[g];unfold Dr;split<;>omega
 have A:0<=y/\y<=1:=by rw[h];unfold Dr;split<;>omega
 have c:IntKind.i64.wrap (x-y)=x-y:=hw _;refine ab.mk (λc1=>?_) (λc1=>?_);have f:¬x=y:=(by have:(IntKind.i64.wrap (x-y) !=0)=true:=c1;rw[c]at this;have:¬x-y=0:=(by simpa[bne]using this);omega);exact Fin.int (by rw[XD f,c]);have f:x=y:=(by have:(IntKind.i64.wrap (x-y) !=0)=false:=c1;rw[c]at this;have:x-y=0:=(by simpa[bne]using this);omega);refine ah.int (hN ⟨0,0⟩ a b) (λz l=>?_);have B: -1<=z/\z<=1:=(by rw[l];exact RB _);refine Fin.int ?_;rw[XG f,<-l];show IntKind.i64.wrap (0-z)= -z;rw[aal];exact hw _
abbrev Mx (v:LV) (nb:Nat->List Nat) (x:SV):Nat->SV:=λj=>match j with
 |0=>aS v
 |1=>nbS v.length nb
 |_=>x
theorem Dl (l:List Nat) (q:Nat) (c:l.length<=40000) (f:q∈l):DP 94 [.one (nS l),.one (i64 q)] (an (l.idxOf q)):=by
 refine kM.vi (Dm l.length (λi=>((l.getD i 0:Nat):Int)) q c) _ ?_;have a:=Z6.2 f;refine jN a (X8 ?_) (λj b=>X1 (λe=>?_));simp[List.getD,a];have e:l.getD j 0=q:=(by exact_mod_cast e);have:=List.not_of_lt_findIdx (p:=(·==q)) (xs:=l) b;have g:j<l.length:=Nat.lt_trans b a;rw[List.getD,XV g]at e;rw[show l[j]=q from e]at this;simp at this
theorem PR {l:List Nat} (b:l.Nodup) {q:Nat} (c:q∈l):bP l q=l.getD ((l.idxOf q+l.length-1)%l.length) 0:=by
 have f:=Z6.2 c;have a:=ox b f;rw[List.getElem_idxOf]at a;rw[a];generalize l.idxOf q=i at*;split
 ·next h=>subst h;rw[X6,mOf];simp[List.getD,show l.length-1<l.length by omega]
 ·next h=>rw[show i+l.length-1=(i-1)+l.length by omega,YE,mOf];simp[List.getD,show i-1<l.length by omega]
theorem ud (v:LV) (nb:Nat->List Nat) (x:SV) (p q:Nat) (g:v.length<=40000) (h:p<v.length) (a:q∈nb p) (b:(nb p).Nodup) (c:(nb p).length<=40000):
  DP 47 [.one (.ad 3 (Mx v nb x)),.one (i64 p),.one (i64 q),.one (i64 (-1))] (an (bP (nb p) q:Nat)):=by
 refine dg Tryz.func47 [] ?_;have j:=Z6.2 a;rw[PR b a];refine aj.o ?_;refine ah.mk' (Dl (nb p) q c a) ?_;generalize (nb p).idxOf q=i at*;have e:IntKind.i64.wrap (IntKind.i64.wrap ((i:Int)+ -1)+(nb p).length)=((i+(nb p).length-1:Nat):Int):=by rw[hw ((i:Int)+ -1),hw _];omega
 have f:=kY (i+(nb p).length-1) (nb p).length;refine aj.mk (by rw[Yw];omega) ?_;refine aj.mk (by rw[Yw,e];exact f) ?_;refine Fin.int ?_;show(((nb p).getD (Int.toNat ((IntKind.i64.wrap (IntKind.i64.wrap ((i:Int)+ -1)+(nb p).length)).tmod (nb p).length)) 0:Nat):Int)=_;rw[e,kX]
theorem D9 (v:LV) (nb:Nat->List Nat) (x:SV) (p q:Nat) (f:v.length<=40000) (g:p<v.length) (a:q∈nb p) (b:(nb p).length<=40000):
  DP 47 [.one (.ad 3 (Mx v nb x)),.one (i64 p),.one (i64 q),.one (i64 1)] (an (JC (nb p) q:Nat)):=by
 refine dg Tryz.func47 [] ?_;have h:=Z6.2 a;unfold JC;refine aj.o ?_;refine ah.mk' (Dl (nb p) q b a) ?_;generalize (nb p).idxOf q=i at*;have e:IntKind.i64.wrap (IntKind.i64.wrap ((i:Int)+(1:Nat))+(nb p).length)=((i+1+(nb p).length:Nat):Int):=by rw[hw ((i:Int)+(1:Nat)),hw _];omega
 have c:=kY (i+1+(nb p).length) (nb p).length;refine aj.mk (by rw[Yw];omega) ?_;refine aj.mk (by rw[Yw,show(1:Int)=(1:Nat) from rfl,e];exact c) ?_;refine Fin.int ?_;show(((nb p).getD (Int.toNat ((IntKind.i64.wrap (IntKind.i64.wrap ((i:Int)+(1:Nat))+(nb p).length)).tmod (nb p).length)) 0:Nat):Int)=_;rw[e,kX,YE]
theorem PS {l:List Nat} {x:Nat} (h:x∈l):JC l x∈l:=by
 have:=List.length_pos_of_mem h;have a:=ZJ (l.idxOf x+1) this;unfold JC;simp[List.getD,a]
def Ew (v:LV) (nb:Nat->List Nat) (p q:Nat):Bool:=decide (cQ (gt v p) (gt v (bP (nb p) q)) (gt v (JC (nb p) q))>=0)
theorem zg (v:LV) (nb:Nat->List Nat) (x:SV) (p q:Nat) (f:v.length<=40000) (g:p<v.length) (c:q∈nb p) (j:(nb p).Nodup) (h:(nb p).length<=40000) (i:∀y∈nb p,y<v.length):
  DP 87 [.one (.ad 3 (Mx v nb x)),.one (i64 p),.one (i64 q)] (aD (Ew v nb p q)):=by
 refine dg Tryz.func87 [] ?_;have m:=i _ (ow (l:=nb p) (x:=q) (List.ne_nil_of_mem c));have o:=i _ (PS c);refine ah.mk' (ud v nb x p q f g c j h) ?_;refine ah.mk' (D9 v nb x p q f g c h) ?_;unfold Ew;generalize bP (nb p) q=a at*;generalize JC (nb p) q=b at*;refine aj.o ?_;refine aj.o ?_;refine aj.o ?_;refine ah.int (hN (gt v p) (gt v a) (gt v b)) (λz k=>?_);refine aj.n ?_;exact Fin.bool (by rw[<-k])
theorem Dk (l:LV) (i:Nat) (f:l.length<=40000) (hi:i<l.length) (h:∀j,j<i->gt l j≠gt l i):DP 143 [.one (aS l),vD (gt l i)] (an i):=by
 refine dg Tryz.func143 [] ?_;refine Loop.by (α:=Nat) (λk=>[(0,.d (.one (aS l))),(3,.ptr 3 0),(7,an l.length),(8,an k)]) (λ_=>[(3,.box (vL (gt l i)))]) (λk=>k<=i) (λk=>l.length-k)
  (aH.at 0 (XS _) (.cons (.box (gO.of_eq rfl)) .nil) (.cS (.cB (.cS (.cS .nil))))) (λk g=>?_)
 refine ab.dA (X8 (by omega)) ?_;refine aj.o ?_;refine tB.v (gt l i) (gt l k) (λq b=>?_);refine aj.n ?_;refine ab.mk (λa=>?_) (λa=>?_);refine Fin.int ?_;have e:=b.1 a;rcases Wu k i with c|c;exact absurd e.symm (h k c);omega
 ·have m:k≠i:=λe=>by have:q=true:=b.2 (by rw[e]);rw[this]at a;cases a
  refine aH.back (x:=k) (k+1) (by omega) (by omega) (.cons (.box (gO.of_eq rfl)) .nil) (.cS (.cB (.cS (.cons (ao.int ?_) .nil))));rw[hw _];omega
def lD (o1 o2 o3 k g gr:Nat) (v:LV) (nb:Nat->List Nat) (nx:List Nat):List (Id×Mem):=
 (.n o1,.obj [.s (aS v),.aL (.n o2) g,.aL (.n o3) g])::(.n o2,.br g v.length 1 22 λi _=> .aL (.s k i) gr)::(.n o3,.aJ g nx.length 1 3 (nG nx))::
  (DA k v.length (λi=> .aJ gr (nb i).length 1 3 (nG (nb i)))++[])
def r9 (o1 o2 o3 k g gr:Nat) (v:LV) (nb:Nat->List Nat) (nx:List Nat):Id->Mem:=
 MI (aX [(.n o1,.obj [.s (aS v),.aL (.n o2) g,.aL (.n o3) g]),(.n o2,.br g v.length 1 22 λi _=> .aL (.s k i) gr),(.n o3,.aJ g nx.length 1 3 (nG nx))]) k v.length λi=> .aJ gr (nb i).length 1 3 (nG (nb i))
variable {i:Nat}
section
variable {o1 o2 o3 k g gr:Nat} {v:LV} {nb:Nat->List Nat} {nx:List Nat}
theorem ca (h:i<v.length):r9 o1 o2 o3 k g gr v nb nx (.s k i)= .aJ gr (nb i).length 1 3 (nG (nb i)):=vj h
theorem vg (h:i<v.length):aX (lD o1 o2 o3 k g gr v nb nx) (.s k i)= .aJ gr (nb i).length 1 3 (nG (nb i)):=by
 show aX (DA k v.length (λi=> .aJ gr (nb i).length 1 3 (nG (nb i)))++[]) (.s k i)=_;rw[Fy _ _ _ _ _ h]
theorem bR (o:Id) (h:r9 o1 o2 o3 k g gr v nb nx o≠ .none):o= .n o1\/o= .n o2\/o= .n o3\/∃i,i<v.length/\o= .s k i:=by
 refine Xz λq=>h ?_;simp only[not_or,not_exists,not_and]at q;obtain⟨a,b,c,f⟩:=q;unfold r9;rw[xi f];simp only[aX];rw[av _ _ _ a,av _ _ _ b,av _ _ _ c]
end
structure JL (m:Id->Mem) (a b c k:Nat) (v:LV) (nb:Nat->List Nat) (nx:List Nat):Prop where
 obj:m (.n a)= .obj [.s (aS v),.aL (.n b) (m (.n b)).gen,.aL (.n c) (m (.n c)).gen]
 sh:∃g get,m (.n b)= .br g v.length 1 22 get/\∀i,i<v.length->get i 0= .aL (.s k i) (m (.s k i)).gen
 bw:∃g get,m (.n c)= .aJ g nx.length 1 3 get/\∀i,i<nx.length->aC (get i 0) (nG nx i 0)
 row:∀i,i<v.length->∃g get,m (.s k i)= .aJ g (nb i).length 1 3 get/\∀j,j<(nb i).length->aC (get j 0) (nG (nb i) j 0)
variable {k:Nat}
theorem oa {m m':Id->Mem} {a b c:Nat} {v:LV} {nb:Nat->List Nat} {nx:List Nat} (h:JL m a b c k v nb nx)
  (p:m' (.n b)= .br 0 v.length 1 22 λi _=> .aL (.s k i) 0) (q:m' (.n c)= .aJ 0 nx.length 1 3 (nG nx)) (r:∀i,i<v.length->m' (.s k i)= .aJ 0 (nb i).length 1 3 (nG (nb i))):fm m m' (lD a b c k 0 0 v nb nx):=by
 refine .cons ?_ (.cons ?_ (.cons ?_ (.fam (λi f=>?_) .nil)));rw[h.obj];exact .obj (.cons (.s (aC.refl _)) (.cons (.aL (by rw[p];simp) rfl (by rw[p];rfl)) (.cons (.aL (by rw[q];simp) rfl (by rw[q];rfl)) .nil)));obtain⟨g,t,e,l⟩:=h.sh;rw[e];refine .br (λi f j o=>?_) (λh=>absurd h (by decide));obtain rfl:j=0:=(by omega);rw[l i f];exact .aL (by rw[r i f];simp) rfl (by rw[r i f];rfl);obtain⟨g,t,e,l⟩:=h.bw;rw[e];refine .aJ (λi f j o=>?_) (λh=>absurd h (by decide));obtain rfl:j=0:=(by omega);exact l i f;obtain⟨g,t,e,l⟩:=h.row i f;rw[e];refine .aJ (λj o u w=>?_) (λh=>absurd h (by decide));obtain rfl:u=0:=(by omega);exact l j o
theorem VN (v:LV) (nb Je:Nat->List Nat) (nx:List Nat) (p:List DV) (g gr:Nat):Ei (.ptr (.n 2000) 0::p.map .d) (r9 2000 2001 2002 2003 1 1 v nb nx) (.eG []) (r9 2000 2001 2002 2003 g gr v Je nx) where
 hi o a:=by rcases bR o a with rfl|rfl|rfl|⟨i,hi,rfl⟩<;>simp[Lo]
 De o a:=by rcases bR o a with rfl|rfl|rfl|⟨i,hi,rfl⟩;exact .inr ⟨rfl,Nat.zero_lt_one⟩;exact .inr ⟨rfl,Nat.succ_pos 2⟩;exact .inr ⟨rfl,Nat.succ_pos 2⟩;right;rw[ca hi,ca hi];exact⟨rfl,Nat.succ_pos 2⟩
 cur:=trivial
 th o:=by by_cases a:r9 2000 2001 2002 2003 g gr v Je nx o= .none;rw[a];trivial;rcases bR o a with rfl|rfl|rfl|⟨i,hi,rfl⟩;intro c f;simp only[XF,ZA,WZ]at f;rcases f with rfl|rfl|rfl;trivial;exact rfl;exact rfl;intro i hi j l;show gr=(r9 2000 2001 2002 2003 g gr v Je nx (.s 2003 i)).gen;rw[ca hi];rfl;trivial;rw[ca hi];trivial
 closed o m a:=by
  by_cases k:r9 2000 2001 2002 2003 1 1 v nb nx o= .none;rw[k]at a;exact a.elim
  ·rcases bR o k with rfl|rfl|rfl|⟨i,hi,rfl⟩
   ·obtain⟨c,f,b⟩:=a;simp only[XF,ZA,WZ]at f;rcases f with rfl|rfl|rfl;exact b.elim;(cases b;exact λh=>by cases h)
    ·cases b;exact λh=>by cases h
   ·obtain⟨i,j,hi,l,b⟩:=a;cases b;rw[ca hi];simp
   ·exact a.elim
   ·rw[ca hi]at a;exact a.elim
 fS x q m a:=by
  rcases XF.1 q with rfl|h;(cases a;exact λh=>by cases h)
  ·obtain⟨y,_,rfl⟩:=XQ.1 h;exact a.elim
 clean o a:=a.elim
 pC o m a:=by
  by_cases k:r9 2000 2001 2002 2003 g gr v Je nx o= .none;rw[k]at a;exact a.elim
  ·rcases bR o k with rfl|rfl|rfl|⟨i,hi,rfl⟩
   ·obtain⟨c,f,b⟩:=a;simp only[XF,ZA,WZ]at f;rcases f with rfl|rfl|rfl;exact b.elim;(cases b;exact λh=>by cases h)
    ·cases b;exact λh=>by cases h
   ·obtain⟨i,j,hi,l,b⟩:=a;cases b;rw[ca hi];simp
   ·exact a.elim
   ·rw[ca hi]at a;exact a.elim
def Au (a b c k:Nat):Id->Id
 | .n j=>bif Nat.beq j 2000 then .n a else bif Nat.beq j 2001 then .n b else bif Nat.beq j 2002 then .n c else .n j
 | .s _ i=> .s k i
def s7 (m M1:Id->Mem) (a:Id->Id) (o:Id):Nat:=bif Nat.beq (M1 o).gen 1 then(m (a o)).gen else(m (a o)).gen+2
def Hm (m M1:Id->Mem) (a b c k:Nat) (v:LV) (nb:Nat->List Nat) (nx:List Nat):List (Id×Mem):=
 (.n a,.obj [.s (aS v),.aL (.n b) (s7 m M1 (Au a b c k) (.n 2001)),.aL (.n c) (s7 m M1 (Au a b c k) (.n 2002))])::(.n b,.br (s7 m M1 (Au a b c k) (.n 2001)) v.length 1 22 λi _=> .aL (.s k i) (s7 m M1 (Au a b c k) (.s 2003 i)))::
  (.n c,.aJ (s7 m M1 (Au a b c k) (.n 2002)) nx.length 1 3 (nG nx))::(DA k v.length (λi=> .aJ (s7 m M1 (Au a b c k) (.s 2003 i)) (nb i).length 1 3 (nG (nb i)))++[])
theorem dY:∀(l:List (Id×Mem)) (m:Id->Mem) (o:Id),(∀p∈l,p.1≠o)->cI m l o=m o
 |[],_,_,_=>rfl
 |p::l,m,o,h=>by simp only[cI];rw[dY l _ o (λq a=>h q (by simp[a])),av _ _ _ (λe=>h p (by simp) e.symm)]
theorem CH (k n:Nat) (f:Nat->Mem) (m:Id->Mem) (i:Nat) (hi:i<n):cI m (DA k n f) (.s k i)=f i:=by
 have b:∀(l:List Nat) (m:Id->Mem),l.Nodup->i∈l->cI m (l.map λi=>((.s k i,f i):Id×Mem)) (.s k i)=f i:=λl=>by
  induction l with
  |nil=>intro m _ h;cases h
  |cons x l c=>intro m a h;simp only[Yg,cI];by_cases e:i=x;subst e;rw[dY _ _ _ (λp g q=>by obtain⟨y,j,rfl⟩:=XQ.1 g;cases q;exact(Yy.1 a).1 j),ar];exact c _ (Yy.1 a).2 ((XF.1 h).resolve_left e)
 exact b (List.range n) m Wn (X4.2 hi)
theorem iF {n:Nat} {f:Nat->Mem} {o:Id} (h:∀i,i<n->o≠ .s k i):∀p∈DA k n f++[],p.1≠o:=λp a e=>by
 rw[YO]at a;obtain⟨i,b,rfl⟩:=XQ.1 a;exact h i (X4.1 b) e.symm
section
variable {m m':Id->Mem} {a b c k:Nat} {v:LV} {nb Je:Nat->List Nat} {nx:List Nat} {M1:Id->Mem}
theorem QH (f:a≠b) (g:a≠c):cI m' (Hm m M1 a b c k v nb nx) (.n a)= .obj [.s (aS v),.aL (.n b) (s7 m M1 (Au a b c k) (.n 2001)),.aL (.n c) (s7 m M1 (Au a b c k) (.n 2002))]:=by
 simp only[Hm,cI];rw[dY _ _ _ (iF (λi _ h=>by cases h)),av _ _ _ (by intro h;cases h;exact g rfl),av _ _ _ (by intro h;cases h;exact f rfl),ar]
theorem LK (f:b≠c):cI m' (Hm m M1 a b c k v nb nx) (.n b)= .br (s7 m M1 (Au a b c k) (.n 2001)) v.length 1 22 λi _=> .aL (.s k i) (s7 m M1 (Au a b c k) (.s 2003 i)):=by
 simp only[Hm,cI];rw[dY _ _ _ (iF (λi _ h=>by cases h)),av _ _ _ (by intro h;cases h;exact f rfl),ar]
theorem LJ:cI m' (Hm m M1 a b c k v nb nx) (.n c)= .aJ (s7 m M1 (Au a b c k) (.n 2002)) nx.length 1 3 (nG nx):=by
 simp only[Hm,cI];rw[dY _ _ _ (iF (λi _ h=>by cases h)),ar]
theorem A3 (hi:i<v.length):cI m' (Hm m M1 a b c k v nb nx) (.s k i)= .aJ (s7 m M1 (Au a b c k) (.s 2003 i)) (nb i).length 1 3 (nG (nb i)):=by
 simp only[Hm,cI];rw[YO,CH _ _ _ _ _ hi]
theorem A4 {o:Id} (f:o≠ .n a) (h2:o≠ .n b) (g:o≠ .n c) (h:∀i,i<v.length->o≠ .s k i):cI m' (Hm m M1 a b c k v nb nx) o=m' o:=by
 simp only[Hm,cI];rw[dY _ _ _ (iF h),av _ _ _ g,av _ _ _ h2,av _ _ _ f]
theorem LL (h:a≠b:=by decide) (j:a≠c:=by decide) (g:b≠c:=by decide):JL (cI m' (Hm m M1 a b c k v nb nx)) a b c k v nb nx where
 obj:=by rw[QH h j,LK g,LJ];rfl
 sh:=by rw[LK g];refine⟨_,_,rfl,λi f=>?_⟩;rw[A3 f];rfl
 bw:=by rw[LJ];exact⟨_,_,rfl,λi f=>aC.refl _⟩
 row i f:=by rw[A3 f];exact⟨_,_,rfl,λi f=>aC.refl _⟩
theorem TS (h:JL m a b c k v nb nx) (u:a≠b) (w:a≠c) (x:b≠c) (g gr:Nat) {p:List DV} {xs:List TV} (z:lP m (Au a b c k) xs (.ptr (.n 2000) 0::p.map .d)) (A:Option Nat):
  Qe m (Au a b c k) (s7 m (r9 2000 2001 2002 2003 g gr v Je nx) (Au a b c k)) xs (.ptr (.n 2000) 0::p.map .d) (r9 2000 2001 2002 2003 1 1 v nb nx) (r9 2000 2001 2002 2003 g gr v Je nx)
   (Hm m (r9 2000 2001 2002 2003 g gr v Je nx) a b c k v Je nx) [a,b,c,k] A where
 mem o l:=by rcases bR o l with rfl|rfl|rfl|⟨i,f,rfl⟩;show kd m _ (m (.n a)) (.obj [.s (aS v),.aL (.n 2001) 1,.aL (.n 2002) 1]);rw[h.obj];exact .obj (.cons (.s (aC.refl _)) (.cH (.cH .nil)));obtain⟨g,y,e,q⟩:=h.sh;show kd m _ (m (.n b)) _;rw[e];refine .br (λi f j t=>?_);obtain rfl:j=0:=(by omega);rw[q i f];exact .aL rfl rfl;obtain⟨g,y,e,q⟩:=h.bw;show kd m _ (m (.n c)) _;rw[e];refine .aJ (λi f j t=>?_);obtain rfl:j=0:=(by omega);exact q i f;obtain⟨g,y,e,q⟩:=h.row i f;show kd m _ (m (.s k i)) _;rw[e,ca f];refine .aJ (λj t B K=>?_);obtain rfl:B=0:=(by omega);exact q j t
 args:=z
 inj o C q D e:=by have s0:Au a b c k (.n 2000)= .n a:=rfl;have E:Au a b c k (.n 2001)= .n b:=rfl;have F:Au a b c k (.n 2002)= .n c:=rfl;have G:∀i,Au a b c k (.s 2003 i)= .s k i:=λ_=>rfl;have H:=u.symm;have I:=w.symm;have J:=x.symm;rcases bR o q with rfl|rfl|rfl|⟨i,f,rfl⟩<;>rcases bR C D with rfl|rfl|rfl|⟨j,t,rfl⟩<;>simp only[s0,E,F,G,Id.n.injEq,Id.s.injEq,reduceCtorEq,aaD]at e<;>first|rfl|exact absurd e u|exact absurd e w|exact absurd e x|exact absurd e H|exact absurd e I|exact absurd e J|rw[e]
 key o l:=by rcases bR o l with rfl|rfl|rfl|⟨i,f,rfl⟩;exact XW ..;exact XK _ (XW ..);exact XK _ (XK _ (XW ..));exact XK _ (XK _ (XK _ (XW ..)))
 fresh o r q:=by exfalso;rcases bR o q with rfl|rfl|rfl|⟨i,f,rfl⟩;cases r;cases r;cases r;rw[ca f]at r;cases r
 gen o l:=rfl
 Hl m' o l:=by rcases bR o l with rfl|rfl|rfl|⟨i,f,rfl⟩;exact(QH u w).trans rfl;exact(LK x).trans rfl;exact LJ.trans rfl;rw[ca f];exact(A3 f).trans rfl
 A2 m' o l:=by refine A4 (λe=>l (.n 2000) (by intro h;cases h) e.symm) (λe=>l (.n 2001) (by intro h;cases h) e.symm) (λe=>l (.n 2002) (by intro h;cases h) e.symm) (λi f e=>l (.s 2003 i) (by rw[ca f];simp) e.symm)
end
abbrev N0 (v:LV) (p:Nat) (l:List Nat) (i j:Nat):Int:=Ub v p (l.getD i 0) (l.getD j 0)
def x6 (v:LV) (p:Nat) (l:List Nat):List Nat:=((List.range l.length).map (oN l.length (N0 v p l))).map λi=>l.getD i 0
theorem Cc (v:LV) (p:Nat) (l:List Nat):(x6 v p l).length=l.length:=by simp[x6]
theorem yG {v:LV} {p:Nat} {l:List Nat} (h:pP l.length (N0 v p l)):(x6 v p l).Perm l:=by
 refine((oK h).1.map λi=>l.getD i 0).trans (aaA ?_);apply Wo;simp;intro i b a;simp[List.getD,a]
def eg (nb:Nat->List Nat) (p:Nat) (l:List Nat):Nat->List Nat:=λx=>if x=p then l else nb x
theorem Jt (v:LV) (nb:Nat->List Nat) (nx:List Nat) (p:Nat) (k:p<v.length) (B:v.length<=40000) (t:∀y∈nb p,y<v.length) (u:pP (nb p).length (N0 v p (nb p))) (C:(nb p).length<=40000):
  Eo Tryz.prog 144 (.ptr (.n 2000) 0::[DV.one (i64 p)].map .d) (r9 2000 2001 2002 2003 1 1 v nb nx) (.eG []) (r9 2000 2001 2002 2003 1 1 v (eg nb p (x6 v p (nb p))) nx):=by
 refine ov kL mixed Tryz.func144 rfl rfl [9000012] (XJ rfl) (XJ rfl) (VN v nb _ nx [.one (i64 p)] 1 1) ?_;have m:∀i,i<(nb p).length->(nb p).getD i 0<v.length:=λi a=>t _ (by simp[List.getD,a]);refine aj.o ?_;refine⟨⟨.aL (.s 2003 p) 1,rfl,?_⟩⟩;refine xX.mk' (sr (cv:= .cV 202 [.ptr 2 0,.ptr 3 0]) (ks:=[2,2000,3]) (b:= .s 2003 p) (g:=1) (n:=(nb p).length) (get:=nG (nb p)) (q:=2) (cap:=λj=>match j with|0=> .ad 1 λ_=> .ad 1 λ_=>aS v|_=> .ad 1 λj=>[i64 p].getD (0+j) (.v Go.undef))
  (cf:=N0 v p (nb p)) rfl rfl rfl To rfl (enters_of Tryz.func201 rfl) rfl rfl ((av _ _ _ (by intro h;cases h)).trans ((av _ _ _ (by intro h;cases h)).trans (ca k))) rfl
  (.cV rfl (λj c=>?_)) (show 2003∉[2,2000,3] by decide) u (by omega) (λi j a c=>ET v p _ _ _ _ rfl rfl k (m i a) (m j c))) ?_
 ·match j,c with
  |0,_=>exact .obj (by simp[Id.key]) rfl (XP 1) (λj c=>by obtain rfl:j=0:=(by omega);exact .obj (by simp[Id.key]) rfl (by simp) (λj c=>by obtain rfl:j=0:=(by omega);exact .s _))
  |1,_=>exact mS.box (o:= .n 3) (p:=0) (q:=1) (l:=[i64 p]) (by simp[Id.key]) (.inl rfl) (XP 1)
 refine aj.n ?_;generalize f:bo (bo (bo (r9 2000 2001 2002 2003 1 1 v nb nx) (Id.n 2) (Mem.obj [CV.ptr (Id.n 2000) 0])) (Id.n 3) (Mem.box [i64 p])) (Id.s 2003 p) (Mem.aJ 1 (nb p).length 1 3 λi j=>nG (nb p) (oN (nb p).length (N0 v p (nb p)) i) j)=M;have r:∀i,i<v.length->∃get,M (.s 2003 i)= .aJ 1 (eg nb p (x6 v p (nb p)) i).length 1 3 get/\∀j,j<(eg nb p (x6 v p (nb p)) i).length->aC (get j 0) (nG (eg nb p (x6 v p (nb p)) i) j 0):=λi a=>by rw[<-f];unfold eg;by_cases e:i=p;subst e;rw[XG rfl,ar,Cc];refine⟨_,rfl,λj c=>aC.of_eq ?_⟩;simp[x6,List.getD,c];rw[XD e,av _ _ _ (by intro h;cases h;exact e rfl),av _ _ _ (by intro h;cases h),av _ _ _ (by intro h;cases h),ca a];exact⟨_,rfl,λj c=>aC.refl _⟩
 refine⟨λo=>o,.none,λo w=>?_,λo D _ _ e=>e,λ_ _=>rfl⟩;rcases bR o w with rfl|rfl|rfl|⟨i,a,rfl⟩;rw[<-f];exact .obj (.cons (.s (aC.refl _)) (.cons (.aL rfl rfl rfl) (.cons (.aL rfl rfl rfl) .nil)));have x:M (.n 2001)= .br 1 v.length 1 22 λi _=> .aL (.s 2003 i) 1:=(by rw[<-f];rfl);show jf M _ _ (M (.n 2001)) _;rw[x];refine .br (λh=>h) (λi a j c=> .aL rfl ?_ ?_);obtain⟨get,e,_⟩:=r i a;rw[e];rfl;rw[ca a];rfl;rw[<-f];exact .aJ (λh=>h) (λ_ _ _ _=>aC.refl _);obtain⟨get,e,z⟩:=r i a;show jf M _ _ (M (.s 2003 i)) _;rw[e,ca a];refine .aJ (λh=>h) (λj c A E=>?_);obtain rfl:A=0:=(by omega);exact z j c
def rD (nb:Nat->List Nat) (d:Dt):Nat->List Nat:=eg (eg nb d.1 (nb d.1++[d.2])) d.2 (eg nb d.1 (nb d.1++[d.2]) d.2++[d.1])
def dD (E:List Dt):Nat->List Nat:=E.foldl rD (λ_=>[])
def Fm (n:Nat) (O:List Dt):List Nat:=O.foldl (λl d=>l.set d.1 d.2) (List.replicate n 0)
theorem zb (E:List Dt) (d:Dt):dD (E++[d])=rD (dD E) d:=by unfold dD;rw[aaj];rfl
theorem Ly (n:Nat) (E:List Dt) (d:Dt):Fm n (E++[d])=(Fm n E).set d.1 d.2:=by unfold Fm;rw[aaj];rfl
theorem u7 (n:Nat) (O:List Dt):(Fm n O).length=n:=by
 have:∀(O:List Dt) (l:List Nat),(O.foldl (λl d=>l.set d.1 d.2) l).length=l.length:=λO=>by
  induction O with
  |nil=>intro l;rfl
  |cons d O a=>intro l;rw[ZP,a,Xq]
 unfold Fm;rw[this,List.length_replicate]
variable {nb:Nat->List Nat} {B p:Nat}
theorem jr {l:List Nat} (h:∀x,(nb x).length<=B) (a:l.length<=B) (x:Nat):(eg nb p l x).length<=B:=by
 unfold eg;split;exact a;exact h x
theorem Mi {d:Dt} (h:∀x,(nb x).length<=B) (x:Nat):(rD nb d x).length<=B+2:=by
 have a:=jr (p:=d.1) (l:=nb d.1++[d.2]) (B:=B+1) (λx=>Yf (h x) (by omega)) (by have:=h d.1;simp;omega);refine jr (B:=B+2) (λx=>Yf (a x) (by omega)) ?_ x;have:=a d.2;simp;omega
theorem rE (E:List Dt):∀x,(dD E x).length<=2*E.length:=by
 have a:∀(E:List Dt) (nb:Nat->List Nat) (B:Nat),(∀x,(nb x).length<=B)->∀x,(E.foldl rD nb x).length<=B+2*E.length:=λE=>by
  induction E with
  |nil=>intro nb B h x;exact h x
  |cons d E b=>intro nb B h x;rw[ZP];have:=b (rD nb d) (B+2) (Mi h) x;simp only[XZ];omega
 intro x;have:=a E (λ_=>[]) 0 (λx=>XP 0) x;unfold dD;omega
def nn (a n:Nat):List Dt:=(List.range n).map λi=>(a+i,a+(i+1)%n)
def iL:Nat->List (LV)->List Dt
 |_,[]=>[]
 |a,r::L=>nn a r.length++iL (a+r.length) L
def r8:List (LV)->List Dt
 |[]=>[]
 |r::H=>nn 0 r.length++(iL r.length H).map iK
theorem AI (a n:Nat):(nn a n).length=n:=by simp[nn]
variable {a:Nat}
theorem K8 {n i:Nat} (h:i<n):(nn a n).take (i+1)=(nn a n).take i++[(a+i,a+(i+1)%n)]:=by
 rw[YC];congr 1;simp[nn,h]
theorem wk:∀(L:List (LV)) (a:Nat) (r:LV),iL a (L++[r])=iL a L++nn (a+aF L) r.length
 |[],a,r=>by simp[iL,aF]
 |x::L,a,r=>by simp only[YG,iL,wk L,Yk];rw[show a+x.length+aF L=a+aF (x::L) by simp[aF];omega]
theorem K7 (L:List (LV)) (r:LV):r8 (L++[r])=r8 L++(nn (aF L) r.length).map (if L.length=0 then id else iK):=by
 cases L with
 |nil=>simp[r8,iL,aF]
 |cons x L=>simp only[YG,r8,wk,Ys,Yk];rw[show x.length+aF L=aF (x::L) by simp[aF],XD (by simp)]
theorem uX:∀(L:List (LV)) (a:Nat),(iL a L).length=aF L
 |[],a=>rfl
 |x::L,a=>by simp only[iL,XR,AI,uX L];simp[aF]
variable {k:Nat}
theorem IB {α:Type} {L:List (List α)} (h:k<L.length):L.take (k+1)=L.take k++[L.getD k []]:=by
 rw[YC];simp[List.getD,h]
structure GZ (m:Id->Mem) (a b c k:Nat) (v:LV) (nb:Nat->List Nat) (nx:List Nat):Prop where
 obj:m (.n a)= .obj [.s (aS v),.aL (.n b) 0,.aL (.n c) 0]
 sh:m (.n b)= .br 0 v.length 1 22 λi _=> .aL (.s k i) 0
 bw:m (.n c)= .aJ 0 nx.length 1 3 (nG nx)
 row:∀i,i<v.length->m (.s k i)= .aJ 0 (nb i).length 1 3 (nG (nb i))
variable {y:Nat}
section
variable {m:Id->Mem} {a b c k:Nat} {v:LV} {nb:Nat->List Nat} {nx:List Nat}
theorem GZ.BU (h:GZ m a b c k v nb nx):JL m a b c k v nb nx where
 obj:=by rw[h.obj,h.sh,h.bw];rfl
 sh:=⟨_,_,h.sh,λi f=>by rw[h.row i f];rfl⟩
 bw:=⟨_,_,h.bw,λi f=>aC.refl _⟩
 row i f:=⟨_,_,h.row i f,λj g=>aC.refl _⟩
theorem GZ.push (h:GZ m a b c k v nb nx) (r:a≠b) (t:b≠c) {gr:Nat} {get:Nat->Nat->SV} {l:Nat->Nat->CV} (u:∀j,j<(nb p).length+1->aC (get j 0) (nG (nb p++[y]) j 0)) (w:∀i,i<v.length->l i 0= .aL (.s k i) (if i=p then gr else 0)):
  JL (bo (bo m (.s k p) (.aJ gr ((nb p).length+1) 1 3 get)) (.n b) (.br 0 v.length 1 22 l)) a b c k v (eg nb p (nb p++[y])) nx:=by
 have g:∀(i j:Nat),(Id.s k i)≠ .n j:=λi j h=>by cases h
 have x:(Id.n a)≠ .n b:=λh=>by cases h;exact r rfl
 have o:(Id.n c)≠ .n b:=λh=>by cases h;exact t rfl
 have row:∀i,i<v.length->∃q,bo (bo m (.s k p) (.aJ gr ((nb p).length+1) 1 3 get)) (.n b) (.br 0 v.length 1 22 l) (.s k i)= .aJ (if i=p then gr else 0) (eg nb p (nb p++[y]) i).length 1 3 q/\∀j,j<(eg nb p (nb p++[y]) i).length->aC (q j 0) (nG (eg nb p (nb p++[y]) i) j 0):=λi f=>by rw[av _ _ _ (g i b)];unfold eg;by_cases e:i=p;subst e;rw[XG rfl,XG rfl,ar,XR];exact⟨_,rfl,u⟩;rw[XD e,XD e,av _ _ _ (by intro h;cases h;exact e rfl),h.row i f];exact⟨_,rfl,λj B=>aC.refl _⟩
 refine⟨?_,?_,?_,λi f=>?_⟩;rw[av _ _ _ x,av _ _ _ (g p a).symm,ar,av _ _ _ o,av _ _ _ (g p c).symm,h.obj,h.bw];rfl;rw[ar];refine⟨_,_,rfl,λi f=>?_⟩;obtain⟨z,e,_⟩:=row i f;rw[e,w i f];rfl;rw[av _ _ _ o,av _ _ _ (g p c).symm,h.bw];exact⟨_,_,rfl,λi f=>aC.refl _⟩;obtain⟨z,e,A⟩:=row i f;exact⟨_,_,e,A⟩
theorem GZ.next (h:GZ m a b c k v nb nx) (o:a≠c) (q:b≠c) {get:Nat->Nat->SV} (r:∀j,j<nx.length->aC (get j 0) (nG (nx.set p y) j 0)):
  JL (bo m (.n c) (.aJ 0 nx.length 1 3 get)) a b c k v nb (nx.set p y):=by
 have g:∀(i j:Nat),(Id.s k i)≠ .n j:=λi j h=>by cases h
 have t:(Id.n a)≠ .n c:=λh=>by cases h;exact o rfl
 have l:(Id.n b)≠ .n c:=λh=>by cases h;exact q rfl
 refine⟨?_,?_,?_,λi f=>?_⟩;rw[av _ _ _ t,av _ _ _ l,ar,h.obj,h.sh];rfl;rw[av _ _ _ l,h.sh];refine⟨_,_,rfl,λi f=>?_⟩;rw[av _ _ _ (g i c),h.row i f];rfl;rw[ar,Xq];exact⟨_,_,rfl,r⟩;rw[av _ _ _ (g i c),h.row i f];exact⟨_,_,rfl,λj u=>aC.refl _⟩
end
theorem BY {q:Nat} {l:List Nat}:y∈eg nb q l p↔(p=q/\y∈l)\/(p≠q/\y∈nb p):=by
 unfold eg;by_cases e:p=q;rw[XG e];simp[e];rw[XD e];simp[e]
theorem w7 {d:Dt}:y∈rD nb d p↔y∈nb p\/d=(p,y)\/d=(y,p):=by
 obtain⟨a,b⟩:=d;unfold rD;simp only[BY,XN,YB,Zq,ne_eq];constructor;rintro(⟨rfl,(⟨rfl,h|rfl⟩|⟨_,h⟩)|rfl⟩|⟨_,⟨rfl,h|rfl⟩|⟨_,h⟩⟩);exact .inl h;exact .inr (.inl ⟨rfl,rfl⟩);exact .inl h;exact .inr (.inr ⟨rfl,rfl⟩);exact .inl h;exact .inr (.inl ⟨rfl,rfl⟩);exact .inl h;rintro(h|⟨rfl,rfl⟩|⟨rfl,rfl⟩);by_cases c:p=b;subst c;by_cases f:p=a;subst f;exact .inl ⟨rfl,.inl (.inl ⟨rfl,.inl h⟩)⟩;exact .inl ⟨rfl,.inl (.inr ⟨f,h⟩)⟩;by_cases f:p=a;subst f;exact .inr ⟨c,.inl ⟨rfl,.inl h⟩⟩;exact .inr ⟨c,.inr ⟨f,h⟩⟩;by_cases c:a=b;subst c;exact .inl ⟨rfl,.inr rfl⟩;exact .inr ⟨c,.inl ⟨rfl,.inr rfl⟩⟩;exact .inl ⟨rfl,.inr rfl⟩
theorem oe {E:List Dt}:y∈dD E p↔(p,y)∈E\/(y,p)∈E:=by
 have a:∀(E:List Dt) (nb:Nat->List Nat),y∈E.foldl rD nb p↔y∈nb p\/(p,y)∈E\/(y,p)∈E:=λE=>by
  induction E with
  |nil=>intro nb;simp
  |cons d E b=>
   intro nb;rw[ZP,b,w7];simp only[XF];constructor;(rintro((h|h|h)|h|h)<;>simp[h])
   ·rintro(h|(h|h)|(h|h))<;>simp[h]
 have:=a E (λ_=>[]);simpa[dD]using this
theorem Vk (v:LV) (nb:Nat->List Nat) (nx:List Nat) (x:DV) (xs:List DV):Ei [.d x] (λ_=> .none) (.jw (.n 3000) xs) (r9 3000 3001 3002 3003 0 0 v nb nx) where
 hi o a:=absurd rfl a
 De o a:=absurd rfl a
 cur:=trivial
 th o:=by by_cases a:r9 3000 3001 3002 3003 0 0 v nb nx o= .none;rw[a];trivial;rcases bR o a with rfl|rfl|rfl|⟨i,hi,rfl⟩;intro c b;simp only[XF,ZA,WZ]at b;rcases b with rfl|rfl|rfl;trivial;exact rfl;exact rfl;intro i hi j l;show 0=(r9 3000 3001 3002 3003 0 0 v nb nx (.s 3003 i)).gen;rw[ca hi];rfl;trivial;rw[ca hi];trivial
 closed o g a:=a.elim
 fS x m g a:=by rw[YB.1 m]at a;exact a.elim
 clean o a:=by cases a;exact λh=>by cases h
 pC o g a:=by
  by_cases k:r9 3000 3001 3002 3003 0 0 v nb nx o= .none;rw[k]at a;exact a.elim
  ·rcases bR o k with rfl|rfl|rfl|⟨i,hi,rfl⟩
   ·obtain⟨c,b,f⟩:=a;simp only[XF,ZA,WZ]at b;rcases b with rfl|rfl|rfl;exact f.elim;(cases f;exact λh=>by cases h)
    ·cases f;exact λh=>by cases h
   ·obtain⟨i,j,hi,l,f⟩:=a;cases f;rw[ca hi];simp
   ·exact a.elim
   ·rw[ca hi]at a;exact a.elim
theorem Js (x:Mem) (v:LV) (nb:Nat->List Nat) (nx:List Nat):GZ (aX ([((1:Id),x)]++lD 34 29 32 1503 0 0 v nb nx)) 34 29 32 1503 v nb nx:=
 ⟨rfl,rfl,rfl,λi a=>vg (o1:=34) (o2:=29) (o3:=32) (k:=1503) (g:=0) (gr:=0) (nb:=nb) (nx:=nx) a⟩
variable {m:Id->Mem}
theorem tX {v:LV} {nx:List Nat} (x:Mem) (h:JL m 34 29 32 1503 v nb nx):fm m (aX ([((1:Id),x)]++lD 34 29 32 1503 0 0 v nb nx)) (lD 34 29 32 1503 0 0 v nb nx):=
 oa h (Js x v nb nx).sh (Js x v nb nx).bw (Js x v nb nx).row
theorem va (l:List Nat) (y j:Nat) (a:j<l.length+1):aC (bif Nat.blt j l.length then nG l j 0 else[i64 (y:Int)].getD ((j-l.length)*1+0) (.v Go.undef)) (nG (l++[y]) j 0):=by
 refine aC.bif (λh=>aC.of_eq ?_) (λh=>aC.of_eq ?_);show i64 _=i64 _;simp[List.getD,Yo,h];obtain rfl:j=l.length:=(by omega);rw[YM];show i64 _=i64 _;simp[List.getD]
theorem Fw (l:List Nat) (p y j:Nat) (a:j<l.length):aC (bif Nat.beq j p&&Nat.ble 0 0&&Nat.blt 0 (0+[i64 (y:Int)].length)then[i64 (y:Int)].getD (0-0) (.v Go.undef)else nG l j 0) (nG (l.set p y) j 0):=by
 refine aC.of_eq ?_;by_cases e:j=p;subst e;rw[Zs];show i64 _=i64 _;simp[List.getD,a]
 ·have:Nat.beq j p=false:=by
   cases h:Nat.beq j p with
   |false=>rfl
   |true=>exact absurd (XE h) e
  rw[this];show i64 _=i64 _;simp[List.getD,Zr e]
theorem vf (k p i gr:Nat):(bif Nat.beq i p&&Nat.beq 0 0 then CV.aL (.s k p) gr else CV.aL (.s k i) 0)=CV.aL (.s k i) (if i=p then gr else 0):=by
 cases h:Nat.beq i p with
 |false=>rw[XD (λe=>by rw[e,Zs]at h;cases h)];rfl
 |true=>rw[XE h,XG rfl];rfl
theorem Mw {v:LV} {nx:List Nat} {j:Nat} (h:¬(j=34\/j=29\/j=32)) (l:List (Id×Mem)) (a:∀p∈l,p.1≠ .n j):aX (l++lD 34 29 32 1503 0 0 v nb nx) (.n j)= .none:=by
 rw[qD _ _ _ a];unfold lD;simp only[aX];rw[av _ _ _ (by intro q;cases q;exact h (.inl rfl)),av _ _ _ (by intro q;cases q;exact h (.inr (.inl rfl))),av _ _ _ (by intro q;cases q;exact h (.inr (.inr rfl))),yh _ _ _ _ _ (λi _ q=>by cases q)];rfl
theorem JL.bo {b c:Nat} {v:LV} {nx:List Nat} (h:JL m a b c k v nb nx) (j:Nat) (x:Mem) (q:a≠j) (r:b≠j) (t:c≠j):JL (Go.Vm.bo m (.n j) x) a b c k v nb nx:=by
 have u:(Id.n a)≠ .n j:=λe=>by cases e;exact q rfl
 have l:(Id.n b)≠ .n j:=λe=>by cases e;exact r rfl
 have o:(Id.n c)≠ .n j:=λe=>by cases e;exact t rfl
 have p:∀i,(Id.s k i)≠ .n j:=λi e=>by cases e
 refine⟨?_,?_,?_,λi f=>?_⟩;rw[av _ _ _ u,av _ _ _ l,av _ _ _ o];exact h.obj;rw[av _ _ _ l];obtain⟨g,w,e,y⟩:=h.sh;exact⟨g,w,e,λi f=>by rw[av _ _ _ (p i)];exact y i f⟩;rw[av _ _ _ o];exact h.bw;rw[av _ _ _ (p i)];exact h.row i f
theorem HK (x y z:Mem) (v:LV) (nb:Nat->List Nat) (nx:List Nat):GZ (aX ([((1:Id),x),(17,y),(501,z)]++lD 34 29 32 1503 0 0 v nb nx)) 34 29 32 1503 v nb nx:=
 ⟨rfl,rfl,rfl,λi a=>vg (o1:=34) (o2:=29) (o3:=32) (k:=1503) (g:=0) (gr:=0) (nb:=nb) (nx:=nx) a⟩
theorem rC {v:LV} {nx:List Nat} (x y z:Mem) (h:JL m 34 29 32 1503 v nb nx):fm m (aX ([((1:Id),x),(17,y),(501,z)]++lD 34 29 32 1503 0 0 v nb nx)) (lD 34 29 32 1503 0 0 v nb nx):=
 oa h (HK x y z v nb nx).sh (HK x y z v nb nx).bw (HK x y z v nb nx).row
theorem E8:∀{L:List (LV)} {a:Nat} {d:Dt},d∈iL a L->d.1<a+aF L/\d.2<a+aF L
 |[],a,d,h=>by cases h
 |r::L,a,d,h=>by have e:aF (r::L)=r.length+aF L:=(by simp[aF]);rcases XN.1 h with k|k;obtain⟨i,b,rfl⟩:=XQ.1 k;have b:=X4.1 b;have:=ZJ (i+1) (show 0<r.length by omega);simp only;omega;have:=E8 k;omega
def SK:Id->Id
 | .n j=>bif Nat.beq j 3000 then .n 34 else bif Nat.beq j 3001 then .n 29 else bif Nat.beq j 3002 then .n 32 else .n j
 | .s _ i=> .s 1503 i
def nA (v:LV) (nb:Nat->List Nat) (p:Nat):Nat->List Nat:=λx=>if x<p then x6 v x (nb x)else nb x
set_option maxRecDepth 2000 in
theorem Jd {o:LV} {hs:List (LV)} (V:VS o hs) (a1:∀i k,i<(aA o hs).length->k<(aA o hs).length->gt (aA o hs) i=gt (aA o hs) k->i=k)
  (a2:∀p,p<(aA o hs).length->pP (dD (iL 0 (aZ o::eZ hs)++qQ o hs (aA o hs)) p).length (N0 (aA o hs) p (dD (iL 0 (aZ o::eZ hs)++qQ o hs (aA o hs)) p))):
  Eo Tryz.prog 86 [.d (hF o hs)] (λ_=> .none) (.jw (.n 3000) [.one (.sl (qQ o hs (aA o hs)).length 2 (kQ (qQ o hs (aA o hs))))])
   (r9 3000 3001 3002 3003 0 0 (aA o hs) (nA (aA o hs) (dD (iL 0 (aZ o::eZ hs)++qQ o hs (aA o hs))) (aA o hs).length) (Fm (aA o hs).length (r8 (aZ o::eZ hs)))):=by
 refine ov kL mixed Tryz.func86 rfl rfl [9000033,9000034,9000178,12,13,14,26,27,28,34,35] (XJ rfl) (XJ rfl) (Vk _ _ _ _ _) ?_;have e3:=V.er;have e4:=V.GD;have e5:=jR V;have e6:=nZ V;have e7:=u2 (o:=o) (hs:=hs) (v:=aA o hs);have a3:∀d∈qQ o hs (aA o hs),d.1<(aA o hs).length/\d.2<(aA o hs).length:=λd A=>by have:=wA A;omega
 refine ah.mk' (vE V) ?_;have b4:=MX V;have b5:=Cj V;have b6:=iy (aZ o) (eZ hs) (by rw[oA];omega) (λr E=>Yf (my E) (by omega));have e8:(aZ o::eZ hs).length<=7:=by simp[oA];omega
 generalize qQ o hs (aA o hs)=D at*;generalize aA o hs=v at*;generalize e9:aZ o::eZ hs=L at*;refine aj.mk ⟨by omega,by omega,(show(24:Int)*v.length<=281474976710656 by omega),by omega⟩ ?_;refine aj.mk ⟨by omega,by omega,(show(8:Int)*v.length<=281474976710656 by omega),by omega⟩ ?_;refine xX.mk' (Ss (c0:= .s (aS v)) (c1:= .aL (.n 29) 0) (c2:= .aL (.n 32) 0) kL rfl rfl rfl rfl rfl rfl rfl rfl) ?_;refine xX.mk' (Go.Vm.P0 rfl rfl rfl rfl) ?_;refine aj.n ?_;refine ah.mk' b5 ?_;refine ah.mk' b6 ?_;have a4:∀d∈iL 0 L++D,d.1<v.length/\d.2<v.length:=λd A=>by rcases XN.1 A with k|k;have:=E8 k;omega;exact a3 d k
 refine Loop.by (α:=Nat) (λn=>[(1,.ptr 1 0),(4,.d (.one (aS v))),(6,.ptr 34 0),(7,an (aF (L.take n):Nat)),(37,.d (.one (hS L))),(38,an L.length),(39,an n)])
  (λn=>[(1,.box [aS o,hS hs])]++lD 34 29 32 1503 0 0 v (dD (iL 0 (L.take n))) (Fm v.length (r8 (L.take n)))) (λn=>n<=L.length) (λn=>L.length-n)
  (aH.OY 29 1503 0 v.length 22 _ 3 (nG []) rfl (λ_ _=>rfl) (λ_ _=>rfl) (aH.at 0 (XS _) ?_ (.cB (.cS (.cons (.ptr (by intro h;cases h)) (.cS (.cS (.cS (.cS .nil))))))))) (λn b7=>?_)
 ·refine .cX (tX _ ⟨rfl,⟨_,_,rfl,λi g=>?_⟩,⟨_,_,by rw[u7,<-Yw v.length];rfl,λi g=>aC.of_eq ?_⟩,λi g=>⟨_,_,vj g,λj f=>absurd f (XL _)⟩⟩);rw[vj g];rfl;(show i64 0=i64 (((List.replicate v.length 0).getD i 0:Nat):Int);rw[List.getD,List.getElem?_replicate];split<;>rfl)
 refine ab.mk (λc1=>?_) (λc1=>?_)
 ·have b8:n<L.length:=(by have:=XB c1;omega);refine aj.o ?_;obtain⟨r,E⟩:∃r,r=L.getD (n:Int).toNat []:=⟨_,rfl⟩;have b9:L.getD n []=r:=E.symm;have H:=IB b8;rw[b9]at H;have I:aF (L.take (n+1))=aF (L.take n)+r.length:=(by rw[H];simp[aF]);have f0:=eQ L (n+1);have a5:iL 0 (L.take (n+1))=iL 0 (L.take n)++nn (aF (L.take n)) r.length:=(by rw[H,wk,X6]);have a6:r8 (L.take (n+1))=r8 (L.take n)++(nn (aF (L.take n)) r.length).map (if n=0 then id else iK):=(by rw[H,K7,Yu,Xp b7]);have J:(iL 0 (L.take n)).length=aF (L.take n):=uX _ _;refine Loop.by (α:=Nat) (λi=>[(1,.ptr 1 0),(4,.d (.one (aS v))),(6,.ptr 34 0),(7,an (aF (L.take n):Nat)),(8,an n),(9,.d (.one (aS r))),(37,.d (.one (hS L))),(38,an L.length),(39,an n),(44,.d (.one (aS r))),(45,an r.length),(46,an i)])
   (λi=>[(1,.box [aS o,hS hs])]++lD 34 29 32 1503 0 0 v (dD (iL 0 (L.take n)++(nn (aF (L.take n)) r.length).take i)) (Fm v.length (r8 (L.take n)++((nn (aF (L.take n)) r.length).take i).map (if n=0 then id else iK)))) (λi=>i<=r.length) (λi=>r.length-i)
   (aH.at 0 (XS _) ?_ (.cB (.cS (.cons (.ptr (by intro h;cases h)) (.cS (.cS (.cons (.data (dV.of_eq (by rw[E]))) (.cS (.cS (.cS (.cons (.data (dV.of_eq (by rw[E]))) (.cons (ao.int (by rw[E])) (.cS .nil))))))))))))) (λi g=>?_)
  ·refine .cX (tX _ ?_);rw[Z9,W7,YO,YO];exact(Js _ v _ _).BU
  refine ab.mk (λc2=>?_) (λc2=>?_)
  ·have K:i<r.length:=(by have:=XB c2;omega);have f1:aF (L.take n)+r.length<=80:=(by omega);obtain⟨a,O⟩:∃a,a=aF (L.take n)+i:=⟨_,rfl⟩;obtain⟨b,a7⟩:∃b,b=aF (L.take n)+(i+1)%r.length:=⟨_,rfl⟩;have f2:=ZJ (i+1) (show 0<r.length by omega);have c3:a<v.length:=(by omega);have c4:b<v.length:=(by omega);have a8:(nn (aF (L.take n)) r.length).take (i+1)=(nn (aF (L.take n)) r.length).take i++[(a,b)]:=(by rw[K8 K,O,a7]);have c5:IntKind.i64.wrap (((aF (L.take n):Nat):Int)+i)=(a:Int):=(by rw[hw _];omega);have c6:IntKind.i64.wrap (((aF (L.take n):Nat):Int)+(IntKind.i64.wrap ((i:Int)+1)).tmod r.length)=(b:Int):=by have c7:=qB i 1;rw[show(1:Int)=(1:Nat) from rfl,c7,<-aaH,hw _];rw[a7,aaB]
   generalize a9:iL 0 (L.take n)++(nn (aF (L.take n)) r.length).take i=t at*;have f3:t.length<=160:=(by rw[<-a9,XR,J,Yu,AI];omega);refine aj.o ?_;refine aj.n ?_;have w:=λx=>Yf (rE t x) (show 2*t.length<=320 by omega);refine Cut.mk (aH.iC [(1,.ptr 1 0),(4,.d (.one (aS v))),(6,.ptr 34 0),(7,an (aF (L.take n):Nat)),(8,an n),(9,.d (.one (aS r))),(11,an a),(12,an b),(37,.d (.one (hS L))),(38,an L.length),(39,an n),(44,.d (.one (aS r))),(45,an r.length),(46,an i)] ([(1,.box [aS o,hS hs])]++lD 34 29 32 1503 0 0 v (dD t) _) (.cX (tX _ (Js _ v _ _).BU)) (.cB (.cS (.cons (.ptr (by intro h;cases h)) (.cS (.cS (.cS (.cons (ao.int c5) (.cons (ao.int c6) (.cS (.cS (.cS (.cS (.cS (.cS .nil)))))))))))))) ?_);refine aj.o ?_;refine⟨⟨.aL (.s 1503 a) 0,rfl,?_⟩⟩;refine⟨⟨.aJ 0 (dD t a).length 1 3 (nG (dD t a)),(Js _ v _ _).row a c3,?_⟩⟩;refine aj.mk (aY (by have:=w a;omega)) ?_;refine aj.o ?_;refine aj.n ?_;refine Cut.mk (aH.iC [(1,.ptr 1 0),(4,.d (.one (aS v))),(6,.ptr 34 0),(7,an (aF (L.take n):Nat)),(8,an n),(9,.d (.one (aS r))),(11,an a),(12,an b),(37,.d (.one (hS L))),(38,an L.length),(39,an n),(44,.d (.one (aS r))),(45,an r.length),(46,an i)] ([(1,.box [aS o,hS hs])]++lD 34 29 32 1503 0 0 v (eg (dD t) a (dD t a++[b])) _) (.cX (tX _ ((Js _ v _ _).push (by decide) (by decide) (λj f=>va _ _ j f) (λi g=>vf 1503 a i 2)))) (.cB (.cS (.cons (.ptr (by intro h;cases h)) (.cS (.cS (.cS (.cS (.cS (.cS (.cS (.cS (.cS (.cS (.cS .nil)))))))))))))) ?_);have P:=λx=>jr (nb:=dD t) (p:=a) (l:=dD t a++[b]) (B:=321) (λx=>Yf (w x) (by omega)) (by have:=w a;simp;omega) x;have M:eg (eg (dD t) a (dD t a++[b])) b (eg (dD t) a (dD t a++[b]) b++[a])=dD (t++[(a,b)]):=(zb t (a,b)).symm;generalize eg (dD t) a (dD t a++[b])=z at*;refine aj.o ?_;refine⟨⟨.aL (.s 1503 b) 0,rfl,?_⟩⟩;refine⟨⟨.aJ 0 (z b).length 1 3 (nG (z b)),(Js _ v _ _).row b c4,?_⟩⟩;refine aj.mk (aY (by have:=P b;omega)) ?_;refine aj.o ?_;refine aj.n ?_;refine Cut.mk (aH.iC [(1,.ptr 1 0),(4,.d (.one (aS v))),(6,.ptr 34 0),(7,an (aF (L.take n):Nat)),(8,an n),(9,.d (.one (aS r))),(11,an a),(12,an b),(37,.d (.one (hS L))),(38,an L.length),(39,an n),(44,.d (.one (aS r))),(45,an r.length),(46,an i)] ([(1,.box [aS o,hS hs])]++lD 34 29 32 1503 0 0 v (eg z b (z b++[a])) _) (.cX (tX _ ((Js _ v _ _).push (by decide) (by decide) (λj f=>va _ _ j f) (λi g=>vf 1503 b i 2)))) (.cB (.cS (.cons (.ptr (by intro h;cases h)) (.cS (.cS (.cS (.cS (.cS (.cS (.cS (.cS (.cS (.cS (.cS .nil)))))))))))))) ?_);rw[M];have b0:iL 0 (L.take n)++(nn (aF (L.take n)) r.length).take (i+1)=t++[(a,b)]:=(by rw[a8,<-Yk,a9]);have c8:r8 (L.take n)++((nn (aF (L.take n)) r.length).take (i+1)).map (if n=0 then id else iK)=(r8 (L.take n)++((nn (aF (L.take n)) r.length).take i).map (if n=0 then id else iK))++[(if n=0 then id else iK) (a,b)]:=(by rw[a8,Ys,Yk];rfl);have Q:=Ly v.length (r8 (L.take n)++((nn (aF (L.take n)) r.length).take i).map (if n=0 then id else iK)) ((if n=0 then id else iK) (a,b));rw[<-c8]at Q;have f4:=u7 v.length (r8 (L.take n)++((nn (aF (L.take n)) r.length).take i).map (if n=0 then id else iK));refine ab.mk (λC=>?_) (λC=>?_)
   ·have R:n=0:=(by have:(n:Int)=0:=(by simpa using C);omega);have S:Fm v.length (r8 (L.take n)++((nn (aF (L.take n)) r.length).take (i+1)).map (if n=0 then id else iK))=(Fm v.length (r8 (L.take n)++((nn (aF (L.take n)) r.length).take i).map (if n=0 then id else iK))).set a b:=(by rw[Q,XG R];rfl);refine aj.o ?_;refine aH.back (x:=i) (i+1) (by show i+1<=_;omega) (by omega) (.cX (tX _ ?_)) (.cB (.cS (.cons (.ptr (by intro h;cases h)) (.cS (.cS (.cS (.cS (.cS (.cS (.cS (.cS (.cons (ao.int (by rw[hw _];omega)) .nil))))))))))));rw[b0,S];exact(Js _ v _ _).next (by decide) (by decide) (λj f=>Fw _ _ _ j f)
   ·have R:¬n=0:=(by have:¬(n:Int)=0:=(by simpa using C);omega);have S:Fm v.length (r8 (L.take n)++((nn (aF (L.take n)) r.length).take (i+1)).map (if n=0 then id else iK))=(Fm v.length (r8 (L.take n)++((nn (aF (L.take n)) r.length).take i).map (if n=0 then id else iK))).set b a:=(by rw[Q,XD R];rfl);refine aj.o ?_;refine aH.back (x:=i) (i+1) (by show i+1<=_;omega) (by omega) (.cX (tX _ ?_)) (.cB (.cS (.cons (.ptr (by intro h;cases h)) (.cS (.cS (.cS (.cS (.cS (.cS (.cS (.cS (.cons (ao.int (by rw[hw _];omega)) .nil))))))))))));rw[b0,S];exact(Js _ v _ _).next (by decide) (by decide) (λj f=>Fw _ _ _ j f)
  ·have c9:i=r.length:=(by have:=XA c2;omega);subst c9;have F:(nn (aF (L.take n)) r.length).take r.length=nn (aF (L.take n)) r.length:=ZW (Nat.le_of_eq (AI _ _));refine aH.back (x:=n) (n+1) (by show n+1<=_;omega) (by omega) (.cX (tX _ (by have h:=(Js (.box [aS o,hS hs]) v (dD (iL 0 (L.take n)++(nn (aF (L.take n)) r.length).take r.length)) (Fm v.length (r8 (L.take n)++((nn (aF (L.take n)) r.length).take r.length).map (if n=0 then id else iK)))).BU;rw[F,<-a5,<-a6]at h;rw[F,<-a5,<-a6];exact h))) (.cB (.cS (.cons (.ptr (by intro h;cases h)) (.cons (ao.int (by rw[hw _,I];omega)) (.cS (.cS (.cons (ao.int (by rw[hw _];omega)) .nil)))))))
 have d0:n=L.length:=by have:=XA c1;omega
 subst d0;rw[YT];refine ah.mk' b4 ?_;obtain⟨u,b1⟩:∃u,u=Fm v.length (r8 L):=⟨_,rfl⟩;have f5:u.length=v.length:=by rw[b1,u7]
 rw[<-b1];have J:(iL 0 L).length=aF L:=uX _ _;refine Loop.by (α:=Nat) (λi=>[(1,.ptr 1 0),(4,.d (.one (aS v))),(6,.ptr 34 0),(13,.aL 501 0),(118,.d (.one (.sl D.length 4 (T0 v D)))),(119,an D.length),(120,an i)])
  (λi=>[(1,.box [aS o,hS hs]),(17,.none),(501,.aJ 0 (D.take i).length 2 83 (kQ (D.take i)))]++lD 34 29 32 1503 0 0 v (dD (iL 0 L++D.take i)) u) (λi=>i<=D.length) (λi=>D.length-i)
  (aH.nil 13 501 2 83 (kQ []) rfl (Mw (by decide) _ (λp d1 e=>by rw[YB.1 d1]at e;cases e)) (aH.at 0 (XS _) ?_ (.cB (.cS (.cons (.ptr (by intro h;cases h)) (.cH (.cS (.cS (.cS .nil))))))))) (λi g=>?_)
 ·refine .cX (.none (.cons (.bj rfl (λi g=>absurd g (XL i))) (rC _ _ _ ?_)));rw[Z9,YO];exact(Js _ v _ _).BU.bo 501 _ (by decide) (by decide) (by decide)
 refine ab.mk (λc2=>?_) (λc2=>?_)
 ·have K:i<D.length:=(by have:=XB c2;omega);obtain⟨d,A⟩:∃d,d=bf D (i:Int).toNat:=⟨_,rfl⟩;have d2:d∈D:=(by rw[A];simp[List.getD,K]);obtain⟨T,U⟩:=a3 d d2;have F:D.take (i+1)=D.take i++[d]:=by rw[YC,A];simp[List.getD,K]
  have f6:(D.take i).length<=6400:=(by rw[Yu];omega);have w:=λx=>Yf (rE (iL 0 L++D.take i) x) (show 2*(iL 0 L++D.take i).length<=13000 by rw[XR,J];omega);have M:dD (iL 0 L++D.take (i+1))=rD (dD (iL 0 L++D.take i)) d:=(by rw[F,<-Yk,zb]);refine aj.o ?_;refine ah.mk' ((Dk v d.1 (by omega) T (λj f e=>by have:=a1 j d.1 (by omega) T e;omega)).le (.cR (.cons (dV.of_eq (by rw[A])) .nil))) ?_;refine ah.mk' ((Dk v d.2 (by omega) U (λj f e=>by have:=a1 j d.2 (by omega) U e;omega)).le (.cR (.cons (dV.of_eq (by rw[A])) .nil))) ?_;refine aj.n ?_;generalize dD (iL 0 L++D.take i)=c at*;refine Cut.mk (aH.iC [(1,.ptr 1 0),(4,.d (.one (aS v))),(6,.ptr 34 0),(13,.aL 501 0),(18,an d.1),(19,an d.2),(118,.d (.one (.sl D.length 4 (T0 v D)))),(119,an D.length),(120,an i)] ([(1,.box [aS o,hS hs]),(17,.none),(501,.aJ 0 (D.take i).length 2 83 (kQ (D.take i)))]++lD 34 29 32 1503 0 0 v c u) (.cX (.none (.cons (.bj rfl (λ_ _ _ _=>aC.refl _)) (rC _ _ _ (((HK _ _ _ v _ _).BU.bo 17 _ (by decide) (by decide) (by decide)).bo 17 _ (by decide) (by decide) (by decide)))))) (.cB (.cS (.cons (.ptr (by intro h;cases h)) (.cH (.cS (.cS (.cS (.cS (.cS .nil))))))))) ?_);refine aj.o ?_;refine⟨⟨.aL (.s 1503 d.1) 0,rfl,?_⟩⟩;refine⟨⟨.aJ 0 (c d.1).length 1 3 (nG (c d.1)),(HK _ _ _ v _ _).row d.1 T,?_⟩⟩;refine aj.mk (aY (by have:=w d.1;omega)) ?_;refine aj.o ?_;refine aj.n ?_;refine Cut.mk (aH.iC [(1,.ptr 1 0),(4,.d (.one (aS v))),(6,.ptr 34 0),(13,.aL 501 0),(18,an d.1),(19,an d.2),(118,.d (.one (.sl D.length 4 (T0 v D)))),(119,an D.length),(120,an i)] ([(1,.box [aS o,hS hs]),(17,.none),(501,.aJ 0 (D.take i).length 2 83 (kQ (D.take i)))]++lD 34 29 32 1503 0 0 v (eg c d.1 (c d.1++[d.2])) u) (.cX (.none (.cons (.bj rfl (λ_ _ _ _=>aC.refl _)) (rC _ _ _ ((HK _ _ _ v _ _).push (by decide) (by decide) (λj f=>va _ _ j f) (λi g=>vf 1503 d.1 i 2)))))) (.cB (.cS (.cons (.ptr (by intro h;cases h)) (.cH (.cS (.cS (.cS (.cS (.cS .nil))))))))) ?_);have P:=λx=>jr (nb:=c) (p:=d.1) (l:=c d.1++[d.2]) (B:=13001) (λx=>Yf (w x) (by omega)) (by have:=w d.1;simp;omega) x;unfold rD at M;generalize eg c d.1 (c d.1++[d.2])=z at*;refine aj.o ?_;refine⟨⟨.aL (.s 1503 d.2) 0,rfl,?_⟩⟩;refine⟨⟨.aJ 0 (z d.2).length 1 3 (nG (z d.2)),(HK _ _ _ v _ _).row d.2 U,?_⟩⟩;refine aj.mk (aY (by have:=P d.2;omega)) ?_;refine aj.o ?_;refine aj.n ?_;refine Cut.mk (aH.iC [(1,.ptr 1 0),(4,.d (.one (aS v))),(6,.ptr 34 0),(13,.aL 501 0),(18,an d.1),(19,an d.2),(118,.d (.one (.sl D.length 4 (T0 v D)))),(119,an D.length),(120,an i)] ([(1,.box [aS o,hS hs]),(17,.none),(501,.aJ 0 (D.take i).length 2 83 (kQ (D.take i)))]++lD 34 29 32 1503 0 0 v (eg z d.2 (z d.2++[d.1])) u) (.cX (.none (.cons (.bj rfl (λ_ _ _ _=>aC.refl _)) (rC _ _ _ ((HK _ _ _ v _ _).push (by decide) (by decide) (λj f=>va _ _ j f) (λi g=>vf 1503 d.2 i 2)))))) (.cB (.cS (.cons (.ptr (by intro h;cases h)) (.cH (.cS (.cS (.cS (.cS (.cS .nil))))))))) ?_);rw[<-M];refine aj.mk (aY) ?_;refine aH.back (x:=i) (i+1) (by show i+1<=_;omega) (by omega) (.cX (.none (.cons (.bj (by rw[F,XR];rfl) (λa O j f=>by rw[F];exact ot _ d a j O f)) (rC _ _ _ ((HK _ _ _ v _ _).BU.bo 501 _ (by decide) (by decide) (by decide)))))) (.cB (.cS (.cons (.ptr (by intro h;cases h)) (.cH (.cS (.cS (.cons (ao.int (by rw[hw _];omega)) .nil)))))))
 have d3:i=D.length:=by have:=XA c2;omega
 subst d3;rw[YT];obtain⟨c,X⟩:∃c,c=dD (iL 0 L++D):=⟨_,rfl⟩;rw[<-X]at a2|-;have w:∀x,(c x).length<=13000:=λx=>by rw[X];exact Yf (rE (iL 0 L++D) x) (by rw[XR,J];omega)
 have d4:∀p y,y∈c p->y<v.length:=λp y G=>by rw[X]at G;rcases oe.1 G with k|k;exact(a4 _ k).2;exact(a4 _ k).1
 refine Loop.by (α:=Nat) (λq=>[(4,.d (.one (aS v))),(6,.ptr 34 0),(13,.aL 501 0),(171,.d (.one (aS v))),(172,an v.length),(173,an q)])
  (λq=>[(1,.box [aS o,hS hs]),(17,.none),(501,.aJ 0 D.length 2 83 (kQ D))]++lD 34 29 32 1503 0 0 v (nA v c q) u) (λq=>q<=v.length) (λq=>v.length-q)
  (aH.at 0 (XS _) (.cX (.none (.cons (.bj rfl (λ_ _ _ _=>aC.refl _)) (rC _ _ _ (HK _ _ _ v c _).BU)))) (.cS (.cons (.ptr (by intro h;cases h)) (.cH (.cS (.cS (.cS .nil))))))) (λq f7=>?_)
 refine ab.mk (λC=>?_) (λC=>?_)
 ·have b2:q<v.length:=(by have:=XB C;omega);have N:nA v c q q=c q:=(by unfold nA;rw[XD (Zg q)]);have d5:eg (nA v c q) q (x6 v q (nA v c q q))=nA v c (q+1):=(by rw[N];funext x;unfold eg nA;by_cases e:x=q;subst e;rw[XG rfl,XG (Nat.lt_succ_self x)];rw[XD e];by_cases I:x<q;rw[XG I,iP];rw[XD I,iN]);refine xX.mk' (qO rfl rfl rfl (Jt v (nA v c q) u q b2 (by omega) (λy G=>by rw[N]at G;exact d4 q y G) (by rw[N];exact a2 q b2) (by rw[N];have:=w q;omega)) (TS (HK _ _ _ v _ _).BU (by decide) (by decide) (by decide) 1 1 (.cons (.ptr rfl) (.cD .nil)) _)) ?_;refine jm.2 ?_;have Y:∀(j:Nat),¬(j=34\/j=29\/j=32)->∀(m m' b3:Id->Mem) (nb:Nat->List Nat),cI m' (Hm m b3 34 29 32 1503 v nb u) (.n j)=m' (.n j):=λj f m m' b3 nb=>
   A4 (by intro h;cases h;exact f (.inl rfl)) (by intro h;cases h;exact f (.inr (.inl rfl))) (by intro h;cases h;exact f (.inr (.inr rfl))) (λi _ h=>by cases h)
  refine Cut.mk (aH.iC [(4,.d (.one (aS v))),(6,.ptr 34 0),(13,.aL 501 0),(171,.d (.one (aS v))),(172,an v.length),(173,an q)] ([(1,.box [aS o,hS hs]),(17,.none),(501,.aJ 0 D.length 2 83 (kQ D))]++lD 34 29 32 1503 0 0 v (nA v c (q+1)) u)
   (.cons ?_ (.none (.cons ?_ (rC _ _ _ ?_)))) (.cS (.cons (.ptr (by intro h;cases h)) (.cons (.aL (n:=D.length) (k:=2) (by rw[show((501:Id))= .n 501 from rfl,Y 501 (by decide)];rfl) rfl) (.cS (.cS (.cS .nil)))))) ?_)
  ·rw[show((1:Id))= .n 1 from rfl,Y 1 (by decide)];exact .box (gO.refl _)
  ·rw[show((501:Id))= .n 501 from rfl,Y 501 (by decide)];exact .bj rfl (λ_ _ _ _=>aC.refl _)
  ·rw[d5];exact LL
  refine aH.back (x:=q) (q+1) (by show q+1<=_;omega) (by omega) (.cX (.none (.cons (.bj rfl (λ_ _ _ _=>aC.refl _)) (rC _ _ _ (HK _ _ _ v _ _).BU)))) (.cS (.cons (.ptr (by intro h;cases h)) (.cH (.cS (.cS (.cons (ao.int (by rw[hw _];omega)) .nil))))))
 have d6:q=v.length:=by have:=XA C;omega
 subst d6;refine Cut.mk (aH.freeze 13 501 _ _ 2 83 _ rfl rfl (aH.iC [(6,.ptr 34 0),(13,.d (.one (.sl D.length 2 (kQ D))))] ([(1,.box [aS o,hS hs]),(17,.none),(501,.dead)]++lD 34 29 32 1503 0 0 v (nA v c v.length) u)
  (.cX (.none (.cons (.dead _) (rC _ _ _ ((HK _ _ _ v _ _).BU.bo 501 _ (by decide) (by decide) (by decide)))))) (.cons (.ptr (by intro h;cases h)) (.cS .nil)) ?_))
 have Z:=HK (.box [aS o,hS hs]) .none .dead v (nA v c v.length) u;refine⟨SK,.jw rfl (.cR .nil),λo a0=>?_,λo d7 d8 d9 e=>?_,λo a0=>absurd rfl a0⟩;rcases bR o a0 with rfl|rfl|rfl|⟨i,g,rfl⟩;exact .obj (.cons (.s (aC.refl _)) (.cons (.aL rfl rfl rfl) (.cons (.aL rfl rfl rfl) .nil)));refine .br (λh=>h) (λi g j f=> .aL rfl ?_ ?_);exact(X5 Mem.gen (Z.row i g)).symm;rw[ca g];rfl;exact .aJ (λh=>h) (λ_ _ _ _=>aC.refl _);rw[show SK (.s 3003 i)= .s 1503 i from rfl,Z.row i g,ca g];exact .aJ (λh=>h) (λ_ _ _ _=>aC.refl _)
 ·have s0:SK (.n 3000)= .n 34:=rfl;have e0:SK (.n 3001)= .n 29:=rfl;have e1:SK (.n 3002)= .n 32:=rfl;have e2:∀i,SK (.s 3003 i)= .s 1503 i:=λ_=>rfl;rcases bR o d8 with rfl|rfl|rfl|⟨i,g,rfl⟩<;>rcases bR d7 d9 with rfl|rfl|rfl|⟨j,f,rfl⟩<;>simp only[s0,e0,e1,e2,Id.n.injEq,Id.s.injEq,reduceCtorEq,aaD]at e<;>first|rfl|(exfalso;revert e;decide)|rw[e]
theorem Mo (l:List Nat) (f n:Nat) (cap:Nat->SV) (B:Nat->Bool) (q:l.length<=40000) (o:∀k,k<l.length->DP f (.one (i64 (l.getD k 0:Nat))::gn n cap) (aD (B (l.getD k 0)))):
  DP 204 [.one (nS l),.one (.fn f n cap)] (an (FF l.length λk=>B (l.getD k 0))):=by
 refine dg Tryz.func204 [] ?_;refine Loop.by (α:=Nat) (λk=>[(0,.d (.one (nS l))),(1,.d (.one (.fn f n cap))),(7,an l.length),(8,an k)]) (λ_=>[]) (λk=>k<=l.length/\∀i,i<k->B (l.getD i 0)=false) (λk=>l.length-k)
  (aH.at 0 ⟨XS _,λ_ h=>absurd h (XL _)⟩ .nil (.cS (.cS (.cS (.cS .nil))))) (λk g=>?_)
 obtain⟨g,a⟩:=g;refine ab.mk (λh=>?_) (λh=>?_);have j:k<l.length:=(by simpa using h);refine aj.o ?_;refine ah.bool (o k j) (λb m=>?_);refine ab.mk (λc=>?_) (λc=>?_);exact Fin.int (jN j (by rw[<-m,c]) a).symm;refine aH.back (x:=k) (k+1) ⟨by omega,λi r=>?_⟩ (by omega) .nil (.cS (.cS (.cS (.cons (ao.int ?_) .nil))));by_cases e:i=k;rw[e,<-m,c];exact a i (by omega);rw[hw _];omega;have p:k=l.length:=(by have:¬k<l.length:=(by simpa using h);omega);subst p;exact Fin.int (by rw[lF a])
def sU (B:Nat->Bool) (l:List Nat) (k:Nat):List Nat:=(l.take k).filter λx=>!B x
def Ey (B:Nat->Bool) (l:List Nat) (k:Nat):List Nat:=sU B l k++l.drop (sU B l k).length
theorem Bi (B:Nat->Bool) (l:List Nat) (k:Nat):(sU B l k).length<=k:=by
 unfold sU;exact Yf (ZI _ _) (by rw[Yu];omega)
theorem Pj (B:Nat->Bool) (l:List Nat) (k:Nat):(sU B l k).length<=l.length:=by
 unfold sU;exact Yf (ZI _ _) (by rw[Yu];omega)
variable {B:Nat->Bool} {k:Nat}
theorem rB {l:List Nat} (h:k<l.length):sU B l (k+1)=if B (l.getD k 0)=true then sU B l k else sU B l k++[l.getD k 0]:=by
 unfold sU;rw[YC,aad];have:l[k]?.toList=[l.getD k 0]:=by simp[List.getD,h]
 rw[this];cases a:B (l.getD k 0)with
 |false=>rw[XD (by simp),List.filter_cons_of_pos (by simp only[a];rfl),aax]
 |true=>rw[XG rfl,List.filter_cons_of_neg (by simp only[a];decide),aax,YO]
theorem O3 (B:Nat->Bool) (l:List Nat) (k:Nat):(Ey B l k).length=l.length:=by
 have:=Pj B l k;unfold Ey;rw[XR,ZB];omega
theorem He {l:List Nat} (h:k<l.length):(Ey B l k).getD k 0=l.getD k 0:=by
 have a:=Bi B l k;unfold Ey;simp only[List.getD];rw[YS a,Zn];congr 2;omega
theorem ME (n:Nat) (B:Nat->Bool):(FF n B= -1/\∀k,k<n->B k=false)\/∃k,k<n/\FF n B=k/\B k=true/\∀j,j<k->B j=false:=by
 unfold FF;cases h:(List.range n).find? B with
 |none=>refine .inl ⟨rfl,λk a=>?_⟩;have:=Xg.1 h k a;simpa using this
 |some k=>obtain⟨b,c,f⟩:=Xf.1 h;refine .inr ⟨k,X4.1 c,rfl,b,λj g=>?_⟩;have:=f j g;simpa using this
theorem HA {l:List Nat} (c:k<=l.length) (h:∀j,j<k->B (l.getD j 0)=false):sU B l k=l.take k:=by
 unfold sU;refine List.filter_eq_self.2 (λx a=>?_);obtain⟨j,b,rfl⟩:=ZD a;rw[Yu]at b;have:=h j (by omega);rw[List.getElem_take];simp only[List.getD,show j<l.length by omega,XV,Yt]at this;rw[this];rfl
theorem O2 {l:List Nat} (h:k<l.length) (a:B (l.getD k 0)=false):Ey B l (k+1)=(Ey B l k).set (sU B l k).length (l.getD k 0):=by
 have b:=Bi B l k;unfold Ey;rw[rB h,XD (by rw[a];simp),XR,List.length_singleton];rw[List.set_append_right _ _ (XP _),YM,Yk];congr 1;rw[Y6 (show(sU B l k).length<l.length by omega)];rfl
theorem DH (l:List Nat) (f n:Nat) (cap:Nat->SV) (B:Nat->Bool) (F:l.length<=40000) (w:∀k,k<l.length->DP f (.one (i64 (l.getD k 0:Nat))::gn n cap) (aD (B (l.getD k 0)))):
  oC Tryz.prog 145 [.aL (.n 2000) 1,.d (.one (.fn f n cap))] [.aJ 1 l.length 1 3 (nG l)] (.aL (.n 2000) 0) [.aJ 0 (l.filter λx=>!B x).length 1 3 (nG (l.filter λx=>!B x))] .none:=by
 refine dC kL mixed Tryz.func145 rfl rfl [] (XJ rfl) (XJ rfl) (gQ rfl) ?_;refine ah.int (Mo l f n cap B F w) (λi G=>?_);have H:∀(x:List Nat),x.filter (λx=>!B x)=sU B x x.length:=λx=>by unfold sU;rw[YT]
 rw[H];have p:=ME l.length λk=>B (l.getD k 0);rw[<-G]at p;refine ab.mk (λq=>?_) (λq=>?_)
 ·have y:i= -1:=(by simpa using q);have I:∀k,k<l.length->B (l.getD k 0)=false:=(by rcases p with⟨_,h⟩|⟨k,_,h,_⟩;exact h;omega);have e:sU B l l.length=l:=(by rw[HA (XP _) I,YT]);rw[e];exact lS.mk ⟨.n 0,.one (.aL rfl rfl rfl),.cons (.aJ (λh=>absurd h (by decide)) (λ_ _ _ _=>aC.refl _)) (.nil _),.inl rfl⟩
 ·have y:¬i= -1:=(by simpa using q);obtain⟨c,z,rfl,J,K⟩:∃k,k<l.length/\i=k/\B (l.getD k 0)=true/\∀j,j<k->B (l.getD j 0)=false:=(by rcases p with⟨h,_⟩|h;exact absurd h y;exact h);have A:sU B l (c+1)=l.take c:=(by rw[rB z,XG J,HA (by omega) K]);have C:(sU B l (c+1)).length=c:=(by rw[A,Yu];omega);have M:Ey B l (c+1)=l:=(by unfold Ey;rw[C,A,ZH]);refine Loop.by (α:=Nat) (λk=>[(0,.aL 2000 1),(1,.d (.one (.fn f n cap))),(5,an ((sU B l k).length:Nat)),(6,an k)]) (λk=>[(2000,.aJ 1 l.length 1 3 (nG (Ey B l k)))]) (λk=>k<=l.length) (λk=>l.length-k)
   (aH.at (c+1) z (.cons (.aJ (λj a m r=>aC.of_eq (by rw[M]))) .nil) (.cH (.cS (.cons (ao.int (by rw[C])) (.cons (ao.int (by rw[hw _];omega)) .nil))))) (λk U=>?_)
  refine ab.mk (λt=>?_) (λt=>?_);have g:k<l.length:=(by have:=XB t;omega);have N:=Bi B l k;refine aj.o ?_;have O:DP f (.one (i64 ((Ey B l k).getD (k:Int).toNat 0:Nat))::gn n cap) (aD (B (l.getD k 0))):=(by rw[Yw,He g];exact w k g);have P:(Ey B l k).getD (k:Int).toNat 0=l.getD k 0:=(by rw[Yw,He g]);refine ah.bool O (λb D=>?_);refine ab.mk (λu=>?_) (λu=>?_);have E:B (l.getD k 0)=false:=(by rw[<-D];simpa using u);have o:(sU B l (k+1)).length=(sU B l k).length+1:=(by rw[rB g,XD (by rw[E];simp),XR];rfl);refine aj.o ?_;refine aH.back (x:=k) (k+1) (by show k+1<=_;omega) (by omega) (.cons (.aJ (λj a m r=>?_)) .nil) (.cH (.cS (.cons (ao.int (by rw[hw _,o];omega)) (.cons (ao.int (by rw[hw _];omega)) .nil))));obtain rfl:m=0:=(by omega);rw[O2 g E,<-P];exact Fw _ _ _ j (by rw[O3];exact a);have Q:B (l.getD k 0)=true:=(by rw[<-D];simpa using u);have o:sU B l (k+1)=sU B l k:=(by rw[rB g,XG Q]);have R:Ey B l (k+1)=Ey B l k:=(by unfold Ey;rw[o]);exact aH.back (x:=k) (k+1) (by show k+1<=_;omega) (by omega) (.cons (.aJ (λj a m r=>aC.of_eq (by rw[R]))) .nil) (.cH (.cS (.cons (ao.int (by rw[o])) (.cons (ao.int (by rw[hw _];omega)) .nil))))
  ·have S:k=l.length:=(by have:=XA t;omega);subst S;have N:=Bi B l l.length;refine aj.o ?_;refine kv.l ?_;refine aj.o ?_;refine kv.r ⟨rfl,?_⟩;refine lS.mk ⟨.n 0,.one (.aL rfl rfl rfl),.cons (.bj (Yw _) (λh=>absurd h (by decide)) (λj a m r=>?_)) (.nil _),.inl rfl⟩;have a:j<(sU B l l.length).length:=(by rwa [Yw]at a);obtain rfl:m=0:=(by omega);have T:(0+((sU B l l.length).length:Int).toNat).ble j=false:=by
    rw[Yw,X6];cases h:(sU B l l.length).length.ble j with
    |false=>rfl
    |true=>exact absurd (XJ h) (by omega)
   refine aC.of_eq ?_;rw[T];show i64 _=i64 _;unfold Ey;simp only[List.getD];rw[YW a]
variable {m:Id->Mem} {nb:Nat->List Nat}
theorem GU {a b c g:Nat} {v:LV} {nx:List Nat} (x:m (.n a)= .obj [.s (aS v),.aL (.n b) g,.aL (.n c) g]) (H:m (.n b)= .br g v.length 1 22 λi _=> .aL (.s k i) g) (r:m (.n c)= .aJ g nx.length 1 3 (nG nx))
  (y:∀i,i<v.length->m (.s k i)= .aJ g (nb i).length 1 3 (nG (nb i))) (z:a≠b) (A:b≠c) {p gr n:Nat} {l:List Nat} {get:Nat->Nat->SV} {q:Nat->Nat->CV} (B:n=l.length) (C:∀j,j<n->aC (get j 0) (nG l j 0)) (D:∀i,i<v.length->q i 0= .aL (.s k i) (if i=p then gr else g)):
  JL (bo (bo m (.s k p) (.aJ gr n 1 3 get)) (.n b) (.br g v.length 1 22 q)) a b c k v (eg nb p l) nx:=by
 subst B;have o:∀(i j:Nat),(Id.s k i)≠ .n j:=λi j h=>by cases h
 have E:(Id.n a)≠ .n b:=λh=>by cases h;exact z rfl
 have t:(Id.n c)≠ .n b:=λh=>by cases h;exact A rfl
 have u:∀i,i<v.length->∃w,bo (bo m (.s k p) (.aJ gr l.length 1 3 get)) (.n b) (.br g v.length 1 22 q) (.s k i)= .aJ (if i=p then gr else g) (eg nb p l i).length 1 3 w/\∀j,j<(eg nb p l i).length->aC (w j 0) (nG (eg nb p l i) j 0):=λi f=>by rw[av _ _ _ (o i b)];unfold eg;by_cases e:i=p;subst e;rw[XG rfl,XG rfl,ar];exact⟨_,rfl,C⟩;rw[XD e,XD e,av _ _ _ (by intro h;cases h;exact e rfl),y i f];exact⟨_,rfl,λj I=>aC.refl _⟩
 refine⟨?_,?_,?_,λi f=>?_⟩;rw[av _ _ _ E,av _ _ _ (o p a).symm,ar,av _ _ _ t,av _ _ _ (o p c).symm,x,r];rfl;rw[ar];refine⟨_,_,rfl,λi f=>?_⟩;obtain⟨F,e,_⟩:=u i f;rw[e,D i f];rfl;rw[av _ _ _ t,av _ _ _ (o p c).symm,r];exact⟨_,_,rfl,λi f=>aC.refl _⟩;obtain⟨F,e,G⟩:=u i f;exact⟨_,_,e,G⟩
theorem VC {k:Id->Mem} {v:LV} {nx:List Nat} (h:JL m 2000 2001 2002 2003 v nb nx):Gg k (r9 2000 2001 2002 2003 0 0 v nb nx) m (.eG []) []:=by
 refine⟨λo=>o,.none,λo l=>?_,λo q _ _ e=>e,λ_ _=>rfl⟩;rcases bR o l with rfl|rfl|rfl|⟨i,a,rfl⟩;show jf m _ _ (m (.n 2000)) _;rw[h.obj];exact .obj (.cons (.s (aC.refl _)) (.cons (.aL rfl rfl rfl) (.cons (.aL rfl rfl rfl) .nil)));obtain⟨g,f,e,b⟩:=h.sh;show jf m _ _ (m (.n 2001)) _;rw[e];refine .br (λh=>absurd h (by decide)) (λi a j c=>?_);obtain rfl:j=0:=(by omega);rw[b i a];exact .aL rfl rfl (by rw[ca a];rfl);obtain⟨g,f,e,b⟩:=h.bw;show jf m _ _ (m (.n 2002)) _;rw[e];refine .aJ (λh=>absurd h (by decide)) (λi a j c=>?_);obtain rfl:j=0:=(by omega);exact b i a;obtain⟨g,f,e,b⟩:=h.row i a;show jf m _ _ (m (.s 2003 i)) _;rw[e,ca a];refine .aJ (λh=>absurd h (by decide)) (λj c p r=>?_);obtain rfl:p=0:=(by omega);exact b j c
theorem PG (k q:Nat):DP 146 [.one (i64 k),.one (.ad 1 λj=>[i64 q].getD j (.v Go.undef))] (aD (decide (k=q))):=by
 refine dg Tryz.func146 [] ?_;exact Fin.bool (by
  by_cases e:k=q;subst e;simp
  ·rw[X1 e];have:¬(k:Int)=q:=(by omega);simpa using this)
theorem PF (k q:Nat):DP 147 [.one (i64 k),.one (.ad 1 λj=>[i64 q].getD j (.v Go.undef))] (aD (decide (k=q))):=by
 refine dg Tryz.func147 [] ?_;exact Fin.bool (by
  by_cases e:k=q;subst e;simp
  ·rw[X1 e];have:¬(k:Int)=q:=(by omega);simpa using this)
theorem Dq (k p i gr g:Nat):(bif Nat.beq i p&&Nat.beq 0 0 then CV.aL (.s k p) gr else CV.aL (.s k i) g)=CV.aL (.s k i) (if i=p then gr else g):=by
 cases h:Nat.beq i p with
 |false=>rw[XD (λe=>by rw[e,Zs]at h;cases h)];rfl
 |true=>rw[XE h,XG rfl];rfl
theorem U5 (x y:Mem) (v:LV) (nb:Nat->List Nat) (nx:List Nat):GZ (aX ([((4:Id),x),(5,y)]++lD 2000 2001 2002 2003 0 0 v nb nx)) 2000 2001 2002 2003 v nb nx:=
 ⟨rfl,rfl,rfl,λi a=>vg (o1:=2000) (o2:=2001) (o3:=2002) (k:=2003) (g:=0) (gr:=0) (nb:=nb) (nx:=nx) a⟩
abbrev Ud (x:Int):Nat->SV:=λj=>[SV.ad 1 λj=>[i64 x].getD j (.v Go.undef)].getD j (.v Go.undef)
theorem Jz (v:LV) (nb:Nat->List Nat) (nx:List Nat) (p q:Nat) (l:p<v.length) (m:q<v.length) (A:p≠q) (B:v.length<=40000) (f:∀x,(nb x).length<=40000):
  Eo Tryz.prog 88 (.ptr (.n 2000) 0::[DV.one (i64 p),DV.one (i64 q)].map .d) (r9 2000 2001 2002 2003 1 1 v nb nx) (.eG [])
   (r9 2000 2001 2002 2003 0 0 v (eg (eg nb p ((nb p).filter λx=>!decide (x=q))) q (((eg nb p ((nb p).filter λx=>!decide (x=q))) q).filter λx=>!decide (x=p))) nx):=by
 refine ov kL mixed Tryz.func88 rfl rfl [3,145+2000000] (XJ rfl) (XJ rfl) (VN v nb _ nx [.one (i64 p),.one (i64 q)] 0 0) ?_;have t:∀(b o r:Mem) (i:Nat),i<v.length->bo (bo (bo (r9 2000 2001 2002 2003 1 1 v nb nx) (.n 4) b) (.n 5) o) (.n 5) r (.s 2003 i)= .aJ 1 (nb i).length 1 3 (nG (nb i)):=λb o r i c=>by rw[av _ _ _ (by intro h;cases h),av _ _ _ (by intro h;cases h),av _ _ _ (by intro h;cases h),ca c]
 refine aj.o ?_;refine⟨⟨.aL (.s 2003 p) 1,rfl,?_⟩⟩;refine eu.mk' [.s 2003 p] (DH (nb p) 146 1 (Ud q) (λx=>decide (x=q)) (f p) (λk u=>PG _ q))
  ⟨.cons (by show kd _ _ (r9 2000 2001 2002 2003 1 1 v nb nx (.s 2003 p)) _;rw[ca l];exact .aJ (λ_ _ _ _=>aC.refl _)) .nil,.cons (.aL rfl (by show 1=(r9 2000 2001 2002 2003 1 1 v nb nx (.s 2003 p)).gen;rw[ca l];rfl)) (.cD .nil),rfl,rfl,λh=>absurd rfl h⟩ ?_
 refine aj.o ?_;refine aj.n ?_;refine Cut.mk (aH.iC [(0,.ptr 2000 0),(4,.ptr 4 0),(5,.ptr 5 0)] ([((4:Id),.box [i64 p]),(5,.ro [i64 q])]++lD 2000 2001 2002 2003 0 0 v (eg nb p ((nb p).filter λx=>!decide (x=q))) nx)
  (.cX (.cons (.ro (gO.refl _)) (oa (GU (g:=1) rfl rfl rfl (t _ _ _) (by decide) (by decide) rfl (λj w=>aC.refl _) (λi c=>Dq 2003 p i _ 1)) (U5 _ _ v _ nx).sh (U5 _ _ v _ nx).bw (U5 _ _ v _ nx).row)))
  (.cons (.ptr (by intro h;cases h)) (.cB (.cons (.ro rfl rfl) .nil))) ?_)
 have y:∀x,(eg nb p ((nb p).filter λx=>!decide (x=q)) x).length<=40000:=λx=>jr f (Yf (ZI _ _) (f p)) x;generalize eg nb p ((nb p).filter λx=>!decide (x=q))=a at*;have Z:=U5 (.box [i64 p]) (.ro [i64 q]) v a nx;have z:∀(b:Mem) (i:Nat),i<v.length->bo (aX ([((4:Id),.box [i64 p]),(5,.ro [i64 q])]++lD 2000 2001 2002 2003 0 0 v a nx)) (.n 4) b (.s 2003 i)= .aJ 0 (a i).length 1 3 (nG (a i)):=λb i c=>by rw[av _ _ _ (by intro h;cases h),Z.row i c]
 refine aj.o ?_;refine⟨⟨.aL (.s 2003 q) 0,rfl,?_⟩⟩;refine eu.mk' [.s 2003 q] (DH (a q) 147 1 (Ud p) (λx=>decide (x=p)) (y q) (λk u=>PF _ p))
  ⟨.cons (by show kd _ _ (aX ([((4:Id),.box [i64 p]),(5,.ro [i64 q])]++lD 2000 2001 2002 2003 0 0 v a nx) (.s 2003 q)) _;rw[Z.row q m];exact .aJ (λ_ _ _ _=>aC.refl _)) .nil,.cons (.aL rfl (by show 0=(aX ([((4:Id),.box [i64 p]),(5,.ro [i64 q])]++lD 2000 2001 2002 2003 0 0 v a nx) (.s 2003 q)).gen;rw[Z.row q m];rfl)) (.cD .nil),rfl,rfl,λh=>absurd rfl h⟩ ?_
 refine aj.o ?_;refine aj.n ?_;refine VC (GU (g:=0) rfl rfl rfl (z _) (by decide) (by decide) rfl (λj w=>aC.refl _) (λi c=>Dq 2003 q i _ 0))
def Bw (nb:Nat->List Nat) (p q:Nat):Nat->List Nat:=eg (eg nb p ((nb p).filter λx=>!decide (x=q))) q (((eg nb p ((nb p).filter λx=>!decide (x=q))) q).filter λx=>!decide (x=p))
def yF (v:LV):(Nat->List Nat)->List Dt->(Nat->List Nat)×List Dt
 |nb,[]=>(nb,[])
 |nb,d::L=>if(Ew v nb d.1 d.2&&Ew v nb d.2 d.1)=true then yF v (Bw nb d.1 d.2) L else((yF v nb L).1,d::(yF v nb L).2)
variable {nb:Nat->List Nat} {p q:Nat}
theorem MT {B:Nat} (h:∀x,(nb x).length<=B) (x:Nat):(Bw nb p q x).length<=B:=by
 have a:=λx=>jr (nb:=nb) (p:=p) (l:=(nb p).filter λx=>!decide (x=q)) h (Yf (ZI _ _) (h p)) x;exact jr a (Yf (ZI _ _) (a q)) x
theorem BX {f:Nat->Bool} {x y:Nat} (h:y∈eg nb p ((nb p).filter f) x):y∈nb x:=by
 rcases BY.1 h with⟨rfl,k⟩|⟨_,k⟩;exact(Wx.1 k).1;exact k
theorem PC {n:Nat} (h:∀x y,y∈nb x->y<n) (x y:Nat) (a:y∈Bw nb p q x):y<n:=h x y (BX (BX a))
def Gf (v:LV):(Nat->List Nat)->List Dt->Prop
 |_,[]=>True
 |nb,d::L=>(d.2∈nb d.1/\d.1∈nb d.2/\(nb d.1).Nodup/\(nb d.2).Nodup/\d.1≠d.2)/\if(Ew v nb d.1 d.2&&Ew v nb d.2 d.1)=true then Gf v (Bw nb d.1 d.2) L else Gf v nb L
variable {m:Id->Mem} {a c k:Nat}
theorem L9 {b:Nat} {v:LV} {nx:List Nat} (h:GZ m a b c k v nb nx):mS m [a,b,c,k] (.ptr (.n a) 0) (.ad 3 (Mx v nb (nS nx))):=by
 refine .obj (by simp[Id.key]) h.obj (XP 3) (λj f=>?_)
 match j,f with
 |0,_=>exact .s _
 |1,_=>exact mS.br (o:= .n b) (by simp[Id.key]) h.sh (λi g j f=>mS.aJ (o:= .s k i) (by simp[Id.key]) (h.row i g))
 |2,_=>exact mS.aJ (o:= .n c) (by simp[Id.key]) h.bw
theorem GZ.bo {b:Nat} {v:LV} {nx:List Nat} (h:GZ m a b c k v nb nx) (j:Nat) (x:Mem) (f:a≠j) (g:b≠j) (l:c≠j):GZ (Go.Vm.bo m (.n j) x) a b c k v nb nx where
 obj:=by rw[av _ _ _ (by intro e;cases e;exact f rfl)];exact h.obj
 sh:=by rw[av _ _ _ (by intro e;cases e;exact g rfl)];exact h.sh
 bw:=by rw[av _ _ _ (by intro e;cases e;exact l rfl)];exact h.bw
 row i o:=by rw[av _ _ _ (by intro e;cases e)];exact h.row i o
def SL:Id->Id
 | .n j=>bif Nat.beq j 3000 then .n 510 else bif Nat.beq j 3001 then .n 511 else bif Nat.beq j 3002 then .n 512 else .n j
 | .s _ i=> .s 1504 i
theorem Pv {b:Nat} {v:LV} {nx:List Nat} {o:Id} (f:o≠ .n a) (h2:o≠ .n b) (g:o≠ .n c) (h:∀i,i<v.length->o≠ .s k i):cI m (lD a b c k 0 0 v nb nx) o=m o:=by
 simp only[lD,cI];rw[dY _ _ _ (iF h),av _ _ _ g,av _ _ _ h2,av _ _ _ f]
theorem HN {b:Nat} {v:LV} {nx:List Nat} (f:a≠b:=by decide) (g:a≠c:=by decide) (j:b≠c:=by decide):GZ (cI m (lD a b c k 0 0 v nb nx)) a b c k v nb nx where
 obj:=by simp only[lD,cI];rw[dY _ _ _ (iF (λi _ h=>by cases h)),av _ _ _ (by intro h;cases h;exact g rfl),av _ _ _ (by intro h;cases h;exact f rfl),ar]
 sh:=by simp only[lD,cI];rw[dY _ _ _ (iF (λi _ h=>by cases h)),av _ _ _ (by intro h;cases h;exact j rfl),ar]
 bw:=by simp only[lD,cI];rw[dY _ _ _ (iF (λi _ h=>by cases h)),ar]
 row i l:=by simp only[lD,cI];rw[YO,CH _ _ _ _ _ l]
theorem TR {v:LV} {nx:List Nat} {x:DV} {xs:List TV} (p:lP m SL xs [.d x]) (h:∀j,j=510\/j=511\/j=512->m (.n j)= .none) (hs:∀i,m (.s 1504 i)= .none) (q:Option Nat):
  Qe m SL (λ_=>0) xs [.d x] (λ_=> .none) (r9 3000 3001 3002 3003 0 0 v nb nx) (lD 510 511 512 1504 0 0 v nb nx) [510,511,512,1504] q where
 mem o f:=absurd rfl f
 args:=p
 inj o r t u e:=by have s0:SL (.n 3000)= .n 510:=rfl;have w:SL (.n 3001)= .n 511:=rfl;have y:SL (.n 3002)= .n 512:=rfl;have z:∀i,SL (.s 3003 i)= .s 1504 i:=λ_=>rfl;rcases bR o t with rfl|rfl|rfl|⟨i,g,rfl⟩<;>rcases bR r u with rfl|rfl|rfl|⟨j,A,rfl⟩<;>simp only[s0,w,y,z,Id.n.injEq,Id.s.injEq,reduceCtorEq,aaD]at e<;>first|rfl|(exfalso;revert e;decide)|rw[e]
 key o f:=by rcases bR o f with rfl|rfl|rfl|⟨i,g,rfl⟩;exact XW ..;exact XK _ (XW ..);exact XK _ (XK _ (XW ..));exact XK _ (XK _ (XK _ (XW ..)))
 fresh o _ f:=by rcases bR o f with rfl|rfl|rfl|⟨i,g,rfl⟩;exact⟨h 510 (.inl rfl),.inl (show 510<2000 by decide)⟩;exact⟨h 511 (.inr (.inl rfl)),.inl (show 511<2000 by decide)⟩;exact⟨h 512 (.inr (.inr rfl)),.inl (show 512<2000 by decide)⟩;exact⟨hs i,.inl (show 1504<2000 by decide)⟩
 gen o f:=absurd rfl f
 Hl l o f:=by have Z:=HN (m:=l) (a:=510) (b:=511) (c:=512) (k:=1504) (v:=v) (nb:=nb) (nx:=nx);rcases bR o f with rfl|rfl|rfl|⟨i,g,rfl⟩;exact Z.obj.trans rfl;exact Z.sh.trans rfl;exact Z.bw.trans rfl;rw[ca g];exact(Z.row i g).trans rfl
 A2 l o f:=by refine Pv (λe=>f (.n 3000) (by intro h;cases h) e.symm) (λe=>f (.n 3001) (by intro h;cases h) e.symm) (λe=>f (.n 3002) (by intro h;cases h) e.symm) (λi g e=>f (.s 3003 i) (by rw[ca g];simp) e.symm)
def CW (o:LV) (hs:List (LV)):Nat->List Nat:=nA (aA o hs) (dD (iL 0 (aZ o::eZ hs)++qQ o hs (aA o hs))) (aA o hs).length
def NX (o:LV) (hs:List (LV)):List Nat:=Fm (aA o hs).length (r8 (aZ o::eZ hs))
def yE (o:LV) (hs:List (LV)):(Nat->List Nat)×List Dt:=yF (aA o hs) (CW o hs) (qQ o hs (aA o hs))
theorem po (z:Mem) (v:LV) (nb:Nat->List Nat) (nx:List Nat):GZ (aX ([((8:Id),.none),(501,z)]++lD 510 511 512 1504 0 0 v nb nx)) 510 511 512 1504 v nb nx:=
 ⟨rfl,rfl,rfl,λi a=>vg (o1:=510) (o2:=511) (o3:=512) (k:=1504) (g:=0) (gr:=0) (nb:=nb) (nx:=nx) a⟩
theorem O0 {o:LV} {hs:List (LV)} (V:VS o hs) (x:Nat):(CW o hs x).length<=13000:=by
 have a:=rE (iL 0 (aZ o::eZ hs)++qQ o hs (aA o hs)) x;have b:=jR V;have c:=V.er;have f:=u2 (o:=o) (hs:=hs) (v:=aA o hs);rw[XR,uX,nZ V]at a;unfold CW nA;split;rw[Cc];omega;omega
theorem RR {o:LV} {hs:List (LV)} (V:VS o hs) (b:∀p,p<(aA o hs).length->pP (dD (iL 0 (aZ o::eZ hs)++qQ o hs (aA o hs)) p).length (N0 (aA o hs) p (dD (iL 0 (aZ o::eZ hs)++qQ o hs (aA o hs)) p))) (p y:Nat) (h:y∈CW o hs p):y<(aA o hs).length:=by
 have c:y∈dD (iL 0 (aZ o::eZ hs)++qQ o hs (aA o hs)) p:=by
  unfold CW nA at h;split at h
  ·next q=>exact(yG (b p q)).mem_iff.1 h
  ·exact h
 have a:∀d∈iL 0 (aZ o::eZ hs)++qQ o hs (aA o hs),d.1<(aA o hs).length/\d.2<(aA o hs).length:=λd f=>by rcases XN.1 f with k|k;have:=E8 k;rw[nZ V,<-jR V]at this;omega;have:=wA k;omega
 rcases oe.1 c with k|k;exact(a _ k).2;exact(a _ k).1
set_option maxRecDepth 2000 in
theorem An {o:LV} {hs:List (LV)} (V:VS o hs) (a0:∀i k,i<(aA o hs).length->k<(aA o hs).length->gt (aA o hs) i=gt (aA o hs) k->i=k)
  (M:∀p,p<(aA o hs).length->pP (dD (iL 0 (aZ o::eZ hs)++qQ o hs (aA o hs)) p).length (N0 (aA o hs) p (dD (iL 0 (aZ o::eZ hs)++qQ o hs (aA o hs)) p)))
  (hS:Gf (aA o hs) (CW o hs) (qQ o hs (aA o hs))):
  DP 45 [hF o hs] (.eG [.one (.ad 3 (Mx (aA o hs) (yE o hs).1 (nS (NX o hs)))),.one (.sl (yE o hs).2.length 2 (kQ (yE o hs).2))]):=by
 refine dg Tryz.func45 [9000011,9000012,9000013,9000039,3,10] ?_;have b1:=jR V;have b2:=V.er;refine xX.mk' (qO rfl rfl rfl (Jd V a0 M) (TR (.cD .nil) (λj h=>?_) (λi=>rfl) _)) ?_;(rcases h with rfl|rfl|rfl<;>rfl)
 refine jm.2 ?_;refine xX.mk' (Ll rfl rfl) ?_;refine xX.mk' (Lk (i:=0) rfl rfl rfl) ?_;obtain⟨v,r⟩:∃v,v=aA o hs:=⟨_,rfl⟩;obtain⟨D,E⟩:∃D,D=qQ o hs (aA o hs):=⟨_,rfl⟩;obtain⟨B,G⟩:∃B,B=CW o hs:=⟨_,rfl⟩;obtain⟨a,N⟩:∃a,a=NX o hs:=⟨_,rfl⟩;obtain⟨R,O⟩:∃R,R=yE o hs:=⟨_,rfl⟩;have P:=O0 V;have I:=RR V M;have b3:D.length<=6400:=by rw[E];exact u2
 have a1:∀d∈D,d.1<v.length/\d.2<v.length:=λd g=>by rw[E]at g;rw[r];have:=wA g;omega
 rw[<-O,<-N,<-r];rw[<-G,<-E,<-r]at hS;rw[<-G]at P I;have b4:v.length<=80:=by rw[r];omega
 rw[<-r]at I;have Q:R=yF v B D:=by rw[O,r,G,E];rfl
 refine Cut.mk (aH.iC [(4,.ptr 510 0),(5,.d (.one (.sl D.length 2 (kQ D))))] ([((8:Id),.none),(501,.none)]++lD 510 511 512 1504 0 0 v B a) (.none (.none (oa (by rw[r,G,N];exact(HN).BU) (po _ v _ a).sh (po _ v _ a).bw (po _ v _ a).row)))
  (.cons (.ptr (by intro h;cases h)) (.cons (.data (dV.of_eq (by rw[E,r]))) .nil)) ?_)
 refine Loop.by (α:=Nat×(Nat->List Nat)×List Dt) (λx=>[(4,.ptr 510 0),(6,.aL 501 0),(14,.d (.one (.sl D.length 2 (kQ D)))),(15,an D.length),(16,an x.1)])
  (λx=>[((8:Id),.none),(501,.aJ 0 x.2.2.length 2 83 (kQ x.2.2))]++lD 510 511 512 1504 0 0 v x.2.1 a)
  (λx=>x.1<=D.length/\x.2.2.length<=x.1/\R.1=(yF v x.2.1 (D.drop x.1)).1/\R.2=x.2.2++(yF v x.2.1 (D.drop x.1)).2/\Gf v x.2.1 (D.drop x.1)/\(∀y,(x.2.1 y).length<=13000)/\∀p y,y∈x.2.1 p->y<v.length) (λx=>D.length-x.1)
  (aH.nil 6 501 2 83 (kQ []) rfl rfl (aH.at (0,B,[]) ⟨XS _,XS _,by rw[Q];rfl,by rw[Q];rfl,hS,P,I⟩ (.none (.cons (.bj rfl (λ_ h=>absurd h (XL _))) (oa ((po .none v B a).BU.bo 501 _ (by decide) (by decide) (by decide)) (po _ v _ a).sh (po _ v _ a).bw (po _ v _ a).row))) (.cons (.ptr (by intro h;cases h)) (.cH (.cS (.cS (.cS .nil))))))) (λx l=>?_)
 obtain⟨i,nb,b⟩:=x;obtain⟨a2,a3,c,f,t,z,C⟩:=l;simp only at a2 a3 c f t z C;refine ab.mk (λJ=>?_) (λJ=>?_)
 ·have K:i<D.length:=(by have:=XB J;simp only at this;omega);obtain⟨d,g⟩:∃d,d=bf D (i:Int).toNat:=⟨_,rfl⟩;have S:d=D[i]:=(by rw[g];simp[List.getD,K]);have a4:d∈D:=(by rw[S];exact YU K);obtain⟨T,U⟩:=a1 d a4;have H:D.drop i=d::D.drop (i+1):=(by rw[Y6 K,S]);have X:=t;rw[H]at X;obtain⟨⟨a5,a6,a7,a8,a9⟩,_⟩:=X;refine aj.o ?_;refine aj.mk (by decide) ?_;refine aj.mk (by decide) ?_;refine⟨⟨_,_,L9 (((po _ v nb a).bo 8 _ (by decide) (by decide) (by decide)).bo 8 _ (by decide) (by decide) (by decide)),?_⟩⟩;refine ah.bool ((zg v nb (nS a) d.1 d.2 (by omega) T a5 a7 (by have:=z d.1;omega) (λy u=>C d.1 y u)).le (.cR (.cons (dV.of_eq (by rw[g])) (.cons (dV.of_eq (by rw[g])) .nil)))) (λx l=>?_);repeat' first|apply ab.t|apply ab.f
  cases x with
  |false=>
   repeat' first|apply ab.t|apply ab.f
   have q:(Ew v nb d.1 d.2&&Ew v nb d.2 d.1)=false:=(by rw[<-l];rfl);have F:yF v nb (d::D.drop (i+1))=((yF v nb (D.drop (i+1))).1,d::(yF v nb (D.drop (i+1))).2):=(by simp only[yF];rw[XD (by rw[q];decide)]);rw[H]at c f t;rw[F]at c f;have w:=t.2;rw[XD (by rw[q];decide)]at w;refine aj.mk (aY (by show b.length+1<=_;omega)) ?_;refine Cut.mk (aH.iC [(4,.ptr 510 0),(6,.aL 501 0),(14,.d (.one (.sl D.length 2 (kQ D)))),(15,an D.length),(16,an i)] ([((8:Id),.none),(501,.aJ 0 (b++[d]).length 2 83 (kQ (b++[d])))]++lD 510 511 512 1504 0 0 v nb a)
    (.none (.cons (.bj (by rw[XR];rfl) (λx l j A=>by rw[g];exact ot _ _ x j l A)) (oa ((((po _ v _ a).BU.bo 8 _ (by decide) (by decide) (by decide)).bo 8 _ (by decide) (by decide) (by decide)).bo 501 _ (by decide) (by decide) (by decide)) (po _ v _ a).sh (po _ v _ a).bw (po _ v _ a).row))) (.cons (.ptr (by intro h;cases h)) (.cH (.cS (.cS (.cS .nil))))) ?_)
   exact aH.back (x:=(i,nb,b)) (i+1,nb,b++[d]) ⟨by show i+1<=_;omega,by show(b++[d]).length<=i+1;rw[XR];show b.length+1<=i+1;omega,c,by show _=(b++[d])++_;rw[f,Yk];rfl,w,z,C⟩ (by show D.length-(i+1)<D.length-i;omega) (.none (.cons (.bj rfl (λ_ _ _ _=>aC.refl _)) (oa (po _ v _ a).BU (po _ v _ a).sh (po _ v _ a).bw (po _ v _ a).row))) (.cons (.ptr (by intro h;cases h)) (.cH (.cS (.cS (.cons (ao.int (by rw[hw _];omega)) .nil)))))
  |true=>
   repeat' first|apply ab.t|apply ab.f
   refine aj.mk (by decide) ?_;repeat' first|apply ab.t|apply ab.f
   refine aj.mk (by decide) ?_;repeat' first|apply ab.t|apply ab.f
   refine⟨⟨_,_,L9 (((po _ v nb a).bo 8 _ (by decide) (by decide) (by decide)).bo 8 _ (by decide) (by decide) (by decide)),?_⟩⟩;refine ah.bool ((zg v nb (nS a) d.2 d.1 (by omega) U a6 a8 (by have:=z d.2;omega) (λy u=>C d.2 y u)).le (.cR (.cons (dV.of_eq (by rw[g])) (.cons (dV.of_eq (by rw[g])) .nil)))) (λy u=>?_);repeat' first|apply ab.t|apply ab.f
   cases y with
   |false=>
    repeat' first|apply ab.t|apply ab.f
    have q:(Ew v nb d.1 d.2&&Ew v nb d.2 d.1)=false:=(by rw[<-l,<-u];rfl);have F:yF v nb (d::D.drop (i+1))=((yF v nb (D.drop (i+1))).1,d::(yF v nb (D.drop (i+1))).2):=(by simp only[yF];rw[XD (by rw[q];decide)]);rw[H]at c f t;rw[F]at c f;have w:=t.2;rw[XD (by rw[q];decide)]at w;refine aj.mk (aY (by show b.length+1<=_;omega)) ?_;refine Cut.mk (aH.iC [(4,.ptr 510 0),(6,.aL 501 0),(14,.d (.one (.sl D.length 2 (kQ D)))),(15,an D.length),(16,an i)] ([((8:Id),.none),(501,.aJ 0 (b++[d]).length 2 83 (kQ (b++[d])))]++lD 510 511 512 1504 0 0 v nb a)
     (.none (.cons (.bj (by rw[XR];rfl) (λx l j A=>by rw[g];exact ot _ _ x j l A)) (oa ((((po _ v _ a).BU.bo 8 _ (by decide) (by decide) (by decide)).bo 8 _ (by decide) (by decide) (by decide)).bo 501 _ (by decide) (by decide) (by decide)) (po _ v _ a).sh (po _ v _ a).bw (po _ v _ a).row))) (.cons (.ptr (by intro h;cases h)) (.cH (.cS (.cS (.cS .nil))))) ?_)
    exact aH.back (x:=(i,nb,b)) (i+1,nb,b++[d]) ⟨by show i+1<=_;omega,by show(b++[d]).length<=i+1;rw[XR];show b.length+1<=i+1;omega,c,by show _=(b++[d])++_;rw[f,Yk];rfl,w,z,C⟩ (by show D.length-(i+1)<D.length-i;omega) (.none (.cons (.bj rfl (λ_ _ _ _=>aC.refl _)) (oa (po _ v _ a).BU (po _ v _ a).sh (po _ v _ a).bw (po _ v _ a).row))) (.cons (.ptr (by intro h;cases h)) (.cH (.cS (.cS (.cons (ao.int (by rw[hw _];omega)) .nil)))))
   |true=>
    repeat' first|apply ab.t|apply ab.f
    have q:(Ew v nb d.1 d.2&&Ew v nb d.2 d.1)=true:=(by rw[<-l,<-u];rfl);have b5:=q;have F:yF v nb (d::D.drop (i+1))=yF v (Bw nb d.1 d.2) (D.drop (i+1)):=(by simp only[yF];rw[XG q]);rw[H]at c f t;rw[F]at c f;have w:=t.2;rw[XG q]at w;refine aj.mk (by decide) ?_;refine aj.mk (by decide) ?_;refine xX.mk' (qO rfl rfl rfl (Jz v nb a d.1 d.2 T U a9 (by omega) (λx=>by have:=z x;omega)) (TS (((po _ v nb a).bo 8 _ (by decide) (by decide) (by decide)).bo 8 _ (by decide) (by decide) (by decide)).BU (by decide) (by decide) (by decide) 0 0 (.cons (.ptr rfl) (.cons (.d (dV.of_eq (by rw[g]))) (.cons (.d (dV.of_eq (by rw[g]))) .nil))) _)) ?_;refine jm.2 ?_;have Y:∀(j:Nat),¬(j=510\/j=511\/j=512)->∀(m m' Z:Id->Mem) (nb:Nat->List Nat),cI m' (Hm m Z 510 511 512 1504 v nb a) (.n j)=m' (.n j):=λj A m m' Z nb=>
     A4 (by intro h;cases h;exact A (.inl rfl)) (by intro h;cases h;exact A (.inr (.inl rfl))) (by intro h;cases h;exact A (.inr (.inr rfl))) (λi _ h=>by cases h)
    refine Cut.mk (aH.iC [(4,.ptr 510 0),(6,.aL 501 0),(14,.d (.one (.sl D.length 2 (kQ D)))),(15,an D.length),(16,an i)] ([((8:Id),.none),(501,.aJ 0 b.length 2 83 (kQ b))]++lD 510 511 512 1504 0 0 v (Bw nb d.1 d.2) a)
     (.none (.cons ?_ (oa (LL) (po _ v _ a).sh (po _ v _ a).bw (po _ v _ a).row)))
     (.cons (.ptr (by intro h;cases h)) (.cons (.aL (n:=b.length) (k:=2) (by rw[show((501:Id))= .n 501 from rfl,Y 501 (by decide)];rfl) rfl) (.cS (.cS (.cS .nil))))) ?_)
    ·rw[show((501:Id))= .n 501 from rfl,Y 501 (by decide)];exact .bj rfl (λ_ _ _ _=>aC.refl _)
    exact aH.back (x:=(i,nb,b)) (i+1,Bw nb d.1 d.2,b) ⟨by show i+1<=_;omega,by show b.length<=i+1;omega,c,f,w,λy=>MT z y,λp y u=>PC C p y u⟩ (by show D.length-(i+1)<D.length-i;omega) (.none (.cons (.bj rfl (λ_ _ _ _=>aC.refl _)) (oa (po _ v _ a).BU (po _ v _ a).sh (po _ v _ a).bw (po _ v _ a).row))) (.cons (.ptr (by intro h;cases h)) (.cH (.cS (.cS (.cons (ao.int (by rw[hw _];omega)) .nil)))))
 ·have b0:i=D.length:=(by have:=XA J;simp only at this;omega);subst b0;rw[aaq]at c f;have c:R.1=nb:=c;have f:R.2=b:=(by rw[f];exact YO _);rw[c,f];refine⟨⟨_,_,L9 (po _ v nb a),?_⟩⟩;exact Fin.eG (.cR (.cR .nil))
end Sg
end Go.Vm
