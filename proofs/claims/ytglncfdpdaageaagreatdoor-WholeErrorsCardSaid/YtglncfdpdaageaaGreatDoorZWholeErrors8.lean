/- part 8 -/
import Derived.Test.YtglncfdpdaageaaGreatDoorZWholeErrors7
set_option linter.all false
noncomputable section
open Go Go.RowKit
set_option maxRecDepth 100000
open Nat (beq blt ble)
namespace Go.Proofs.YtglncfdpdaageaaGreatDoor
variable{v:Act}{I:In}{c o:CV}{e:Do CV}{E b u:Nat}{m:Nm}{M:Op}{C:Tr CV}{k:GE}{N:bX}
section
variable{P:Fd}{Dk:Deferred->Prop}{w0:GE}{T:EQ->bu}
def ny(ρ:Nm)(t:Tr CV)(a:Act):Prop:=∀i c,t.get i=some c->∃u,a.tmps[i]? =some u/\KR ρ c u
def ny.mono{ρ b:Nm}{t:Tr CV}{a:Act}(h:ny ρ t a)(g:Bp ρ b):ny b t a:=λi c j=>let⟨u,e,f⟩:=h i c j;⟨u,e,f.mono g⟩
def cvK:Id->CV
 |.agg a=>.ag (a.toList.map .v)
 |x=>.v x
def LR.vs{ρ:Nm}(b:bC):LR (KR ρ) (b.map .v) b:=⟨d5,λj c u a e=>by
 rw[auM,e]at a;cases a;exact .v⟩
def GW{ρ:Nm}(x:Id):KR ρ (cvK x) x:=by
 unfold cvK;split
 ·rename_i a
  have h:=LR.vs (ρ:=ρ) a.toList;have:=KR.ag (ρ:=ρ) a.toList h.1 h.2;simpa using this
 ·exact .v
def ea(t:Tr CV){R:Type}(x:If)(k:CV->At R):At R:=
 Operand.rec (motive:=λ_=>(CV->At R)->At R) (λi k=>oB (t.get i) k) (λv k=>k (cvK v)) (λg k=>k (.gl g 0)) (λf k=>k (.v (.func (.func f) #[] #[]))) x k
def ku(t:Tr CV)(x:If)(c:CV):Prop:=∀ρ a,ny ρ t a->KR ρ c (a.eval x)
def cx{t:Tr CV}{R:Type}{x:If}{k:CV->At R}{r:R}(h:ea t x k=some r):∃c,ku t x c/\k c=some r:=by
 cases x with
 |tmp i=>
  obtain⟨c,l,h⟩:=bH h;refine⟨c,λρ a b=>?_,h⟩;obtain⟨u,e,j⟩:=b i c l;have:a.eval (.tmp i)=u:=by simp[Act.eval,avA,e]
  rw[this];exact j
 |const v=>exact⟨_,λρ a b=>GW v,h⟩
 |global g=>exact⟨_,λρ a b=>.gl,h⟩
 |func f=>exact⟨_,λρ a b=>.v,h⟩
def qR(t:Tr CV){R:Type}(e:nA):(Do CV->At R)->At R:=
 List.rec (motive:=λ_=>(Do CV->At R)->At R) (λk=>k []) (λx _ b k=>ea t x λc=>b λa=>k (c::a)) e
def D0{t:Tr CV}{R:Type}{r:R}:∀{xs:nA} {k:Do CV->At R},qR t xs k=some r->∃b,(∀ρ a,ny ρ t a->LR (KR ρ) b (xs.map a.eval))/\k b=some r
 |[],k,h=>⟨[],λ_ _ _=>LR.nil,h⟩
 |x::xs,k,h=>by
  obtain⟨c,f,h⟩:=cx h;obtain⟨b,g,h⟩:=D0 (xs:=xs) h;exact⟨c::b,λρ a e=>LR.cons (f ρ a e) (g ρ a e),h⟩
def CB(P:Fd)(w0:GE)(d:Deferred):Prop:=∃c b f a,d.target=.fn c b/\∀w,Ext w0 w->(invoke d.target d.args).run P w=.ok (.enter f a) w/\CallsD P f a .returning w λe u g=>(∃v,e=.returned v)/\u=.returning/\Ext w g
def Yld(P:Fd)(Dk:Deferred->Prop)(o:Oper)(a:Act)(w:GE)(R:Id->GE->Prop):Prop:=
 ∀next Q,(∀v b D,R v b->(∀d∈D,Dk d)->next (({a with defers:=D++a.defers}:Act).put o.dst v) b)->o.wp P a w next Q
def Yld.value{o:Oper}{a:Act}{w w':GE}{v:Id}{R:Id->GE->Prop}(c:(execOp a.eval o).run P w=.ok (.value v) w')(h:R v w'):Yld P Dk o a w R:=λnext Q b=>eu c (b _ _ [] h d5)
def Yld.skip{o:Oper}{w w':GE}{R:Id->GE->Prop}(b:(execOp v.eval o).run P w=.ok .skip w')(h:R undef w'):Yld P Dk o v w R:=λnext Q a=>uf b (a _ _ [] h d5)
def FK(P:Fd)(Dk:Deferred->Prop)(w0:GE)(o:Oper)(t:Tr CV)(h:Tr c5)(n:Nat)(c:CV)(e:Tr c5)(f:Nat):Prop:=
 ∀ρ a w,ny ρ t a->HR P w0 ρ h.get n w->Yld P Dk o a w λv g=>∃b,KP P w0 ρ h.get n w b e.get f g/\KR b c v
def QK(P:Fd)(o:Oper)(t:Tr CV)(c:CV):Prop:=∀ρ a w,ny ρ t a->∃v,(execOp a.eval o).run P w=.ok (.value v) w/\KR ρ c v
def PK(P:Fd)(w0:GE)(o:Oper)(t:Tr CV)(h:Tr c5)(c:CV):Prop:=∀ρ a w N,ny ρ t a->HR P w0 ρ h.get N w->∃v,(execOp a.eval o).run P w=.ok (.value v) w/\KR ρ c v
def u0(H:KH)(N:Nat):At c5->KH
 |none=>H
 |some b=>λk=>if k=N then some b else H k
def Ac(N:Nat):At c5->Nat
 |none=>N
 |some _=>N+1
def ZK(P:Fd)(Dk:Deferred->Prop)(w0:GE)(o:Oper)(t:Tr CV)(e:Nat->CV)(b:At c5):Prop:=∀ρ a w (H:KH) N,ny ρ t a->HR P w0 ρ H N w->Yld P Dk o a w λv f=>∃c,KP P w0 ρ H N w c (u0 H N b) (Ac N b) f/\KR c (e N) v
def QK.z{o:Oper}{t:Tr CV}(f:QK P o t c):ZK P Dk w0 o t (λ_=>c) none:=λρ a w H N i g=>by
 obtain⟨v,b,e⟩:=f ρ a w i;exact .value b ⟨ρ,.refl g,e⟩
def PK.fk{o:Oper}{t:Tr CV}{h:Tr c5}{n:Nat}(g:PK P w0 o t h c):FK P Dk w0 o t h n c h n:=λρ a w i b=>by
 obtain⟨v,e,f⟩:=g ρ a w n i b;exact .value e ⟨ρ,.refl b,f⟩
def FK.pure{o:Oper}{t:Tr CV}{h:Tr c5}{n:Nat}(g:∀ρ a w,ny ρ t a->HR P w0 ρ h.get n w->∃v,(execOp a.eval o).run P w=.ok (.value v) w/\KR ρ c v):FK P Dk w0 o t h n c h n:=λρ a w i b=>by
 obtain⟨v,e,f⟩:=g ρ a w i b;exact .value e ⟨ρ,.refl b,f⟩
section
variable{t:Tr CV}{h:Tr c5}{n:Nat}{d:iC}{ty t1 t2:EQ}{pos:String}{af:dm}{gd:fH}{x y z:If}{R:Type}{r:R}
def asI(c:CV){R:Type}(k:IntKind->Int->At R):At R:=match c with
 |.v (.int a m)=>k a m
 |_=>none
def LK{k:IntKind->Int->At R}(h:asI c k=some r):∃a m,c=.v (.int a m)/\k a m=some r:=by
 unfold asI at h;split at h
 ·exact⟨_,_,rfl,h⟩
 ·cases h
def asB(c:CV){R:Type}(k:In->At R):At R:=match c with
 |.v (.bool b)=>k b
 |_=>none
def TB{k:In->At R}(h:asB c k=some r):∃b,c=.v (.bool b)/\k b=some r:=by
 unfold asB at h;split at h
 ·exact⟨_,rfl,h⟩
 ·cases h
def blC(h:Tr c5)(k:Nat){R:Type}(f:Tr CV->Nat->bX->In->At R):At R:=oB (h.get k) λx=>match x with
 |.ce a n e wr=>f a n e wr
 |_=>none
def Bq{f:Tr CV->Nat->bX->In->At R}(a:blC h b f=some r):∃c m e wr,h.get b=some (.ce c m e wr)/\f c m e wr=some r:=by
 obtain⟨x,g,a⟩:=bH a;split at a
 ·exact⟨_,_,_,_,g,a⟩
 ·cases a
def rdC(a:Tr CV){R:Type}:Nat->Nat->(Do CV->At R)->At R:=Nat.rec (motive:=λ_=>Nat->(Do CV->At R)->At R) (λ_ k=>k [])
 (λ_ b o k=>oB (a.get o) λc=>b (Nat.succ o) λl=>k (c::l))
def GX{b:Tr CV}:∀{m o:Nat} {k:Do CV->At R},rdC b m o k=some r->∃l,l.length=m/\(∀(j:Nat) c,l[j]? =some c->b.get (o+j)=some c)/\k l=some r
 |0,o,k,h=>⟨[],rfl,d5,h⟩
 |m+1,o,k,h=>by
  obtain⟨c,i,h⟩:=bH h;obtain⟨l,e,f,g⟩:=GX (m:=m) h;refine⟨c::l,by simp[e],λj x a=>?_,g⟩;cases j with
  |zero=>simp at a;subst a;exact i
  |succ j=>rw[show o+(j+1)=o+1+j by omega];exact f j x (by simpa using a)
def BR.cells{wr:In}(F:BR P m k b u (.ce C E N wr)){o:Nat}:∀(l:Do CV),(∀(j:Nat) c,l[j]? =some c->C.get (o+j)=some c)->
 ∃w,LR (KR m) l w/\(∀(j:Nat) a,w[j]? =some a->k.cell? ⟨b,o+j,none⟩=some a)/\∀a∈w,a.oneCell'=true:=λl I=>by
 obtain⟨ty,f,B,K,D,L⟩:=F;have v:∀(j:Nat) c,l[j]? =some c->KR m c (f.getD (o+j) undef)/\k.cell? ⟨b,o+j,none⟩=some (f.getD (o+j) undef)/\(f.getD (o+j) undef).oneCell'=true:=λj c g=>by
  obtain⟨_,a,e,A,J⟩:=D _ _ (I j c g);have:f.getD (o+j) undef=a:=by simp[avA,e]
  rw[this];exact⟨A,by rw[avu k b (o+j) f ty (0,0) B,e],A.jI J⟩
 have g:∀(j:Nat) a,((List.range l.length).map λj=>f.getD (o+j) undef)[j]? =some a->∃c,l[j]? =some c/\a=f.getD (o+j) undef:=λj a e=>by
  rw[auM]at e;obtain⟨i,H,rfl⟩:=auY.1 e;have:=(aus.1 H);obtain⟨s,rfl⟩:=this;simp at s;exact⟨l[j],auy s,d5⟩
 refine⟨(List.range l.length).map λj=>f.getD (o+j) undef,⟨d5,λj c a G e=>?_⟩,λj a e=>?_,λa e=>?_⟩
 ·obtain⟨p,q,rfl⟩:=g j a e
  exact(v j c G).1
 ·obtain⟨p,q,rfl⟩:=g j a e
  exact(v j p q).2.1
 ·obtain⟨j,s,rfl⟩:=avc e
  obtain⟨p,q,N⟩:=g j _ (auy s);rw[N];exact(v j p q).2.2
def FK.ev(b:M=.move x\/M=.assign x)(f:ku t x c):QK P ⟨d,M,ty,pos,af,gd⟩ t c:=λρ a w e=>by
 refine⟨a.eval x,?_,f ρ a e⟩;rcases b with rfl|rfl<;>simp[execOp]
def Yk(a:In)(l:Do CV){R:Type}(k:CV->At R):At R:=bB a (k (.ag l)) (match l with
 |[c]=>k c
 |_=>none)
def JI{ρ:Nm}{w:GE}{m b o:Nat}{a:bC}{k:CV->At R}(q:Rq P t1=some (I,m))(p:e.length=m)(s:Yk I e k=some r)(f:LR (KR ρ) e a)(l:∀(j:Nat) u,a[j]? =some u->w.cell? ⟨b,o+j,none⟩=some u):
 ∃u,(loadVar t1 ⟨b,o,none⟩).run P w=.ok u w/\∀c,(I=true/\c=.ag e\/I=false/\e=[c])->KR ρ c u:=by
 have i:=pN (P:=P) q (b:=b) (o:=o) (us:=a) (w:=w) (by rw[f.1,p]) l;cases I with
 |true=>
  refine⟨.agg a.toArray,i.1 rfl,λc g=>?_⟩;rcases g with⟨_,rfl⟩|⟨h,_⟩
  ·exact .ag a f.1 f.2
  ·cases h
 |false=>
  have:∃c,e=[c]:=by
   rcases dE s with⟨h,_⟩|⟨_,h⟩
   ·cases h
   ·split at h
    ·exact⟨_,rfl⟩
    ·cases h
  obtain⟨c,rfl⟩:=this;obtain⟨u,rfl⟩:∃u,a=[u]:=by
   match a,f.1 with
   |[u],_=>exact⟨u,rfl⟩
  refine⟨u,i.2 rfl u rfl,λv g=>?_⟩;rcases g with⟨h,_⟩|⟨_,h⟩
  ·cases h
  ·cases h;exact f.2 0 c u rfl rfl
def QN{k:CV->At R}(a:Yk I e k=some r):∃c,(I=true/\c=.ag e\/I=false/\e=[c])/\k c=some r:=by
 rcases dE a with⟨rfl,h⟩|⟨rfl,h⟩
 ·exact⟨_,.inl ⟨rfl,rfl⟩,h⟩
 ·split at h
  ·exact⟨_,.inr ⟨rfl,rfl⟩,h⟩
  ·cases h
def atK(h:Tr c5)(c:CV)(a:In)(m:Nat){R:Type}(k:CV->At R):At R:=match c with
 |.pt j o=>blC h j λb _ _ _=>rdC b m o λl=>Yk a l k
 |.gl g o=>oB (YQ abm g) λp=>bB (beq m 1) (oB (p.2[o]?) λx=>Yk a [.v (.int p.1 x)] k) none
 |_=>none
def agG(J:∀f o u,GT f o u->w0.cell? ⟨f,o,none⟩=some u){k:CV->At R}(E:Rq P t1=some (I,b))(i:atK h c I b k=some r):
 ∃a,(∀ρ w v N,HR P w0 ρ h.get N w->KR ρ c v->∃f o u,v=.pointer (some ⟨f,o,none⟩)/\(loadVar t1 ⟨f,o,none⟩).run P w=.ok u w/\KR ρ a u)/\k a=some r:=by
 unfold atK at i;split at i
 ·rename_i j o
  obtain⟨X,N,e,wr,K,i⟩:=Bq i;obtain⟨l,O,Q,i⟩:=GX i;obtain⟨a,m,s⟩:=QN i;refine⟨a,λρ w v _ B D=>?_,s⟩;obtain⟨f,q,U,rfl⟩:=D.qQ;obtain⟨Z,G,H,Y⟩:=(B.ob _ _ _ _ K U).cells l Q;obtain⟨u,C,A⟩:=JI E O i G H;exact⟨f,o,u,rfl,C,A a m⟩
 ·rename_i g o
  obtain⟨⟨F,W⟩,M,i⟩:=bH i;obtain⟨S,i⟩:=bj i;obtain rfl:=ep S;obtain⟨x,V,i⟩:=bH i;obtain⟨a,m,s⟩:=QN i;refine⟨a,λρ w v _ B D=>?_,s⟩;cases D with
  |gl=>
   have L:w.cell? ⟨g,o,none⟩=some (.int F x):=B.ext.cell (J g o _ ⟨F,W,x,M,V,rfl⟩);obtain⟨u,C,A⟩:=JI (ρ:=ρ) (w:=w) (b:=g) (o:=o) E rfl i (LR.cons .v LR.nil) (λj u p=>by
    cases j with
    |zero=>simp at p;subst p;exact L
    |succ j=>simp at p)
   exact⟨g,o,u,rfl,C,A a m⟩
 ·cases i
def agH(T:EQ->bu)(h:Tr c5)(t1:EQ)(c:CV){R:Type}(k:CV->At R):At R:=oB (T t1).ty λp=>atK h c p.1 p.2 k
def FK.load(p:gG P T)(l:∀b o u,GT b o u->w0.cell? ⟨b,o,none⟩=some u){k:CV->At R}(B:ku t x c)(f:agH T h t1 c k=some r):∃e,PK P w0 ⟨d,.load t1 x,ty,pos,af,gd⟩ t h e/\k e=some r:=by
 obtain⟨⟨C,m⟩,A,f⟩:=bH f;obtain⟨e,q,f⟩:=agG (h:=h) l (p.ty _ _ A) f;refine⟨e,λρ a w N v s=>?_,f⟩;obtain⟨b,o,u,g,i,j⟩:=q ρ w _ N s (B ρ a v);exact⟨u,by simp[execOp,Instr.loadAt,Instr.sureAddr,g,i],j⟩
def ptK(c:CV)(f:Nat){R:Type}(k:CV->At R):At R:=match c with
 |.pt j o=>kN (Nat.add o f) λo=>k (.pt j o)
 |.gl g o=>kN (Nat.add o f) λo=>k (.gl g o)
 |_=>none
def agI{f:Nat}{k:CV->At R}(e:ptK c f k=some r):∃a,(∀ρ v,KR ρ c v->∃b o,v=.pointer (some ⟨b,o,none⟩)/\KR ρ a (.pointer (some ⟨b,o+f,none⟩)))/\k a=some r:=by
 unfold ptK at e;split at e
 ·rw[fG]at e
  refine⟨_,λρ v g=>?_,e⟩;obtain⟨b,m,i,rfl⟩:=g.qQ;exact⟨b,_,rfl,.pt i⟩
 ·rw[fG]at e
  refine⟨_,λρ v g=>?_,e⟩;cases g with
  |gl=>exact⟨_,_,rfl,.gl⟩
 ·cases e
def FK.fieldAddr(A:gG P T){k:CV->At R}(H:ku t x c)(j:(oB (T t1).fd[b]? λq=>bB (beq q.2.2 0) none (ptK c q.1 k))=some r):∃e,QK P ⟨d,.fieldAddr t1 x b,ty,pos,af,gd⟩ t e/\k e=some r:=by
 obtain⟨⟨N,I,m⟩,D,j⟩:=bH j;rcases dE j with⟨_,l⟩|⟨l,j⟩
 ·cases l
 obtain⟨e,C,j⟩:=agI j;refine⟨e,λρ a w g=>?_,j⟩;obtain⟨f,o,F,G⟩:=C ρ _ (H ρ a g);refine⟨_,?_,G⟩;have g:=A.fd _ _ _ D;have E:m≠0:=jh l;unfold fdA at g;split at g
 ·rename_i K p
  split at g
  ·rename_i fl s
   split at g
   ·rename_i J M u
    simp only[aur,auK]at g;obtain⟨rfl,rfl,rfl⟩:=g;obtain⟨O,i,L,v,_,rfl⟩:=ir u;have B:(⟨f,o,none⟩:Addr).add fl.offset=⟨f,o+fl.offset,none⟩:=ava ..;simp[execOp,Instr.fieldAt,auR p,s,F,Instr.sureAddr,fieldPlace,cL w v,E,B]
   ·cases g
  ·cases g
 ·cases g
def TD(T:EQ->bu)(t1:EQ)(c:CV)(i:Nat){R:Type}(k:CV->At R):At R:=match c with
 |.sl j o m _=>bB (blt i m) (oB (T t1).el λe=>kN (Nat.add o (Nat.mul i e.2.1)) λo=>k (.pt j o)) none
 |c=>oB (T t1).ar λq=>bB (blt i q.1) (ptK c (Nat.mul i q.2.2) k) none
def u5(c:CV){R:Type}(k:Nat->At R):At R:=match c with
 |.v (.int _ (.ofNat m))=>k m
 |_=>none
def mc{k:Nat->At R}(a:u5 c k=some r):∃b m,c=.v (.int b (Int.ofNat m))/\k m=some r:=by
 unfold u5 at a;split at a
 ·exact⟨_,_,rfl,a⟩
 ·cases a
def FK.indexAddr(F:gG P T){k:CV->At R}(H:ku t x c)(I:ku t y o)(l:(u5 o λi=>TD T t1 c i k)=some r):∃e,QK P ⟨d,.indexAddr t1 x y,ty,pos,af,gd⟩ t e/\k e=some r:=by
 obtain⟨kd,i,rfl,l⟩:=mc l;unfold TD at l;split at l
 ·rename_i j g m _ _
  obtain⟨p,l⟩:=bj l;have p:i<m:=auw p;obtain⟨⟨E,W,X,z⟩,C,l⟩:=bH l;rw[fG]at l;refine⟨_,λρ a w s=>?_,l⟩;obtain⟨q,zv,K,A,Z,h4,rfl,_,_⟩:=cX (F.el _ _ C);have v:=H ρ a s;have D:=(I ρ a s).bL;generalize M:a.eval x=u at v;cases v with
  | @sl _ _ _ _ b _ Y f U S a2 a0 a1=>
   have O:f=g:=S (.inl bv);subst O;refine⟨.pointer (some ⟨b,f+i*q.size,none⟩),?_,.pt U⟩;have B:(⟨b,f,none⟩:Addr).add (i*q.size)=⟨b,f+i*q.size,none⟩:=ava ..;have G:Int.ofNat i<(m:Int):=by simp;exact p
   simp[execOp,Instr.indexAt,D,asIntOf,auR K,M,p,cL w A,B]
 ·obtain⟨⟨m,E,W⟩,C,l⟩:=bH l
  obtain⟨p,l⟩:=bj l;have Q:i<m:=auw p;obtain⟨e,N,l⟩:=agI l;refine⟨e,λρ a w s=>?_,l⟩;obtain⟨q,L,A,rfl⟩:=ue (F.ar _ _ C);obtain⟨b,g,v,V⟩:=N ρ _ (H ρ a s);have D:=(I ρ a s).bL;refine⟨_,?_,V⟩;have B:(⟨b,g,none⟩:Addr).add (i*q.size)=⟨b,g+i*q.size,none⟩:=ava ..;have G:(Int.ofNat i)<(m:Int):=Int.ofNat_lt.2 Q;have J:0<=Int.ofNat i:=Int.natCast_nonneg i;simp only[execOp,Instr.indexAt,D,asIntOf,auR L,v,Instr.sureAddr,J,G,cL w A,auF,auJ,auG,and_self,au2];exact auA (λc=>Result.ok (Next.value (.pointer (some c))) w) B
def ajG(c:CV){R:Type}(k:ByteArray->At R):At R:=match c with
 |.v (.string s)=>k s
 |_=>none
def ajH{k:ByteArray->At R}(a:ajG c k=some r):∃s,c=.v (.string s)/\k s=some r:=by
 unfold ajG at a;split at a
 ·exact⟨_,rfl,a⟩
 ·cases a
def FK.EB(p:gG P T){k:CV->At R}(E:ku t x c)(F:ku t y o)(f:(bB (T t1).sg (u5 o λi=>ajG c λs=>oB (s.data.toList[i]?) λb=>kN b.toNat λm=>k (.v (.int .u8 (Int.ofNat m)))) none)=some r):
 ∃e,QK P ⟨d,.index t1 x y,ty,pos,af,gd⟩ t e/\k e=some r:=by
 obtain⟨v,f⟩:=bj f;have D:=p.sg _ v;obtain⟨G,i,rfl,f⟩:=mc f;obtain⟨s,rfl,f⟩:=ajH f;obtain⟨b,q,f⟩:=bH f;rw[fG]at f;refine⟨_,λρ a w g=>⟨_,?_,.v⟩,f⟩;have j:=(E ρ a g).bL;have l:=(F ρ a g).bL;have B:s[i]? =some b:=by
  obtain⟨A,u⟩:=aus.1 q;have C:i<s.size:=by simpa using A
  rw[getElem?_pos s i C];exact auA some u
 simp[execOp,Instr.index,j,l,asIntOf,auR D,B]
def tuK(c:CV){R:Type}(k:Do CV->At R):At R:=match c with
 |.tu s=>k s
 |_=>none
def anw{k:Do CV->At R}(a:tuK c k=some r):∃s,c=.tu s/\k s=some r:=by
 unfold tuK at a;split at a
 ·exact⟨_,rfl,a⟩
 ·cases a
def agK(c:CV){R:Type}(k:Do CV->At R):At R:=match c with
 |.ag s=>k s
 |_=>none
def agJ{k:Do CV->At R}(a:agK c k=some r):∃s,c=.ag s/\k s=some r:=by
 unfold agK at a;split at a
 ·exact⟨_,rfl,a⟩
 ·cases a
def FK.extract{i:Nat}{p:CV}{k:CV->At R}(q:ku t x p)(b:(tuK p λe=>oB (e[i]?) k)=some r):∃c,QK P ⟨d,.extract x i,ty,pos,af,gd⟩ t c/\k c=some r:=by
 obtain⟨e,rfl,b⟩:=anw b;obtain⟨c,g,b⟩:=bH b;refine⟨c,λρ a w m=>?_,b⟩;obtain⟨s,f,j⟩:=(q ρ a m).D9;obtain⟨u,o,l⟩:=j.get g;exact⟨u,by simp[execOp,Instr.extract,f,o],l⟩
def LR.asU{a:bC}(h:LR (KR m) e a)(o n:Nat)(b:o+n<=e.length):LR (KR m) ((e.drop o).take n) ((a.drop o).take n)/\((a.drop o).take n).length=n:=by
 refine⟨(h.drop o).take n,?_⟩;rw[au8,awb,h.1];omega
def FK.field(K:gG P T){f:Nat}{p:CV}{k:CV->At R}(G:ku t x p)(b:(agK p λg=>oB (T t1).fd[f]? λq=>bB (ble (Nat.add q.1 q.2.2) g.length) (bB q.2.1 (k (.ag ((g.drop q.1).take q.2.2))) (oB (g[q.1]?) k)) none)=some r):
 ∃c,QK P ⟨d,.field t1 x f,ty,pos,af,gd⟩ t c/\k c=some r:=by
 obtain⟨g,rfl,b⟩:=agJ b;obtain⟨⟨S,U,m⟩,M,b⟩:=bH b;obtain⟨E,b⟩:=bj b;have N:S+m<=g.length:=auw E;clear E;have e:=K.fd _ _ _ M;unfold fdA at e;split at e
 ·rename_i W B
  split at e
  ·rename_i j C
   split at e
   ·rename_i V X I
    simp only[aur,auK]at e;obtain⟨rfl,rfl,rfl⟩:=e;obtain⟨Y,i,D,J,o,rfl⟩:=ir I;rcases dE b with⟨l,b⟩|⟨l,b⟩
    ·refine⟨_,λρ a w e=>?_,b⟩
     obtain⟨s,v,A⟩:=(G ρ a e).e5;have F:=A.asU j.offset i.size N;refine⟨.agg ((s.drop j.offset).take i.size).toArray,?_,.ag _ F.1.1 F.1.2⟩;simp only at l;rw[l]at o;have H:s.toArray.extract j.offset (j.offset+i.size)=((s.drop j.offset).take i.size).toArray:=by
      simp[ay1]
     simp[execOp,Instr.field,auR B,C,v,asAgg,part,mf w D,<-o,cL w J,H]
    ·obtain⟨c,L,b⟩:=bH b
     refine⟨c,λρ a w e=>?_,b⟩;obtain⟨s,v,A⟩:=(G ρ a e).e5;obtain⟨u,Q,O⟩:=A.get L;refine⟨u,?_,O⟩;simp only at l;rw[l]at o;simp[execOp,Instr.field,auR B,C,v,asAgg,part,mf w D,<-o,Q]
   ·cases e
  ·cases e
 ·cases e
def FK.pick{g i j:CV}{k:CV->At R}(l:ku t z g)(m:ku t x i)(o:ku t y j)(e:(asB g λb=>bB b (k i) (k j))=some r):∃c,QK P ⟨d,.pick z x y,ty,pos,af,gd⟩ t c/\k c=some r:=by
 obtain⟨b,rfl,e⟩:=TB e;rcases dE e with⟨rfl,e⟩|⟨rfl,e⟩
 ·exact⟨_,λρ a w f=>⟨_,by simp[execOp,(l ρ a f).bL,asBool],m ρ a f⟩,e⟩
 ·exact⟨_,λρ a w f=>⟨_,by simp[execOp,(l ρ a f).bL,asBool],o ρ a f⟩,e⟩
def nnK:CV->In
 |.pt .. =>true
 |.gl .. =>true
 |.cl (.func _) _ _=>true
 |.v (.func (.func _) _ _)=>true
 |_=>false
def FK.nilCheck(l:ku t x c)(b:nnK c=true):QK P ⟨d,.nilCheck x,ty,pos,af,gd⟩ t c:=λρ a w k=>by
 have i:=l ρ a k;refine⟨a.eval x,?_,i⟩;generalize g:a.eval x=u at i;cases i with
 |pt=>simp[execOp,g]
 |gl=>simp[execOp,g]
 | @cl j q p s A=>
  cases j with
  |func f=>simp[execOp,g]
  |_=>simp[nnK]at b
 | @v u=>
  unfold nnK at b;split at b
  ·rename_i e;cases e
  ·rename_i e;cases e
  ·rename_i e;cases e
  ·rename_i f m o e;cases e;simp[execOp,g]
  ·cases b
 |_=>simp[nnK]at b
end
end
variable{D:BinOp}{F:IntKind}{i:Id}{B:hX}
section
variable{P:Fd}{Dk:Deferred->Prop}{w0:GE}{T:EQ->bu}
def HF(k:IntKind):Nat:=IntKind.rec (motive:=λ_=>Nat) 128 32768 2147483648 9223372036854775808 256 65536 4294967296 18446744073709551616 k
def sgK(k:IntKind):In:=IntKind.rec (motive:=λ_=>In) true true true true false false false false k
def wrI{R:Type}(k:IntKind)(z:Int)(f:Int->R):R:=Int.rec (motive:=λ_=>R)
 (λn=>bB (blt n (HF k)) (kN n λn=>f (Int.ofNat n)) (kI (k.wrap (Int.ofNat n)) f))
 (λm=>bB (sgK k) (bB (blt m (HF k)) (kN m λm=>f (Int.negSucc m)) (kI (k.wrap (Int.negSucc m)) f)) (kI (k.wrap (Int.negSucc m)) f)) z
def agL{n:Nat}(h:n<HF F):F.wrap (Int.ofNat n)=Int.ofNat n:=by
 have e:(Int.ofNat n)=(n:Int):=rfl;rw[e];cases F<;>simp only[HF]at h<;>simp only[IntKind.wrap,IntKind.bits,IntKind.signed]<;>simp<;>omega
def agM{n:Nat}(a:sgK F=true)(h:n<HF F):F.wrap (Int.negSucc n)=Int.negSucc n:=by
 have e:(Int.negSucc n)= -(n:Int) - 1:=bv
 rw[e];cases F<;>simp only[HF]at h<;>simp only[sgK,av4]at a<;>simp only[IntKind.wrap,IntKind.bits,IntKind.signed]<;>simp<;>omega
def xc{R:Type}(k:IntKind)(z:Int)(f:Int->R):wrI k z f=f (k.wrap z):=by
 cases z with
 |ofNat n=>
  show bB (blt n (HF k)) (kN n λn=>f (Int.ofNat n)) (kI (k.wrap (Int.ofNat n)) f)=_;rw[fG,Ab];cases h:blt n (HF k)with
  |false=>rfl
  |true=>rw[agL (auw h)];rfl
 |negSucc m=>
  show bB (sgK k) (bB (blt m (HF k)) (kN m λm=>f (Int.negSucc m)) (kI (k.wrap (Int.negSucc m)) f)) (kI (k.wrap (Int.negSucc m)) f)=_;rw[fG,Ab];cases a:sgK k with
  |false=>rfl
  |true=>
   cases h:blt m (HF k)with
   |false=>rfl
   |true=>rw[agM a (auw h)];rfl
def ltK(a b:Int):In:=Int.rec (motive:=λ_=>In) (λm=>Int.rec (motive:=λ_=>In) (λn=>blt m n) (λ_=>false) b) (λm=>Int.rec (motive:=λ_=>In) (λ_=>true) (λn=>blt n m) b) a
def eqK(a b:Int):In:=Int.rec (motive:=λ_=>In) (λm=>Int.rec (motive:=λ_=>In) (λn=>beq m n) (λ_=>false) b) (λm=>Int.rec (motive:=λ_=>In) (λ_=>false) (λn=>beq n m) b) a
def Yl(m n:Nat):blt m n=decide (m<n):=by
 by_cases h:m<n
 ·rw[auU h];exact ayD h
 ·rw[auW h]
  cases a:blt m n with
  |false=>rfl
  |true=>exact absurd (auw a) h
def QO(m n:Nat):beq m n=decide (m=n):=by
 by_cases h:m=n
 ·rw[auU h,h,auX]
 ·rw[auW h]
  cases a:beq m n with
  |false=>rfl
  |true=>exact absurd (ep a) h
def tQ(a b:Int):ltK a b=decide (a<b):=by
 cases a with
 |ofNat m=>cases b with
  |ofNat n=>
   show blt m n=decide ((m:Int)<(n:Int));rw[Yl];exact av1.2 (by constructor<;>intro h<;>omega)
  |negSucc n=>
   show false=decide ((m:Int)<Int.negSucc n);exact(auW bv).symm
 |negSucc m=>cases b with
  |ofNat n=>
   show true=decide (Int.negSucc m<(n:Int));exact(auU bv).symm
  |negSucc n=>
   show blt n m=_;rw[Yl];exact av1.2 (by constructor<;>intro h<;>omega)
def tR(a b:Int):eqK a b=decide (a=b):=by
 cases a with
 |ofNat m=>cases b with
  |ofNat n=>
   show beq m n=decide ((m:Int)=(n:Int));rw[QO];exact av1.2 (by constructor<;>intro h<;>omega)
  |negSucc n=>
   show false=decide ((m:Int)=Int.negSucc n);exact(auW bv).symm
 |negSucc m=>cases b with
  |ofNat n=>
   show false=decide (Int.negSucc m=(n:Int));exact(auW bv).symm
  |negSucc n=>
   show beq n m=_;rw[QO];exact av1.2 (by constructor<;>intro h<;>omega)
def bK{R:Type}(b:In)(k:CV->R):R:=Bool.rec (motive:=λ_=>R) (k (.v (.bool false))) (k (.v (.bool true))) b
def tT{R:Type}(b:In)(k:CV->R):bK b k=k (.v (.bool b)):=by cases b<;>rfl
def tU{R:Type}(c:BinOp)(k:IntKind)(a b:Int)(f:CV->At R):At R:=match c with
 |.add=>wrI k (Int.add a b) λz=>f (.v (.int k z))
 |.sub=>wrI k (Int.sub a b) λz=>f (.v (.int k z))
 |.mul=>wrI k (Int.mul a b) λz=>f (.v (.int k z))
 |.quo=>bB (eqK b 0) none (wrI k (a.tdiv b) λz=>f (.v (.int k z)))
 |.rem=>bB (eqK b 0) none (kI (a.tmod b) λz=>f (.v (.int k z)))
 |.lss=>bK (ltK a b) f
 |.gtr=>bK (ltK b a) f
 |.leq=>bK (!ltK b a) f
 |.geq=>bK (!ltK a b) f
 |.eql=>bK (eqK a b) f
 |.neq=>bK (!eqK a b) f
 |.and=>kI (bits .and k a b) λz=>f (.v (.int k z))
 |.or=>kI (bits .or k a b) λz=>f (.v (.int k z))
 |.xor=>kI (bits .xor k a b) λz=>f (.v (.int k z))
 |.andNot=>kI (bits .andNot k a b) λz=>f (.v (.int k z))
 |_=>none
def shK{R:Type}(b:BinOp)(k:IntKind)(a:Int)(m:Nat)(f:CV->At R):At R:=match b with
 |.shl=>wrI k (a*2^(min m k.bits)) λz=>f (.v (.int k z))
 |.shr=>kI (a.fdiv (2^(min m k.bits))) λz=>f (.v (.int k z))
 |_=>none
def asX:BinOp->In
 |.shl=>true
 |.shr=>true
 |_=>false
def asW:(s:Sc)->Do CV->At (s.c9×Do CV)
 |.pr x y,b=>match asW x b with
  |some (a,e)=>match asW y e with
   |some (c,f)=>some ((a,c),f)
   |none=>none
  |none=>none
 |.u,b=>some ((),b)
 |.i k,.v (.int g z)::b=>if g=k then some (z,b)else none
 |.b,.v (.bool z)::b=>some (z,b)
 |_,_=>none
def LL:∀(s:Sc) {b cs':Do CV} {x:s.c9},asW s b=some (x,cs')->s.key=true->b=(dc s x).map .v++cs'
 |.pr a c,b,cs',x,h,f=>by
  simp only[Sc.key,aup]at f;simp only[asW]at h;split at h
  ·rename_i p j g
   split at h
   ·rename_i q l i
    cases h;rw[LL a g f.1,LL c i f.2];simp[dc]
   ·cases h
  ·cases h
 |.u,b,cs',x,h,f=>by
  simp only[asW]at h;cases h;rfl
 |.i k,b,cs',x,h,f=>by
  cases b with
  |nil=>cases h
  |cons c b=>
   cases c with
   |v u=>cases u with
    |int m z=>
     simp only[asW]at h;split at h
     ·rename_i e
      cases h;subst e;rfl
     ·cases h
    |_=>cases h
   |_=>cases h
 |.b,b,cs',x,h,f=>by
  cases b with
  |nil=>cases h
  |cons c b=>
   cases c with
   |v u=>cases u with
    |bool z=>
     simp only[asW]at h;cases h;rfl
    |_=>cases h
   |_=>cases h
 |.sl r,b,cs',x,h,f=>by simp[Sc.key]at f
def aqF{R:Type}(T:EQ->bu)(c:BinOp)(t1:EQ)(a b:Do CV)(f:CV->At R):At R:=oB (T t1).eq λs=>oB (asW s a) λp=>oB (asW s b) λq=>match p.2,q.2 with
 |[],[]=>(match c with
  |.eql=>bK (iP s p.1 q.1) f
  |.neq=>bK (!iP s p.1 q.1) f
  |_=>none)
 |_,_=>none
def isC:If->In
 |.const _=>true
 |_=>false
def agO{R:Type}(T:EQ->bu)(c:BinOp)(t1:EQ)(j:In)(a b:CV)(f:CV->At R):At R:=match a with
 |.v (.int k x)=>(match b with
  |.v (.int i y)=>bB (asX c) (u5 b λm=>shK c k x m f) (bB (decide (k=i)) (tU c k x y f) none)
  |_=>none)
 |.v (.bool x)=>(match b with
  |.v (.bool y)=>bB (T t1).bo (match c with
   |.eql=>bK (x==y) f
   |.neq=>bK (!(x==y)) f
   |_=>none) none
  |_=>none)
 |.v (.slice none 0 0)=>(match b with
  |.v (.slice none 0 0)=>bB (T t1).kz (match c with
   |.eql=>f (.v (.bool true))
   |.neq=>f (.v (.bool false))
   |_=>none) none
  |_=>none)
 |.sl _ _ _ _=>(match b with
  |.v (.slice none 0 0)=>bB (T t1).kz (match c with
   |.eql=>f (.v (.bool false))
   |.neq=>f (.v (.bool true))
   |_=>none) none
  |_=>none)
 |.v .nilIface=>(match b with
  |.v .nilIface=>bB j (bB (T t1).nf (match c with
   |.eql=>f (.v (.bool true))
   |.neq=>f (.v (.bool false))
   |_=>none) none) none
  |_=>none)
 |.ag e=>agK b λg=>aqF T c t1 e g f
 |_=>none
section
variable{t:Tr CV}{h:Tr c5}{n:Nat}{d:iC}{ty t1 t2:EQ}{pos:String}{af:dm}{gd:fH}{x y z:If}{R:Type}{r:R}
def FK.bin{u v z:Id}(f:ku t x (.v u))(g:ku t y (.v v))(c:∀w,(eqGuard D t1 x y u v).run P w=.ok () w)(e:∀w,(binOp D t1 u v).run P w=.ok z w):QK P ⟨d,.binOp D t1 x y t2,ty,pos,af,gd⟩ t (.v z):=λρ a w b=>by
 refine⟨z,?_,.v⟩;simp only[execOp,(f ρ a b).bL,(g ρ a b).bL,auF,c,e,auG,auJ]
def FK.nk{k c:IntKind}{a b:Int}(f:ku t x (.v (.int k a)))(g:ku t y (.v (.int c b)))(e:∀w,(binOp D t1 (.int k a) (.int c b)).run P w=.ok i w):QK P ⟨d,.binOp D t1 x y t2,ty,pos,af,gd⟩ t (.v i):=
 FK.bin f g (eK _ _ _ _ _ _ _ _) e
def aqG(a b:Int):(!decide (b<a))=decide (a<=b):=by
 by_cases h:b<a
 ·rw[auU h,auW bv];rfl
 ·rw[auW h,auU bv];rfl
def ajL{a b:Int}{f:CV->At R}(g:ku t x (.v (.int F a)))(i:ku t y (.v (.int F b)))(e:tU D F a b f=some r):∃c,QK P ⟨d,.binOp D t1 x y t2,ty,pos,af,gd⟩ t c/\f c=some r:=by
 cases D with
 |add=>simp only[tU,xc]at e;exact⟨_,FK.nk g i λw=>by simp only[binOp_add,Op.intArith,auJ];rfl,e⟩
 |sub=>simp only[tU,xc]at e;exact⟨_,FK.nk g i λw=>by simp only[binOp_sub,Op.intArith,auJ];rfl,e⟩
 |mul=>simp only[tU,xc]at e;exact⟨_,FK.nk g i λw=>by simp only[binOp_mul,Op.intArith,auJ];rfl,e⟩
 |quo=>
  simp only[tU,xc]at e;rcases dE e with⟨_,j⟩|⟨j,e⟩
  ·cases j
  have j:¬b=0:=by rw[tR]at j;simpa using j
  exact⟨_,FK.nk g i λw=>by simp[binOp_quo,Op.intDiv,j],e⟩
 |rem=>
  simp only[tU,Ab]at e;rcases dE e with⟨_,j⟩|⟨j,e⟩
  ·cases j
  have j:¬b=0:=by rw[tR]at j;simpa using j
  exact⟨_,FK.nk g i λw=>by simp[binOp_rem,Op.intDiv,j],e⟩
 |lss=>simp only[tU,tT,tQ]at e;exact⟨_,FK.nk g i λw=>by simp[binOp_lss],e⟩
 |gtr=>simp only[tU,tT,tQ]at e;exact⟨_,FK.nk g i λw=>by simp[binOp_gtr],e⟩
 |leq=>simp only[tU,tT,tQ,aqG]at e;exact⟨_,FK.nk g i λw=>by simp[binOp_leq],e⟩
 |geq=>simp only[tU,tT,tQ,aqG]at e;exact⟨_,FK.nk g i λw=>by simp[binOp_geq],e⟩
 |eql=>simp only[tU,tT,tR]at e;exact⟨_,FK.nk g i λw=>by simp only[binOp_eql,auJ,Uc],e⟩
 |neq=>simp only[tU,tT,tR]at e;exact⟨_,FK.nk g i λw=>by simp only[binOp_neq,auJ,Ud,decide_not],e⟩
 |and=>simp only[tU,Ab]at e;exact⟨_,FK.nk g i λw=>by simp[binOp_and,intBits_and],e⟩
 |or=>simp only[tU,Ab]at e;exact⟨_,FK.nk g i λw=>by simp[binOp_or,intBits_or],e⟩
 |xor=>simp only[tU,Ab]at e;exact⟨_,FK.nk g i λw=>by simp[binOp_xor,intBits_xor],e⟩
 |andNot=>simp only[tU,Ab]at e;exact⟨_,FK.nk g i λw=>by simp[binOp_andNot,intBits_andNot],e⟩
 |_=>cases e
def KR.TE{us a:bC}(b:LR (KR m) (us.map .v) a):a=us:=by
 refine List.ext_getElem (by rw[b.1];simp) λj c e=>?_;exact(b.2 j (.v us[j]) a[j] (by simp[e]) (auy c)).bL
def ajM(B:gG P T){j k:Do CV}{f:CV->At R}(L:ku t x (.ag j))(M:ku t y (.ag k))(v:aqF T D t1 j k f=some r):∃c,QK P ⟨d,.binOp D t1 x y t2,ty,pos,af,gd⟩ t c/\f c=some r:=by
 obtain⟨s,I,o⟩:=bH v;obtain⟨⟨p,O⟩,G,u⟩:=bH o;obtain⟨⟨q,Q⟩,H,e⟩:=bH u;clear o u v;have g:=B.eq _ _ I;have l:=LL s G g.1;have m:=LL s H g.1;simp only at e;split at e
 ·simp only[au_]at l m
  subst l m;have run:∀i b,(∀w,(binOp i t1 (.agg (dc s p).toArray) (.agg (dc s q).toArray)).run P w=.ok b w)->QK P ⟨d,.binOp i t1 x y t2,ty,pos,af,gd⟩ t (.v b):=λi b C=>λρ a w A=>by
   obtain⟨S,J,E⟩:=(L ρ a A).e5;obtain⟨U,K,F⟩:=(M ρ a A).e5;obtain rfl:=KR.TE E;obtain rfl:=KR.TE F;refine⟨b,?_,.v⟩;have N:=(g.2 p q w).2;simp only[execOp,J,K,auF,N,auG,C,auJ]
  cases D with
  |eql=>simp only[tT]at e;exact⟨_,run _ _ λw=>by have:=(g.2 p q w).1;simp only[binOp,auF,this,auG,auJ],e⟩
  |neq=>simp only[tT]at e;exact⟨_,run _ _ λw=>by have:=(g.2 p q w).1;simp only[binOp,auF,this,auG,auJ],e⟩
  |_=>cases e
 ·cases e
def uR{t:EQ}(h:kz P t=true):∃E,P.underlying t=some (.slice E):=by
 unfold kz at h;split at h
 ·exact⟨_,by assumption⟩
 ·cases h
def run_neq_slice_nil(w:GE)(t E:EQ)(c:At Addr)(n f g e:Nat)(j:P.underlying t=some (.slice E)):(binOp .neq t (.slice c n f) (.slice none g e)).run P w=.ok (.bool (!c.isNone)) w:=by
 have a:=ayx w t E c n f g e j;simp only[binOp,auF]at a⊢;cases i:(Op.equal t (.slice c n f) (.slice none g e)).run P w with
 |ok b k=>rw[i]at a;simp only[auG,auJ,Result.ok.injEq,Value.bool.injEq]at a⊢;rw[a.1];exact⟨rfl,a.2⟩
 |halt h k=>rw[i]at a;cases a
def JJ{c:CV}{ad:In}{f:CV->At R}(s:kz P t1=true)(p:∀ρ a,ny ρ t a->∃A m b,a.eval x=.slice A m b/\A.isNone=ad)(q:ku t y (.v (.slice none 0 0)))(l:(match D with
 |.eql=>f (.v (.bool ad))
 |.neq=>f (.v (.bool (!ad)))
 |_=>none)=some r):∃c,QK P ⟨d,.binOp D t1 x y t2,ty,pos,af,gd⟩ t c/\f c=some r:=by
 obtain⟨E,o⟩:=uR s;cases D with
 |eql=>
  refine⟨_,λρ a w e=>?_,l⟩;obtain⟨A,m,b,g,i⟩:=p ρ a e;have j:=(q ρ a e).bL;have k:(eqGuard .eql t1 x y (.slice A m b) (.slice none 0 0)).run P w=.ok () w:=by simp[eqGuard]
  exact⟨.bool ad,by simp only[execOp,g,j,k,auF,ayx w t1 E A m b 0 0 o,auG,auJ,i],.v⟩
 |neq=>
  refine⟨_,λρ a w e=>?_,l⟩;obtain⟨A,m,b,g,i⟩:=p ρ a e;have j:=(q ρ a e).bL;have k:(eqGuard .neq t1 x y (.slice A m b) (.slice none 0 0)).run P w=.ok () w:=by simp[eqGuard]
  exact⟨.bool (!ad),by simp only[execOp,g,j,k,auF,run_neq_slice_nil w t1 E A m b 0 0 o,auG,auJ,i],.v⟩
 |_=>cases l
def FK.agO(o:gG P T){l:BinOp}{a b:CV}{f:CV->At R}(i:ku t x a)(j:ku t y b)(g:agO T l t1 (isC y) a b f=some r):∃c,QK P ⟨d,.binOp l t1 x y t2,ty,pos,af,gd⟩ t c/\f c=some r:=by
 unfold Go.Proofs.YtglncfdpdaageaaGreatDoor.agO at g;split at g
 ·rename_i k m
  split at g
  ·rename_i L J
   rcases dE g with⟨s,g⟩|⟨s,g⟩
   ·obtain⟨M,q,e,p⟩:=mc g
    cases e;have F:((q:Int)<0)=False:=eq_false bv;cases l with
    |shl=>simp only[shK,xc]at p;exact⟨_,FK.nk i j λw=>by simp only[binOp_shl,Op.shift,F,avf,auB,ax8,auJ],p⟩
    |shr=>simp only[shK,Ab]at p;exact⟨_,FK.nk i j λw=>by simp only[binOp_shr,Op.shift,F,avf,auB,ax8,auJ],p⟩
    |_=>cases p
   ·obtain⟨e,I⟩:=bj g
    have e:=avo e;subst e;exact ajL i j I
  ·cases g
 ·rename_i m
  split at g
  ·rename_i J
   obtain⟨A,g⟩:=bj g;have A:=o.bo _ A;cases l with
   |eql=>simp only[tT]at g;exact⟨_,FK.bin i j (λw=>by simp[eqGuard]) (λw=>run_eql_bool w t1 _ _ A),g⟩
   |neq=>simp only[tT]at g;exact⟨_,FK.bin i j (λw=>by simp[eqGuard]) (λw=>run_neq_bool w t1 _ _ A),g⟩
   |_=>cases g
  ·cases g
 ·split at g
  ·obtain⟨s,g⟩:=bj g
   exact JJ (c:=.v undef) (ad:=true) (o.kz _ s) (λρ a C=>⟨none,0,0,(i ρ a C).bL,rfl⟩) j g
  ·cases g
 ·split at g
  ·obtain⟨s,g⟩:=bj g
   refine JJ (c:=.v undef) (ad:=false) (o.kz _ s) (λρ a C=>?_) j g;have G:=i ρ a C;generalize a.eval x=u at G;cases G with
   |sl=>exact⟨_,_,_,rfl,rfl⟩
  ·cases g
 ·split at g
  ·obtain⟨H,g⟩:=bj g
   obtain⟨B,g⟩:=bj g;obtain⟨N,B⟩:=o.nf _ B;have D:∀l w,(eqGuard l t1 x y .nilIface .nilIface).run P w=.ok () w:=λl w=>by
    cases y with
    |const v=>cases l<;>simp[eqGuard]
    |_=>cases H
   have E:∀w,(Op.equal t1 .nilIface .nilIface).run P w=.ok true w:=λw=>by
    show(Op.equalIn (9999+1) t1 .nilIface .nilIface).run P w=_;rw[Op.equalIn];simp[auR B]
   cases l with
   |eql=>exact⟨_,FK.bin i j (D _) (λw=>by simp[binOp,E]),g⟩
   |neq=>exact⟨_,FK.bin i j (D _) (λw=>by simp[binOp,E]),g⟩
   |_=>cases g
  ·cases g
 ·obtain⟨K,rfl,g⟩:=agJ g
  exact ajM o i j g
 ·cases g
def unK{R:Type}(c:UnOp)(a:CV)(f:CV->At R):At R:=match c with
 |.not=>asB a λb=>bK (!b) f
 |.neg=>asI a λk m=>wrI k (Int.sub 0 m) λz=>f (.v (.int k z))
 |_=>none
def FK.un{j:UnOp}{f:CV->At R}(l:ku t x c)(g:unK j c f=some r):∃a,QK P ⟨d,.unOp j t1 x,ty,pos,af,gd⟩ t a/\f a=some r:=by
 cases j with
 |not=>
  obtain⟨b,rfl,e⟩:=TB g;rw[tT]at e;exact⟨_,λρ c w i=>⟨_,by simp only[execOp,(l ρ c i).bL,unary_not,auF,auJ,auG],.v⟩,e⟩
 |neg=>
  obtain⟨k,m,rfl,e⟩:=LK g;rw[xc]at e;refine⟨_,λρ c w i=>⟨_,?_,.v⟩,e⟩;simp only[execOp,(l ρ c i).bL,unary_neg,Op.intArith,auF,auJ,auG];rfl
 |_=>cases g
def FK.conv(i:gG P T){f:CV->At R}(v:ku t x c)(q:(oB (T t1).ik λ_=>oB (T t2).ik λe=>asI c λk m=>wrI e m λz=>f (.v (.int e z)))=some r):∃a,QK P ⟨d,.convert t1 t2 x,ty,pos,af,gd⟩ t a/\f a=some r:=by
 obtain⟨A,l,o⟩:=bH q;obtain⟨e,b,p⟩:=bH o;obtain⟨k,m,rfl,g⟩:=LK p;rw[xc]at g;have s:=i.ik _ _ l;have b:=i.ik _ _ b;refine⟨_,λρ c w u=>⟨_,?_,.v⟩,g⟩;have j:P.intKind t2=e:=by simp[Program.intKind,b]
 have:=run_convert_int w t1 t2 k m (by rw[s];rfl) (by rw[j];exact b);rw[j]at this;simp only[execOp,(v ρ c u).bL,auF,this,auG,auJ]
def QP{R:Type}(a:CV)(k:Nat->At R):At R:=match a with
 |.sl _ _ m _=>k m
 |.v (.slice none 0 0)=>k 0
 |_=>none
def QQ{k:Nat->At R}(a:QP c k=some r):∃m,(∀ρ v,KR ρ c v->∃A e,v=.slice A m e)/\k m=some r:=by
 unfold QP at a;split at a
 ·refine⟨_,λρ v b=>?_,a⟩
  cases b with
  |sl=>exact⟨_,_,rfl⟩
 ·exact⟨_,λρ v b=>⟨_,_,b.bL⟩,a⟩
 ·cases a
def mpK{R:Type}(a:CV)(k:Nat->At R):At R:=match a with
 |.mp j=>k j
 |_=>none
def TF{k:Nat->At R}(a:mpK c k=some r):∃j,c=.mp j/\k j=some r:=by
 unfold mpK at a;split at a
 ·exact⟨_,rfl,a⟩
 ·cases a
def blM(h:Tr c5)(k:Nat){R:Type}(f:EQ->Do (Id×CV)->In->At R):At R:=oB (h.get k) λx=>match x with
 |.ma t a wr=>f t a wr
 |_=>none
def TG{f:EQ->Do (Id×CV)->In->At R}(a:blM h b f=some r):∃t c wr,h.get b=some (.ma t c wr)/\f t c wr=some r:=by
 obtain⟨x,e,a⟩:=bH a;split at a
 ·exact⟨_,_,_,e,a⟩
 ·cases a
def aqI{R:Type}(T:EQ->bu)(h:Tr c5)(c:Do EQ)(a:CV)(f:CV->At R):At R:=oB (c[0]?) λt1=>bB (T t1).kz (QP a λm=>f (.v (.int .i64 (Int.ofNat m))))
 (mpK a λj=>blM h j λt2 b _=>bB (beq t1 t2) (kN b.length λm=>f (.v (.int .i64 (Int.ofNat m)))) none)
def ak5{t1:EQ}(h:B.toList[0]? =some t1):B[0]? =some t1:=by rw[<-avL];exact h
def aa5{A:At Addr}(a:B[0]? =some t1)(c:kz P t1=true)(f:v.eval x=.slice A b u)(w:GE):(execOp v.eval ⟨d,.call ⟨.builtin .len, #[x],B⟩,ty,pos,af,gd⟩).run P w=.ok (.value (.int .i64 b)) w:=by
 obtain⟨E,e⟩:=uR c;simp[execOp,resolve,invoke,builtin,Builtin.len_,a,auR e,f,goInt]
def FK.len(v:gG P T){s:hX}{c:CV}{f:CV->At R}(q:ku t x c)(b:aqI T h s.toList c f=some r):∃c,PK P w0 ⟨d,.call ⟨.builtin .len, #[x],s⟩,ty,pos,af,gd⟩ t h c/\f c=some r:=by
 obtain⟨t1,g,b⟩:=bH b;have g:=ak5 g;rcases dE b with⟨k,b⟩|⟨_,b⟩
 ·obtain⟨m,F,b⟩:=QQ b
  refine⟨_,λρ a w N l U=>?_,b⟩;obtain⟨A,L,e⟩:=F ρ _ (q ρ a l);exact⟨_,aa5 g (v.kz _ k) e w,.v⟩
 ·obtain⟨j,rfl,D⟩:=TF b
  obtain⟨t2,Q,wr,C,E⟩:=TG D;obtain⟨e,o⟩:=bj E;obtain rfl:=ep e;rw[fG]at o;refine⟨_,λρ a w N l k=>?_,o⟩;have p:=q ρ a l;generalize B:a.eval x=u at p;cases p with
  |mp G=>
   obtain⟨O,z,K,M,H,I,J⟩:=k.ob _ _ _ _ C G;obtain⟨V,S,i,p1,p2,p3,p4⟩:=h8 H;refine⟨_,?_,.v⟩;simp[execOp,resolve,invoke,builtin,Builtin.len_,g,auR p1,B,goInt,avv I,J.len]
def aqJ{R:Type}(T:EQ->bu)(b:Do EQ)(a:CV)(f:CV->At R):At R:=oB (b[0]?) λt1=>match a with
 |.sl _ _ _ (some m)=>bB (T t1).kz (f (.v (.int .i64 (Int.ofNat m)))) none
 |.v (.slice none 0 0)=>bB (T t1).kz (f (.v (.int .i64 (Int.ofNat 0)))) none
 |_=>none
def FK.cap(l:gG P T){f:CV->At R}(o:ku t x c)(b:aqJ T B.toList c f=some r):∃c,QK P ⟨d,.call ⟨.builtin .cap, #[x],B⟩,ty,pos,af,gd⟩ t c/\f c=some r:=by
 obtain⟨t1,e,b⟩:=bH b;have e:=ak5 e;split at b
 ·obtain⟨j,b⟩:=bj b
  obtain⟨E,g⟩:=uR (l.kz _ j);refine⟨_,λρ a w k=>?_,b⟩;have m:=o ρ a k;generalize i:a.eval x=u at m;cases m with
  |sl h v s p q=>
   obtain rfl:=p _ rfl;exact⟨_,by simp[execOp,resolve,invoke,builtin,Builtin.cap_,e,auR g,i,goInt],.v⟩
 ·obtain⟨j,b⟩:=bj b
  obtain⟨E,g⟩:=uR (l.kz _ j);refine⟨_,λρ a w k=>⟨_,?_,.v⟩,b⟩;have i:=(o ρ a k).bL;simp[execOp,resolve,invoke,builtin,Builtin.cap_,e,auR g,i,goInt]
 ·cases b
def FK.agP{b:Builtin}{ts:hX}{f:CV->At R}(B:ku t x c)(C:ku t y o)(i:(asI c λk m=>asI o λ_ q=>match b with
 |.min=>bB (ltK q m) (f (.v (.int k q))) (f (.v (.int k m)))
 |.max=>bB (ltK m q) (f (.v (.int k q))) (f (.v (.int k m)))
 |_=>none)=some r):∃o,QK P ⟨d,.call ⟨.builtin b, #[x,y],ts⟩,ty,pos,af,gd⟩ t o/\f o=some r:=by
 obtain⟨k,m,rfl,a⟩:=LK i;obtain⟨s,q,rfl,j⟩:=LK a;have p:∀v,(∀(c:Act) w,c.eval x=.int k m->c.eval y=.int s q->(execOp c.eval ⟨d,.call ⟨.builtin b, #[x,y],ts⟩,ty,pos,af,gd⟩).run P w=.ok (.value v) w)->QK P ⟨d,.call ⟨.builtin b, #[x,y],ts⟩,ty,pos,af,gd⟩ t (.v v):=λv A=>
  λρ c w u=>⟨v,A c w (B ρ c u).bL (C ρ c u).bL,.v⟩
 have l:∀c:Act,c.eval x=.int k m->c.eval y=.int s q->(#[x,y]:gp).map c.eval= #[.int k m,.int s q]:=λc e g=>by simp only[awI,auL,avy,e,g]
 cases b with
 |min=>
  simp only at j;rcases dE j with⟨a,i⟩|⟨a,i⟩
  ·rw[tQ]at a
   have a:=avo a;exact⟨_,p _ λc w e g=>by simp only[execOp,resolve,l c e g,auF,auJ,auG,invoke,builtin,Builtin.min_,awW,awX,Builtin.min2,auo a],i⟩
  ·rw[tQ]at a
   have a:=aww a;exact⟨_,p _ λc w e g=>by simp only[execOp,resolve,l c e g,auF,auJ,auG,invoke,builtin,Builtin.min_,awW,awX,Builtin.min2,aun a],i⟩
 |max=>
  simp only at j;rcases dE j with⟨a,i⟩|⟨a,i⟩
  ·rw[tQ]at a
   have a:q>m:=avo a;exact⟨_,p _ λc w e g=>by simp only[execOp,resolve,l c e g,auF,auJ,auG,invoke,builtin,Builtin.max_,awW,awX,Builtin.max2,auo a],i⟩
  ·rw[tQ]at a
   have a:¬q>m:=aww a;exact⟨_,p _ λc w e g=>by simp only[execOp,resolve,l c e g,auF,auJ,auG,invoke,builtin,Builtin.max_,awW,awX,Builtin.max2,aun a],i⟩
 |_=>cases j
end
end
variable{j:Tr CV}{H:dU}
section
open Go Go.RowKit MapKept
section
variable{P:Fd}{Dk:Deferred->Prop}{w0:GE}{T:EQ->bu}
def LM{R:Type}(l:Do CV):Nat->Tr CV->(Tr CV->At R)->At R:=List.rec (motive:=λ_=>Nat->Tr CV->(Tr CV->At R)->At R) (λ_ t k=>k t) (λc _ a i t k=>Tr.new (some c) 64 t i λb=>a (Nat.succ i) b k) l
def qS{R:Type}{r:R}:∀{l:Do CV} {i:Nat} {t:Tr CV} {k:Tr CV->At R},LM l i t k=some r->∃a,k a=some r/\∀j,a.get j=if i<=j/\j<i+l.length then l[j - i]? else t.get j
 |[],i,t,k,h=>⟨t,h,λj=>by rw[aun d5]⟩
 |c::l,i,t,k,h=>by
  change Tr.new (some c) 64 t i (λa=>LM l (i+1) a k)=some r at h;obtain⟨t1,m,f⟩:=Tr.oK h;obtain⟨t2,o,g⟩:=qS m;refine⟨t2,o,λj=>?_⟩;rw[g j,f j];simp only[auP];by_cases e:j=i
  ·subst e
   rw[aun bv,auo rfl,auo bv];simp
  ·by_cases b:i+1<=j/\j<i+1+l.length
   ·rw[auo b,auo bv,show j - i=(j - (i+1))+1 by omega]
    simp
   ·rw[aun b,aun e,aun bv]
def trL(l:Do CV):Tr CV:=Option.rec (motive:=λ_=>Tr CV) .lf (λt=>t) (LM l 0 .lf some)
def agQ(h:(trL e).get b=some c):e[b]? =some c:=by
 unfold trL at h;cases a:LM e 0 .lf (some:Tr CV->At (Tr CV))with
 |none=>rw[a]at h;cases h
 |some t=>
  rw[a]at h;obtain⟨i,f,g⟩:=qS a;cases f;change t.get b=some c at h;rw[g]at h;split at h
  ·simpa using h
  ·cases h
def na(l:Do CV):In:=List.rec (motive:=λ_=>In) true (λc _ a=>bB c.one a false) l
def gC:∀{l:Do CV},na l=true->∀c∈l,c.one=true
 |[],_,c,a=>by simp at a
 |x::l,h,c,a=>by
  change bB x.one (na l) false=true at h;cases b:x.one with
  |false=>rw[b]at h;cases h
  |true=>
   rw[b]at h;rcases auT.1 a with rfl|a
   ·exact b
   ·exact gC (l:=l) h c a
def Ad{R:Type}(h:Tr c5)(n:Nat)(b:c5)(k:Tr c5->Nat->At R):At R:=Tr.new (some b) 64 h n λa=>kN (Nat.succ n) λc=>k a c
def uS{R:Type}{r:R}{h:Tr c5}{n:Nat}{b:c5}{k:Tr c5->Nat->At R}(f:Ad h n b k=some r):∃a,k a (n+1)=some r/\∀j,a.get j=if j=n then some b else h.get j:=by
 obtain⟨a,c,e⟩:=Tr.oK f;rw[fG]at c;exact⟨a,c,e⟩
def tV{R:Type}(c:CV)(k:Do CV->At R):At R:=match c with
 |.ag a=>k a
 |c=>bB c.one (k [c]) none
def Br{R:Type}{r:R}{k:Do CV->At R}(b:tV c k=some r):∃l,(∀ρ v,KR ρ c v->∃a,v.cells=a.toArray/\LR (KR ρ) l a)/\k l=some r:=by
 have m:∀c:CV,(∀g,c≠.ag g)->bB c.one (k [c]) none=some r->∃l,(∀ρ v,KR ρ c v->∃a,v.cells=a.toArray/\LR (KR ρ) l a)/\k l=some r:=λc _ b=>by
  obtain⟨i,b⟩:=bj b;exact⟨_,λρ v f=>⟨[v],n_ (f.jI i),LR.cons f LR.nil⟩,b⟩
 cases c with
 |ag g=>exact⟨_,λρ v f=>by obtain⟨a,rfl,j⟩:=f.e5;exact⟨a,rfl,j⟩,b⟩
 |_=>exact m _ (λg e=>by cases e) b
def Nm.new(ρ:Nm)(n b m:Nat):Nm:=λk=>if k=n then some (b,m)else ρ k
def Nm.qU{n b a:Nat}:m.new n b a n=some (b,a):=auo rfl
def HR.le{h:KH}{n:Nat}(f:HR P w0 m h n k)(b c:Nat):Bp m (m.new n b c):=λa p e=>by
 have:=f.lt e;show(if a=n then _ else _)=_;rw[aun bv];exact e
def HR.drew{ρ:Nm}{h:KH}{n:Nat}{w:GE}(a:HR P w0 ρ h n w):HR P w0 ρ h n w.drew:=
 ⟨a.ext.drew,λk x b m e c=>(a.ob k x b m e c).mono (Bp.refl ρ) rfl,a.lo,a.inj,a.top,a.DZ⟩
def KP.drew{ρ:Nm}{h:KH}{n:Nat}{w:GE}(a:HR P w0 ρ h n w):KP P w0 ρ h n w ρ h n w.drew:=
 let k:=KP.refl a
 ⟨a.drew,auq _,λ_ _=>rfl,auq _,k.fr,k.ol,k.fz⟩
def HR.JK{h g:KH}{n:Nat}(i:HR P w0 m h n k)(ty:EQ)(e:Nat)(ext:bX){N:Nat}{ct:Tr CV}(w:N<=H.size)(A:∀o,ext=some o->H.size=e*o)
 (p:∀j c,ct.get j=some c->j<N/\∃u,H[j]? =some u/\KR m c u/\c.one=true) (q:∀f,g f=if f=n then some (.ce ct N ext true)else h f):
 KP P w0 m h n k (m.new n k.heap.size e) g (n+1) (k.alloc (.cells H ty)):=by
 have v:=i.le k.heap.size e;exact i.new _ e q ((Ext.refl k).alloc _) d5 ⟨ty,H,YS k _,w,λj c s=>let⟨l,u,a,b,d⟩:=p j c s;⟨l,u,a,b.mono v,d⟩,A⟩
def LR.at{ρ:Nm}{f:bC}(l:LR (KR ρ) e f)(g:∀c∈e,c.one=true)(i:∀a c,j.get a=some c->e[a]? =some c):∀a c,j.get a=some c->a<e.length/\∃u,f.toArray[a]? =some u/\KR ρ c u/\c.one=true:=λa c b=>by
 have b:=i a c b;obtain⟨u,m,k⟩:=l.get b;exact⟨(aus.1 b).1,u,by simpa using m,k,g c (auI b)⟩
section
variable{t:Tr CV}{h:Tr c5}{n:Nat}{d:iC}{ty t1 t2:EQ}{pos:String}{af:dm}{gd:fH}{x y z:If}{R:Type}{r:R}
def LN{b:c5}{k:Tr c5->Nat->At R}(f:Ad h n b k=some r):∃a,(∀j,a.get j=u0 h.get n (some b) j)/\k a (Ac n (some b))=some r:=by
 obtain⟨a,c,e⟩:=uS f;exact⟨a,e,c⟩
def agR{R:Type}(h:Tr c5)(n:Nat)(l:Do CV)(k:Nat->Tr c5->Nat->At R):At R:=bB (na l) (LM l 0 .lf λa=>kN l.length λm=>Ad h n (.ce a m none true) λb c=>k n b c) none
def Ym{k:Nat->Tr c5->Nat->At R}(f:agR h n e k=some r):∃b g,(∀ρ w l ty (H:KH) N,HR P w0 ρ H N w->LR (KR ρ) e l->KP P w0 ρ H N w (ρ.new N w.heap.size 0) (u0 H N (some b)) (N+1) (w.alloc (.cells l.toArray ty)))/\(∀j,g.get j=u0 h.get n (some b) j)/\k n g (n+1)=some r:=by
 obtain⟨o,f⟩:=bj f;obtain⟨u,f,p⟩:=qS f;rw[fG]at f;obtain⟨g,q,f⟩:=LN f;refine⟨_,g,λρ w l ty H N s m=>?_,q,f⟩;refine s.JK ty 0 none (N:=e.length) (by simp[m.1]) (λv a=>by cases a) (m.at (gC o) λj c i=>?_) (λ_=>rfl);rw[p]at i;split at i
 ·simpa using i
 ·cases i
def FK.box{a:CV}{k:CV->Tr c5->Nat->At R}(C:ku t x a)(e:(tV a λl=>agR h n l λi c D=>k (.pt i 0) c D)=some r):∃g f c,ZK P Dk w0 ⟨d,.box t1 x,ty,pos,af,gd⟩ t g f/\(∀j,c.get j=u0 h.get n f j)/\k (g n) c (Ac n f)=some r:=by
 obtain⟨l,p,e⟩:=Br e;obtain⟨b,c,s,o,e⟩:=Ym (P:=P) (w0:=w0) e;refine⟨λn=>.pt n 0,some b,c,λρ a w H N A u=>?_,o,e⟩;obtain⟨m,B,q⟩:=p ρ _ (C ρ a A);refine .value (v:=.pointer (some ⟨w.heap.size,0,none⟩)) (w':=w.alloc (.cells m.toArray t1)) ?_ ⟨_,s ρ w m t1 H N u q,.pt Nm.qU⟩;simp[execOp,Instr.box,newVar,newRow,newObj,B,Sem.run]
def FK.alloc(p:gG P T){k:CV->Tr c5->Nat->At R}(u:(oB (T t1).ze λz=>bB (na (z.map .v)) (Ad h n (.ce (trL (z.map .v)) z.length none true) λb F=>k (.pt n 0) b F) none)=some r):∃m l b,ZK P Dk w0 ⟨d,.alloc t1,ty,pos,af,gd⟩ t m l/\(∀j,b.get j=u0 h.get n l j)/\k (m n) b (Ac n l)=some r:=by
 obtain⟨z,f,A⟩:=bH u;obtain⟨o,B⟩:=bj A;obtain⟨b,q,C⟩:=LN B;have f:=p.ze _ _ f;unfold BF at f;obtain⟨i,s,f⟩:=awF.1 f;obtain⟨G,E,rfl⟩:=auY.1 f;refine⟨λn=>.pt n 0,_,b,λρ a w H N I D=>?_,q,C⟩;refine .value (v:=.pointer (some ⟨w.heap.size,0,none⟩)) (w':=w.alloc (.cells G.cells.toList.toArray t1)) ?_ ⟨_,D.JK t1 0 none d5 (λJ e=>by cases e) (λj c g=>by have:=LR.at (ρ:=ρ) (LR.vs _) (gC o) (λj c g=>agQ g) j c g;simpa using this) (λ_=>rfl),.pt Nm.qU⟩;simp[execOp,Instr.alloc,zeroValue,typeInfo,s,E,newVar,newRow,newObj,Sem.run]
def kR{R:Type}(t:Tr CV)(b:xj):(Do (Nat×Do CV)->At R)->At R:=
 List.rec (motive:=λ_=>(Do (Nat×Do CV)->At R)->At R) (λk=>k []) (λp _ a k=>ea t p.2 λc=>tV c λl=>a λe=>k ((p.1,l)::e)) b
def Bt:∀{ps:xj} {k:Do (Nat×Do CV)->At R},kR t ps k=some r->∃e,(∀ρ a,ny ρ t a->e.length=(ps.map λp=>(p.1,a.eval p.2)).length/\∀(j:Nat) p q,e[j]? =some p->(ps.map λp=>(p.1,a.eval p.2))[j]? =some q->p.1=q.1/\LR (KR ρ) p.2 q.2.cells.toList)/\k e=some r
 |[],k,b=>⟨[],λρ a m=>⟨rfl,d5⟩,b⟩
 |(i,x)::ps,k,b=>by
  obtain⟨c,u,b⟩:=cx b;obtain⟨l,v,b⟩:=Br b;obtain⟨e,A,b⟩:=Bt (ps:=ps) b;refine⟨(i,l)::e,λρ a m=>?_,b⟩;obtain⟨o,s⟩:=A ρ a m;refine⟨by simp[o],λj p q f g=>?_⟩;cases j with
  |zero=>
   simp at f g;subst f g;obtain⟨C,B,w⟩:=v ρ _ (u ρ a m);exact⟨rfl,by simpa[B]using w⟩
  |succ j=>exact s j p q (by simpa using f) (by simpa using g)
def FK.build(G:gG P T){A:D8}{k:CV->At R}(f:(oB (T t1).pl λp=>kR t A.toList λB=>oB (gD (λi=>p.2[i]?) (p.1.map .v) B) λj=>k (.ag j))=some r):∃c,QK P ⟨d,.build t1 A,ty,pos,af,gd⟩ t c/\k c=some r:=by
 obtain⟨⟨z,l⟩,v,f⟩:=bH f;obtain⟨B,J,f⟩:=Bt f;obtain⟨j,u,f⟩:=bH f;obtain⟨M,b,I⟩:=G.pl _ _ _ v;have u:=wD I u;refine⟨_,λρ a w K=>?_,f⟩;obtain⟨E,F⟩:=J ρ a K;have v:LR (KR ρ) (z.map .v) z.toArray.toList:=by simpa using LR.vs z
 obtain⟨g,C,D⟩:=jJ (place:=M) B _ (z.map .v) j z.toArray v E F u;refine⟨.agg g.toList.toArray,?_,.ag _ D.1 D.2⟩;have H:P.built t1 (A.map λ(i,x)=>(i,a.eval x)).toList=some g:=by
  unfold plA at b;unfold Program.built;simp only[av5];split at b
  ·rename_i L n e m o
   split at b
   ·rename_i N Q q s
    simp only[aur,auK]at b;obtain⟨rfl,rfl⟩:=b;simp only[m,o,q,s];simpa using C
   ·cases b
  ·rename_i L O m o
   split at b
   ·rename_i N S q s
    simp only[aur,auK]at b;obtain⟨rfl,rfl⟩:=b;simp only[m,o,q,s];simpa using C
   ·cases b
  ·cases b
 have:=run_build w t1 _ g H;simp only[execOp,auF,this,auG,auJ,ayi]
def FK.buildSlice(O:gG P T){len:Nat}{parts:D8}{k:CV->Tr c5->Nat->At R}(C:(oB (T t1).el λe=>bB (ble (Nat.mul len e.2.1) 16777216) (kR t parts.toList λqs=>oB (gD (λi=>some (i*e.2.1,e.2.1)) (List.replicate (Nat.mul len e.2.1) (.v undef)) qs) λcs=>agR h n cs λi h' n'=>k (.sl i 0 len (some len)) h' n') none)=some r):
 ∃B s h',ZK P Dk w0 ⟨d,.buildSlice t1 len parts,ty,pos,af,gd⟩ t B s/\(∀j,h'.get j=u0 h.get n s j)/\k (B n) h' (Ac n s)=some r:=by
 obtain⟨⟨E,sz,a5,z⟩,S,X⟩:=bH C;obtain⟨m,Y⟩:=bj X;have m:len*sz<=16777216:=auw m;obtain⟨qs,l,Z⟩:=Bt Y;obtain⟨cs,U,D⟩:=bH Z;have a3:=(bj D).1;obtain⟨J,h',g,W,o⟩:=Ym (P:=P) (w0:=w0) D;obtain⟨i,zv,K,L,M,h5,rfl,_,_⟩:=cX (O.el _ _ S);refine⟨λn=>.sl n 0 len (some len),some J,h',λρ a w H N ht hs=>?_,W,o⟩;obtain⟨p1,p2⟩:=l ρ a ht;obtain⟨A,Q,a4⟩:=lH (P:=P) w t1 E len (parts.map λ(i,x)=>(i,a.eval x)) i zv K L M m;have a2:LR (λc u=>c=CV.v undef\/KR ρ c u) (List.replicate (len*i.size) (.v undef)) A.toList:=by
  refine⟨by simp[Q],λj c u b I=>?_⟩;rw[awS]at b;split at b
  ·simp at b;exact .inl b.symm
  ·cases b
 have G:qs.length=(parts.map λ(i,x)=>(i,a.eval x)).toList.length/\∀(j:Nat) p q,qs[j]? =some p->(parts.map λ(i,x)=>(i,a.eval x)).toList[j]? =some q->p.1=q.1/\LR (λc u=>c=CV.v undef\/KR ρ c u) p.2 q.2.cells.toList:=by
  rw[av5];exact⟨p1,λj p q g l=>⟨(p2 j p q g l).1,(p2 j p q g l).2.imp λ_ _ o=>.inr o⟩⟩
 obtain⟨f,V,F⟩:=jJ (place:=λj=>some (j*i.size,i.size)) qs _ _ cs A a2 G.1 G.2 U;have a1:LR (KR ρ) cs f.toList:=⟨F.1,λj c u b I=>by
  rcases F.2 j c u b I with rfl|C
  ·have:=gC a3 _ (auI b)
   cases this
  ·assumption⟩
 have a0:=g ρ w f.toList E H N hs a1;refine .value (v:=.slice (some ⟨w.heap.size,0,none⟩) len len) (w':=w.alloc (.cells f.toList.toArray E)) ?_ ⟨_,a0,.sl Nm.qU (λ_=>rfl) (auq _) (λx e=>by cases e;rfl) (λe=>by cases e)⟩;simp only[execOp,auF,a4 f V,auG,auJ,ayi]
def qV{z:dU}{m j:Nat}{u:Id}(c:0<z.size)(f:j<m)(b:z[j % z.size]? =some u):(madeCells z m)[j]? =some u:=by
 have a:j % z.size<z.size:=awV _ c;have e:z[j % z.size]! =u:=by
  rw[avb a]at b;cases b;simp[a]
 simp[madeCells,f,e]
def TH{α:Type}(z:Do α)(b:0<z.length):∀(m j:Nat) c,(List.replicate m z).flatten[j]? =some c->z[j % z.length]? =some c/\j<m*z.length
 |0,j,c,h=>by simp at h
 |m+1,j,c,h=>by
  rw[avT,au4]at h;by_cases a:j<z.length
  ·rw[au7 a]at h
   exact⟨by rw[awH a];exact h,by rw[au6];omega⟩
  ·rw[avG bv]at h
   obtain⟨e,f⟩:=TH z b m _ c h;exact⟨by rw[<-e,ayn (awt a)],by rw[au6];omega⟩
def GY(z:bC)(m:Nat):Tr CV:=match z with
 |[v]=>Tr.fill (.v v) 64 m
 |z=>trL ((List.replicate m (z.map .v)).flatten)
def JL{z:bC}(g:0<z.length)(h:(GY z b).get u=some c):∃a,c=.v a/\z[u % z.length]? =some a/\u<b*z.length:=by
 unfold GY at h;split at h
 ·rename_i v
  obtain⟨rfl,e⟩:=Tr.jJ h;exact⟨v,rfl,by simp[Nat.mod_one],by simpa using e⟩
 ·have e:=agQ h
  have i:0<(z.map CV.v).length:=by simpa using g
  obtain⟨f,j⟩:=TH _ i b u c e;rw[auz,auM]at f;obtain⟨a,k,rfl⟩:=auY.1 f;exact⟨a,rfl,k,by simpa using j⟩
def FK.makeSlice(S:gG P T){k:CV->Tr c5->Nat->At R}(hx:ku t x c)(hy:ku t y o)(X:(oB (T t1).el λe=>u5 c λm=>u5 o λM=>bB (beq m M) (bB (ble (Nat.mul e.2.2.1 m) 140737488355328) (bB (ble m 1048576) (bB (blt 0 e.2.1) (bB (na (e.2.2.2.map .v)) (Ad h n (.ce (GY e.2.2.2 m) (Nat.mul m e.2.1) none true) λf n'=>k (.sl n 0 m (some m)) f n') none) none) none) none) none)=some r):
 ∃A p f,ZK P Dk w0 ⟨d,.makeSlice t1 x y,ty,pos,af,gd⟩ t A p/\(∀j,f.get j=u0 h.get n p j)/\k (A n) f (Ac n p)=some r:=by
 obtain⟨⟨E,O,Q,z⟩,U,Y⟩:=bH X;obtain⟨k1,m,rfl,Z⟩:=mc Y;obtain⟨k2,M,rfl,a0⟩:=mc Z;obtain⟨hm,a1⟩:=bj a0;obtain rfl:=ep hm;obtain⟨D,a2⟩:=bj a1;obtain⟨J,a3⟩:=bj a2;obtain⟨G,a4⟩:=bj a3;obtain⟨a7,a5⟩:=bj a4;obtain⟨f,V,a6⟩:=LN a5;have D:Q*m<=140737488355328:=auw D;have J:m<=1048576:=auw J;have I:0<O:=auw G;clear G;obtain⟨i,s,p2,p3,p4,q,rfl,rfl,rfl⟩:=cX (S.el _ _ U);refine⟨λn=>.sl n 0 m (some m),_,f,λρ a w H N K hs=>?_,V,a6⟩;have F:=run_make (P:=P) w t1 E i s p2 p3 p4 k1 k2 m m bv (awU _) (by
  have h:((i.bytes*m:Nat):Int)<=281474976710656:=bv
  rwa[awh]at h) bv
 simp only[auB]at F;have L:s.cells.toList.length=i.size:=by simpa using q
 refine .value (v:=.slice (some ⟨w.heap.size,0,none⟩) m m) (w':=w.alloc (.cells (madeCells s.cells (m*i.size)) E)) ?_ ⟨_,hs.JK E 0 none (by simp[ayo]) (λO e=>by cases e) (λj b W=>?_) (λ_=>rfl),.sl Nm.qU (λ_=>rfl) (auq _) (λx e=>by cases e;rfl) (λe=>by cases e)⟩
 ·have B:=(hx ρ a K).bL
  have C:=(hy ρ a K).bL;simp only[ax8]at B C;simp only[execOp,B,C,auF,F,auG,auJ]
 ·obtain⟨u,rfl,l,g⟩:=JL (by rw[L];exact I) W
  rw[L]at l g;refine⟨by simpa using g,u,qV (by rw[q];exact I) g (by rw[q];simpa using l),.v,?_⟩;exact gC a7 _ (auD.2 ⟨u,auI l,rfl⟩)
def FK.makeMap(g:gG P T){k:CV->Tr c5->Nat->At R}(m:(oB (T t1).mp λ_=>Ad h n (.ma t1 [] true) λb s=>k (.mp n) b s)=some r):∃f e b,ZK P Dk w0 ⟨d,.makeMap t1 none,ty,pos,af,gd⟩ t f e/\(∀j,b.get j=u0 h.get n e j)/\k (f n) b (Ac n e)=some r:=by
 obtain⟨⟨u,z⟩,c,o⟩:=bH m;obtain⟨b,l,p⟩:=LN o;have c:=g.mp _ _ c;obtain⟨C,A,i,p1,p2,p3,p4⟩:=h8 c;refine⟨λn=>.mp n,_,b,λρ a w H N B q=>?_,l,p⟩;refine .value (v:=.map (some w.heap.size)) (w':=w.alloc (.map #[] 0)) ?_ ⟨_,q.new _ 0 (λ_=>rfl) ((Ext.refl w).alloc _) d5 ⟨u,z, #[],0,c,YS w _,rfl,d5,d5,stamped_empty 0,d5,rfl⟩,.mp Nm.qU⟩;simp[execOp,run_makeMap]
def FK.makeFunc{g:Fn}{i f:gp}{k:CV->At R}(e:(qR t i.toList λp=>qR t f.toList λb=>k (.cl g p b))=some r):∃c,QK P ⟨d,.makeFunc g i f,ty,pos,af,gd⟩ t c/\k c=some r:=by
 obtain⟨p,q,e⟩:=D0 e;obtain⟨b,s,e⟩:=D0 e;refine⟨_,λρ a w l=>?_,e⟩;have m:=q ρ a l;have o:=s ρ a l;refine⟨.func g (i.toList.map a.eval).toArray (f.toList.map a.eval).toArray,?_,.cl _ _ m.1 o.1 m.2 o.2⟩;have j:∀b:gp,(b.toList.map a.eval).toArray=b.map a.eval:=λb=>by rw[<-av5]
 rw[j,j];simp[execOp,Instr.makeFunc]
end
end
end
section
open Go Go.RowKit MapKept
section
variable{P:Fd}{Dk:Deferred->Prop}{w0:GE}{T:EQ->bu}
def anx{R:Type}(l:Do CV):Nat->Tr CV->(Tr CV->At R)->At R:=List.rec (motive:=λ_=>Nat->Tr CV->(Tr CV->At R)->At R) (λ_ t k=>k t) (λc _ a i t k=>Tr.put c t i λb=>a (Nat.succ i) b k) l
def Yn{R:Type}{r:R}:∀{l:Do CV} {i:Nat} {t:Tr CV} {k:Tr CV->At R},anx l i t k=some r->∃b,k b=some r/\(∀j,b.get j=if i<=j/\j<i+l.length then l[j - i]? else t.get j)/\∀j,i<=j->j<i+l.length->∃x,t.get j=some x
 |[],i,t,k,h=>⟨t,h,λj=>by rw[aun d5],λj g e=>by simp at e;omega⟩
 |c::l,i,t,k,h=>by
  change Tr.put c t i (λb=>anx l (i+1) b k)=some r at h;obtain⟨t1,g,u,f⟩:=Tr.m_ h;obtain⟨t2,e,p,q⟩:=Yn g;refine⟨t2,e,λj=>?_,λj v s=>?_⟩
  ·rw[p j,f j]
   simp only[auP];by_cases a:j=i
   ·subst a
    rw[aun bv,auo rfl,auo bv];simp
   ·by_cases m:i+1<=j/\j<i+1+l.length
    ·rw[auo m,auo bv,show j - i=(j - (i+1))+1 by omega]
     simp
    ·rw[aun m,aun a,aun bv]
  ·by_cases a:j=i
   ·subst a;exact u
   ·simp only[auP]at s
    obtain⟨x,o⟩:=q j bv bv;rw[f j,aun a]at o;exact⟨x,o⟩
def Ext.setRow{w0 w:GE}(h:Ext w0 w){b:Nat}(e:w0.heap.size<=b)(a:dU):Ext w0 (w.setRow b a):=
 ⟨⟨h.os,h.tape,h.output,by simp[World.setRow];exact h.size,λk c=>by rw[aw5 w b k a bv];exact h.bW k c⟩,h.drawn⟩
def HR.write{h K:KH}{n:Nat}(q:HR P w0 m h n k){f b g o N:Nat}{ext:bX}{l:Do CV}{us:bC}(A:h f=some (.ce j N ext true))(D:m f=some (b,g))(w:LR (KR m) l us)(M:∀c∈l,c.one=true)
 (O:∀i,C.get i=if o<=i/\i<o+l.length then l[i - o]? else j.get i) (Q:∀i,o<=i->i<o+l.length->∃x,j.get i=some x) (S:∀a,K a=if a=f then some (.ce C N ext true)else h a):
 ∃W,(storeCells ⟨b,o,none⟩ us 0).run P k=.ok () W/\KP P w0 m h n k m K n W:=by
 obtain⟨ty,v,F,X,E,J⟩:=q.ob _ _ _ _ A D;have G:o+us.length<=v.size\/us=[]:=by
  by_cases L:us=[]
  ·exact .inr L
  ·left
   have hp:0<us.length:=av8.2 L;obtain⟨x,I⟩:=Q (o+us.length - 1) bv (by rw[<-w.1];omega);have:=(E _ _ I).1;omega
 rcases G with G|rfl
 ·have Z:∀u∈us,u.oneCell'=true:=λu s=>by
   obtain⟨i,p,rfl⟩:=avc s;have U:i<l.length:=by rw[<-w.1];exact p
   exact(w.2 i l[i] us[i] (auy U) (auy p)).jI (M _ (awO U))
  have a2:=run_storeCells_at P b o ty us 0 v k F (by simpa using G) Z;refine⟨_,a2,?_⟩;have V:=q.lo _ _ _ _ A D;refine q.set _ A D rfl rfl S (q.ext.setRow V _) (by simp[World.setRow]) (λa B=>aw5 k b a _ B) ⟨ty,_,ayg k b v _ ty (0,0) F,?_,λi c p=>?_,λsz e=>?_⟩
  ·simp;omega
  ·rw[O]at p
   split at p
   ·rename_i H
    obtain⟨x,I⟩:=Q i H.1 H.2;obtain⟨u,s,B⟩:=w.get p;refine⟨(E _ _ I).1,u,?_,B,M c (auI p)⟩;have e0:(v.toList.take o).length=o:=d7
    simp only[avO,avR];rw[auV,avG bv,e0,au7 (by have:=(aus.1 s).1;exact this)];exact s
   ·rename_i H
    obtain⟨Y,u,s,B,ho⟩:=E _ _ p;refine⟨Y,u,?_,B,ho⟩;have e0:(v.toList.take o).length=o:=d7
    simp only[avO,avR];rw[auV];by_cases a1:i<o
    ·rw[au7 bv,au3,auo a1];simpa using s
    ·have a3:o+us.length<=i:=by rw[w.1];omega
     rw[avG bv,e0,avG bv,avK];rw[show o+us.length+(i - o - us.length)=i by omega];simpa using s
  ·rw[<-J sz e];simp;omega
 ·refine⟨k,rfl,?_⟩
  have a0:l=[]:=avq w.1.symm;subst a0;have V:=q.lo _ _ _ _ A D;refine q.set _ A D rfl rfl S q.ext rfl (λ_ _=>rfl) ⟨ty,v,F,X,λi c p=>?_,J⟩;rw[O,aun d5]at p;exact E i c p
section
variable{t:Tr CV}{h:Tr c5}{n:Nat}{d:iC}{ty t1 t2:EQ}{pos:String}{af:dm}{gd:fH}{x y z:If}{R:Type}{r:R}
def wrK{R:Type}(h:Tr c5)(j o:Nat)(l:Do CV)(k:Tr c5->At R):At R:=blC h j λa N ext wr=>bB wr (bB (na l) (anx l o a λb=>Tr.put (.ce b N ext true) h j k) none) none
def agS{k:Tr c5->At R}(q:wrK h b u e k=some r):
 ∃c,(∀ρ w a m f,HR P w0 ρ h.get n w->ρ b=some (a,m)->LR (KR ρ) e f->∃g,(storeCells ⟨a,u,none⟩ f 0).run P w=.ok () g/\KP P w0 ρ h.get n w ρ c.get n g)/\k c=some r:=by
 obtain⟨G,N,ext,wr,p,s⟩:=Bq q;obtain⟨rfl,v⟩:=bj s;obtain⟨i,A⟩:=bj v;obtain⟨H,B,j,l⟩:=Yn A;obtain⟨c,C,_,o⟩:=Tr.m_ B;exact⟨c,λρ w a m f F E D=>F.write p E D (gC i) j l o,C⟩
def ptA{R:Type}(c:CV)(k:Nat->Nat->At R):At R:=match c with
 |.pt j o=>k j o
 |_=>none
def anz{k:Nat->Nat->At R}(a:ptA c k=some r):∃j o,c=.pt j o/\k j o=some r:=by
 unfold ptA at a;split at a
 ·exact⟨_,_,rfl,a⟩
 ·cases a
def FK.store(C:gG P T){k:CV->Tr c5->Nat->At R}(W:ku t x c)(X:ku t y o)(E:(oB (T t1).ty λe=>ptA c λj g=>tV o λl=>bB (beq l.length e.2) (wrK h j g l λp=>k (.v undef) p n) none)=some r):
 ∃f p v,FK P Dk w0 ⟨d,.store t1 x y,ty,pos,af,gd⟩ t h n f p v/\k f p v=some r:=by
 obtain⟨⟨ag,m⟩,S,F⟩:=bH E;obtain⟨j,g,rfl,G⟩:=anz F;obtain⟨l,L,H⟩:=Br G;obtain⟨q,I⟩:=bj H;obtain⟨p,V,J⟩:=agS (P:=P) (w0:=w0) (n:=n) I;have q:l.length=m:=ep q;refine⟨_,p,n,λρ a w u O=>?_,J⟩;obtain⟨b,Y,M,D⟩:=(W ρ a u).qQ;obtain⟨A,U,s⟩:=L ρ _ (X ρ a u);obtain⟨Z,N,K⟩:=V ρ w b Y A O M s;obtain⟨td,i,h2,B,_,rfl⟩:=ir (C.ty _ _ S);refine .skip (w':=Z) ?_ ⟨ρ,K,.v⟩;have Q:A.length=i.size:=by rw[s.1];exact q
 simp[execOp,Instr.storeAt,Instr.sureAddr,D,storeVar,U,cL w B,Q,N]
def u9{R:Type}(t:Tr CV)(o:iB)(a:Nat)(k:Nat->At R):At R:=Option.rec (motive:=λ_=>At R) (k a) (λx=>ea t x λc=>u5 c k) o
def qW{o:iB}{k:Nat->At R}(f:u9 t o b k=some r):∃m,(∀ρ a,ny ρ t a->(o.map a.eval=none/\m=b)\/∃e,o.map a.eval=some (.int e (m:Int)))/\k m=some r:=by
 cases o with
 |none=>exact⟨b,λρ a g=>.inl ⟨rfl,rfl⟩,f⟩
 |some x=>
  obtain⟨c,i,j⟩:=cx f;obtain⟨e,m,rfl,l⟩:=mc j;exact⟨m,λρ a g=>.inr ⟨e,by simp[(i ρ a g).bL]⟩,l⟩
def aqL(c:bX)(m:Nat):Nat:=Option.rec (motive:=λ_=>Nat) m (λa=>a) c
def pcK{R:Type}(j o g l c a:Nat)(k:CV->At R):At R:=kN (bB (beq a l) o (Nat.add o (Nat.mul l g))) λf=>kN (Nat.sub c l) λe=>kN (Nat.sub a l) λb=>k (.sl j f e (some b))
def TI{j o e l c a:Nat}{k:CV->At R}:pcK j o e l c a k=k (.sl j (if a=l then o else o+l*e) (c - l) (some (a - l))):=by
 unfold pcK;rw[fG,fG,fG];cases b:beq a l with
 |true=>rw[auo (ep b)];rfl
 |false=>rw[aun (jh b)];rfl
def tX{R:Type}(T:EQ->bu)(t:Tr CV)(t1:EQ)(a:CV)(p f i:iB)(k:CV->At R):At R:=match a with
 |.sl j o m c=>oB (T t1).el λe=>bB (blt 0 e.2.1) (u9 t p 0 λl=>u9 t f m λb=>bB (ble l b) (bB (ble b m) (Option.rec (motive:=λ_=>At R)
  (Option.rec (motive:=λ_=>At R) (kN (Nat.add o (Nat.mul l e.2.1)) λv=>kN (Nat.sub b l) λu=>k (.sl j v u none)) (λq=>bB (ble m q) (pcK j o e.2.1 l b q k) none) c)
  (λw=>bB f.isSome (ea t w λs=>u5 s λg=>bB (ble b g) (bB (ble g (aqL c m)) (pcK j o e.2.1 l b g k) none) none) none) i) none) none) none
 |.v (.slice none 0 0)=>oB (T t1).el λ_=>u9 t p 0 λl=>u9 t f 0 λb=>u9 t i 0 λg=>bB (beq l 0) (bB (beq b 0) (bB (beq g 0) (bB (i.isNone||f.isSome) (k (.v (.slice none 0 0))) none) none) none) none
 |.pt j o=>oB (T t1).ar λe=>bB i.isNone (bB (blt 0 e.2.2) (u9 t p 0 λl=>u9 t f e.1 λb=>bB (ble l b) (bB (ble b e.1) (pcK j o e.2.2 l b e.1 k) none) none) none) none
 |_=>none
def agT{j o a q l k i b u cap f:Nat}{c:bX}(B:0<q)(s:m j=some (b,u))(p:0<a\/o=0->f=o)(v:l<=k)(w:k<=a)(A:k<=i):
 KR m (.sl j (if i=l then o else o+l*q) (k - l) (some (i - l))) (.slice (if i=l then some ⟨b,f,none⟩else(some (⟨b,f,none⟩:Addr)).map (·.add (l*q))) (k - l) (i - l)):=by
 by_cases e:i=l
 ·rw[auo e,auo e]
  refine .sl s (λg=>?_) bv (λx e=>by cases e;rfl) (λe=>by cases e);rcases g with g|g
  ·omega
  ·exact p (.inr g)
 ·rw[aun e,aun e]
  simp only[avz,ava];refine .sl s (λg=>?_) bv (λx e=>by cases e;rfl) (λe=>by cases e);rcases g with g|g
  ·rw[p (.inl bv)]
  ·have:o=0:=bv
   rw[p (.inr this)]
def FK.slice(hT:gG P T){a:CV}{lo Q mx:iB}{k:CV->At R}(hx:ku t x a)(I:tX T t t1 a lo Q mx k=some r):∃c,QK P ⟨d,.slice t1 x lo Q mx,ty,pos,af,gd⟩ t c/\k c=some r:=by
 cases a with
 |sl j o m c=>
  change(oB (T t1).el λe=>_)=some r at I;obtain⟨⟨E,sz,ab,z⟩,he,a2⟩:=bH I;obtain⟨L,V⟩:=bj a2;have L:0<sz:=auw L;obtain⟨l,W,a3⟩:=qW V;obtain⟨s,U,a4⟩:=qW a3;obtain⟨C,a5⟩:=bj a4;obtain⟨D,H⟩:=bj a5;have C:l<=s:=auw C;have D:s<=m:=auw D;obtain⟨i,zv,p2,p3,p4,p5,rfl,_,_⟩:=cX (hT.el _ _ he);have a9:∀{ρ:Nm} {a:Act},ny ρ t a->∃b mm q f,a.eval x=.slice (some ⟨b,f,none⟩) m q/\ρ j=some (b,mm)/\(0<m\/o=0->f=o)/\m<=q/\(∀y,c=some y->q=y)/\(c=none->o=0->q=mm):=λ{ρ a} p=>by
   have hv:=hx ρ a p;generalize a.eval x=u at hv;cases hv with
   |sl B J M Y Z=>exact⟨_,_,_,_,rfl,B,J,M,Y,Z⟩
  cases mx with
  |none=>
   cases c with
   |none=>
    change kN _ (λo'=>kN _ λm'=>k (.sl j o' m' none))=some r at H;rw[fG,fG]at H;refine⟨_,λρ a w p=>?_,H⟩;obtain⟨b,mm,q,f,G,B,J,M,Y,Z⟩:=a9 p;have X:=fi (P:=P) p2 p3 (some ⟨b,f,none⟩) m q l s none q (lo.map a.eval) (Q.map a.eval) none w (W ρ a p) (U ρ a p) (.inl ⟨rfl,rfl⟩) C D bv (auq _) M;refine⟨.slice (if q=l then some ⟨b,f,none⟩else(some (⟨b,f,none⟩:Addr)).map (·.add (l*i.size))) (s - l) (q - l),by simp only[execOp,auF,G,awk,X,auG,auJ],?_⟩;show KR ρ (.sl j (o+l*i.size) (s - l) none) _;by_cases e:q=l
    ·rw[auo e]
     have ah:l=0\/0<l*i.size:=by
      by_cases S:l=0
      ·exact .inl S
      ·exact .inr (awP bv L)
     refine .sl B (λK=>?_) bv (λx e=>by cases e) (λ_ S=>?_)
     ·rcases K with K|K
      ·omega
      ·have S:l=0:=bv
       have h5:o=0:=bv
       rw[S,awQ,avO];exact J (.inr h5)
     ·have h5:l=0:=bv
      have h6:=Z rfl bv;omega
    ·rw[aun e]
     simp only[avz,ava];have ah:l=0\/0<l*i.size:=by
      by_cases S:l=0
      ·exact .inl S
      ·exact .inr (awP bv L)
     refine .sl B (λK=>?_) bv (λx e=>by cases e) (λ_ S=>?_)
     ·rcases K with K|K
      ·rw[J (.inl bv)]
      ·rw[J (.inr bv)]
     ·have h5:l=0:=bv
      have h6:=Z rfl bv;omega
   |some cp=>
    obtain⟨A,a0⟩:=bj H;rw[TI]at a0;refine⟨_,λρ a w p=>?_,a0⟩;obtain⟨b,mm,q,f,G,B,J,M,Y,Z⟩:=a9 p;obtain rfl:=Y cp rfl;have X:=fi (P:=P) p2 p3 (some ⟨b,f,none⟩) m q l s none q (lo.map a.eval) (Q.map a.eval) none w (W ρ a p) (U ρ a p) (.inl ⟨rfl,rfl⟩) C D bv (auq _) M;exact⟨_,by simp only[execOp,auF,G,awk,X,auG,auJ],agT (c:=none) (cap:=q) L B J C D bv⟩
  |some xm=>
   obtain⟨gs,a0⟩:=bj H;obtain⟨cm,ad,a8⟩:=cx a0;obtain⟨km,ml,rfl,ag⟩:=mc a8;obtain⟨A,ae⟩:=bj ag;obtain⟨F,aa⟩:=bj ae;have A:s<=ml:=auw A;have F:ml<=aqL c m:=auw F;rw[TI]at aa;refine⟨_,λρ a w p=>?_,aa⟩;obtain⟨b,mm,q,f,G,B,J,M,Y,Z⟩:=a9 p;have g5:ml<=q:=by
    cases c with
    |none=>exact avl F M
    |some cp=>rw[Y cp rfl];exact F
   have X:=fi (P:=P) p2 p3 (some ⟨b,f,none⟩) m q l s none ml (lo.map a.eval) (Q.map a.eval) (some (a.eval xm)) w (W ρ a p) (U ρ a p) (.inr ⟨⟨km,by rw[(ad ρ a p).bL];rfl⟩,by cases Q with|none=>cases gs|some y=>simp⟩) C D A g5 M;exact⟨_,by simp only[execOp,auF,G,avz,X,auG,auJ],agT (c:=none) (cap:=q) L B J C D A⟩
 |v u=>
  unfold tX at I;split at I
  ·rename_i e;cases e
  ·rename_i e
   cases e;obtain⟨⟨E,sz,ab,z⟩,he,a2⟩:=bH I;obtain⟨l,W,V⟩:=qW a2;obtain⟨s,U,a3⟩:=qW V;obtain⟨ml,ai,a4⟩:=qW a3;obtain⟨e1,a5⟩:=bj a4;obtain⟨e2,H⟩:=bj a5;obtain⟨e3,a0⟩:=bj H;obtain⟨e4,a8⟩:=bj a0;obtain rfl:=ep e1;obtain rfl:=ep e2;obtain rfl:=ep e3;obtain⟨i,zv,p2,p3,p4,p5,rfl,_,_⟩:=cX (hT.el _ _ he);refine⟨_,λρ a w p=>?_,a8⟩;have X:=fi (P:=P) p2 p3 none 0 0 0 0 none 0 (lo.map a.eval) (Q.map a.eval) (mx.map a.eval) w (W ρ a p) (U ρ a p) (by
    rcases ai ρ a p with⟨g,_⟩|⟨kd,g⟩
    ·exact .inl ⟨g,rfl⟩
    ·refine .inr ⟨⟨kd,g⟩,?_⟩
     cases mx with
     |none=>cases g
     |some y=>cases Q with
      |none=>cases e4
      |some y=>simp) (auq _) (auq _) (auq _) (auq _) (auq _)
   exact⟨_,by simp only[execOp,auF,(hx ρ a p).bL,X,auG,auJ,au2,axm],.v⟩
  ·rename_i e;cases e
  ·cases I
 |pt j o=>
  change(oB (T t1).ar λe=>_)=some r at I;obtain⟨⟨N,E,sz⟩,he,a2⟩:=bH I;obtain⟨gm,V⟩:=bj a2;obtain⟨L,V⟩:=bj V;have L:0<sz:=auw L;obtain⟨l,W,a3⟩:=qW V;obtain⟨s,U,a4⟩:=qW a3;obtain⟨C,a5⟩:=bj a4;obtain⟨D,H⟩:=bj a5;have C:l<=s:=auw C;have D:s<=N:=auw D;rw[TI]at H;cases mx with
  |some y=>cases gm
  |none=>
  refine⟨_,λρ a w p=>?_,H⟩;obtain⟨b,mm,B,G⟩:=(hx ρ a p).qQ;obtain⟨aj,a7,ac,rfl⟩:=ue (hT.ar _ _ he);have a1:P.elem t1=E:=by simp[Program.elem,a7]
  have O:P.arrayLen t1=N:=by simp[Program.arrayLen,a7]
  have hu:P.underlying t1=some (.array (P.arrayLen t1) (P.elem t1)):=by rw[a1,O];exact a7
  refine⟨slicedAt ⟨b,o,none⟩ l s N aj.size,?_,?_⟩
  ·have a6:=cL (P:=P) w ac
   rcases W ρ a p with⟨A,rfl⟩|⟨kl,A⟩<;>rcases U ρ a p with⟨F,rfl⟩|⟨kh,F⟩
   ·simp[execOp,G,A,F,ay4 w t1 ⟨b,o,none⟩ hu,a1,O,a6]
   ·simp only[execOp,G,awk,A,F,ay5 w t1 ⟨b,o,none⟩ hu kh s bv (by rw[O];omega),auF,a1,a6,O,auG,auB,auJ]
   ·simp only[execOp,G,awk,A,F,ay6 w t1 ⟨b,o,none⟩ hu kl l bv (by rw[O];omega),auF,a1,a6,O,auG,auB,auJ]
   ·simp only[execOp,G,awk,A,F,ay7 w t1 ⟨b,o,none⟩ hu kl kh l s bv bv (by rw[O];omega),auF,a1,a6,O,auG,auB,auJ]
  ·unfold slicedAt
   by_cases e:N=l
   ·rw[auo e,auo e]
    exact .sl B (λK=>rfl) bv (λx e=>by cases e;rfl) (λe=>by cases e)
   ·rw[aun e,aun e,ava]
    exact .sl B (λK=>rfl) bv (λx e=>by cases e;rfl) (λe=>by cases e)
 |_=>cases I
def anA{R:Type}(h:Tr c5)(c:Nat)(a:CV)(k:Nat->Do CV->At R):At R:=match a with
 |.sl j o m _=>bB (beq m 0) (k 0 []) (blC h j λb _ _ _=>rdC b (Nat.mul m c) o λl=>k m l)
 |.v (.slice none 0 0)=>k 0 []
 |_=>none
def ajN{k:Nat->Do CV->At R}(f:anA h b c k=some r):∃m l,(∀ρ w v,HR P w0 ρ h.get n w->KR ρ c v->∃A D g,v=.slice A m D/\LR (KR ρ) l g/\g.length=m*b/\(∀u∈g,u.oneCell'=true)/\(m=0\/∃q,A=some q/\∀(j:Nat) u,g[j]? =some u->w.cell? (q.add j)=some u))/\k m l=some r:=by
 unfold anA at f;split at f
 ·rename_i j o m a
  rcases dE f with⟨e,f⟩|⟨e,f⟩
  ·have e:=ep e
   refine⟨0,[],λρ w v p i=>?_,f⟩;cases i with
   |sl B s E F G=>rw[e];exact⟨_,_,[],rfl,LR.nil,d5,d5,.inl rfl⟩
  ·have e:=jh e
   obtain⟨O,N,ext,wr,H,f⟩:=Bq f;obtain⟨l,J,K,f⟩:=GX f;refine⟨m,l,λρ w v p i=>?_,f⟩;cases i with
   |sl B s E F G=>
    obtain⟨g,C,L,M⟩:=(p.ob _ _ _ _ H B).cells l K;obtain rfl:=s (.inl bv);exact⟨_,_,g,rfl,C,by rw[C.1,J];rfl,M,.inr ⟨_,rfl,λj u I=>by rw[ava];exact L j u I⟩⟩
 ·exact⟨0,[],λρ w v p i=>⟨_,_,[],i.bL,LR.nil,d5,d5,.inl rfl⟩,f⟩
 ·cases f
def Yo{R:Type}(h:Tr c5)(n e m:Nat)(l:Do CV)(k:CV->Tr c5->Nat->At R):At R:=bB (na l) (LM l 0 .lf λa=>kN l.length λN=>Ad h n (.ce a N (some e) true) λb c=>k (.sl n 0 m none) b c) none
def GZ{k:CV->Tr c5->Nat->At R}(g:Yo h n b u e k=some r):∃o,(∀ρ w m l rest E,HR P w0 ρ h.get n w->LR (KR ρ) e m->m.length=u*b->u<=l->(m.toArray++rest).size=l*b->
 ∃A,KP P w0 ρ h.get n w A o.get (n+1) (w.drew.alloc (.cells (m.toArray++rest) E))/\KR A (.sl n 0 u none) (.slice (some ⟨w.heap.size,0,none⟩) u l))/\k (.sl n 0 u none) o (n+1)=some r:=by
 obtain⟨C,g⟩:=bj g;obtain⟨B,g,D⟩:=qS g;rw[fG]at g;obtain⟨o,g,F⟩:=uS g;refine⟨o,λρ w m l rest E I q L H J=>?_,g⟩;have p:=KP.drew I;refine⟨ρ.new n w.heap.size l,p.trans (HR.JK p.hr E l (some b) (N:=e.length) (ct:=B) (by simp[q.1]) (λs a=>by cases a;exact J) (λj c i=>?_) F),.sl Nm.qU (λ_=>rfl) H (λx a=>by cases a) (λ_ _=>rfl)⟩;rw[D]at i;split at i
 ·rename_i K
  simp only[axd]at i;obtain⟨f,v,g⟩:=q.get i;have G:=(aus.1 v).1;refine⟨(aus.1 i).1,f,?_,g,gC C c (auI i)⟩;rw[awK (by simpa using G)];simpa using v
 ·cases i
def ak6{R:Type}(h:Tr c5)(n a j b m:Nat)(l:Do CV)(k:CV->Tr c5->Nat->At R):At R:=blC h j λp N ext wr=>bB wr (oB ext λs=>bB (beq a s) (bB (na l)
 (bB (beq N (Nat.mul b a)) (LM l N p λe=>kN (Nat.add N l.length) λc=>Tr.new none 64 h j λg=>Ad g n (.ce e c (some a) true) λf o=>kN (Nat.add b m) λi=>k (.sl n 0 i none) f o)
  (bB (beq b 0) (LM l 0 .lf λe=>kN l.length λc=>Tr.new none 64 h j λg=>Ad g n (.ce e c (some a) true) λf o=>kN m λi=>k (.sl n 0 i none) f o)
   (bB (ble (Nat.mul b a) N) (rdC p (Nat.mul b a) 0 λq=>LM (q++l) 0 .lf λe=>kN (Nat.add (Nat.mul b a) l.length) λc=>Tr.new none 64 h j λg=>Ad g n (.ce e c (some a) true) λf o=>kN (Nat.add b m) λi=>k (.sl n 0 i none) f o) none))) none) none) none
def agU{b j f m:Nat}{l:Do CV}{k:CV->Tr c5->Nat->At R}(L:ak6 h n b j f m l k=some r):∃o p N g,h.get j=some (.ce p N (some b) true)/\(∀c∈l,c.one=true)/\
 (∀i c,g.get i=some c->(i<f*b/\p.get i=some c)\/(f*b<=i/\l[i - f*b]? =some c)\/(N<=i/\p.get i=some c))/\
 f*b<=N/\(∀k,o.get k=if k=n then some (.ce g (f*b+l.length) (some b) true)else if k=j then none else h.get k)/\k (.sl n 0 (f+m) none) o (n+1)=some r:=by
 obtain⟨p,N,ext,wr,F,M⟩:=Bq L;obtain⟨rfl,Q⟩:=bj M;obtain⟨Y,K,S⟩:=bH Q;obtain⟨e,U⟩:=bj S;obtain rfl:=ep e;subst K;obtain⟨D,V⟩:=bj U;rcases dE V with⟨e,G⟩|⟨e,G⟩
 ·have e:N=f*b:=ep e
  obtain⟨g,q,A⟩:=qS G;rw[fG]at q;obtain⟨I,s,v⟩:=Tr.oK q;obtain⟨o,u,w⟩:=uS s;rw[fG]at u;refine⟨o,p,N,g,F,gC D,λi c a=>?_,bv,λk=>?_,u⟩
  ·rw[A]at a
   split at a
   ·right;left;rw[<-e];exact⟨bv,a⟩
   ·by_cases E:i<f*b
    ·exact .inl ⟨E,a⟩
    ·exact .inr (.inr ⟨bv,a⟩)
  ·rw[w,v,e]
   rfl
 ·rcases dE G with⟨e,q⟩|⟨e,q⟩
  ·obtain rfl:=ep e
   obtain⟨g,s,A⟩:=qS q;rw[fG]at s;obtain⟨I,u,v⟩:=Tr.oK s;obtain⟨o,B,w⟩:=uS u;rw[fG]at B;refine⟨o,p,N,g,F,gC D,λi c a=>?_,d5,λk=>?_,by rw[auZ];exact B⟩
   ·rw[A]at a
    split at a
    ·exact .inr (.inl (by simpa using a))
    ·cases a
   ·rw[w,v]
    simp
  ·obtain⟨C,s⟩:=bj q
   have C:f*b<=N:=auw C;obtain⟨X,H,W,u⟩:=GX s;have H:X.length=f*b:=H;obtain⟨g,B,A⟩:=qS u;rw[fG]at B;obtain⟨I,O,v⟩:=Tr.oK B;obtain⟨o,J,w⟩:=uS O;rw[fG]at J;refine⟨o,p,N,g,F,gC D,λi c a=>?_,C,λk=>?_,J⟩
   ·rw[A]at a
    split at a
    ·simp only[axd]at a
     by_cases E:i<f*b
     ·rw[au7 bv]at a
      have:=W i c a;rw[auZ]at this;exact .inl ⟨E,this⟩
     ·rw[avG bv,H]at a
      exact .inr (.inl ⟨bv,a⟩)
    ·cases a
   ·rw[w,v]
    rfl
end
end
end
section
open Go Go.RowKit MapKept
section
variable{P:Fd}{Dk:Deferred->Prop}{w0:GE}{T:EQ->bu}
section
variable{t:Tr CV}{h:Tr c5}{n:Nat}{d:iC}{ty t1 t2:EQ}{pos:String}{af:dm}{gd:fH}{x y z:If}{R:Type}{r:R}
def Bu(w:GE)(t ty e k:EQ)(i:TypeInfo)(D:P.underlying t=some (.slice e))(v:P.info? e=some i)
 (g b f:Nat) (cur:dU) (s:w.heap[g]? =some (.cells cur k (0,0)))
 (a:Addr) (m c:Nat) (news:bC) (A:news.length=m*i.size) (B:∀j u,news[j]? =some u->w.cell? (a.add j)=some u) (o:∀u∈news,u.oneCell'=true)
 (C:b+m<=f) (q:b*i.size+news.length<=cur.size):
 (Builtin.append_ #[t,t] ty #[.slice (some ⟨g,0,none⟩) b f,.slice (some a) m c]).run P w=
  .ok (.slice (some ⟨g,0,none⟩) (b+m) f) (w.setRow g (cur.toList.take (b*i.size)++news++cur.toList.drop (b*i.size+news.length)).toArray):=by
 have p:=run_firstCells_some (P:=P) w i.size m a m c news A B;have l:=run_storeCells_at P g (b*i.size) k news 0 cur w s (by simpa using q) o;simp only[avO]at l;simp[Builtin.append_,auR D,sizeOf,typeInfo,v,Builtin.lenOf,C,p,ava,l]
def fZ{w a:GE}(h:(Builtin.append_ #[t1,t2] ty #[v.eval x,v.eval y]).run P w=.ok i a):
 (execOp v.eval ⟨N,.call ⟨.builtin .append, #[x,y], #[t1,t2]⟩,ty,pos,af,gd⟩).run P w=.ok (.value i) a:=by
 have b:(#[x,y]:gp).map v.eval= #[v.eval x,v.eval y]:=by simp only[awI,auL,avy]
 simp only[execOp,resolve,b,auF,auJ,auG,invoke,builtin];simp only[axf,h,auG]
def toK{R:Type}(h:Tr c5)(n e f:Nat)(a:CV)(m:Nat)(l:Do CV)(k:CV->Tr c5->Nat->At R):At R:=match a with
 |.v (.slice none 0 0)=>bB (ble m 1048576) (bB (ble (Nat.mul m f) 140737488355328) (Yo h n e m l k) none) none
 |.sl j o b c=>bB (ble (Nat.add b m) 1048576) (bB (ble (Nat.mul (Nat.add b m) f) 140737488355328) (Option.rec (motive:=λ_=>At R)
  (bB (beq o 0) (ak6 h n e j b m l k) none)
  (λg=>bB (blt g (Nat.add b m)) (bB (beq b 0) (Yo h n e m l k) (blC h j λi _ _ _=>rdC i (Nat.mul b e) o λq=>kN (Nat.add b m) λp=>Yo h n e p (q++l) k)) none) c) none) none
 |_=>none
def Yp{R:Type}(T:EQ->bu)(h:Tr c5)(n:Nat)(t1 t2:EQ)(a b:CV)(k:CV->Tr c5->Nat->At R):At R:=oB (T t1).el λe=>bB (blt 0 e.2.1) (bB (beq t1 t2)
 (anA h e.2.1 b λm l=>bB (beq m 0) (QP a λ_=>k a h n) (toK h n e.2.1 e.2.2.1 a m l k))
 (oB (T t2).ik λ_=>u5 b λm=>match a with
  |.v (.slice none 0 0)=>bB (blt 0 m) (bB (ble m 1048576) (bB (ble (Nat.mul m e.2.2.1) 140737488355328) (bB (na (e.2.2.2.map .v)) (Ad h n (.ce (GY e.2.2.2 m) (Nat.mul m e.2.1) (some e.2.1) true) λc f=>k (.sl n 0 m none) c f) none) none) none) none
  |_=>none)) none
def QS{z:dU}{c rest:dU}{m a b:Nat}(g:z.size=b)(f:c.size=m*b)(e:rest=Builtin.zeroCells z (a - m))(i:m<=a):(c++rest).size=a*b:=by
 rw[awz,f,e,av3,g,<-au6];congr 1;omega
def anB(hT:gG P T){zz:bC}{m:Nat}{l:Do CV}{k:CV->Tr c5->Nat->At R}(he:(T t1).el=some (E,b,u,zz))(ay:0<b)(hx:ku t x c)
 (aw:∀ρ w v,HR P w0 ρ h.get n w->KR ρ o v->∃A F us,v=.slice A m F/\LR (KR ρ) l us/\us.length=m*b/\(∀a∈us,a.oneCell'=true)/\(m=0\/∃J,A=some J/\∀(j:Nat) a,us[j]? =some a->w.cell? (J.add j)=some a)) (hy:ku t y o) (hm:¬m=0)
 (I:toK h n b u c m l k=some r):∃g M n',FK P Dk w0 ⟨d,.call ⟨.builtin .append, #[x,y], #[t1,t1]⟩,ty,pos,af,gd⟩ t h n g M n'/\k g M n'=some r:=by
 obtain⟨i,zv,p2,p3,p4,p5,rfl,rfl,rfl⟩:=cX (hT.el _ _ he);have a8:∀{ρ:Nm} {c:Act} {w:GE},ny ρ t c->HR P w0 ρ h.get n w->∃J F us,c.eval y=.slice (some J) m F/\LR (KR ρ) l us/\us.length=m*i.size/\(∀a∈us,a.oneCell'=true)/\∀(j:Nat) a,us[j]? =some a->w.cell? (J.add j)=some a:=λ{ρ c w} K D=>by
  obtain⟨A,F,us,U,V,G,h4,h5⟩:=aw ρ w _ D (hy ρ c K);rcases h5 with h5|⟨J,rfl,h5⟩
  ·exact absurd h5 hm
  ·exact⟨J,F,us,U,V,G,h4,h5⟩
 cases c with
 |v a=>
  unfold toK at I;split at I
  ·rename_i e
   cases e;obtain⟨g1,a9⟩:=bj I;obtain⟨Y,a7⟩:=bj a9;have g1:m<=1048576:=auw g1;have Y:m*i.bytes<=140737488355328:=auw Y;obtain⟨M,hg,a3⟩:=GZ (P:=P) (w0:=w0) a7;refine⟨_,M,_,λρ c w K D=>?_,a3⟩;obtain⟨J,F,us,a0,W,H,U,Z⟩:=a8 K D;have Q:=ayf (P:=P) w t1 ty E i zv p2 p3 p4 J m F us H Z bv bv bv;refine .value (fZ (by rw[(hx ρ c K).bL,a0];exact Q)) (hg ρ w us (grownCap w m 0 E) _ E D W H (avN w m 0 E) (QS p5 (by simpa using H) rfl (avN w m 0 E)))
  ·rename_i e;cases e
  ·cases I
 |sl j p B g=>
  change bB _ _ _=_ at I;obtain⟨g1,a9⟩:=bj I;obtain⟨Y,a7⟩:=bj a9;have g1:B+m<=1048576:=auw g1;have Y:(B+m)*i.bytes<=140737488355328:=auw Y;have ac:∀{ρ:Nm} {c:Act},ny ρ t c->∃o mm F f,c.eval x=.slice (some ⟨o,f,none⟩) B F/\ρ j=some (o,mm)/\(0<B\/p=0->f=p)/\B<=F/\(∀y,g=some y->F=y)/\(g=none->p=0->F=mm):=λ{ρ c} K=>by
   have hv:=hx ρ c K;generalize c.eval x=a at hv;cases hv with
   |sl hr O U G h4=>exact⟨_,_,_,_,rfl,hr,O,U,G,h4⟩
  cases g with
  |some cp=>
   obtain⟨S,a3⟩:=bj a7;have S:cp<B+m:=auw S;rcases dE a3 with⟨e,a4⟩|⟨e,a4⟩
   ·obtain rfl:=ep e
    obtain⟨M,hg,aa⟩:=GZ (P:=P) (w0:=w0) a4;refine⟨_,M,_,λρ c w K D=>?_,aa⟩;obtain⟨J,F,us,a0,W,H,U,Z⟩:=a8 K D;obtain⟨o,mm,C,f,a2,hr,O,q1,q3,q4⟩:=ac K;obtain rfl:=q3 cp rfl;have Q:=awB (P:=P) w t1 ty E i zv p2 p3 p4 ⟨o,f,none⟩ 0 C [] d5 d5 J m F us H Z S bv (aw7 S Y);simp only[auZ]at Q;refine .value (fZ (by rw[a2,a0];exact Q)) ?_;have:=hg ρ w us (grownCap w m C E) (Builtin.zeroCells zv.cells (grownCap w m C E - m)) E D W H (avN w m C E) (QS p5 (by simpa using H) rfl (avN w m C E));simpa using this
   ·have e:=jh e
    obtain⟨cs,N,ext,wr,hb,aa⟩:=Bq a4;obtain⟨ol,aq,ar,ah⟩:=GX aa;rw[fG]at ah;obtain⟨M,hg,an⟩:=GZ (P:=P) (w0:=w0) ah;refine⟨_,M,_,λρ c w K D=>?_,an⟩;obtain⟨J,F,us,a0,W,H,U,Z⟩:=a8 K D;obtain⟨o,mm,C,f,a2,hr,O,q1,q3,q4⟩:=ac K;obtain rfl:=q3 cp rfl;obtain rfl:=O (.inl bv);obtain⟨os,u1,u2,u3⟩:=(D.ob _ _ _ _ hb hr).cells ol ar;have al:os.length=B*i.size:=by rw[u1.1,aq];rfl
    have Q:=awB (P:=P) w t1 ty E i zv p2 p3 p4 ⟨o,f,none⟩ B C os al (λj v L=>by rw[ava];exact u2 j v L) J m F us H Z S bv (aw7 S Y);refine .value (fZ (by rw[a2,a0];exact Q)) ?_;have a5:(os++us).length=(B+m)*i.size:=by rw[auE,al,H,au6]
    have:=hg ρ w (os++us) (grownCap w (B+m) C E) (Builtin.zeroCells zv.cells (grownCap w (B+m) C E - (B+m))) E D (u1.append W) a5 (avN w _ C E) (QS p5 (by simpa using a5) rfl (avN w _ C E));simpa using this
  |none=>
   obtain⟨e,a3⟩:=bj a7;obtain rfl:=ep e;obtain⟨M,cs,N,ct,L,U,ag,hN,hh,a4⟩:=agU a3;refine⟨_,M,_,λρ c w K D=>?_,a4⟩;obtain⟨J,F,us,a0,W,H,av,Z⟩:=a8 K D;obtain⟨o,mm,C,f,a2,hr,O,q1,q3,q4⟩:=ac K;obtain rfl:=O (.inr rfl);obtain rfl:=q4 rfl rfl;obtain⟨a6,a1,b1,b2,b3,b4⟩:=D.ob _ _ _ _ L hr;have ae:=b4 _ rfl;have a5:l.length=m*i.size:=by rw[<-W.1,H]
   have ax:=D.lth L;by_cases ab:B+m<=C
   ·have am:B*i.size+us.length<=a1.size:=by rw[ae,H,<-au6];exact awC _ ab
    have Q:=Bu (P:=P) w t1 ty E a6 i p2 p3 o B C a1 b1 J m F us H Z av ab am;refine .value (fZ (by rw[a2,a0];exact Q)) ⟨ρ.new n o C,?_,.sl Nm.qU (λ_=>rfl) ab (λx e=>by cases e) (λ_ _=>rfl)⟩;have ao:=D.lo _ _ _ _ L hr;have ai:=D.le o C;refine D.move _ L hr rfl rfl hh (D.ext.setRow ao _) (by simp[World.setRow]) (λk I=>aw5 w o k _ I) ⟨a6,_,ayg w o a1 _ a6 (0,0) b1,?_,λq g hq=>?_,λs e=>?_⟩
    ·rw[a5,<-H];simp;omega
    ·have e0:(a1.toList.take (B*i.size)).length=B*i.size:=d7
     rcases ag q g hq with⟨V,G⟩|⟨V,G⟩|⟨V,G⟩
     ·obtain⟨g5,a,X,I,O⟩:=b3 _ _ G
      refine⟨bv,a,?_,I.mono ai,O⟩;simp only[avR];rw[auV,au7 bv,au3,auo V];simpa using X
     ·obtain⟨a,X,I⟩:=W.get G
      have aj:=(aus.1 X).1;have ap:=(aus.1 G).1;refine⟨bv,a,?_,I.mono ai,U g (auI G)⟩;simp only[avR];rw[auV,avG bv,e0,au7 aj];exact X
     ·have:=(b3 _ _ G).1;omega
    ·cases e
     rw[<-ae];simp;omega
   ·have S:C<B+m:=bv
    have au:∀(j:Nat) v,(a1.toList.take (B*i.size))[j]? =some v->w.cell? ((⟨o,0,none⟩:Addr).add j)=some v:=λj v L=>by
     rw[ava,auZ,avu w o j a1 a6 (0,0) b1];rw[au3]at L;split at L
     ·simpa using L
     ·cases L
    have e0:(a1.toList.take (B*i.size)).length=B*i.size:=d7
    have Q:=awB (P:=P) w t1 ty E i zv p2 p3 p4 ⟨o,0,none⟩ B C _ e0 au J m F us H Z S bv (aw7 S Y);have bw:=D.kill (h':=λk=>if k=j then none else h.get k) L rfl (λk=>rfl);have hd:=KP.drew bw.hr;have ak:=avN w (B+m) C E;refine .value (fZ (by rw[a2,a0];exact Q)) ⟨ρ.new n w.heap.size (grownCap w (B+m) C E),(bw.trans hd).trans (HR.JK hd.hr E (grownCap w (B+m) C E) (some i.size) (N:=B*i.size+l.length) (ct:=ct) ?_ (λs e=>?_) (λq g hq=>?_) (λk=>hh k)),.sl Nm.qU (λ_=>rfl) ak (λx e=>by cases e) (λ_ _=>rfl)⟩
    ·simp only[awz,awa,e0,H,a5,av3];omega
    ·cases e
     exact QS (m:=B+m) p5 (by simp only[awz,awa,e0,H,au6]) rfl ak
    ·rcases ag q g hq with⟨V,G⟩|⟨V,G⟩|⟨V,G⟩
     ·obtain⟨g5,a,X,I,O⟩:=b3 _ _ G
      refine⟨bv,a,?_,I,O⟩;rw[awK d7,awK d7];simp only[avR];rw[au3,auo V];simpa using X
     ·obtain⟨a,X,I⟩:=W.get G
      have aj:=(aus.1 X).1;have ap:=(aus.1 G).1;refine⟨bv,a,?_,I,U g (auI G)⟩;rw[awK d7,Array.getElem?_append_right d7];simp only[avR,awa,e0];exact X
     ·have:=(b3 _ _ G).1;omega
 |_=>cases I
def FK.append(D:gG P T){k:CV->Tr c5->Nat->At R}(V:ku t x c)(W:ku t y o)(hk:Yp T h n t1 t2 c o k=some r):∃a C n',FK P Dk w0 ⟨d,.call ⟨.builtin .append, #[x,y], #[t1,t2]⟩,ty,pos,af,gd⟩ t h n a C n'/\k a C n'=some r:=by
 obtain⟨⟨E,sz,a5,zz⟩,L,a0⟩:=bH hk;obtain⟨a2,a8⟩:=bj a0;have G:0<sz:=auw a2;clear a2 a0 hk;rcases dE a8 with⟨e,M⟩|⟨e,M⟩
 ·obtain rfl:=ep e
  obtain⟨m,l,a3,O⟩:=ajN (P:=P) (w0:=w0) (n:=n) M;rcases dE O with⟨e,b⟩|⟨e,b⟩
  ·obtain rfl:=ep e
   obtain⟨X,ae,Q⟩:=QQ b;obtain⟨i,I,p2,p3,p4,f,rfl,_,_⟩:=cX (D.el _ _ L);refine⟨_,h,n,.pure λρ c w p S=>?_,Q⟩;obtain⟨A,a6,us,K,_⟩:=a3 ρ w _ S (W ρ c p);have H:=V ρ c p;refine⟨c.eval x,?_,H⟩;obtain⟨j,g,B,ad⟩:∃j g,c.eval x=.slice j X g/\X<=g:=by
    obtain⟨j,g,B⟩:=ae ρ _ H;refine⟨j,g,B,?_⟩;rw[B]at H;cases H with
    |sl _ _ K=>exact K
    |v=>
     unfold QP at b;split at b
     ·rename_i e;cases e
     ·rename_i e;cases e;exact auq _
     ·cases b
   exact fZ (by rw[K,B];exact q_ w t1 ty E i p2 p3 j A X g a6 ad)
  ·exact anB D L G V a3 W (jh e) b
 ·obtain⟨kn,ac,O⟩:=bH M
  obtain⟨km,m,rfl,b⟩:=mc O;split at b
  ·obtain⟨J,Q⟩:=bj b
   obtain⟨Y,a9⟩:=bj Q;obtain⟨Z,aa⟩:=bj a9;obtain⟨g3,ab⟩:=bj aa;have J:0<m:=auw J;have Y:m<=1048576:=auw Y;have Z:m*a5<=140737488355328:=auw Z;obtain⟨C,a7,hh⟩:=uS ab;obtain⟨i,I,p2,p3,p4,f,rfl,rfl,rfl⟩:=cX (D.el _ _ L);refine⟨_,C,_,λρ c w p S=>?_,a7⟩;have ag:=Go.Lib.run_append_nil_zeros (P:=P) w t1 t2 ty E i I km kn p2 (D.ik _ _ ac) p3 p4 m J G bv bv;have a4:I.cells.toList.length=i.size:=by simpa using f
   have hd:=KP.drew S;have a1:=avN w m 0 E;refine .value (fZ (by rw[(V ρ c p).bL,(W ρ c p).bL];exact ag)) ⟨_,hd.trans (HR.JK hd.hr E (grownCap w m 0 E) (some i.size) (N:=m*i.size) ?_ (λs e=>?_) (λq a hq=>?_) hh),.sl Nm.qU (λ_=>rfl) a1 (λx e=>by cases e) (λ_ _=>rfl)⟩
   ·simp only[awz,av3,f];omega
   ·cases e
    exact QS (m:=m) f (by rw[av3,f]) rfl a1
   ·obtain⟨u,rfl,U,F⟩:=JL (by rw[a4];exact G) hq
    rw[a4]at U F;refine⟨F,u,?_,.v,gC g3 _ (auD.2 ⟨u,auI U,rfl⟩)⟩;rw[awK (by rw[av3,f];exact F)];exact qV (m:=m*I.cells.size) (by rw[f];exact G) (by rw[f];exact F) (by rw[f];simpa using U)
  ·cases b
def agV{R:Type}(T:EQ->bu)(h:Tr c5)(n:Nat)(t1:EQ)(a:CV)(k:CV->Tr c5->Nat->At R):At R:=oB (T t1).el λe=>bB (blt 0 e.2.1) (match a with
 |.v (.slice none 0 0)=>k (.v undef) h n
 |.sl j o m _=>bB (beq m 0) (k (.v undef) h n) (wrK h j o ((List.replicate m (e.2.2.2.map .v)).flatten) λb=>k (.v undef) b n)
 |_=>none) none
def QT{α β:Type}(f:α->β)(z:Do α):∀m,(List.replicate m (z.map f)).flatten=((List.replicate m z).flatten).map f
 |0=>rfl
 |m+1=>by rw[avT,avT,au4,au4,avh,QT f z m]
def G1{z:dU}(m:Nat)(a:0<z.size):(Builtin.zeroCells z m).toList=(List.replicate m z.toList).flatten:=by
 refine avX λj=>?_;have i:(Builtin.zeroCells z m).toList.length=m*z.size:=by simp[av3]
 have e:((List.replicate m z.toList).flatten).length=m*z.size:=d5
 by_cases f:j<m*z.size
 ·obtain⟨c,b⟩:∃c,((List.replicate m z.toList).flatten)[j]? =some c:=⟨_,auy (by rw[e];exact f)⟩
  obtain⟨g,_⟩:=TH z.toList (by simpa using a) m j c b;rw[b];have:=qV (z:=z) (m:=m*z.size) (j:=j) (u:=c) a f (by simpa using g);rw[avL];exact this
 ·rw[au5 (by rw[i];omega),au5 (by rw[e];omega)]
def FK.clear(K:gG P T){a:CV}{k:CV->Tr c5->Nat->At R}(D:ku t x a)(F:agV T h n t1 a k=some r):∃c p J,FK P Dk w0 ⟨d,.call ⟨.builtin .clear, #[x], #[t1]⟩,ty,pos,af,gd⟩ t h n c p J/\k c p J=some r:=by
 obtain⟨⟨E,X,a0,zz⟩,L,G⟩:=bH F;obtain⟨H,q⟩:=bj G;have Q:0<X:=auw H;clear H G F;obtain⟨i,Z,p2,p3,p4,W,rfl,_,rfl⟩:=cX (K.el _ _ L);have s:∀a:Act,(#[x]:gp).map a.eval= #[a.eval x]:=λa=>by simp only[awI,auL,avy]
 split at q
 ·refine⟨_,h,n,.pure λρ a w g C=>⟨undef,?_,.v⟩,q⟩
  simp[execOp,resolve,s,(D ρ a g).bL,invoke,builtin,Builtin.clear_,auR p2,undef]
 ·rename_i j o m c
  rcases dE q with⟨e,B⟩|⟨e,B⟩
  ·obtain rfl:=ep e
   refine⟨_,h,n,.pure λρ a w g C=>⟨undef,?_,.v⟩,B⟩;have l:=D ρ a g;generalize A:a.eval x=u at l;cases l with
   |sl=>simp[execOp,resolve,s,A,invoke,builtin,Builtin.clear_,auR p2,undef]
  ·have e:=jh e
   obtain⟨p,U,M⟩:=agS (P:=P) (w0:=w0) (n:=n) B;refine⟨_,p,n,λρ a w g C=>?_,M⟩;have l:=D ρ a g;generalize A:a.eval x=u at l;cases l with
   | @sl _ _ _ _ b V a1 f S O h1 h3 h4=>
    obtain rfl:=O (.inl bv);obtain⟨Y,I,N⟩:=U ρ w b V ((List.replicate m Z.cells.toList).flatten) C S (by rw[QT];exact LR.vs _);rw[<-G1 m (by rw[W];exact Q)]at I;refine .value (v:=undef) (w':=Y) ?_ ⟨ρ,N,.v⟩;cases m with
    |zero=>omega
    |succ m=>simp[execOp,resolve,s,A,invoke,builtin,Builtin.clear_,auR p2,undef,zeroValue,typeInfo,p3,p4,I]
 ·cases q
end
end
end
variable{a:Type}{A:TypeDesc}
section
open Go Go.RowKit MapKept
section
variable{P:Fd}{Dk:Deferred->Prop}{w0:GE}{T:EQ->bu}
def ajO(d:TypeDesc)(v:Id):In:=match d with
 |.int k=>(match v with
  |.int a _=>decide (a=k)
  |_=>false)
 |.tuple _=>(match v with
  |.agg ⟨[.int .i64 _,.int .i64 _]⟩=>true
  |_=>false)
 |_=>false
def ajP{d:TypeDesc}(h:ajO d i=true):k4 d i:=by
 unfold ajO at h;split at h
 ·split at h
  ·have e:=avo h
   subst e;exact(rfl:_=_)
  ·cases h
 ·split at h
  ·exact⟨_,_,rfl⟩
  ·cases h
 ·cases h
def QU(x y:Id):In:=match x with
 |.int _ a=>(match y with
  |.int _ c=>eqK a c
  |_=>false)
 |.agg ⟨[.int _ a,.int _ c]⟩=>(match y with
  |.agg ⟨[.int _ e,.int _ f]⟩=>bB (eqK a e) (eqK c f) false
  |_=>false)
 |_=>false
def aa6(d:TypeDesc):Prop:=(∃k,d=.int k)\/∃l,d=.tuple l
def anC{d:TypeDesc}(h:ajO d i=true):aa6 d:=by
 cases d<;>first|exact .inl ⟨_,rfl⟩|exact .inr ⟨_,rfl⟩|cases h
def LO{d:TypeDesc}(j:aa6 d){x y:Id}(b:k4 d x)(g:k4 d y):QU x y=true↔x=y:=by
 rcases j with⟨k,rfl⟩|⟨l,rfl⟩
 ·have b:IsKey (.int k) x:=b
  have g:IsKey (.int k) y:=g;cases x<;>simp only[IsKey]at b;cases y<;>simp only[IsKey]at g;subst b g;simp only[QU,tR,avn,Value.int.injEq,true_and]
 ·obtain⟨a,c,rfl⟩:=b
  obtain⟨e,f,rfl⟩:=g;show bB (eqK a e) (eqK c f) false=true↔_;rw[tR,tR];by_cases i:a=e
  ·rw[auU i,i]
   show decide (c=f)=true↔_;simp
  ·rw[auW i]
   show false=true↔_;simp[i]
def Ae(a:Do (Id×CV))(x:Id):At CV:=List.rec (motive:=λ_=>At CV) none (λp _ b=>bB (QU p.1 x) (some p.2) b) a
def agW{R:Type}(a:Do (Id×CV))(x:Id)(c:CV):(Do (Id×CV)->R)->R:=List.rec (motive:=λ_=>(Do (Id×CV)->R)->R) (λk=>k [(x,c)]) (λp l b k=>bB (QU p.1 x) (k ((p.1,c)::l)) (b λr=>k (p::r))) a
def G2{d:TypeDesc}(a:aa6 d){x:Id}(f:k4 d x):∀{es:Do (Id×CV)},(∀p∈es,k4 d p.1)->Ae es x=fj es x
 |[],_=>rfl
 |(k,c)::es,h=>by
  show bB (QU k x) (some c) (Ae es x)=_;have b:=LO a (h _ (aw_)) f;have j:=G2 a f (es:=es) λp i=>h p (avt _ i);by_cases e:k=x
  ·rw[b.2 e,fj,auo e];rfl
  ·have:QU k x=false:=by
    cases g:QU k x with
    |false=>rfl
    |true=>exact absurd (b.1 g) e
   rw[this,fj,aun e];exact j
def Yq{R:Type}{d:TypeDesc}(a:aa6 d){x:Id}{c:CV}(f:k4 d x):∀{es:Do (Id×CV)} {k:Do (Id×CV)->R},(∀p∈es,k4 d p.1)->agW es x c k=k (oh es x c)
 |[],k,_=>rfl
 |(y,e)::es,k,h=>by
  show bB (QU y x) (k ((y,c)::es)) (agW es x c λr=>k ((y,e)::r))=_;have b:=LO a (h _ (aw_)) f;rw[Yq a f (es:=es) λp i=>h p (avt _ i)];by_cases e:y=x
  ·rw[b.2 e,oh,auo e];rfl
  ·have:QU y x=false:=by
    cases g:QU y x with
    |false=>rfl
    |true=>exact absurd (b.1 g) e
   rw[this,oh,aun e];rfl
def Hg.keys{R:a->Id->Prop}{d:TypeDesc}{e:Do (Id×a)}{c:xk}(h:Hg R d e c b):∀p∈e,k4 d p.1:=λp i=>by
 obtain⟨j,f,rfl⟩:=avc i;have g:j<c.size:=by rw[h.len];exact f
 rw[<-(h.key j _ _ (auy f) (avb g)).1];exact h.isk _ d5
section
variable{t:Tr CV}{h:Tr c5}{n:Nat}{d:iC}{ty t1 t2:EQ}{pos:String}{af:dm}{gd:fH}{x y z:If}{R:Type}{r:R}
def anD{R:Type}(c:CV)(k:Id->At R):At R:=match c with
 |.v x=>k x
 |.ag [.v a,.v c]=>k (.agg #[a,c])
 |_=>none
def ajQ{k:Id->At R}(a:anD c k=some r):∃x,(∀ρ v,KR ρ c v->v=x)/\k x=some r:=by
 unfold anD at a;split at a
 ·exact⟨_,λρ v b=>b.bL,a⟩
 ·refine⟨_,λρ v b=>?_,a⟩
  obtain⟨f,rfl,e⟩:=b.e5;have:=KR.TE (us:=[_,_]) e;rw[this]
 ·cases a
def TJ{R:Type}(T:EQ->bu)(h:Tr c5)(t1:EQ)(p q:CV)(k:Nat->Id->Do (Id×CV)->Id->In->At R):At R:=oB (T t1).mp λe=>mpK p λj=>anD q λx=>bB (ajO e.1 x) (blM h j λt2 a wr=>bB (beq t1 t2) (k j e.2 a x wr) none) none
def LP(H:gG P T){k:Nat->Id->Do (Id×CV)->Id->In->At R}(V:ku t x c)(W:ku t y o)(I:TJ T h t1 c o k=some r):
 ∃j z g p wr f A v i,k j z g p wr=some r/\P.underlying t1=some (.map A v)/\Ry P A f/\P.info? v=some i/\i.zero=some z/\aa6 f/\k4 f p/\h.get j=some (.ma t1 g wr)/\mapA P t1=some (f,z)/\
  ∀ρ a w N,ny ρ t a->HR P w0 ρ h.get N w->∃b m q s,a.eval x=.map (some b)/\a.eval y=p/\ρ j=some (b,m)/\w.heap[b]? =some (.map q s)/\Hg (KR ρ) f g q s:=by
 obtain⟨⟨f,z⟩,l,J⟩:=bH I;obtain⟨j,rfl,K⟩:=TF J;obtain⟨p,S,L⟩:=ajQ K;obtain⟨B,M⟩:=bj L;obtain⟨t2,g,wr,C,O⟩:=TG M;obtain⟨e,Q⟩:=bj O;obtain rfl:=ep e;have l:=H.mp _ _ l;obtain⟨A,v,i,p1,p2,p3,p4⟩:=h8 l;refine⟨j,z,g,p,wr,f,A,v,i,Q,p1,p2,p3,p4,anC B,ajP B,C,l,λρ a w N E U=>?_⟩;have F:=V ρ a E;generalize a0:a.eval x=u at F;cases F with
 | @mp _ b m D=>
  obtain⟨Z,z',q,s,G,X,Y⟩:=U.ob _ _ _ _ C D;rw[l]at G;cases G;exact⟨b,m,q,s,rfl,S ρ _ (W ρ a E),D,X,Y⟩
def FK.lookup(X:gG P T){p q:CV}{g:In}{k:CV->At R}(Z:ku t x p)(hy:ku t y q)(Y:(TJ T h t1 p q λj z G J wr=>Option.rec (motive:=λ_=>At R) (bB g (k (.tu [cvK z,.v (.bool false)])) (k (cvK z))) (λc=>bB g (k (.tu [c,.v (.bool true)])) (k c)) (Ae G J))=some r):
 ∃c,PK P w0 ⟨d,.lookup t1 x y g,ty,pos,af,gd⟩ t h c/\k c=some r:=by
 obtain⟨j,z,G,J,wr,td,kt,et,i,H,p1,p2,p3,p4,p5,K,p7,p8,L⟩:=LP (P:=P) (w0:=w0) X Z hy Y;have res:∀{ρ:Nm} {w:GE} {b m:Nat} {o:xk} {s:Nat},w.heap[b]? =some (.map o s)->Hg (KR ρ) td G o s->
  ∃u,(∀g,(Instr.lookup t1 (.map (some b)) J g).run P w=.ok (if g then .tuple #[u,.bool (Ae G J).isSome]else u) w)/\KR ρ ((Ae G J).getD (cvK z)) u:=λ{ρ w b m o s} S U=>by
  rw[G2 p5 K U.keys];rcases U.find (P:=P) K p2 with⟨M,V,O,_⟩|⟨j,m,c,M,V,O,Q,W,_⟩
  ·refine⟨z,λg=>?_,by rw[O];exact GW z⟩
   simp[Instr.lookup,auR p1,avv S,p2.MF _ _ _ K,M,zeroValue,typeInfo,p3,p4,O]
  ·refine⟨m.val,λg=>?_,by rw[Q];exact W⟩
   simp[Instr.lookup,auR p1,avv S,p2.MF _ _ _ K,M,Q]
 cases I:Ae G J with
 |none=>
  rw[I]at H;change bB g _ _=_ at H;rcases dE H with⟨rfl,D⟩|⟨rfl,D⟩
  ·refine⟨_,λρ a w N F E=>?_,D⟩
   obtain⟨b,m,o,s,v,A,_,B,C⟩:=L ρ a w N F E;obtain⟨u,e,f⟩:=res (m:=m) B C;have e:=e true;rw[I]at e f;have l:=LR.cons f (LR.cons (KR.v (ρ:=ρ) (x:=.bool false)) LR.nil);exact⟨.tuple #[u,.bool false],by simp[execOp,v,A,e],.tu _ l.1 l.2⟩
  ·refine⟨_,λρ a w N F E=>?_,D⟩
   obtain⟨b,m,o,s,v,A,_,B,C⟩:=L ρ a w N F E;obtain⟨u,e,f⟩:=res (m:=m) B C;have e:=e false;rw[I]at e f;exact⟨u,by simp[execOp,v,A,e],f⟩
 |some c=>
  rw[I]at H;change bB g _ _=_ at H;rcases dE H with⟨rfl,D⟩|⟨rfl,D⟩
  ·refine⟨_,λρ a w N F E=>?_,D⟩
   obtain⟨b,m,o,s,v,A,_,B,C⟩:=L ρ a w N F E;obtain⟨u,e,f⟩:=res (m:=m) B C;have e:=e true;rw[I]at e f;have l:=LR.cons f (LR.cons (KR.v (ρ:=ρ) (x:=.bool true)) LR.nil);exact⟨.tuple #[u,.bool true],by simp[execOp,v,A,e],.tu _ l.1 l.2⟩
  ·refine⟨_,λρ a w N F E=>?_,D⟩
   obtain⟨b,m,o,s,v,A,_,B,C⟩:=L ρ a w N F E;obtain⟨u,e,f⟩:=res (m:=m) B C;have e:=e false;rw[I]at e f;exact⟨u,by simp[execOp,v,A,e],f⟩
def HR.TK{h p:KH}{n:Nat}(e:HR P w0 m h n k){j b c v g:Nat}{u f:xk}{w o:Do (Id×CV)}{z:Id}(q:h j=some (.ma t1 w true))(s:m j=some (b,c))(D:mapA P t1=some (A,z))(B:k.heap[b]? =some (.map u v))
 (E:Hg (KR m) A o f g) (C:∀a,p a=if a=j then some (.ma t1 o true)else h a):KP P w0 m h n k m p n {k with heap:=k.heap.setIfInBounds b (.map f g)}:=by
 have l:=axj (o':=.map f g) B;have F:=e.lo _ _ _ _ q s;exact e.set _ q s rfl rfl C ⟨⟨e.ext.os,e.ext.tape,e.ext.output,by simp;exact e.ext.size,λa i=>by rw[l.2 a bv];exact e.ext.bW a i⟩,e.ext.drawn⟩ d5 (λa i=>l.2 a i) ⟨A,z,f,g,D,l.1,E⟩
def FK.agX(Q:gG P T)(Z:M=.mapUpdate t1 x y z\/M=.insert t1 x y z){p q c:CV}{k:CV->Tr c5->Nat->At R}(hx:ku t x p)(hy:ku t y q)(hz:ku t z c)(V:(TJ T h t1 p q λj _ g E wr=>bB wr (agW g E c λo=>Tr.put (.ma t1 o true) h j λe=>k (.v undef) e n) none)=some r):
 ∃c e v,FK P Dk w0 ⟨d,M,ty,pos,af,gd⟩ t h n c e v/\k c e v=some r:=by
 obtain⟨j,zv,g,E,wr,td,kt,et,i,W,p1,p2,p3,p4,p5,K,p7,p8,L⟩:=LP (P:=P) (w0:=w0) Q hx hy V;obtain⟨rfl,C⟩:=bj W;by_cases J:∀p∈g,k4 td p.1
 ·rw[Yq p5 K J]at C
  obtain⟨e,D,_,I⟩:=Tr.m_ C;refine⟨_,e,n,λρ a w u s=>?_,D⟩;obtain⟨b,m,N,O,F,G,H,A,B⟩:=L ρ a w n u s;obtain⟨a1,a2,a0,Y⟩:=Hg.put (P:=P) B (λ_ _ h=>h) K p1 p2 (hz ρ a u) A;refine .skip ?_ ⟨ρ,s.TK p7 H p8 A Y I,.v⟩;rcases Z with rfl|rfl<;>simp[execOp,F,G,a0]
 ·have S:∀{c:CV} {e:Tr c5} {v:Nat},FK P Dk w0 ⟨d,M,ty,pos,af,gd⟩ t h n c e v:=λρ a w u s=>by
   obtain⟨b,m,N,O,F,G,H,A,B⟩:=L ρ a w n u s;exact absurd B.keys J
  have:∀{g:Do (Id×CV)} {f:Do (Id×CV)->At R},agW g E c f=some r->∃o,f o=some r:=by
   intro g
   induction g with
   |nil=>intro f l;exact⟨_,l⟩
   |cons p g ih=>
    intro f l;rcases dE l with⟨_,l⟩|⟨_,l⟩
    ·exact⟨_,l⟩
    ·obtain⟨o,U⟩:=ih l
     exact⟨_,U⟩
  obtain⟨o,D⟩:=this C;obtain⟨e,X,_,I⟩:=Tr.m_ D;exact⟨_,e,n,S,X⟩
def qX(a:Do (Id×CV))(x:Id):bX:=List.rec (motive:=λ_=>bX) none (λp _ b=>bB (QU p.1 x) (some 0) (Option.rec (motive:=λ_=>bX) none (λi=>some (Nat.succ i)) b)) a
def JM{d:TypeDesc}(f:aa6 d){x:Id}(j:k4 d x):∀{es:Do (Id×CV)} {i:Nat},(∀p∈es,k4 d p.1)->qX es x=some i->∃c,es[i]? =some (x,c)/\fj es x=some c
 |[],i,_,h=>by cases h
 |(k,c)::es,i,h,a=>by
  change bB (QU k x) (some 0) (Option.rec (motive:=λ_=>bX) none (λi=>some (Nat.succ i)) (qX es x))=some i at a;have g:=LO f (h _ (aw_)) j;by_cases e:k=x
  ·rw[g.2 e]at a
   cases a;exact⟨c,by rw[e];rfl,by rw[fj,auo e]⟩
  ·have:QU k x=false:=by
    cases q:QU k x with
    |false=>rfl
    |true=>exact absurd (g.1 q) e
   rw[this]at a;cases b:qX es x with
   |none=>rw[b]at a;cases a
   |some s=>
    rw[b]at a;cases a;obtain⟨l,m,o⟩:=JM f j (es:=es) (λp a=>h p (avt _ a)) b;exact⟨l,m,by rw[fj,aun e];exact o⟩
def TM{o:Obj}(h:k.heap[b]? =some o):({k with heap:=k.heap.setIfInBounds b o}:GE)=k:=by
 have:k.heap.setIfInBounds b o=k.heap:=by
  apply Array.ext d5;intro i a c;rw[Array.getElem_setIfInBounds (by simpa using a)];split
  ·rename_i e
   subst e;exact(au9.1 h).2.symm
  ·rfl
 rw[this]
def FK.mapEntry(hT:gG P T){p q:CV}{k:CV->Tr c5->Nat->At R}(hx:ku t x p)(hy:ku t y q)(hk:(TJ T h t1 p q λj z f g wr=>Option.rec (motive:=λ_=>At R)
 (bB wr (Tr.put (.ma t1 (f++[(g,cvK z)]) true) h j λG=>kN f.length λm=>k (.tu [cvK z,.v (.int .i64 (Int.ofNat m))]) G n) none)
 (λi=>oB (f[i]?) λe=>k (.tu [e.2,.v (.int .i64 (Int.ofNat i))]) h n) (qX f g))=some r):
 ∃c G n',FK P Dk w0 ⟨d,.mapEntry t1 x y,ty,pos,af,gd⟩ t h n c G n'/\k c G n'=some r:=by
 obtain⟨j,z,f,g,wr,td,kt,et,i,L,p1,p2,p3,p4,p5,B,p7,p8,p9⟩:=LP (P:=P) (w0:=w0) hT hx hy hk;cases M:qX f g with
 |none=>
  rw[M]at L;obtain⟨rfl,V⟩:=bj L;obtain⟨G,a2,_,hh⟩:=Tr.m_ V;rw[fG]at a2;refine⟨_,G,n,λρ a w X O=>?_,a2⟩;obtain⟨b,m,C,D,S,U,e3,s,o⟩:=p9 ρ a w n X O;rcases o.find (P:=P) B p2 with⟨E,A,F,I⟩|⟨u,Q,c,E,A,F,I,f5,J,_⟩
  ·obtain⟨Y,Z,a5,a3⟩:=Hg.put (P:=P) o (λ_ _ h=>h) B p1 p2 (GW (ρ:=ρ) z) s
   rw[I]at a3;have ab:(Instr.mapUpdate t1 (.map (some b)) g z).run P w=.ok () {w with heap:=w.heap.setIfInBounds b (.map (C.push {key:=g,val:=z,born:=D}) (D+1))}:=by
    simp[Instr.mapUpdate,auR p1,avv s,p2.MF _ _ _ B,E,avV _ s,Result.andThen]
   rw[ab]at a5;have hw:({w with heap:=w.heap.setIfInBounds b (.map (C.push {key:=g,val:=z,born:=D}) (D+1))}:GE)={w with heap:=w.heap.setIfInBounds b (.map Y Z)}:=by
    injection a5
   have ae:=axj (o':=.map Y Z) s;have l:=LR.cons (GW (ρ:=ρ) z) (LR.cons (KR.v (ρ:=ρ) (x:=.int .i64 (Int.ofNat f.length))) LR.nil);refine .value (v:=.tuple #[z,.int .i64 (Int.ofNat f.length)]) ?_ ⟨ρ,O.TK p7 e3 p8 s a3 hh,.tu _ l.1 l.2⟩;rw[<-hw];have a7:D=f.length:=by rw[o.clk,o.len]
   simp[execOp,S,U,Instr.mapEntry,auR p1,avv s,p2.MF _ _ _ B,E,avV _ s,zeroValue,typeInfo,p3,p4,goInt,a7]
  ·exfalso
   have hl:=G2 p5 B o.keys;have:∀{f:Do (Id×CV)},qX f g=none->Ae f g=none:=by
    intro f
    induction f with
    |nil=>intro _;rfl
    |cons p f ih=>
     intro H;change bB (QU p.1 g) (some 0) (Option.rec (motive:=λ_=>bX) none (λi=>some (Nat.succ i)) (qX f g))=none at H;change bB (QU p.1 g) (some p.2) (Ae f g)=none;cases hb:QU p.1 g with
     |true=>rw[hb]at H;cases H
     |false=>
      rw[hb]at H;cases N:qX f g with
      |none=>exact ih N
      |some i=>rw[N]at H;cases H
   rw[this M,I]at hl;cases hl
 |some q=>
  rw[M]at L;obtain⟨⟨ag,c⟩,K,V⟩:=bH L;refine⟨_,h,n,.pure λρ a w X O=>?_,V⟩;obtain⟨b,m,C,D,S,U,e3,s,o⟩:=p9 ρ a w n X O;obtain⟨c',g1,g2⟩:=JM p5 B o.keys M;rw[K]at g1;cases g1;rcases o.find (P:=P) B p2 with⟨E,A,F,I⟩|⟨u,Q,c2,E,A,F,I,f5,J,_⟩
  ·rw[F]at g2;cases g2
  ·have N:u=q:=by
    have k1:=(o.key u _ Q J A).1;have W:q<C.size:=by rw[o.len];exact(aus.1 K).1
    have k2:=(o.key q _ _ K (avb W)).1;have ad:=((ayv C D).1 o.ky).2.2;have a4:=axL.1 ad;have a0:=(au9.1 A).1;have a1:=(au9.1 A).2;rcases avU u q with a9|heq|a8
    ·have:=a4 u q (by simpa using a0) (by simpa using W) a9
     simp only[axi]at this;rw[a1,k1,k2]at this;exact absurd rfl this
    ·exact heq
    ·have:=a4 q u (by simpa using W) (by simpa using a0) a8
     simp only[axi]at this;rw[a1,k1,k2]at this;exact absurd rfl this
   subst N;rw[K]at J;cases J;have l:=LR.cons f5 (LR.cons (KR.v (ρ:=ρ) (x:=.int .i64 (Int.ofNat u))) LR.nil);refine⟨.tuple #[Q.val,.int .i64 (Int.ofNat u)],?_,.tu _ l.1 l.2⟩;have a6:=o.Rk _ _ A;have aa:(C.modify u λe=>{e with key:=g})=C:=by
    apply Array.ext d5;intro i h1 h2;rw[axM];split
    ·rename_i e
     subst e;have:C[u]=Q:=(au9.1 A).2;rw[this,<-F]
    ·rfl
   have ac:=TM s;simp[execOp,S,U,Instr.mapEntry,auR p1,avv s,p2.MF _ _ _ B,E,A,F,p2.stay _ _ B,avV _ s,goInt,a6,aa,ac]
def FK.entryStore(S:gG P T){p q c:CV}{k:CV->Tr c5->Nat->At R}(hx:ku t x p)(hy:ku t y q)(hz:ku t z c)(X:(oB (T t1).mp λ_=>mpK p λj=>u5 q λi=>blM h j λt2 s wr=>bB wr (bB (beq t1 t2) (oB (s[i]?) λe=>Tr.put (.ma t1 (s.set i (e.1,c)) true) h j λo=>k (.v undef) o n) none) none)=some r):
 ∃c o N,FK P Dk w0 ⟨d,.entryStore t1 x y z,ty,pos,af,gd⟩ t h n c o N/\k c o N=some r:=by
 obtain⟨⟨td,zv⟩,H,Y⟩:=bH X;obtain⟨j,rfl,Z⟩:=TF Y;obtain⟨ki,i,rfl,a0⟩:=mc Z;obtain⟨t2,s,wr,G,a1⟩:=TG a0;obtain⟨rfl,a2⟩:=bj a1;obtain⟨e,a3⟩:=bj a2;obtain rfl:=ep e;obtain⟨⟨kv,c0⟩,C,a4⟩:=bH a3;obtain⟨o,a5,_,W⟩:=Tr.m_ a4;have H:=S.mp _ _ H;refine⟨_,o,n,λρ a w E K=>?_,a5⟩;have L:=hx ρ a E;have M:=(hy ρ a E).bL;have a9:=hz ρ a E;generalize U:a.eval x=u at L;cases L with
 | @mp _ b m J=>
  obtain⟨Q,z',l,O,m1,F,g⟩:=K.ob _ _ _ _ G J;have v:i<l.size:=by rw[g.len];exact(aus.1 C).1
  have V:l.findIdx? (λe=>(e.born:Int)==(i:Int))=some i:=by
   rw[ay_];refine⟨v,?_,λq I=>?_⟩
   ·rw[g.Rk i _ (avb v)];simp
   ·rw[g.Rk q _ (avb bv)];simp;omega
  have a8:Hg (KR ρ) Q (s.set i (kv,c)) (l.modify i λe=>{e with val:=a.eval z}) O:=by
   refine⟨by simp[g.len],λq x' B A f=>?_,λB f=>?_,ayw g.ky _ _ (λ_ _=>rfl) (λ_ _ _=>rfl),λq B f=>?_,by rw[g.clk];simp⟩
   ·rw[av7]at f
    by_cases D:i=q
    ·subst D
     rw[auo rfl,avb v]at f;have a6:i<s.length:=(aus.1 C).1;simp[a6]at A f;subst A f;exact⟨(g.key i _ _ C (avb v)).1,a9⟩
    ·rw[aun D]at f
     rw[axN D]at A;exact g.key q x' B A f
   ·obtain⟨q,I,rfl⟩:=avc f
    have aa:q<l.size:=by simpa using I
    rw[axi,axM];split
    ·exact g.isk l[q] d5
    ·exact g.isk l[q] d5
   ·rw[av7]at f
    split at f
    ·obtain⟨m0,a7,rfl⟩:=auY.1 f
     exact g.Rk q m0 a7
    ·exact g.Rk q B f
  refine .skip ?_ ⟨ρ,K.TK G J m1 F a8 W,.v⟩;simp only[ax8]at M;simp[execOp,U,M,Instr.entryStore,avv F,asInt,asIntOf,V,avV _ F]
end
end
end
section
open Go Go.RowKit MapKept
abbrev KK(R:Type):=Tr CV->Tr c5->Nat->At R
abbrev KO(R:Type):=Tr CV->Tr c5->Nat->(CV->Tr c5->Nat->At R)->At R
abbrev KC(R:Type):=FuncId->Do CV->Tr c5->Nat->(CV->Tr c5->Nat->At R)->At R
section
variable(T:EQ->bu){R:Type}
def CC(x:If):KO R:=λt h n k=>ea t x λc=>k c h n
def Yr(z x y:If):KO R:=λt h n k=>ea t z λa=>ea t x λc=>ea t y λd=>asB a λb=>bB b (k c h n) (k d h n)
def anE(c:EQ):KO R:=λ_ h n k=>oB (T c).ze λz=>bB (na (z.map .v)) (Ad h n (.ce (trL (z.map .v)) z.length none true) λa b=>k (.pt n 0) a b) none
def ajR(d:EQ)(x:If):KO R:=λt h n k=>ea t x λa=>tV a λl=>agR h n l λi b c=>k (.pt i 0) b c
def LQ(d:EQ)(b:D8):KO R:=λt h n k=>oB (T d).pl λp=>kR t b.toList λc=>oB (gD (λi=>p.2[i]?) (p.1.map .v) c) λa=>k (.ag a) h n
def nU(j:EQ)(a:Nat)(f:D8):KO R:=λt h n k=>oB (T j).el λe=>bB (ble (Nat.mul a e.2.1) 16777216) (kR t f.toList λg=>oB (gD (λi=>some (i*e.2.1,e.2.1)) (List.replicate (Nat.mul a e.2.1) (.v undef)) g) λb=>agR h n b λi c d=>k (.sl i 0 a (some a)) c d) none
def QV(a:EQ)(x y z:If):KO R:=λt h n k=>ea t x λp=>ea t y λq=>ea t z λc=>TJ T h a p q λj _ b f wr=>bB wr (agW b f c λd=>Tr.put (.ma a d true) h j λe=>k (.v undef) e n) none
def Ys(a:EQ)(x:If):KO R:=λt h n k=>ea t x λp=>agH T h a p λc=>k c h n
def LS(b:EQ)(x y:If):KO R:=λt h n k=>ea t x λp=>ea t y λq=>oB (T b).ty λe=>ptA p λj o=>tV q λl=>bB (beq l.length e.2) (wrK h j o l λa=>k (.v undef) a n) none
def ajS(x:If):KO R:=λt h n k=>ea t x λc=>bB (nnK c) (k c h n) none
def ajT(d:BinOp)(e:EQ)(x y:If):KO R:=λt h n k=>ea t x λa=>ea t y λb=>agO T d e (isC y) a b λc=>k c h n
def oUn(b:UnOp)(d:EQ)(x:If):KO R:=λt h n k=>ea t x λa=>unK b a λc=>k c h n
def Yt(c d:EQ)(x:If):KO R:=λt h n k=>ea t x λa=>oB (T c).ik λ_=>oB (T d).ik λb=>asI a λ_ m=>wrI b m λz=>k (.v (.int b z)) h n
def Yu(b:Fn)(c a:gp):KO R:=λt h n k=>qR t c.toList λd=>qR t a.toList λe=>k (.cl b d e) h n
def asZ(a:EQ)(r:iB):KO R:=λ_ h n k=>bB r.isNone (oB (T a).mp λ_=>Ad h n (.ma a [] true) λb c=>k (.mp n) b c) none
def Yv(d:EQ)(x y:If):KO R:=λt h n k=>ea t x λp=>ea t y λq=>oB (T d).el λe=>u5 p λm=>u5 q λb=>bB (beq m b) (bB (ble (Nat.mul e.2.2.1 m) 140737488355328) (bB (ble m 1048576) (bB (blt 0 e.2.1) (bB (na (e.2.2.2.map .v)) (Ad h n (.ce (GY e.2.2.2 m) (Nat.mul m e.2.1) none true) λa c=>k (.sl n 0 m (some m)) a c) none) none) none) none) none
def LU(f:EQ)(x:If)(d b e:iB):KO R:=λt h n k=>ea t x λa=>tX T t f a d b e λc=>k c h n
def oFA(a:EQ)(x:If)(f:Nat):KO R:=λt h n k=>ea t x λp=>oB (T a).fd[f]? λq=>bB (beq q.2.2 0) none (ptK p q.1 λc=>k c h n)
def oF(b:EQ)(x:If)(f:Nat):KO R:=λt h n k=>ea t x λp=>agK p λa=>oB (T b).fd[f]? λq=>bB (ble (Nat.add q.1 q.2.2) a.length) (bB q.2.1 (k (.ag ((a.drop q.1).take q.2.2)) h n) (oB (a[q.1]?) λc=>k c h n)) none
def oIA(a:EQ)(x y:If):KO R:=λt h n k=>ea t x λp=>ea t y λq=>u5 q λi=>TD T a p i λc=>k c h n
def oI(a:EQ)(x y:If):KO R:=λt h n k=>ea t x λp=>ea t y λq=>bB (T a).sg (u5 q λi=>ajG p λs=>oB (s.data.toList[i]?) λb=>kN b.toNat λm=>k (.v (.int .u8 (Int.ofNat m))) h n) none
def Yw(e:EQ)(x y:If)(a:In):KO R:=λt h n k=>ea t x λp=>ea t y λq=>TJ T h e p q λj z b d wr=>Option.rec (motive:=λ_=>At R) (bB a (k (.tu [cvK z,.v (.bool false)]) h n) (k (cvK z) h n)) (λc=>bB a (k (.tu [c,.v (.bool true)]) h n) (k c h n)) (Ae b d)
def LV(c:EQ)(x y:If):KO R:=λt h n k=>ea t x λp=>ea t y λq=>TJ T h c p q λj z a b wr=>Option.rec (motive:=λ_=>At R)
 (bB wr (Tr.put (.ma c (a++[(b,cvK z)]) true) h j λd=>kN a.length λm=>k (.tu [cvK z,.v (.int .i64 (Int.ofNat m))]) d n) none)
 (λi=>oB (a[i]?) λe=>k (.tu [e.2,.v (.int .i64 (Int.ofNat i))]) h n) (qX a b)
def Af(a:EQ)(x y z:If):KO R:=λt h n k=>ea t x λp=>ea t y λq=>ea t z λc=>oB (T a).mp λ_=>mpK p λj=>u5 q λi=>blM h j λf b wr=>bB wr (bB (beq a f) (oB (b[i]?) λe=>Tr.put (.ma a (b.set i (e.1,c)) true) h j λd=>k (.v undef) d n) none) none
def oTA(a:EQ)(x:If)(b:In):KO R:=λt h n k=>ea t x λc=>match c with
 |.v .nilIface=>bB b (oB (T a).fd[0]? λ_=>oB (T a).zv λz=>k (.tu [cvK z,.v (.bool false)]) h n) none
 |_=>none
def ajU(x:If)(i:Nat):KO R:=λt h n k=>ea t x λp=>tuK p λa=>oB (a[i]?) λc=>k c h n
def clK{R:Type}(c:CV)(k:FuncId->Do CV->Do CV->At R):At R:=match c with
 |.v (.func (.func f) ⟨[]⟩ ⟨[]⟩)=>k f [] []
 |.cl (.func f) b a=>k f b a
 |_=>none
def HG{R:Type}(t:Tr CV)(l:nA)(k:CV->At R):At R:=match l with
 |[x]=>ea t x k
 |_=>none
def HH{R:Type}(t:Tr CV)(l:nA)(k:CV->CV->At R):At R:=match l with
 |[x,y]=>ea t x λa=>ea t y λb=>k a b
 |_=>none
def nc(b:Builtin)(d:nA)(f:Do EQ):KO R:=λt h n k=>match b with
 |.len=>HG t d λc=>aqI T h f c λc=>k c h n
 |.cap=>HG t d λc=>aqJ T f c λc=>k c h n
 |.append=>(match f with
  |[g,i]=>HH t d λa b=>Yp T h n g i a b k
  |_=>none)
 |.min=>HH t d λa c=>asI a λe m=>asI c λ_ q=>bB (ltK q m) (k (.v (.int e q)) h n) (k (.v (.int e m)) h n)
 |.max=>HH t d λa c=>asI a λe m=>asI c λ_ q=>bB (ltK m q) (k (.v (.int e q)) h n) (k (.v (.int e m)) h n)
 |.clear=>(match f with
  |[g]=>HG t d λc=>agV T h n g c k
  |_=>none)
 |_=>none
def ajV(call:KC R)(c:Callee)(a:nA)(d:Do EQ):KO R:=λt h n k=>match c with
 |.value x=>ea t x λf=>qR t a λcs=>clK f λg e xs=>call g (e++cs++xs) h n k
 |.builtin b=>nc T b a d t h n k
 |_=>none
def aqN(call:KC R)(c:Call):KO R:=ajV T call c.callee c.args.toList c.argTypes.toList
def G3(ID:FuncId->In)(c:Call):KO R:=λt h n k=>bB c.args.isEmpty (match c.callee with
 |.value x=>ea t x λf=>clK f λg a b=>bB (ID g) (bB a.isEmpty (k (.v undef) h n) none) none
 |_=>none) none
def oNo:KO R:=λ_ _ _ _=>none
def opK(ID:FuncId->In)(call:KC R)(o:Op):KO R:=Op.rec (motive:=λ_=>KO R) (CC) (CC) (Yr) (anE T) (ajR) (LQ T) (nU T) (QV T) (Ys T) (LS T) (λ_=>oNo) (λ_=>oNo) (ajS)
 (λb c x y _=>ajT T b c x y) (oUn) (Yt T) (λ_ _=>oNo) (λ_ _=>oNo) (Yu) (asZ T) (λ_ _=>oNo) (Yv T) (LU T) (oFA T) (oF T) (oIA T) (oI T) (Yw T) (QV T) (LV T) (Af T)
 (λ_ _=>oNo) (λ_ _=>oNo) (λ_=>oNo) (λx _ d a=>oTA T d x a) (ajU) (aqN T call) (λ_=>oNo) (G3 ID) (λ_=>oNo) (λ_ _=>oNo) (λ_ _ _=>oNo) (λ_ _=>oNo) o
def pI(a:bp)(j:Nat):iC:=(a[j]?).bind (·.dst)
def anG(d:iC)(c:CV)(t:Tr CV)(k:Tr CV->At R):At R:=Option.rec (motive:=λ_=>At R) (k t) (λi=>Tr.put c t i k) d
def JN(a:bp)(g:fH)(t:Tr CV)(y n:At R):At R:=Option.rec (motive:=λ_=>At R) y (λp=>oB (pI a p.1) λs=>oB (t.get s) λc=>match c with
 |.v (.bool b)=>bB (bB b p.2 (!p.2)) y n
 |.v (.tuple ⟨[]⟩)=>n
 |_=>none) g
variable(ID:FuncId->In)(call:KC R)
def Yx(e:bp)(o:Oper)(k:KK R):KK R:=λt h n=>JN e o.guard t (opK T ID call o.op t h n λc b d=>anG o.dst c t λa=>k a b d) (anG o.dst (.v undef) t λa=>k a h n)
def aa8(b l:bp):KK R->KK R:=List.rec (motive:=λ_=>KK R->KK R) (λk=>k) (λo _ a k=>Yx T ID call b o (a k)) l
def e8:Op->Nat
 |.move _|.assign _|.pick .. |.alloc _|.box .. |.build .. |.buildSlice .. |.nilCheck _|.binOp .. |.unOp .. |.convert .. |.makeFunc .. |.makeMap .. |.makeSlice .. |.slice .. |.fieldAddr .. |.field .. |.indexAddr .. |.index .. |.extract .. =>0
 |.load .. |.lookup .. =>1
 |.call {callee:=.builtin .len,.. }=>1
 |.call {callee:=.builtin .cap,.. }=>0
 |.call {callee:=.builtin .min,.. }=>0
 |.call {callee:=.builtin .max,.. }=>0
 |_=>2
def tmpsOf(o:Oper):Do Tmp:=o.op.operands.toList.filterMap λ|.tmp t=>some t|_=>none
def oL(l:bp)(i j:Nat):In:=cW l j i||cW l i j
def G4(l:bp):bI:=(List.range l.length).flatMap λi=>(List.range l.length).filterMap λj=>match l[i]?,l[j]? with
 |some o,some p=>if beq (e8 o.op) 1 && beq (e8 p.op) 2 && !oL l i j then some (i,j)else none
 |_,_=>none
def anH(l:bp):In:=
 let I:=List.range l.length
 HT 0 l && xx l &&
 (I.all λj=>match l[j]? with
  |some o=>(tmpsOf o).all (λx=>I.all λi=>match l[i]? with
   |some p=> !(p.dst==some x)||beq i j||oL l i j
   |none=>true) && (match o.guard with|some g=>cW l j g.1 && !beq g.1 j|none=>true)
  |none=>true) &&
 (I.all λj=>I.all λi=>match l[i]?,l[j]? with
  |some o,some p=> !(beq (e8 o.op) 2 && beq (e8 p.op) 2)||beq i j||oL l i j
  |_,_=>true) &&
 ((G4 l).all λq=>match l[q.1]? with
  |some o=>(tmpsOf o).all (λx=>I.all λi=>match l[i]? with
   |some p=> !(p.dst==some x)||(cW l q.1 i && !beq i q.1)
   |none=>true)
  |none=>true)
def vEq(x y:Id):In:=match x,y with
 |.int j a,.int k c=>decide (j=k) && eqK a c
 |.bool a,.bool c=>a==c
 |.pointer none,.pointer none=>true
 |.slice none 0 0,.slice none 0 0=>true
 |.map none,.map none=>true
 |.nilFunc,.nilFunc=>true
 |.nilIface,.nilIface=>true
 |.func (.func f) ⟨[]⟩ ⟨[]⟩,.func (.func g) ⟨[]⟩ ⟨[]⟩=>beq f g
 |_,_=>false
def agY(a b:CV):In:=match a,b with
 |.v x,.v y=>vEq x y
 |.pt i o,.pt j p=>beq i j && beq o p
 |.sl i o m c,.sl j p q d=>beq i j && beq o p && beq m q && decide (c=d)
 |.mp i,.mp j=>beq i j
 |_,_=>false
def TN:Do CV->Do CV->In
 |[],[]=>true
 |a::l,b::m=>agY a b && TN l m
 |_,_=>false
def cEq(a b:CV):In:=match a,b with
 |.ag l,.ag m=>TN l m
 |.tu l,.tu m=>TN l m
 |.cl (.func f) l k,.cl (.func g) m j=>beq f g && TN l m && TN k j
 |a,b=>agY a b
abbrev Acc:=Do (Nat×(Nat×Tr c5)×(Nat×Tr c5))
def agZ:Tr CV->Tr CV->In
 |.lf,.lf=>true
 |.nd l x r,.nd c e d=>agZ l c && (match x,e with
  |none,none=>true
  |some a,some b=>agY a b
  |_,_=>false) && agZ r d
 |_,_=>false
def ajW:At c5->At c5->In
 |some (.ce b m e w),some (.ce c f d a)=>agZ b c && beq m f && decide (e=d) && (w==a)
 |some (.ma t [] w),some (.ma g [] a)=>beq t g && (w==a)
 |_,_=>false
def ag0(l:bp):bI:=(List.range l.length).flatMap λi=>(List.range l.length).filterMap λj=>match l[i]?,l[j]? with
 |some o,some p=>if beq (e8 o.op) 0 && beq (e8 p.op) 2 && blt i j && !cW l j i then some (i,j)else none
 |_,_=>none
def sameAt(b:bp)(o:Oper)(t:Tr CV)(n:Nat)(h:Tr c5)(k:At R):At R:=JN b o.guard t (oB o.dst λd=>oB (t.get d) λa=>opK T ID call o.op t h n λc _ _=>bB (cEq c a) k none) k
def aqQ(a:bp)(c:Acc)(t:Tr CV)(n:Nat)(f:bI)(k:At R):At R:=List.rec (motive:=λ_=>At R) k (λp _ d=>oB (a[p.1]?) λo=>List.rec (motive:=λ_=>At R) d (λe _ b=>bB (beq e.1 p.2) (sameAt T ID call a o t n e.2.1.2 (sameAt T ID call a o t n e.2.2.2 b)) b) c) f
def JO(n:Nat):CV->In
 |.v _=>true
 |.gl .. =>true
 |.pt k _=>blt k n
 |.sl k .. =>blt k n
 |.mp k=>blt k n
 |_=>false
def anI(n:Nat):CV->In
 |.ag l=>l.all (JO n)
 |.tu l=>l.all (JO n)
 |.cl _ l k=>l.all (JO n) && k.all (JO n)
 |c=>JO n c
def as1(b:bp)(a:Acc)(t:Tr CV)(f:bI):In:=a.all λe=>ble e.2.1.1 e.2.2.1 && f.all λp=> !(beq e.1 p.1)||match pI b p.1 with
 |some d=>(match t.get d with
  |some c=>anI e.2.1.1 c
  |none=>false)
 |none=>true
def as2(a:Acc)(b:bI):In:=b.all λp=>a.all λe=> !(beq e.1 p.1)||beq e.2.1.1 e.2.2.1||a.all λf=> !(beq f.1 p.2)||ajW (e.2.2.2.get e.2.1.1) (f.2.2.2.get e.2.1.1)
def aqR(e l:bp):Nat->Acc->(Acc->KK R)->KK R:=List.rec (motive:=λ_=>Nat->Acc->(Acc->KK R)->KK R) (λ_ a k=>k a)
 (λo _ d i a k=>λt h n=>Yx T ID call e o (λf b c=>d (Nat.succ i) ((i,(n,h),(c,b))::a) k f b c) t h n) l
def Yy(a:bp)(k:KK R):KK R:=λt h n=>bB (anH a) (aqR T ID call a a 0 [] (λb c e d=>bB (as2 b (ag0 a) && as1 a b c (G4 a)) (aqQ T ID call a b c d (G4 a) (k c e d)) none) t h n) none
def ag1(N:Nat)(b:KK R->(Nat->KK R)->KK R->KK R)(d:Nat->KK R)(c:KK R):KK R:=Nat.rec (motive:=λ_=>KK R) (λ_ _ _=>none) (λ_ a=>b a d c) N
def QW(N:Nat)(c:Code):KK R->(Nat->KK R)->KK R->KK R:=Code.rec (motive:=λ_=>KK R->(Nat->KK R)->KK R->KK R)
 (λa _ _=>a)
 (λ_ g j a _ _=>bB j (Yy T ID call g.toList a) (aa8 T ID call g.toList g.toList a))
 (λ_ _ f e a d b=>f (e a d b) d b)
 (λc _ _ f e a d b=>λt h n=>ea t c λv=>asB v λx=>bB x (f a d b t h n) (e a d b t h n))
 (λid _ e a d b=>e a (λi=>bB (beq i id) a (d i)) b)
 (λ_ e _ d b=>ag1 N e d b)
 (λ_ _ _ _ _ _ _ _ _=>λ_ _ _=>none)
 (λid _ d _=>d id)
 (λ_ e=>e)
 (λ_ a _ _=>a)
 (λ_ _ _ _=>λ_ _ _=>none)
 (λ_ _ b=>b)
 (λ_ _ _ _=>λ_ _ _=>none) c
end
def aqS{R:Type}(l:Do CV):Nat->Tr CV->(Tr CV->At R)->At R:=List.rec (motive:=λ_=>Nat->Tr CV->(Tr CV->At R)->At R) (λ_ t k=>k t) (λc _ a i t k=>Tr.put c t i λb=>a (Nat.succ i) b k) l
def anJ{R:Type}(T:EQ->bu)(h:Tr c5)(t:Tr CV)(e:Do ResultVar):(Do CV->At R)->At R:=List.rec (motive:=λ_=>(Do CV->At R)->At R) (λk=>k [])
 (λv _ d k=>ResultVar.rec (motive:=λ_=>At R) (λi=>oB (t.get i) λc=>d λb=>k (c::b)) (λa f=>oB (t.get a) λp=>agH T h f p λc=>d λb=>k (c::b)) v) e
def aa9:Do CV->CV
 |[c]=>c
 |a=>.tu a
def atL(l:Do a):Nat->At a:=List.rec (motive:=λ_=>Nat->At a) (λ_=>none) (λx _ b i=>Nat.rec (motive:=λ_=>At a) (some x) (λj _=>b j) i) l
abbrev TO(R α:Type):=α->Tr c5->Nat->Tr Nat->Tr Nat->At R
def snL{R:Type}(f:CV->Tr c5->Nat->Tr Nat->Tr Nat->TO R CV->At R)(l:Do CV):Tr c5->Nat->Tr Nat->Tr Nat->TO R (Do CV)->At R:=
 List.rec (motive:=λ_=>Tr c5->Nat->Tr Nat->Tr Nat->TO R (Do CV)->At R) (λd n m b k=>k [] d n m b) (λc _ e d n m b k=>f c d n m b λa d n m b=>e d n m b λl d n m b=>k (a::l) d n m b) l
def snT{R:Type}(f:CV->Tr c5->Nat->Tr Nat->Tr Nat->TO R CV->At R)(l:Tr CV):Tr c5->Nat->Tr Nat->Tr Nat->TO R (Tr CV)->At R:=
 Tr.rec (motive:=λ_=>Tr c5->Nat->Tr Nat->Tr Nat->TO R (Tr CV)->At R) (λd n m b k=>k .lf d n m b)
  (λ_ x _ i e d n m b k=>i d n m b λg d n m b=>Option.rec (motive:=λ_=>At R) (e d n m b λa d n m b=>k (.nd g none a) d n m b) (λc=>f c d n m b λh d n m b=>e d n m b λa d n m b=>k (.nd g (some h) a) d n m b) x) l
def ajX{R:Type}(q:Tr c5)(l:In)(f:CV->Tr c5->Nat->Tr Nat->Tr Nat->TO R CV->At R)(j:Nat):Tr c5->Nat->Tr Nat->Tr Nat->TO R Nat->At R:=λd n m b k=>
 Option.rec (motive:=λ_=>At R) (blC q j λc N e wr=>snT f c d n m b λg d n m b=>bB (m.get j).isNone (Tr.new (some (.ce g N e (bB l false wr))) 64 d n λh=>Tr.new (some n) 64 m j λo=>Tr.new (some j) 64 b n λa=>kN (Nat.succ n) λp=>k n h p o a) none) (λi=>k i d n m b) (m.get j)
def snC{R:Type}(l:Tr c5)(h:In)(N:Nat):CV->Tr c5->Nat->Tr Nat->Tr Nat->TO R CV->At R:=Nat.rec (motive:=λ_=>CV->Tr c5->Nat->Tr Nat->Tr Nat->TO R CV->At R) (λ_ _ _ _ _ _=>none)
 (λ_ a c d n m b k=>match c with
  |.v (.int t z)=>kI z λz=>k (.v (.int t z)) d n m b
  |.v x=>k (.v x) d n m b
  |.gl g o=>k (.gl g o) d n m b
  |.pt j o=>ajX l h a j d n m b λi d n m b=>kN o λo=>k (.pt i o) d n m b
  |.sl j o q c=>ajX l h a j d n m b λi d n m b=>kN o λo=>kN q λq=>Option.rec (motive:=λ_=>At R) (k (.sl i o q none) d n m b) (λc=>kN c λc=>k (.sl i o q (some c)) d n m b) c
  |.ag e=>snL a e d n m b λf d n m b=>k (.ag f) d n m b
  |.tu e=>snL a e d n m b λf d n m b=>k (.tu f) d n m b
  |.cl p r e=>snL a r d n m b λs d n m b=>snL a e d n m b λf d n m b=>k (.cl p s f) d n m b
  |.mp _=>none) N
structure QX where
 fs:List Func
 may:Nat
 pic:Nat
 idle:Nat
abbrev Mem:=FuncId->Do CV->Tr c5->Nat->At (CV×Tr c5×Nat)
def QY{R:Type}(T:EQ->bu)(E:QX)(N:Nat)(call:KC R):KC R:=λf e h n k=>bB (Nat.testBit E.may f) (oB (atL E.fs f) λa=>oB a.body λc=>aqS e 0 (Tr.fill (.v undef) 64 a.ntmps) λt=>
 let b:KK R:=λj d g=>anJ T d j a.results.toList λi=>k (aa9 i) d g
 QW T (λf=>Nat.testBit E.idle f) call N c b (λ_ _ _ _=>none) b t h n) none
def anK{R:Type}(M:Mem)(call:KC (CV×Tr c5×Nat)):KC R:=λf g h n k=>snL (snC h true 64) g .lf 0 .lf .lf λc d m i e=>oB (Option.rec (motive:=λ_=>At (CV×Tr c5×Nat)) (call f c d m λr a b=>some (r,a,b)) (λx=>some x) (M f c d m)) λp=>snC p.2.1 false 64 p.1 h n e .lf λr a b _ _=>k r a b
def gW(T:EQ->bu)(E:QX)(M:Mem)(N:Nat):{R:Type}->KC R:=Nat.rec (motive:=λ_=>{R:Type}->KC R) (λ_ _ _ _ _=>none)
 (λN b {R} f a h n k=>bB (Nat.testBit E.pic f) (anK M (QY T E N b) f a h n k) (QY T E N b f a h n k)) N
end
variable{O:gp}
section
open Go Go.RowKit MapKept
section
variable{P:Fd}{Dk:Deferred->Prop}{w0:GE}{T:EQ->bu}
def FC(P:Fd)(w0:GE)(f:FuncId)(g:Do CV)(h:Tr c5)(n:Nat)(c:CV)(i:Tr c5)(j:Nat):Prop:=
 Enters P f/\∀ρ w a,HR P w0 ρ h.get n w->LR (KR ρ) g a->Calls P f a.toArray w λe l=>∃v b,e=.returned v/\KP P w0 ρ h.get n w b i.get j l/\KR b c v
def gP(P:Fd)(w0:GE){R:Type}(call:KC R):Prop:=∀f a h n k r,call f a h n k=some r->∃c b e,FC P w0 f a h n c b e/\k c b e=some r
def j0(Dk:Deferred->Prop)(ID:FuncId->In):Prop:=∀f,ID f=true->∀a,Dk {target:=.fn (.func f) a,args:= #[]}
section
variable{t:Tr CV}{h:Tr c5}{n:Nat}{d:iC}{ty t1 t2:EQ}{pos:String}{af:dm}{gd:fH}{x y z:If}{R:Type}{r:R}
def aa_{x:If}{f:FuncId}{args:gp}{w:GE}{a xs:bC}(h:Enters P f)(c:v.eval x=.func (.func f) a.toArray xs.toArray):
 (execOp v.eval ⟨d,.call ⟨.value x,args,B⟩,ty,pos,af,gd⟩).run P w=.ok (.enter f (a++args.toList.map v.eval++xs).toArray) w:=by
 have:=fK h (a.toArray++args.map v.eval++xs.toArray) w;have b:(a++args.toList.map v.eval++xs).toArray=a.toArray++args.map v.eval++xs.toArray:=by
  rw[<-axH];simp
 rw[b];simpa[execOp,resolve,c,Deferred.ofValue,invoke]using this
def ag2{k:FuncId->Do CV->Do CV->At R}(a:clK c k=some r):∃f e g,(∀ρ v,KR ρ c v->∃u y,v=.func (.func f) u.toArray y.toArray/\LR (KR ρ) e u/\LR (KR ρ) g y)/\k f e g=some r:=by
 unfold clK at a;split at a
 ·refine⟨_,[],[],λρ v b=>⟨[],[],?_,LR.nil,LR.nil⟩,a⟩
  rw[b.bL]
 ·refine⟨_,_,_,λρ v b=>?_,a⟩
  cases b with
  |cl u y l m i j=>exact⟨u,y,rfl,⟨l,i⟩,⟨m,j⟩⟩
 ·cases a
def FK.aqT{call:KC R}(p:gP P w0 call){k:CV->Tr c5->Nat->At R}(D:(ea t x λf=>qR t O.toList λcs=>clK f λg m xs=>call g (m++cs++xs) h n k)=some r):
 ∃c b i,FK P Dk w0 ⟨d,.call ⟨.value x,O,B⟩,ty,pos,af,gd⟩ t h n c b i/\k c b i=some r:=by
 obtain⟨V,A,E⟩:=cx D;obtain⟨cs,s,F⟩:=D0 E;obtain⟨f,m,xs,q,G⟩:=ag2 F;obtain⟨c,b,i,⟨j,C⟩,H⟩:=p _ _ _ _ _ _ G;refine⟨c,b,i,λρ a w l K next Q J=>?_,H⟩;obtain⟨u,y,e,M,N⟩:=q ρ _ (A ρ a l);unfold Oper.wp;rw[aa_ j e];exact(C ρ w _ K ((M.append (s ρ a l)).append N)).mono λe S ⟨v,U,j,I,L⟩=>by
  subst j;exact J v S [] ⟨U,I,L⟩ d5
def FK.anL{ID:FuncId->In}(l:j0 Dk ID){c:Call}{k:CV->Tr c5->Nat->At R}(B:G3 ID c t h n k=some r):∃v b i,FK P Dk w0 ⟨d,.defer c,ty,pos,af,gd⟩ t h n v b i/\k v b i=some r:=by
 obtain⟨j,args,N⟩:=c;obtain⟨m,g⟩:=bj B;cases j with
 |value x=>
  obtain⟨O,A,C⟩:=cx g;obtain⟨f,U,V,q,D⟩:=ag2 C;obtain⟨hid,E⟩:=bj D;obtain⟨L,F⟩:=bj E;refine⟨_,h,n,λρ a w J I next Q G=>?_,F⟩;obtain⟨u,y,e,M,S⟩:=q ρ _ (A ρ a J);have K:u=[]:=avq (by rw[M.1];simpa using L);subst K;have p:args= #[]:=by simpa using m
  subst p;have H:(execOp a.eval ⟨d,.defer ⟨.value x, #[],N⟩,ty,pos,af,gd⟩).run P w=.ok (.defer {target:=.fn (.func f) y.toArray,args:= #[]}) w:=by
   simp[execOp,resolve,e,Deferred.ofValue]
  unfold Oper.wp;rw[H];exact G undef w [_] ⟨ρ,.refl I,.v⟩ (λd s=>by rw[auN.1 s];exact l f hid _)
 |_=>cases g
def LW{l:nA}{k:CV->At R}(a:HG t l k=some r):∃x c,l=[x]/\ku t x c/\k c=some r:=by
 unfold HG at a;split at a
 ·obtain⟨c,b,e⟩:=cx a
  exact⟨_,c,rfl,b,e⟩
 ·cases a
def LX{l:nA}{k:CV->CV->At R}(b:HH t l k=some r):∃x y a c,l=[x,y]/\ku t x a/\ku t y c/\k a c=some r:=by
 unfold HH at b;split at b
 ·obtain⟨a,e,g⟩:=cx b
  obtain⟨c,f,i⟩:=cx g;exact⟨_,_,a,c,rfl,e,f,i⟩
 ·cases b
def ajY{b:Array a}{x:a}(h:b.toList=[x]):b= #[x]:=by rw[<-axH];exact h
def ajZ{b:Array a}{x y:a}(h:b.toList=[x,y]):b= #[x,y]:=by rw[<-axH];exact h
def jF(P:Fd)(Dk:Deferred->Prop)(w0:GE)(o:Oper)(t:Tr CV)(h:Tr c5)(n:Nat)(c:CV)(a:Tr c5)(b:Nat):Prop:=match e8 o.op with
 |0=>∃f e,c=f n/\b=Ac n e/\(∀j,a.get j=u0 h.get n e j)/\ZK P Dk w0 o t f e
 |1=>a=h/\b=n/\PK P w0 o t h c
 |_=>FK P Dk w0 o t h n c a b
def jF.fk{o:Oper}{c:CV}{f:Tr c5}{g:Nat}(b:jF P Dk w0 o t h n c f g):FK P Dk w0 o t h n c f g:=by
 unfold jF at b;split at b
 ·obtain⟨u,s,rfl,rfl,i,q⟩:=b
  intro ρ a w p m;have:=q ρ a w h.get n p m;have e:u0 h.get n s=f.get:=funext λj=>(i j).symm;rw[e]at this;exact this
 ·obtain⟨rfl,rfl,l⟩:=b
  exact l.fk
 ·exact b
section
variable{o:Oper}{k:CV->Tr c5->Nat->At R}
def jF.q(i:e8 o.op=0)(e:∃c,QK P o t c/\k c h n=some r):∃c a b,jF P Dk w0 o t h n c a b/\k c a b=some r:=by
 obtain⟨c,f,g⟩:=e;refine⟨c,h,n,?_,g⟩;unfold jF;rw[i];exact⟨λ_=>c,none,rfl,rfl,λ_=>rfl,f.z⟩
def jF.p(i:e8 o.op=1)(e:∃c,PK P w0 o t h c/\k c h n=some r):∃c a b,jF P Dk w0 o t h n c a b/\k c a b=some r:=by
 obtain⟨c,f,g⟩:=e;refine⟨c,h,n,?_,g⟩;unfold jF;rw[i];exact⟨rfl,rfl,f⟩
def jF.zz(p:e8 o.op=0)(g:∃e b a,ZK P Dk w0 o t e b/\(∀j,a.get j=u0 h.get n b j)/\k (e n) a (Ac n b)=some r):∃c a f,jF P Dk w0 o t h n c a f/\k c a f=some r:=by
 obtain⟨e,b,a,i,l,m⟩:=g;refine⟨_,a,_,?_,m⟩;unfold jF;rw[p];exact⟨e,b,rfl,rfl,l,i⟩
def jF.f(i:e8 o.op=2)(e:∃c a b,FK P Dk w0 o t h n c a b/\k c a b=some r):∃c a b,jF P Dk w0 o t h n c a b/\k c a b=some r:=by
 obtain⟨c,a,b,f,g⟩:=e;refine⟨c,a,b,?_,g⟩;unfold jF;rw[i];exact f
end
def jF.builtin(m:gG P T){b:Builtin}{k:CV->Tr c5->Nat->At R}(g:nc T b O.toList B.toList t h n k=some r):∃c p q,jF P Dk w0 ⟨d,.call ⟨.builtin b,O,B⟩,ty,pos,af,gd⟩ t h n c p q/\k c p q=some r:=by
 cases b with
 |len=>
  obtain⟨x,c,e,i,j⟩:=LW g;obtain rfl:=ajY e;exact jF.p rfl (FK.len (f:=λc=>k c h n) m i j)
 |cap=>
  obtain⟨x,c,e,i,j⟩:=LW g;obtain rfl:=ajY e;exact jF.q rfl (FK.cap (f:=λc=>k c h n) m i j)
 |append=>
  unfold nc at g;simp only at g;split at g
  ·rename_i e0
   obtain⟨x,y,a,c,e,l,i,j⟩:=LX g;obtain rfl:=ajZ e;obtain rfl:=ajZ e0;exact jF.f rfl (FK.append m l i j)
  ·cases g
 |min=>
  obtain⟨x,y,a,c,e,l,i,j⟩:=LX g;obtain rfl:=ajZ e;exact jF.q rfl (FK.agP (b:=.min) (ts:=B) (f:=λc=>k c h n) l i j)
 |max=>
  obtain⟨x,y,a,c,e,l,i,j⟩:=LX g;obtain rfl:=ajZ e;exact jF.q rfl (FK.agP (b:=.max) (ts:=B) (f:=λc=>k c h n) l i j)
 |clear=>
  unfold nc at g;simp only at g;split at g
  ·rename_i e0
   obtain⟨x,c,e,i,j⟩:=LW g;obtain rfl:=ajY e;obtain rfl:=ajY e0;exact jF.f rfl (FK.clear m i j)
  ·cases g
 |_=>cases g
variable{ID:FuncId->In}{call:KC R}
def ag3(v:gG P T)(S:∀b o u,GT b o u->w0.cell? ⟨b,o,none⟩=some u)(U:j0 Dk ID)(E:gP P w0 call){o:Op}{k:CV->Tr c5->Nat->At R}(m:opK T ID call o t h n k=some r):
 ∃c M O,jF P Dk w0 ⟨d,o,ty,pos,af,gd⟩ t h n c M O/\k c M O=some r:=by
 cases o with
 |move x=>
  obtain⟨c,K,g⟩:=cx m;exact jF.q rfl ⟨c,FK.ev (.inl rfl) K,g⟩
 |assign x=>
  obtain⟨c,K,g⟩:=cx m;exact jF.q rfl ⟨c,FK.ev (.inr rfl) K,g⟩
 |pick z x y=>
  obtain⟨A,l,g⟩:=cx m;obtain⟨B,s,p⟩:=cx g;obtain⟨I,D,C⟩:=cx p;exact jF.q rfl (FK.pick (k:=λc=>k c h n) l s D C)
 |alloc t1=>exact jF.zz rfl (FK.alloc v m)
 |box t1 x=>
  obtain⟨A,l,g⟩:=cx m;exact jF.zz rfl (FK.box l g)
 |build t1 a0=>exact jF.q rfl (FK.build (k:=λc=>k c h n) v m)
 |buildSlice t1 a2 a0=>exact jF.zz rfl (FK.buildSlice v m)
 |insert t1 x y z=>
  obtain⟨A,l,g⟩:=cx m;obtain⟨B,s,p⟩:=cx g;obtain⟨I,D,C⟩:=cx p;exact jF.f rfl (FK.agX v (.inr rfl) l s D C)
 |load t1 x=>
  obtain⟨A,l,g⟩:=cx m;exact jF.p rfl (FK.load (k:=λc=>k c h n) v S l g)
 |store t1 x y=>
  obtain⟨A,l,g⟩:=cx m;obtain⟨B,s,p⟩:=cx g;exact jF.f rfl (FK.store v l s p)
 |nilCheck x=>
  obtain⟨A,l,g⟩:=cx m;obtain⟨s,p⟩:=bj g;exact jF.q rfl ⟨A,FK.nilCheck l s,p⟩
 |binOp op t1 x y t2=>
  obtain⟨A,l,g⟩:=cx m;obtain⟨B,s,p⟩:=cx g;exact jF.q rfl (FK.agO (f:=λc=>k c h n) v l s p)
 |unOp op t1 x=>
  obtain⟨A,l,g⟩:=cx m;exact jF.q rfl (FK.un (f:=λc=>k c h n) l g)
 |convert t1 t2 x=>
  obtain⟨A,l,g⟩:=cx m;exact jF.q rfl (FK.conv (f:=λc=>k c h n) v l g)
 |makeFunc fn F cs=>exact jF.q rfl (FK.makeFunc (k:=λc=>k c h n) m)
 |makeMap t1 r0=>
  obtain⟨l,g⟩:=bj m;cases r0 with
  |none=>exact jF.zz rfl (FK.makeMap v g)
  |some _=>cases l
 |makeSlice t1 x y=>
  obtain⟨A,l,g⟩:=cx m;obtain⟨B,s,p⟩:=cx g;exact jF.zz rfl (FK.makeSlice v l s p)
 |slice t1 x lo N mx=>
  obtain⟨A,l,g⟩:=cx m;exact jF.q rfl (FK.slice (k:=λc=>k c h n) v l g)
 |fieldAddr t1 x f=>
  obtain⟨A,l,g⟩:=cx m;exact jF.q rfl (FK.fieldAddr (k:=λc=>k c h n) v l g)
 |field t1 x f=>
  obtain⟨A,l,g⟩:=cx m;exact jF.q rfl (FK.field (k:=λc=>k c h n) v l g)
 |indexAddr t1 x y=>
  obtain⟨A,l,g⟩:=cx m;obtain⟨B,s,p⟩:=cx g;exact jF.q rfl (FK.indexAddr (k:=λc=>k c h n) v l s p)
 |index t1 x y=>
  obtain⟨A,l,g⟩:=cx m;obtain⟨B,s,p⟩:=cx g;exact jF.q rfl (FK.EB (k:=λc=>k c h n) v l s p)
 |lookup t1 x y Z=>
  obtain⟨A,l,g⟩:=cx m;obtain⟨B,s,p⟩:=cx g;exact jF.p rfl (FK.lookup (k:=λc=>k c h n) v l s p)
 |mapUpdate t1 x y z=>
  obtain⟨A,l,g⟩:=cx m;obtain⟨B,s,p⟩:=cx g;obtain⟨I,D,C⟩:=cx p;exact jF.f rfl (FK.agX v (.inl rfl) l s D C)
 |mapEntry t1 x y=>
  obtain⟨A,l,g⟩:=cx m;obtain⟨B,s,p⟩:=cx g;exact jF.f rfl (FK.mapEntry v l s p)
 |entryStore t1 x y z=>
  obtain⟨A,l,g⟩:=cx m;obtain⟨B,s,p⟩:=cx g;obtain⟨I,D,C⟩:=cx p;exact jF.f rfl (FK.entryStore v l s D C)
 |typeAssert x t1 t2 Z=>
  obtain⟨A,l,g⟩:=cx m;split at g
  ·obtain⟨V,p⟩:=bj g
   subst V;obtain⟨q,W,p⟩:=bH p;have J:∃F,P.underlying t2=some (.struct F):=by
    have G:=v.fd _ _ _ W;unfold fdA at G;split at G
    ·rename_i F l
     exact⟨F,l⟩
    ·cases G
   obtain⟨F,J⟩:=J;obtain⟨z,L,C⟩:=bH p;have L:=v.zv _ _ L;refine jF.f rfl ⟨_,h,n,FK.pure λρ a w G hs=>?_,C⟩;obtain⟨i,N,Y⟩:=awF.1 L;have X:∀w,(zeroValue t2).run P w=.ok z w:=λw=>by simp[zeroValue,typeInfo,N,Y]
   refine⟨.tuple #[z,.bool false],?_,?_⟩
   ·have e:=(l ρ a G).bL
    simp[execOp,e,Instr.typeAssert,auR J,X]
   ·exact .tu [z,.bool false] rfl λj c u E H=>by
     match j with
     |0=>simp at E H;subst E;subst H;exact GW z
     |1=>simp at E H;subst E;subst H;exact .v
     |j+2=>simp at E
  ·cases g
 |extract x i=>
  obtain⟨A,l,g⟩:=cx m;exact jF.q rfl (FK.extract (k:=λc=>k c h n) l g)
 |call c=>
  obtain⟨Q,a1,ts⟩:=c;cases Q with
  |value x=>exact jF.f rfl (FK.aqT E m)
  |builtin b=>exact jF.builtin v m
  |invoke _ _=>cases m
 |defer c=>exact jF.f rfl (FK.anL U m)
 |_=>cases m
end
end
end
variable{d:Nat}{L:EQ}{g:bp}
section
open Go Go.RowKit MapKept
section
variable{P:Fd}{Dk:Deferred->Prop}{w0:GE}{T:EQ->bu}
def Df(Dk:Deferred->Prop)(a b:Act):Prop:=∃D,(∀d∈D,Dk d)/\b.defers=D++a.defers
def Df.refl(a:Act):Df Dk a a:=⟨[],d5,rfl⟩
def Df.trans{a b c:Act}(h:Df Dk a b)(k:Df Dk b c):Df Dk a c:=by
 obtain⟨D,f,g⟩:=h;obtain⟨e,j,l⟩:=k;exact⟨e++D,λd i=>(auC.1 i).elim (j d) (f d),by rw[l,g,auV]⟩
section
variable{t t':Tr CV}{h h':Tr c5}{n n':Nat}{R:Type}{r:R}
def C3(d:iC)(c:CV)(t t':Tr CV):Prop:=(d=none->t'=t)/\∀i,d=some i->(∃x,t.get i=some x)/\pH (some c) i t t'
def Yz{d:iC}{k:Tr CV->At R}(a:anG d c t k=some r):∃t',C3 d c t t'/\k t'=some r:=by
 cases d with
 |none=>exact⟨t,⟨λ_=>rfl,λi e=>(by cases e)⟩,a⟩
 |some i=>
  obtain⟨t',b,f,g⟩:=Tr.m_ a;exact⟨t',⟨λe=>(by cases e),λj e=>(by cases e;exact⟨f,g⟩)⟩,b⟩
def C3.tr{d:iC}(g:C3 d c t t')(f:ny m t v)(y:KR m c i){D:u_}:ny m t' (({v with defers:=D}:Act).put d i):=by
 cases d with
 |none=>rw[g.1 rfl];exact f
 |some a=>
  obtain⟨⟨x,z⟩,q⟩:=g.2 a rfl;obtain⟨u,w,_⟩:=f a x z;have s:=(au9.1 w).1;intro j k b;rw[q j]at b;by_cases e:j=a
  ·subst e
   rw[auo rfl]at b;cases b;exact⟨i,by simp[Act.put,s],y⟩
  ·rw[aun e]at b
   obtain⟨A,o,p⟩:=f j k b;exact⟨A,by simp only[Act.put];rw[axG (λl=>e l.symm)];exact o,p⟩
def ag4:Id->At In
 |.bool b=>some b
 |_=>none
def TP{a:qZ}(c:(a[b]?).bind (·.dst)=some d)(h:H[d]? =some i):yielded a H b=ag4 i:=by
 unfold yielded;rw[c,ayF,h];cases i<;>rfl
def CD(c:bp)(g:fH)(t:Tr CV)(b:In):Prop:=∀ρ a,ny ρ t a->∀o:Oper,o.guard=g->Region.wanted o (yielded c.toArray a.tmps)=b
def QZ{d:fH}{y z:At R}(w:JN g d t y z=some r):(y=some r/\CD g d t true)\/(z=some r/\CD g d t false):=by
 cases d with
 |none=>exact .inl ⟨w,λρ a i o f=>by simp[Region.wanted,f]⟩
 |some p=>
  obtain⟨j,l⟩:=p;obtain⟨s,F,E⟩:=bH w;obtain⟨c,C,k⟩:=bH E;have q:∀{v:Id},c=.v v->∀ρ a,ny ρ t a->∀o:Oper,o.guard=some (j,l)->Region.wanted o (yielded g.toArray a.tmps)=(ag4 v==some l):=λ{v} e ρ a i o f=>by
   subst e;obtain⟨u,A,B⟩:=i s _ C;obtain rfl:=B.bL;have D:((g.toArray)[j]?).bind (·.dst)=some s:=by simpa[pI]using F
   simp only[Region.wanted,f,TP D A]
  split at k
  ·rename_i b
   rcases dE k with⟨e,m⟩|⟨e,m⟩
   ·refine .inl ⟨m,λρ a i o f=>?_⟩
    rw[q rfl ρ a i o f];cases b<;>cases l<;>first|rfl|(cases e)
   ·refine .inr ⟨m,λρ a i o f=>?_⟩
    rw[q rfl ρ a i o f];cases b<;>cases l<;>first|rfl|(cases e)
  ·exact .inr ⟨k,λρ a i o f=>by rw[q rfl ρ a i o f];rfl⟩
  ·cases k
def Tr.res{α:Type}:Tr α->(Nat->In)->Tr α
 |.lf,_=>.lf
 |.nd l x a,p=>.nd (Tr.res l λi=>p (2*i+1)) (if p 0 then x else none) (Tr.res a λi=>p (2*i+2))
def Tr.nV{α:Type}:∀(t:Tr α) (p:Nat->In) (i:Nat),(t.res p).get i=if p i then t.get i else none
 |.lf,p,i=>by simp[Tr.res,Tr.Tz]
 |.nd l x c,p,i=>by
  rw[Tr.res,Tr.iU,Tr.iU];by_cases b:i=0
  ·subst b;simp
  ·rw[aun b,aun b]
   by_cases a:i % 2=1
   ·rw[auo a,auo a,Tr.nV l,show 2*(i/2)+1=i by omega]
   ·rw[aun a,aun a,Tr.nV c,show 2*(i/2 - 1)+2=i by omega]
def C4(t t':Tr CV)(x:If):Prop:=∀i,x=.tmp i->t.get i=t'.get i
section
variable{x:If}{xs:nA}
def bz(h:C4 t t' x)(k:CV->At R):ea t x k=ea t' x k:=by
 cases x with
 |tmp i=>show oB (t.get i) k=oB (t'.get i) k;rw[h i rfl]
 |_=>rfl
def uT:∀{xs:nA} (h:∀x∈xs,C4 t t' x) (k:Do CV->At R),qR t xs k=qR t' xs k
 |[],_,k=>rfl
 |x::xs,h,k=>by
  show ea t x (λc=>qR t xs λa=>k (c::a))=ea t' x (λc=>qR t' xs λa=>k (c::a));rw[bz (h x d5)];congr 1;funext c;exact uT (λy b=>h y (by simp[b])) _
def tY:∀{a:xj} (h:∀p∈a,C4 t t' p.2) (k:Do (Nat×Do CV)->At R),kR t a k=kR t' a k
 |[],_,k=>rfl
 |(i,x)::a,h,k=>by
  show ea t x (λc=>tV c λl=>kR t a λb=>k ((i,l)::b))=ea t' x (λc=>tV c λl=>kR t' a λb=>k ((i,l)::b));rw[bz (h (i,x) d5)];congr 1;funext c;congr 1;funext l;exact tY (λy d=>h y (by simp[d])) _
def Bv{o:iB}(h:∀x∈o.toList,C4 t t' x)(d:Nat)(k:Nat->At R):u9 t o d k=u9 t' o d k:=by
 cases o with
 |none=>rfl
 |some x=>exact bz (h x d5) _
def Q0{T:EQ->bu}{e b a:iB}(o:∀x∈e.toList,C4 t t' x)(p:∀x∈b.toList,C4 t t' x)(g:∀x∈a.toList,C4 t t' x)(k:CV->At R):tX T t L c e b a k=tX T t' L c e b a k:=by
 have i:∀(d:Nat) (k:Nat->At R),u9 t e d k=u9 t' e d k:=Bv o;have j:∀(d:Nat) (k:Nat->At R),u9 t b d k=u9 t' b d k:=Bv p;have l:∀(d:Nat) (k:Nat->At R),u9 t a d k=u9 t' a d k:=Bv g;unfold tX;simp only[i,j,l];cases a with
 |none=>rfl
 |some f=>
  have m:∀(k:CV->At R),ea t f k=ea t' f k:=bz (g f d5);simp only[m]
def aba(h:∀x∈xs,C4 t t' x)(k:CV->At R):HG t xs k=HG t' xs k:=by
 unfold HG;split
 ·exact bz (h _ d5) _
 ·rfl
def abb(h:∀x∈xs,C4 t t' x)(k:CV->CV->At R):HH t xs k=HH t' xs k:=by
 unfold HH;split
 ·rw[bz (h _ d5)]
  congr 1;funext c;exact bz (h _ d5) _
 ·rfl
end
def Q1{T:EQ->bu}{ID:FuncId->In}{call:KC R}(h:∀x∈M.operands.toList,C4 t t' x)(e:Tr c5)(j:Nat)(k:CV->Tr c5->Nat->At R):opK T ID call M t e j k=opK T ID call M t' e j k:=by
 cases M with
 |move x=>
  have e0:∀k:CV->At R,ea t x k=ea t' x k:=bz (h x f0);show CC x t e j k=CC x t' e j k;simp only[CC,e0]
 |assign x=>
  have e0:∀k:CV->At R,ea t x k=ea t' x k:=bz (h x f0);show CC x t e j k=CC x t' e j k;simp only[CC,e0]
 |pick z x y=>
  have e0:∀k:CV->At R,ea t z k=ea t' z k:=bz (h z f0);have l:∀k:CV->At R,ea t x k=ea t' x k:=bz (h x f0);have o:∀k:CV->At R,ea t y k=ea t' y k:=bz (h y f0);show Yr z x y t e j k=Yr z x y t' e j k;simp only[Yr,e0,l,o]
 |alloc d=>rfl
 |box d x=>
  have e0:∀k:CV->At R,ea t x k=ea t' x k:=bz (h x f0);show ajR d x t e j k=ajR d x t' e j k;simp only[ajR,e0]
 |build d q=>
  have e0:∀k:Do (Nat×Do CV)->At R,kR t q.toList k=kR t' q.toList k:=tY λp I=>h p.2 (by simp only[Op.operands];exact auD.2 ⟨p,I,rfl⟩);show LQ T d q t e j k=LQ T d q t' e j k;simp only[LQ,e0]
 |buildSlice d L q=>
  have e0:∀k:Do (Nat×Do CV)->At R,kR t q.toList k=kR t' q.toList k:=tY λp I=>h p.2 (by simp only[Op.operands];exact auD.2 ⟨p,I,rfl⟩);show nU T d L q t e j k=nU T d L q t' e j k;simp only[nU,e0]
 |insert d x y z=>
  have e0:∀k:CV->At R,ea t x k=ea t' x k:=bz (h x f0);have l:∀k:CV->At R,ea t y k=ea t' y k:=bz (h y f0);have o:∀k:CV->At R,ea t z k=ea t' z k:=bz (h z f0);show QV T d x y z t e j k=QV T d x y z t' e j k;simp only[QV,e0,l,o]
 |load d x=>
  have e0:∀k:CV->At R,ea t x k=ea t' x k:=bz (h x f0);show Ys T d x t e j k=Ys T d x t' e j k;simp only[Ys,e0]
 |store d x y=>
  have e0:∀k:CV->At R,ea t x k=ea t' x k:=bz (h x f0);have l:∀k:CV->At R,ea t y k=ea t' y k:=bz (h y f0);show LS T d x y t e j k=LS T d x y t' e j k;simp only[LS,e0,l]
 |nilCheck x=>
  have e0:∀k:CV->At R,ea t x k=ea t' x k:=bz (h x f0);show ajS x t e j k=ajS x t' e j k;simp only[ajS,e0]
 |binOp A d x y u=>
  have e0:∀k:CV->At R,ea t x k=ea t' x k:=bz (h x f0);have l:∀k:CV->At R,ea t y k=ea t' y k:=bz (h y f0);show ajT T A d x y t e j k=ajT T A d x y t' e j k;simp only[ajT,e0,l]
 |unOp A d x=>
  have e0:∀k:CV->At R,ea t x k=ea t' x k:=bz (h x f0);show oUn A d x t e j k=oUn A d x t' e j k;simp only[oUn,e0]
 |convert d u x=>
  have e0:∀k:CV->At R,ea t x k=ea t' x k:=bz (h x f0);show Yt T d u x t e j k=Yt T d u x t' e j k;simp only[Yt,e0]
 |makeFunc K C cs=>
  have e0:∀k:Do CV->At R,qR t C.toList k=qR t' C.toList k:=uT λx v=>h x (by simp only[Op.operands,awA,auC];exact .inl v);have l:∀k:Do CV->At R,qR t cs.toList k=qR t' cs.toList k:=uT λx v=>h x (by simp only[Op.operands,awA,auC];exact .inr v);show Yu K C cs t e j k=Yu K C cs t' e j k;simp only[Yu,e0,l]
 |makeMap d r=>rfl
 |makeSlice d x y=>
  have e0:∀k:CV->At R,ea t x k=ea t' x k:=bz (h x f0);have l:∀k:CV->At R,ea t y k=ea t' y k:=bz (h y f0);show Yv T d x y t e j k=Yv T d x y t' e j k;simp only[Yv,e0,l]
 |slice d x E D F=>
  have e0:∀k:CV->At R,ea t x k=ea t' x k:=bz (h x f0);have l:∀(a:CV) (k:CV->At R),tX T t d a E D F k=tX T t' d a E D F k:=λa k=>Q0 (λy s=>h y (by simp[Op.operands]at s⊢;exact .inr (.inl s))) (λy s=>h y (by simp[Op.operands]at s⊢;exact .inr (.inr (.inl s)))) (λy s=>h y (by simp[Op.operands]at s⊢;exact .inr (.inr (.inr s)))) k;show LU T d x E D F t e j k=LU T d x E D F t' e j k;simp only[LU,e0,l]
 |fieldAddr d x f=>
  have e0:∀k:CV->At R,ea t x k=ea t' x k:=bz (h x f0);show oFA T d x f t e j k=oFA T d x f t' e j k;simp only[oFA,e0]
 |field d x f=>
  have e0:∀k:CV->At R,ea t x k=ea t' x k:=bz (h x f0);show oF T d x f t e j k=oF T d x f t' e j k;simp only[oF,e0]
 |indexAddr d x y=>
  have e0:∀k:CV->At R,ea t x k=ea t' x k:=bz (h x f0);have l:∀k:CV->At R,ea t y k=ea t' y k:=bz (h y f0);show oIA T d x y t e j k=oIA T d x y t' e j k;simp only[oIA,e0,l]
 |index d x y=>
  have e0:∀k:CV->At R,ea t x k=ea t' x k:=bz (h x f0);have l:∀k:CV->At R,ea t y k=ea t' y k:=bz (h y f0);show oI T d x y t e j k=oI T d x y t' e j k;simp only[oI,e0,l]
 |lookup d x y w=>
  have e0:∀k:CV->At R,ea t x k=ea t' x k:=bz (h x f0);have l:∀k:CV->At R,ea t y k=ea t' y k:=bz (h y f0);show Yw T d x y w t e j k=Yw T d x y w t' e j k;simp only[Yw,e0,l]
 |mapUpdate d x y z=>
  have e0:∀k:CV->At R,ea t x k=ea t' x k:=bz (h x f0);have l:∀k:CV->At R,ea t y k=ea t' y k:=bz (h y f0);have o:∀k:CV->At R,ea t z k=ea t' z k:=bz (h z f0);show QV T d x y z t e j k=QV T d x y z t' e j k;simp only[QV,e0,l,o]
 |mapEntry d x y=>
  have e0:∀k:CV->At R,ea t x k=ea t' x k:=bz (h x f0);have l:∀k:CV->At R,ea t y k=ea t' y k:=bz (h y f0);show LV T d x y t e j k=LV T d x y t' e j k;simp only[LV,e0,l]
 |entryStore d x y z=>
  have e0:∀k:CV->At R,ea t x k=ea t' x k:=bz (h x f0);have l:∀k:CV->At R,ea t y k=ea t' y k:=bz (h y f0);have o:∀k:CV->At R,ea t z k=ea t' z k:=bz (h z f0);show Af T d x y z t e j k=Af T d x y z t' e j k;simp only[Af,e0,l,o]
 |typeAssert x d u w=>
  have e0:∀k:CV->At R,ea t x k=ea t' x k:=bz (h x f0);show oTA T u x w t e j k=oTA T u x w t' e j k;simp only[oTA,e0]
 |extract x i=>
  have e0:∀k:CV->At R,ea t x k=ea t' x k:=bz (h x f0);show ajU x i t e j k=ajU x i t' e j k;simp only[ajU,e0]
 |call c=>
  obtain⟨G,m,B⟩:=c;have H:∀x∈m.toList,C4 t t' x:=λx v=>h x (by simp only[Op.operands,Call.operands,awA,auC];exact .inr v);cases G with
  |value x=>
   have e0:∀k:CV->At R,ea t x k=ea t' x k:=bz (h x (by simp[Op.operands,Call.operands]));have l:∀k:Do CV->At R,qR t m.toList k=qR t' m.toList k:=uT H;show(ea t x λf=>qR t m.toList λcs=>clK f λg J xs=>call g (J++cs++xs) e j k)=(ea t' x λf=>qR t' m.toList λcs=>clK f λg J xs=>call g (J++cs++xs) e j k);simp only[e0,l]
  |builtin b=>
   have l:∀k:CV->At R,HG t m.toList k=HG t' m.toList k:=aba H;have o:∀k:CV->CV->At R,HH t m.toList k=HH t' m.toList k:=abb H;show nc T b m.toList B.toList t e j k=nc T b m.toList B.toList t' e j k;unfold nc;cases b<;>simp only[l,o]
  |invoke _ _=>rfl
 |defer c=>
  obtain⟨G,m,B⟩:=c;cases G with
  |value x=>
   have e0:∀k:CV->At R,ea t x k=ea t' x k:=bz (h x (by simp[Op.operands,Call.operands]));show G3 ID ⟨.value x,m,B⟩ t e j k=G3 ID ⟨.value x,m,B⟩ t' e j k;simp only[G3,e0]
  |_=>rfl
 |_=>rfl
def G5{a:fH}{y b:At R}(h:∀p,a=some p->∀s,pI g p.1=some s->t.get s=t'.get s):JN g a t y b=JN g a t' y b:=by
 cases a with
 |none=>rfl
 |some p=>
  unfold JN;show(oB (pI g p.1) λs=>oB (t.get s) _)=(oB (pI g p.1) λs=>oB (t'.get s) _);cases c:pI g p.1 with
  |none=>rfl
  |some s=>
   show oB (t.get s) _=oB (t'.get s) _;rw[h p rfl s c]
def nz(a:bp)(o:Oper)(x:Nat):In:=(tmpsOf o).contains x||(match o.guard with
 |some g=>pI a g.1==some x
 |none=>false)
def YA{ops:bp}{o:Oper}:∀x∈o.op.operands.toList,C4 t (t.res (nz ops o)) x:=λx a i e=>by
 subst e;rw[Tr.nV,auo];unfold nz;have:(tmpsOf o).contains i=true:=by
  rw[ayY];exact ax9.2 ⟨_,a,rfl⟩
 rw[this];rfl
def YB{ops:bp}{o:Oper}:∀p,o.guard=some p->∀s,pI ops p.1=some s->t.get s=(t.res (nz ops o)).get s:=λp a s b=>by
 rw[Tr.nV,auo];unfold nz;rw[a];simp[b]
inductive TQ(P:Program)(Dk:Deferred->Prop)(w0:World)(ops:bp)(o:Oper)(t:Tr CV)(h:Tr c5)(n:Nat):Tr CV->Tr c5->Nat->Prop
 |run (c:CV) (h2:Tr c5) (n2:Nat) (t2:Tr CV) (hw:CD ops o.guard (t.res (nz ops o)) true) (hf:jF P Dk w0 o (t.res (nz ops o)) h n c h2 n2) (hp:C3 o.dst c t t2):TQ P Dk w0 ops o t h n t2 h2 n2
 |skip (t2:Tr CV) (hw:CD ops o.guard (t.res (nz ops o)) false) (hp:C3 o.dst (.v undef) t t2):TQ P Dk w0 ops o t h n t2 h n
variable{ID:FuncId->In}{call:KC R}
def G6(s:gG P T)(p:∀b o u,GT b o u->w0.cell? ⟨b,o,none⟩=some u)(q:j0 Dk ID)(v:gP P w0 call){o:Oper}{k:KK R}(e:Yx T ID call g o k t h n=some r):
 ∃t' h' n',TQ P Dk w0 g o t h n t' h' n'/\k t' h' n'=some r:=by
 unfold Yx at e;rw[G5 (YB (ops:=g) (o:=o))]at e;rcases QZ e with⟨a,j⟩|⟨a,j⟩
 ·rw[Q1 (YA (ops:=g) (o:=o))]at a
  obtain⟨d,B,A,z,l,m⟩:=o;obtain⟨c,h',n',w,y⟩:=ag3 (d:=d) (ty:=A) (pos:=z) (af:=l) (gd:=m) s p q v a;obtain⟨t',i,f⟩:=Yz y;exact⟨t',h',n',.run _ _ _ _ j w i,f⟩
 ·obtain⟨t',i,f⟩:=Yz a
  exact⟨t',h,n,.skip _ j i,f⟩
def ny.res(b:ny m t v)(p:Nat->In):ny m (t.res p) v:=λi c a=>by
 rw[Tr.nV]at a;split at a
 ·exact b i c a
 ·cases a
def put_defers(a:Act)(d:iC)(v:Id):(a.put d v).defers=a.defers:=by cases d<;>rfl
def TQ.wp{o:Oper}(w:TQ P Dk w0 g o t h n t' h' n')(b:ny m t v)(j:HR P w0 m h.get n k){next:Act->GE->Prop}{Q:IO->Act->GE->Prop}
 (q:∀e f d,ny e t' f->KP P w0 m h.get n k e h'.get n' d->Df Dk v f->next f d):if Region.wanted o (yielded g.toArray v.tmps)then o.wp P v k next Q else next (v.put o.dst undef) k:=by
 cases w with
 |run c A B z l u i=>
  rw[l m v (b.res _) o rfl,auo rfl];refine u.fk m v k (b.res _) j next Q λa d D ⟨e,p,y⟩ s=>?_
  exact q e _ d (i.tr (b.mono (p.le j)) y) p ⟨D,s,by rw[put_defers]⟩
 |skip z l i=>
  rw[l m v (b.res _) o rfl,aun d5];have:=i.tr (D:=v.defers) b (KR.v (ρ:=m) (x:=undef));exact q m _ k this (.refl j) ⟨[],d5,by rw[put_defers];rfl⟩
def YC(z:gG P T)(v:∀b o u,GT b o u->w0.cell? ⟨b,o,none⟩=some u)(y:j0 Dk ID)(A:gP P w0 call){c:bp}{k:KK R}:∀(l:bp) (i:Nat) {t:Tr CV} {h:Tr c5} {n:Nat},c.drop i=l->aa8 T ID call c l k t h n=some r->
 ∃t' h' n',k t' h' n'=some r/\∀ρ a w Q,ny ρ t a->HR P w0 ρ h.get n w->(∀f d e,ny f t' d->KP P w0 ρ h.get n w f h'.get n' e->Df Dk a d->Q .normal d e)->wpOps P c.toArray Q (List.range' i l.length) a w
 |[],i,t,h,n,g,j=>⟨t,h,n,j,λρ a w Q q p m=>m ρ a w q (.refl p) (Df.refl a)⟩
 |o::l,i,t,h,n,g,j=>by
  obtain⟨t1,Y,Z,N,H⟩:=G6 z v y A j;have E:c.drop (i+1)=l:=by rw[<-awc,g];rfl
  have K:c[i]? =some o:=by
   have:=auA (·[0]?) g;simpa using this
  obtain⟨V,D,U,I,M⟩:=YC z v y A l (i+1) E H;refine⟨V,D,U,I,λρ a w Q q p m=>?_⟩;rw[auP,ayZ];unfold wpOps;have L:c.toArray[i]? =some o:=by simpa using K
  simp only[L];have:=N.wp (P:=P) q p (next:=wpOps P c.toArray Q (List.range' (i+1) l.length)) (Q:=Q) λf d e O B F=>M f d e Q O B.hr λX C W S J G=>m X C W S (B.trans J) (F.trans G);split
  ·rename_i s
   rw[auo s]at this;exact .inl this
  ·rename_i s
   rw[aun s]at this;exact this
end
end
end
variable{Q:Id}
section
open Go Go.RowKit MapKept
section
variable{P:Fd}{Dk:Deferred->Prop}{w0:GE}
def Nm.cut(ρ:Nm)(n:Nat):Nm:=λk=>if k<n then ρ k else none
section
variable{ρ:Nm}{n m k:Nat}{p:Nat×Nat}
def Nm.iV(h:k<n):Nm.cut ρ n k=ρ k:=auo h
def Nm.TS(h:n<=k):Nm.cut ρ n k=none:=aun bv
def Nm.pJ(h:Nm.cut ρ n k=some p):k<n/\ρ k=some p:=by
 by_cases a:k<n
 ·rw[Nm.iV a]at h;exact⟨a,h⟩
 ·rw[Nm.TS bv]at h;cases h
def Nm.LY(ρ:Nm)(h:n<=m):Bp (Nm.cut ρ n) (Nm.cut ρ m):=λk p b=>by
 obtain⟨c,a⟩:=Nm.pJ b;rw[Nm.iV bv];exact a
def Nm.LZ(ρ:Nm)(n:Nat):Bp (Nm.cut ρ n) ρ:=λk p a=>(Nm.pJ a).2
def Bp.cut{ρ a:Nm}(h:Bp ρ a)(n:Nat):Bp (Nm.cut ρ n) (Nm.cut a n):=λk p d=>by
 obtain⟨b,c⟩:=Nm.pJ d;rw[Nm.iV b];exact h _ _ c
end
def Bel(n:Nat)(c:CV):Prop:=∀ρ u,KR ρ c u->KR (Nm.cut ρ n) c u
def KR.Hv{ρ1:Nm}{n:Nat}(H:∀k,n<=k->ρ1 k=none)(h:KR ρ1 c i):Bel n c:=by
 have s:∀{k p},ρ1 k=some p->k<n:=λ{k p} x=>by
  by_cases h:k<n
  ·exact h
  ·rw[H k bv]at x;cases x
 induction h with
 |v=>intro ρ u a;cases a;exact .v
 |pt h=>intro ρ u a;cases a with|pt f=>exact .pt (by rw[Nm.iV (s h)];exact f)
 |sl h Q K L M=>intro ρ u a;cases a with|sl f G z A B=>exact .sl (by rw[Nm.iV (s h)];exact f) G z A B
 |mp h=>intro ρ u a;cases a with|mp f=>exact .mp (by rw[Nm.iV (s h)];exact f)
 |gl=>intro ρ u a;cases a;exact .gl
 |ag d l t q=>
  intro ρ u a;cases a with
  |ag r o g=>
   refine .ag r o λj c u b a=>?_;have e:j<d.length:=by rw[l];exact(aus.1 b).1
   exact q j c d[j] b (auy e) ρ u (g j c u b a)
 |tu d l t q=>
  intro ρ u a;cases a with
  |tu r o g=>
   refine .tu r o λj c u b a=>?_;have e:j<d.length:=by rw[l];exact(aus.1 b).1
   exact q j c d[j] b (auy e) ρ u (g j c u b a)
 |cl d y l E t O q I=>
  intro ρ u a;cases a with
  |cl r J o F g D=>
   refine .cl r J o F (λj c u b a=>?_) (λj c u b a=>?_)
   ·have e:j<d.length:=by rw[l];exact(aus.1 b).1
    exact q j c d[j] b (auy e) ρ u (g j c u b a)
   ·have e:j<y.length:=by rw[E];exact(aus.1 b).1
    exact I j c y[j] b (auy e) ρ u (D j c u b a)
def G7(P:Fd)(n:Nat)(y:c5):Prop:=∀ρ w b m,BR P ρ w b m y->BR P (Nm.cut ρ n) w b m y
def G7.mono{n m:Nat}(h:n<=m){y:c5}(a:G7 P n y):G7 P m y:=λρ w b q c=>(a ρ w b q c).mono (Nm.LY ρ h) rfl
def BR.Hv{ρ1:Nm}{n:Nat}(s:∀k,n<=k->ρ1 k=none){w1:GE}{B Q:Nat}{y:c5}(h:BR P ρ1 w1 B Q y):G7 P n y:=by
 intro ρ w b m o;cases y with
 |ce W N ext wr=>
  obtain⟨t,us,F,G,e,Y⟩:=h;obtain⟨R,S,g,i,a,H⟩:=o;refine⟨R,S,g,i,λj c q=>?_,H⟩;obtain⟨K,u,O,I,M⟩:=a j c q;obtain⟨_,Z,_,J,_⟩:=e j c q;exact⟨K,u,O,J.Hv s ρ u I,M⟩
 |ma t X wr=>
  obtain⟨d,z,l,V,F,G,e⟩:=h;obtain⟨E,U,A,D,g,i,a⟩:=o;refine⟨E,U,A,D,g,i,⟨a.len,λj x v f r=>⟨(a.key j x v f r).1,?_⟩,a.isk,a.ky,a.Rk,a.clk⟩⟩;have L:j<l.size:=by rw[e.len];exact(aus.1 f).1
  exact(e.key j x l[j] f (avb L)).2.Hv s ρ _ (a.key j x v f r).2
section
variable{ρ ρ0 ρ1:Nm}{C h0 Hj H1:KH}{n0 N nj n1:Nat}{ws w w1:GE}
def HR.sub(g:HR P w0 ρ C N w)(l:∀k,k<nj->ρ k≠none->Hj k=C k)(o:∀k y,k<nj->ρ k≠none->Hj k=some y->G7 P nj y)(s:∀k,nj<=k->Hj k=none):HR P w0 (Nm.cut ρ nj) Hj nj w:=by
 have h:∀{k x p},Hj k=some x->Nm.cut ρ nj k=some p->k<nj/\C k=some x/\ρ k=some p:=λ{k x p} c r=>by
  obtain⟨e,a⟩:=Nm.pJ r;exact⟨e,by rw[<-l k e (by rw[a];simp)];exact c,a⟩
 refine⟨g.ext,λk x b m c d=>?_,λk x b m c d=>?_,λk v x A b m z c u d q t=>?_,λk d=>Nm.TS d,s⟩
 ·obtain⟨e,a,f⟩:=h c d
  exact o k x e (by rw[f];simp) c _ _ _ _ (g.ob k x b m a f)
 ·obtain⟨e,a,f⟩:=h c d
  exact g.lo k x b m a f
 ·obtain⟨e,a,f⟩:=h c d
  obtain⟨B,i,j⟩:=h u q;exact g.inj k v x A b m z a i f j t
def HR.empty(b:Ext w0 w):HR P w0 (Nm.cut ρ nj) (λ_=>none) nj w:=
 ⟨b,λ_ _ _ _ h=>(by cases h),λ_ _ _ _ h=>(by cases h),λ_ _ _ _ _ _ _ h=>(by cases h),λk a=>Nm.TS a,λ_ _=>rfl⟩
def HR.same(c:HR P w0 ρ C N w)(e:∀k y,ρ k≠none->Hj k=some y->C k=some y)(i:∀k,nj<=k->Hj k=none)(q:nj<=N):HR P w0 ρ Hj N w:=
 ⟨c.ext,λk x b m d a=>c.ob k x b m (e k x (by rw[a];simp) d) a,λk x b m d a=>c.lo k x b m (e k x (by rw[a];simp) d) a,
  λk g x h b m o d l a f j=>c.inj k g x h b m o (e k x (by rw[a];simp) d) (e g h (by rw[f];simp) l) a f j,c.top,λk a=>i k bv⟩
def KP.agree(c:KP P w0 ρ0 h0 n0 ws ρ C N w)(e:∀k,(k<n0\/ρ k≠none)->Hj k=C k)(i:∀k,N<=k->Hj k=none):KP P w0 ρ0 h0 n0 ws ρ Hj N w:=
 ⟨c.hr.same (λk y a l=>by rw[<-e k (.inr a)];exact l) i (auq _),c.nn,c.ro,c.sz,λb f g=>⟨(c.fr b f g).1,λk x m a d h=>(c.fr b f g).2 k x m a (by rw[<-e k (.inr (by rw[h];simp))];exact d) h⟩,
  λk x a d=>c.ol k x a (by rw[<-e k (.inl a)];exact d),λk x a d j=>by rw[e k (.inl a)];exact c.fz k x a d j⟩
def KP.wide(a:HR P w0 ρ C n0 w)(b:n0<=N):KP P w0 ρ C n0 w ρ C N w:=by
 have k:=KP.refl a;exact⟨⟨a.ext,a.ob,a.lo,a.inj,λx c=>a.top x bv,λx c=>a.DZ x bv⟩,b,k.ro,k.sz,k.fr,k.ol,k.fz⟩
def xd(n1:Nat)(c b:Nat->At a):Nat->At a:=λk=>if k<n1 then c k else b k
def eA{n1 k:Nat}{c b:Nat->At a}(h:k<n1):xd n1 c b k=c k:=auo h
def hS{n1 k:Nat}{c b:Nat->At a}(h:n1<=k):xd n1 c b k=b k:=aun bv
def KP.merge(A:KP P w0 ρ0 h0 n0 ws ρ C N w)(B:KP P w0 (Nm.cut ρ nj) Hj nj w ρ1 H1 n1 w1)(Z:n0<=nj)(a0:n1<=N)(v:∀k,k<nj->(k<n0\/ρ k≠none)->Hj k=C k)(W:∀k,nj<=k->k<n1->ρ k=none):
 KP P w0 ρ0 h0 n0 ws (xd n1 ρ1 ρ) (xd n1 H1 C) N w1/\Bp ρ1 (xd n1 ρ1 ρ)/\Bp ρ (xd n1 ρ1 ρ):=by
 have a3:=B.nn;have L:Bp ρ1 (xd n1 ρ1 ρ):=λk p a=>by rw[eA (B.hr.lt a)];exact a
 have H:∀k,k<nj->ρ1 k=ρ k:=λk a=>by rw[B.ro k a,Nm.iV a]
 have M:Bp ρ (xd n1 ρ1 ρ):=λk p a=>by
  by_cases h:k<n1
  ·rw[eA h]
   by_cases u:k<nj
   ·rw[H k u];exact a
   ·rw[W k bv h]at a;cases a
  ·rw[hS bv];exact a
 have G:∀{k x b m},k<nj->H1 k=some x->ρ1 k=some (b,m)->∃f,C k=some f/\ρ k=some (b,m)/\f.wr=x.wr:=λ{k x b m} a c l=>by
  obtain⟨f,r,g⟩:=B.ol k x a c;rw[H k a]at l;exact⟨f,by rw[<-v k a (.inr (by rw[l];simp))];exact r,l,g⟩
 have E:∀{k x b m},n1<=k->C k=some x->ρ k=some (b,m)->agE (Nm.cut ρ nj) Hj b:=λ{k x b m} a c l d i q e o F=>by
  obtain⟨r,g⟩:=Nm.pJ F;have:=A.hr.inj d k i x b q m (by rw[<-v d r (.inr (by rw[g];simp))];exact e) c g l o;omega
 refine⟨⟨⟨B.hr.ext,λk x b m c a=>?_,λk x b m c a=>?_,λk d x i b m q c e a j o=>?_,λk a=>?_,λk a=>?_⟩,A.nn,λk a=>?_,avl A.sz B.sz,λb z K=>?_,λk i a c=>?_,λk x a c o=>?_⟩,L,M⟩
 ·by_cases h:k<n1
  ·rw[eA h]at c a
   exact(B.hr.ob k x b m c a).mono L rfl
  ·rw[hS bv]at c a
   have z:=A.hr.ob k x b m c a;exact z.mono M (B.fr b z.lt (E bv c a)).1
 ·by_cases h:k<n1
  ·rw[eA h]at c a
   exact B.hr.lo k x b m c a
  ·rw[hS bv]at c a
   exact A.hr.lo k x b m c a
 ·by_cases h:k<n1
  ·rw[eA h]at c a
   by_cases u:d<n1
   ·rw[eA u]at e j
    exact B.hr.inj k d x i b m q c e a j o
   ·rw[hS bv]at e j
    by_cases y:k<nj
    ·obtain⟨f,r,g,I⟩:=G y c a
     exact A.hr.inj k d f i b m q r e g j (I.trans o)
    ·exact absurd a ((B.fr b (A.hr.ob d i b q e j).lt (E bv e j)).2 k x m bv c)
  ·rw[hS bv]at c a
   by_cases u:d<n1
   ·rw[eA u]at e j
    by_cases y:d<nj
    ·obtain⟨f,r,g,I⟩:=G y e j
     exact A.hr.inj k d x f b m q c r a g o
    ·exact absurd j ((B.fr b (A.hr.ob k x b m c a).lt (E bv c a)).2 d i q bv e)
   ·rw[hS bv]at e j
    exact A.hr.inj k d x i b m q c e a j o
 ·rw[hS bv];exact A.hr.top k a
 ·rw[hS bv];exact A.hr.DZ k a
 ·rw[eA bv,H k bv];exact A.ro k a
 ·obtain⟨O,D⟩:=A.fr b z K
  have V:agE (Nm.cut ρ nj) Hj b:=λd i q e o F=>by
   obtain⟨r,g⟩:=Nm.pJ F;have J:C d=some i:=by rw[<-v d r (.inr (by rw[g];simp))];exact e
   by_cases h:d<n0
   ·obtain⟨f,s,t⟩:=A.ol d i h J
    rw[A.ro d h]at g;exact K d f q s (t.trans o) g
   ·exact D d i q bv J g
  obtain⟨Q,R⟩:=B.fr b (by have:=A.sz;omega) V;refine⟨Q.trans O,λk x m a c l=>?_⟩;by_cases h:k<n1
  ·rw[eA h]at c l
   by_cases y:k<nj
   ·obtain⟨f,s,t,Y⟩:=G y c l
    exact D k f m a s t
   ·exact R k x m bv c l
  ·rw[hS bv]at c l
   exact D k x m a c l
 ·rw[eA bv]at c
  obtain⟨f,s,t⟩:=B.ol k i bv c;rw[v k bv (.inl a)]at s;obtain⟨X,S,U⟩:=A.ol k f a s;exact⟨X,S,U.trans t⟩
 ·rw[eA bv]
  have:=A.fz k x a c o;exact B.fz k x bv (by rw[v k bv (.inl a)];exact this) o
def KP.add(A:KP P w0 ρ0 h0 n0 ws ρ C N w)(B:KP P w0 (Nm.cut ρ nj) (λ_=>none) nj w ρ1 H1 n1 w1)(H:n0<=nj)(I:n1<=N)(F:∀k,nj<=k->k<n1->ρ k=none):
 KP P w0 ρ0 h0 n0 ws (xd n1 ρ1 ρ) (λk=>if nj<=k/\k<n1 then H1 k else C k) N w1/\Bp ρ1 (xd n1 ρ1 ρ)/\Bp ρ (xd n1 ρ1 ρ):=by
 have J:=B.nn;have t:Bp ρ1 (xd n1 ρ1 ρ):=λk p a=>by rw[eA (B.hr.lt a)];exact a
 have G:∀k,k<nj->ρ1 k=ρ k:=λk a=>by rw[B.ro k a,Nm.iV a]
 have f:∀k,¬(nj<=k/\k<n1)->xd n1 ρ1 ρ k=ρ k:=λk a=>by
  by_cases h:k<n1
  ·rw[eA h,G k bv]
  ·rw[hS bv]
 have u:Bp ρ (xd n1 ρ1 ρ):=λk p a=>by
  by_cases h:nj<=k/\k<n1
  ·rw[F k h.1 h.2]at a;cases a
  ·rw[f k h];exact a
 have o:∀b,b<w.heap.size->w1.heap[b]? =w.heap[b]? /\∀k x m,nj<=k->H1 k=some x->ρ1 k≠some (b,m):=λb j=>B.fr b j λ_ _ _ h=>(by cases h);refine⟨⟨⟨B.hr.ext,λk x b m c a=>?_,λk x b m c a=>?_,λk e x l b m s c i a g r=>?_,λk a=>?_,λk a=>?_⟩,A.nn,λk a=>?_,avl A.sz B.sz,λb j E=>?_,λk l a c=>?_,λk x a c r=>?_⟩,t,u⟩
 ·by_cases h:nj<=k/\k<n1
  ·rw[eA h.2]at a
   simp only[auo h]at c;exact(B.hr.ob k x b m c a).mono t rfl
  ·rw[f k h]at a
   simp only[aun h]at c;have j:=A.hr.ob k x b m c a;exact j.mono u (o b j.lt).1
 ·by_cases h:nj<=k/\k<n1
  ·rw[eA h.2]at a
   simp only[auo h]at c;exact B.hr.lo k x b m c a
  ·rw[f k h]at a
   simp only[aun h]at c;exact A.hr.lo k x b m c a
 ·by_cases h:nj<=k/\k<n1
  ·rw[eA h.2]at a
   simp only[auo h]at c;by_cases d:nj<=e/\e<n1
   ·rw[eA d.2]at g
    simp only[auo d]at i;exact B.hr.inj k e x l b m s c i a g r
   ·rw[f e d]at g
    simp only[aun d]at i;exact absurd a ((o b (A.hr.ob e l b s i g).lt).2 k x m h.1 c)
  ·rw[f k h]at a
   simp only[aun h]at c;by_cases d:nj<=e/\e<n1
   ·rw[eA d.2]at g
    simp only[auo d]at i;exact absurd g ((o b (A.hr.ob k x b m c a).lt).2 e l s d.1 i)
   ·rw[f e d]at g
    simp only[aun d]at i;exact A.hr.inj k e x l b m s c i a g r
 ·rw[f k bv];exact A.hr.top k a
 ·rw[aun bv];exact A.hr.DZ k a
 ·rw[f k bv];exact A.ro k a
 ·obtain⟨v,y⟩:=A.fr b j E
  obtain⟨z,D⟩:=o b (by have:=A.sz;omega);refine⟨z.trans v,λk x m a c q=>?_⟩;by_cases h:nj<=k/\k<n1
  ·rw[eA h.2]at q
   simp only[auo h]at c;exact D k x m h.1 c q
  ·rw[f k h]at q
   simp only[aun h]at c;exact y k x m a c q
 ·rw[aun bv]at c
  exact A.ol k l a c
 ·rw[aun bv]
  exact A.fz k x a c r
end
def TT(h:blt b d=true):b<d:=auw h
def tZ{n:Nat}(h:JO n c=true):Bel n c:=by
 intro ρ u b;cases c with
 |v x=>cases b;exact .v
 |gl=>cases b;exact .gl
 |pt k o=>cases b with|pt a=>exact .pt (by rw[Nm.iV (TT h)];exact a)
 |sl k o m c=>cases b with|sl a g d e f=>exact .sl (by rw[Nm.iV (TT h)];exact a) g d e f
 |mp k=>cases b with|mp a=>exact .mp (by rw[Nm.iV (TT h)];exact a)
 |_=>cases h
def aj0{n:Nat}(h:anI n c=true):Bel n c:=by
 unfold anI at h;split at h
 ·rename_i l
  intro ρ u a;cases a with
  |ag f e d=>exact .ag f e λj c u b a=>tZ (auO.1 h c (auI b)) ρ u (d j c u b a)
 ·rename_i l
  intro ρ u a;cases a with
  |tu f e d=>exact .tu f e λj c u b a=>tZ (auO.1 h c (auI b)) ρ u (d j c u b a)
 ·rename_i l k
  intro ρ u a;obtain⟨g,i⟩:=azd.1 h;cases a with
  |cl f r e q d o=>exact .cl f r e q (λj c u b a=>tZ (auO.1 g c (auI b)) ρ u (d j c u b a)) λj c u b a=>tZ (auO.1 i c (auI b)) ρ u (o j c u b a)
 ·exact tZ h
def anM(h:vEq i Q=true):i=Q:=by
 unfold vEq at h;split at h
 ·simp only[aup,avn,tR]at h
  obtain⟨rfl,rfl⟩:=h;rfl
 ·simp at h;rw[h]
 ·rfl
 ·rfl
 ·rfl
 ·rfl
 ·rfl
 ·rw[ep h]
 ·cases h
def L0(h:agY c o=true):c=o:=by
 unfold agY at h;split at h
 ·rw[anM h]
 ·simp at h;rw[h.1,h.2]
 ·simp at h;rw[h.1.1.1,h.1.1.2,h.1.2,h.2]
 ·simp at h;rw[h]
 ·cases h
def Ag:∀{l m:Do CV},TN l m=true->l=m
 |[],[],_=>rfl
 |a::l,b::m,h=>by
  simp only[TN,aup]at h;rw[L0 h.1,Ag h.2]
 |[],_::_,h=>by cases h
 |_::_,[],h=>by cases h
def ag5(h:cEq c o=true):c=o:=by
 unfold cEq at h;split at h
 ·rw[Ag h]
 ·rw[Ag h]
 ·simp only[aup]at h
  rw[ep h.1.1,Ag h.1.2,Ag h.2]
 ·exact L0 h
def L1:∀{l m:Tr CV},agZ l m=true->l=m
 |.lf,.lf,_=>rfl
 |.nd l x r,.nd f b g,h=>by
  simp only[agZ,aup]at h;obtain⟨⟨c,a⟩,d⟩:=h;have e:x=b:=by
   cases x<;>cases b<;>simp at a
   ·rfl
   ·rw[L0 a]
  rw[L1 c,L1 d,e]
 |.lf,.nd ..,h=>by cases h
 |.nd ..,.lf,h=>by cases h
def YD{x y:At c5}(h:ajW x y=true):x=y:=by
 unfold ajW at h;split at h
 ·simp at h
  obtain⟨⟨⟨a,b⟩,c⟩,d⟩:=h;rw[L1 a,b,c,d]
 ·simp at h
  rw[h.1,h.2]
 ·cases h
end
end
section
open Go Go.RowKit MapKept
section
variable{P:Fd}{Dk:Deferred->Prop}{w0:GE}{T:EQ->bu}
structure TX(l:bp):Prop where
 back:∀(j:Nat) o,l[j]? =some o->∀e∈o.after,Region.binds .any e=true->e.on<j
 inj:xx l=true
 see:∀(i j:Nat) p o x,l[i]? =some p->l[j]? =some o->x∈tmpsOf o->p.dst=some x->i=j\/oL l i j=true
 gd:∀(j:Nat) o g,l[j]? =some o->o.guard=some g->cW l j g.1=true/\g.1≠j
 row:∀(i j:Nat) p o,l[i]? =some p->l[j]? =some o->e8 p.op=2->e8 o.op=2->i=j\/oL l i j=true
 rd:∀(i j:Nat) o p,l[i]? =some o->l[j]? =some p->e8 o.op=1->e8 p.op=2->oL l i j=false->∀(i':Nat) q x,l[i']? =some q->x∈tmpsOf o->q.dst=some x->cW l i i'=true/\i'≠i
def xe{o p:Oper}(a:g[b]? =some o)(c:g[d]? =some p)(e:e8 o.op=1)(f:e8 p.op=2)(h:oL g b d=false):(b,d)∈G4 g:=by
 refine avI.2 ⟨b,avr.2 (aus.1 a).1,ax9.2 ⟨d,avr.2 (aus.1 c).1,?_⟩⟩;simp[a,c,e,f,h]
def TU{o p:Oper}(a:g[b]? =some o)(c:g[d]? =some p)(e:e8 o.op=0)(f:e8 p.op=2)(i:b<d)(h:cW g d b=false):(b,d)∈ag0 g:=by
 refine avI.2 ⟨b,avr.2 (aus.1 a).1,ax9.2 ⟨d,avr.2 (aus.1 c).1,?_⟩⟩;have:blt b d=true:=ayD i;simp[a,c,e,f,h,this]
def aj1(h:anH g=true):TX g:=by
 unfold anH at h;simp only[aup]at h;obtain⟨⟨⟨⟨v,w⟩,s⟩,y⟩,z⟩:=h;have d:∀{j:Nat} {o},g[j]? =some o->j∈List.range g.length:=λ{j o} b=>avr.2 (aus.1 b).1;refine⟨λj o b e C A=>by have:=uk v j o b e C A;omega,w,λi j p o x c b m l=>?_,λj o a b D=>?_,λi j p o c b f k=>?_,λi j o p b c f k B E q x u m l=>?_⟩
 ·have:=auO.1 s j (d b)
  simp only[b,aup]at this;have:=auO.1 (auO.1 this.1 x m) i (d c);simp only[c,l]at this;simpa using this
 ·have:=auO.1 s j (d b)
  simp only[b,D,aup]at this;exact⟨this.2.1,jh (by simpa using this.2.2)⟩
 ·have:=auO.1 (auO.1 y j (d b)) i (d c)
  simp only[b,c,f,k]at this;simpa using this
 ·have:=auO.1 z _ (xe b c f k B)
  simp only[b]at this;have:=auO.1 (auO.1 this x m) E (d u);simp only[u,l,avm,aup]at this;rcases this with h|h
  ·simp at h
  ·exact⟨h.1,jh (by simpa using h.2)⟩
def TX.le(l:TX g)(h:cW g d b=true):b<=d:=by
 have a:mB g (λk=>decide (k<=d)):=λk o j i e f c=>by
  have m:=l.back k o j e f c;have p:k<=d:=by simpa using i
  simp only[avn];omega
 have:=eR a d b h d5;simpa using this
def wb(a:bp)(i:Nat):Prop:=∃o,a[i]? =some o/\e8 o.op=2
def CE(P:Fd)(w0:GE)(a:bp)(o:Oper)(t:Tr CV)(h:Tr c5):Prop:=CD a o.guard (t.res (nz a o)) false\/∃d c,o.dst=some d/\t.get d=some c/\PK P w0 o (t.res (nz a o)) h c
structure JP(P:Program)(Dk:Deferred->Prop)(w0:World)(ops:bp)(ts:Nat->Tr CV)(hs:Nat->Tr c5)(ns:Nat->Nat):Prop where
 ky:∀(i:Nat) o,ops[i]? =some o->TQ P Dk w0 ops o (ts i) (hs i) (ns i) (ts (i+1)) (hs (i+1)) (ns (i+1))
 mono:∀(i:Nat),i<ops.length->ns i<=ns (i+1)
 made:∀(i j:Nat) p o,ops[i]? =some p->ops[j]? =some o->e8 p.op=0->e8 o.op=2->i<j->cW ops j i=false->ns i=ns (i+1)\/(hs (i+1)).get (ns i)=(hs (j+1)).get (ns i)
 rd:∀(i j:Nat) o p,ops[i]? =some o->ops[j]? =some p->e8 o.op=1->e8 p.op=2->oL ops i j=false->CE P w0 ops o (ts ops.length) (hs j)/\CE P w0 ops o (ts ops.length) (hs (j+1))
 bl:∀(i j:Nat) o p d c,ops[i]? =some o->ops[j]? =some p->e8 o.op=1->e8 p.op=2->oL ops i j=false->o.dst=some d->(ts ops.length).get d=some c->Bel (ns i) c
section
variable{t:Tr CV}{h:Tr c5}{n:Nat}{R:Type}{r:R}{ID:FuncId->In}{call:KC R}
def JQ(w:gG P T)(s:∀b o u,GT b o u->w0.cell? ⟨b,o,none⟩=some u)(v:j0 Dk ID)(x:gP P w0 call){o:Oper}(i:e8 o.op=1){k:At R}(e:sameAt T ID call g o t n h k=some r):k=some r/\CE P w0 g o t h:=by
 unfold sameAt at e;rw[G5 (YB (ops:=g) (o:=o))]at e;rcases QZ e with⟨f,l⟩|⟨f,l⟩
 ·obtain⟨d,z,B⟩:=bH f
  obtain⟨G,y,j⟩:=bH B;rw[Q1 (YA (ops:=g) (o:=o))]at j;obtain⟨p,J,F,E,m,q⟩:=o;obtain⟨c,H,I,a,C⟩:=ag3 (d:=p) (ty:=F) (pos:=E) (af:=m) (gd:=q) w s v x j;obtain⟨A,D⟩:=bj C;obtain rfl:=ag5 A;unfold jF at a;simp only at i;rw[i]at a;exact⟨D,.inr ⟨d,c,z,y,a.2.2⟩⟩
 ·exact⟨f,.inl l⟩
def YE(w:gG P T)(s:∀b o u,GT b o u->w0.cell? ⟨b,o,none⟩=some u)(v:j0 Dk ID)(y:gP P w0 call){a:bp}{c:Acc}{k:At R}:∀{l:bI},(∀p∈l,∀o,a[p.1]? =some o->e8 o.op=1)->aqQ T ID call a c t n l k=some r->
 k=some r/\∀p∈l,∀o,a[p.1]? =some o->∀e∈c,e.1=p.2->CE P w0 a o t e.2.1.2/\CE P w0 a o t e.2.2.2
 |[],_,f=>⟨f,λp O=>by cases O⟩
 |p::l,G,f=>by
  obtain⟨o,I,g⟩:=bH f;have H:=G p d5 o I;have Q:∀{c:Acc} {j:At R},(List.rec (motive:=λ_=>At R) j (λe _ M=>bB (beq e.1 p.2) (sameAt T ID call a o t n e.2.1.2 (sameAt T ID call a o t n e.2.2.2 M)) M) c:At R)=some r->
   j=some r/\∀e∈c,e.1=p.2->CE P w0 a o t e.2.1.2/\CE P w0 a o t e.2.2.2:=by
   intro c
   induction c with
   |nil=>intro j f;exact⟨f,λe i=>by cases i⟩
   |cons e c L=>
    intro j f;rcases dE f with⟨x,g⟩|⟨x,g⟩
    ·obtain⟨A,D⟩:=JQ w s v y H g
     obtain⟨B,E⟩:=JQ w s v y H A;obtain⟨C,F⟩:=L B;exact⟨C,λm z d=>(auT.1 z).elim (λq=>by subst q;exact⟨D,E⟩) (λq=>F m q d)⟩
    ·obtain⟨C,F⟩:=L g
     refine⟨C,λm z d=>(auT.1 z).elim (λq=>?_) (λq=>F m q d)⟩;subst q;rw[d]at x;simp at x
  obtain⟨A,D⟩:=Q g;obtain⟨B,E⟩:=YE w s v y (λq d=>G q (by simp[d])) A;refine⟨B,λq d S J e i K=>(auT.1 d).elim (λN=>?_) (λU=>E q U S J e i K)⟩;subst N;obtain rfl:=aut (I.symm.trans J);exact D e i K
def YF(E:gG P T)(C:∀b o u,GT b o u->w0.cell? ⟨b,o,none⟩=some u)(D:j0 Dk ID)(F:gP P w0 call){c:bp}{k:Acc->KK R}:∀(l:bp) (i:Nat) {t:Tr CV} {h:Tr c5} {n:Nat} {m:Acc},c.drop i=l->aqR T ID call c l i m k t h n=some r->
 ∃(g:Nat->Tr CV) (d:Nat->Tr c5) (f:Nat->Nat) (p:Acc),g i=t/\d i=h/\f i=n/\(∀(j:Nat) o,i<=j->c[j]? =some o->TQ P Dk w0 c o (g j) (d j) (f j) (g (j+1)) (d (j+1)) (f (j+1)))/\
  (∀(j:Nat),i<=j->j<c.length->(j,(f j,d j),(f (j+1),d (j+1)))∈p)/\(∀e∈m,e∈p)/\k p (g c.length) (d c.length) (f c.length)=some r
 |[],i,t,h,n,m,q,y=>by
  have z:c.length<=i:=List.drop_eq_nil_iff.1 q;exact⟨λ_=>t,λ_=>h,λ_=>n,m,rfl,rfl,rfl,λj o w s=>by have:=(aus.1 s).1;omega,λj w z=>by omega,λe v=>v,y⟩
 |o::l,i,t,h,n,m,q,y=>by
  obtain⟨W,S,V,d,L⟩:=G6 E C D F y;have K:c.drop (i+1)=l:=by rw[<-awc,q];rfl
  have s:c[i]? =some o:=by
   have:=auA (·[0]?) q;simpa using this
  have U:=(aus.1 s).1;obtain⟨g,N,f,p,I,A,B,O,J,H,M⟩:=YF E C D F l (i+1) K L;refine⟨λj=>if j<=i then t else g j,λj=>if j<=i then h else N j,λj=>if j<=i then n else f j,p,d5,d5,d5,λj Q w G=>?_,λj w z=>?_,λe v=>H e (by simp[v]),?_⟩
  ·by_cases x:j=i
   ·subst x
    obtain rfl:=aut (s.symm.trans G);have a:¬j+1<=j:=bv
    simp only[auq,au2,aun a,I,A,B];exact d
   ·have a:¬j<=i:=bv
    have b:¬j+1<=i:=bv
    simp only[aun a,aun b];exact O j Q bv G
  ·by_cases x:j=i
   ·subst x
    have a:¬j+1<=j:=bv
    simp only[auq,au2,aun a,A,B];exact H _ d5
   ·have a:¬j<=i:=bv
    have b:¬j+1<=i:=bv
    simp only[aun a,aun b];exact J j bv z
  ·have a:¬c.length<=i:=bv
   simp only[aun a];exact M
def abc(C:gG P T)(A:∀b o u,GT b o u->w0.cell? ⟨b,o,none⟩=some u)(B:j0 Dk ID)(f:gP P w0 call){k:KK R}(O:Yy T ID call g k t h n=some r):
 TX g/\∃(x:Nat->Tr CV) (v:Nat->Tr c5) (w:Nat->Nat),x 0=t/\v 0=h/\w 0=n/\JP P Dk w0 g x v w/\k (x g.length) (v g.length) (w g.length)=some r:=by
 obtain⟨W,Q⟩:=bj O;have Z:=aj1 W;obtain⟨x,v,w,a0,F,G,H,Y,s,_,S⟩:=YF C A B f g 0 rfl Q;obtain⟨y,U⟩:=bj S;simp only[aup]at y;have K:∀p∈G4 g,∀o,g[p.1]? =some o->e8 o.op=1:=λp a o e=>by
  obtain⟨i,E,a⟩:=avI.1 a;obtain⟨j,hj,a⟩:=ax9.1 a;split at a
  ·rename_i o1 p1 q h2
   split at a
   ·rename_i D
    cases a;obtain rfl:=aut (q.symm.trans e);simp only[aup]at D;exact ep D.1.1
   ·cases a
  ·cases a
 obtain⟨V,X⟩:=YE C A B f K U;have z:∀{i:Nat} {o},g[i]? =some o->i<g.length:=λe=>(aus.1 e).1;refine⟨Z,x,v,w,F,G,H,⟨λi o e=>Y i o (auS _) e,λi E=>?_,λi j p o a e l m N I=>?_,λi j o p e a l m f=>?_,λi j o p d c e a l m f L J=>?_⟩,V⟩
 ·have:=auO.1 y.2 _ (s i (auS _) E)
  simp only[aup]at this;exact auw this.1
 ·have:=auO.1 y.1 _ (TU a e l m N I)
  have:=auO.1 this _ (s i (auS _) (z a));simp only[avm,auX,auH,av4,false_or]at this;rcases this with q|q
  ·exact .inl (ep q)
  ·have:=auO.1 q _ (s j (auS _) (z e))
   simp only[avm,auX,auH,av4,false_or]at this;exact .inr (YD this)
 ·exact X _ (xe e a l m f) o e _ (s j (auS _) (z a)) rfl
 ·have:=auO.1 y.2 _ (s i (auS _) (z e))
  simp only[aup]at this;have:=auO.1 this.2 _ (xe e a l m f);have M:pI g i=some d:=by simp[pI,e,L]
  simp only[auX,auH,M,J,ayj]at this;exact aj0 this
end
end
end
variable{J:KH}{G n:Tr c5}
section
open Go Go.RowKit MapKept
section
variable{P:Fd}{Dk:Deferred->Prop}{w0:GE}{T:EQ->bu}
def TQ.non{ops:bp}{o:Oper}{t s:Tr CV}{h i:Tr c5}(hs:TQ P Dk w0 ops o t h b s i d)(p:e8 o.op≠2):∃e,d=Ac b e/\(∀k,i.get k=u0 h.get b e k)/\(e≠none->e8 o.op=0):=by
 cases hs with
 |run c l x u r f q=>
  unfold jF at f;split at f
  ·rename_i g
   obtain⟨v,e,_,l,n,_⟩:=f;exact⟨e,l,n,λ_=>g⟩
  ·obtain⟨rfl,rfl,_⟩:=f
   exact⟨none,rfl,λ_=>rfl,λh=>absurd rfl h⟩
  ·rename_i g m
   exfalso;have:e8 o.op=0\/e8 o.op=1\/e8 o.op=2:=by
    unfold e8;split<;>simp
   rcases this with h|h|h
   ·exact g h
   ·exact m h
   ·exact p h
 |skip u r q=>exact⟨none,rfl,λ_=>rfl,λh=>absurd rfl h⟩
def TQ.keep{ops:bp}{o:Oper}{t h:Tr CV}(hs:TQ P Dk w0 ops o t n b h G d)(f:e8 o.op≠2)(i:u<b):G.get u=n.get u:=by
 obtain⟨g,_,e,_⟩:=hs.non f;rw[e];cases g with
 |none=>rfl
 |some c=>exact aun bv
def TQ.put{ops:bp}{o:Oper}{t f:Tr CV}(hs:TQ P Dk w0 ops o t n b f G d):∃c,C3 o.dst c t f:=by
 cases hs with
 |run c i l h g k e=>exact⟨c,e⟩
 |skip h g e=>exact⟨_,e⟩
section
variable{ops:bp}{ts:Nat->Tr CV}{hs:Nat->Tr c5}{ns:Nat->Nat}
def JP.le(c:JP P Dk w0 ops ts hs ns){a b:Nat}(h:a<=b)(f:b<=ops.length):ns a<=ns b:=by
 induction b with
 |zero=>obtain rfl:a=0:=by omega
        exact auq _
 |succ b d=>
  by_cases e:a=b+1
  ·subst e;exact auq _
  ·exact avl (d bv bv) (c.mono b bv)
def JP.va(q:JP P Dk w0 ops ts hs ns){x a b:Nat}(h:a<=b)(t:b<=ops.length)(g:∀i,a<=i->i<b->∀o,ops[i]? =some o->o.dst≠some x):(ts b).get x=(ts a).get x:=by
 induction b with
 |zero=>obtain rfl:a=0:=by omega
        rfl
 |succ b r=>
  by_cases e:a=b+1
  ·subst e;rfl
  ·have n:b<ops.length:=bv
   have k:ops[b]? =some ops[b]:=auy n;rw[<-r bv bv λi m s=>g i m bv];obtain⟨c,l⟩:=(q.ky b _ k).put;have p:=g b bv bv _ k;cases f:(ops[b]).dst with
   |none=>rw[l.1 f]
   |some d=>
    rw[(l.2 d f).2 x,aun];intro e;subst e;exact p f
def JP.Ua(f:JP P Dk w0 ops ts hs ns){k a b:Nat}(h:a<=b)(r:b<=ops.length)(c:∀i,a<=i->i<b->¬wb ops i)(m:k<ns a):(hs b).get k=(hs a).get k:=by
 induction b with
 |zero=>obtain rfl:a=0:=by omega
        rfl
 |succ b p=>
  by_cases e:a=b+1
  ·subst e;rfl
  ·have n:b<ops.length:=bv
   have d:ops[b]? =some ops[b]:=auy n;rw[<-p bv bv λi g q=>c i g bv];exact(f.ky b _ d).keep (λl=>c b bv bv ⟨_,d,l⟩) (awq m (f.le bv bv))
def JP.ak7(t:JP P Dk w0 ops ts hs ns){a b:Nat}(h:a<=b)(y:b<=ops.length)(f:∀i,a<=i->i<b->¬wb ops i)(d:∀k,ns a<=k->(hs a).get k=none):∀k,ns b<=k->(hs b).get k=none:=by
 induction b with
 |zero=>obtain rfl:a=0:=by omega
        exact d
 |succ b u=>
  by_cases e:a=b+1
  ·subst e;exact d
  ·have s:b<ops.length:=bv
   have g:ops[b]? =some ops[b]:=auy s;have l:=u bv bv λi q x=>f i q bv;obtain⟨v,n,p,_⟩:=(t.ky b _ g).non (λr=>f b bv bv ⟨_,g,r⟩);intro k c;rw[p];rw[n]at c;cases v with
   |none=>exact l k c
   |some m=>
    have:ns b+1<=k:=c;show(if k=ns b then some m else(hs b).get k)=none;rw[aun bv];exact l k bv
def Gd(ops:bp)(ns:Nat->Nat)(S:Nat->In)(k x:Nat):Prop:=x<=ops.length/\k<ns x/\(∀i,wb ops i->S i=true->i<x)/\∀i,wb ops i->i<x->S i=false->ns i<=k
structure kx(P:Program)(Dk:Deferred->Prop)(w0:World)(ops:bp)(ts:Nat->Tr CV)(hs:Nat->Tr c5)(ns:Nat->Nat)(ρ0:Nm)(a0:Act)(ws:World)(S:Nat->Bool)(ρ:Nm)(C:KH)(a:Act)(w:World):Prop where
 kp:KP P w0 ρ0 (hs 0).get (ns 0) ws ρ C (ns ops.length) w
 t1:∀(i:Nat) o x c,ops[i]? =some o->o.dst=some x->S i=true->(ts ops.length).get x=some c->∃v,a.tmps[x]? =some v/\KR (Nm.cut ρ (ns (i+1))) c v
 t0:∀x c,(∀(i:Nat) o,ops[i]? =some o->o.dst=some x->S i=false)->(ts 0).get x=some c->∃v,a.tmps[x]? =some v/\KR (Nm.cut ρ (ns 0)) c v
 hg:∀k x,(k<ns 0\/ρ k≠none)->Gd ops ns S k x->C k=(hs x).get k
 hb:∀k x y,ρ k≠none->Gd ops ns S k x->(hs x).get k=some y->G7 P (ns x) y
 DZ:∀x,x<=ops.length->(∀i,i<x->wb ops i->S i=true)->∀k,ns x<=k->(hs x).get k=none
 own:∀k,ρ k≠none->k<ns 0\/∃i,i<ops.length/\S i=true/\ns i<=k/\k<ns (i+1)
 df:Df Dk a0 a
variable{ρ0 ρ:Nm}{a0 a:Act}{ws w:GE}{S:Nat->In}{C:KH}
def kx.at(r:JP P Dk w0 ops ts hs ns)(d:kx P Dk w0 ops ts hs ns ρ0 a0 ws S ρ C a w){x:Nat}(g:x<=ops.length)(p:∀i,wb ops i->S i=true->i<x)(l:∀i,i<x->wb ops i->S i=true):
 (∀k,k<ns x->(k<ns 0\/ρ k≠none)->(hs x).get k=C k)/\HR P w0 (Nm.cut ρ (ns x)) (hs x).get (ns x) w/\HR P w0 ρ (hs x).get (ns ops.length) w:=by
 have m:∀k,k<ns x->Gd ops ns S k x:=λk b=>⟨g,b,p,λi q c n=>by rw[l i c q]at n;cases n⟩;have f:∀k,k<ns x->(k<ns 0\/ρ k≠none)->(hs x).get k=C k:=λk b c=>(d.hg k x c (m k b)).symm;have h:=d.DZ x g l;refine⟨f,d.kp.hr.sub (λk b c=>f k b (.inr c)) (λk y b c e=>d.hb k x y c (m k b) e) h,d.kp.hr.same (λk y c e=>?_) h (r.le g (auq _))⟩;by_cases b:k<ns x
 ·rw[<-f k b (.inr c)];exact e
 ·rw[h k bv]at e;cases e
section
variable{j:Nat}{o:Oper}
structure Rdy(ops:bp)(S:Nat->Bool)(j:Nat):Prop where
 no:S j=false
 ah:∀i,cW ops j i=true->i≠j->S i=true
 be:∀i,S i=true->cW ops i j=false
 cl:∀i i',S i'=true->cW ops i' i=true->S i=true
def Rdy.of(q:ops[j]? =some o)(d:mB ops S)(f:S j=false)(r:∀e∈o.after,Region.binds .any e=true->S e.on=true):Rdy ops S j:=by
 have p:mB ops (λi=>S i||i==j):=λi t l g e k b=>by
  by_cases c:i=j
  ·subst c
   obtain rfl:=aut (q.symm.trans l);simp[r e k b]
  ·have:S i=true:=by simpa[c]using g
   simp[d i t l this e k b]
 refine⟨f,λi b c=>?_,λi g=>?_,λi s m n=>eR d s i n m⟩
 ·have:=eR p j i b d5
  simpa[c]using this
 ·cases h:cW ops i j with
  |false=>rfl
  |true=>rw[eR d i j h g]at f;cases f
def kx.free(c:JP P Dk w0 ops ts hs ns)(g:kx P Dk w0 ops ts hs ns ρ0 a0 ws S ρ C a w)(f:Rdy ops S j)(t:j<ops.length):∀k,ns j<=k->k<ns (j+1)->ρ k=none:=λk m n=>by
 cases l:ρ k with
 |none=>rfl
 |some p=>
  exfalso;rcases g.own k (by rw[l];simp)with h|⟨i,s,d,q,r⟩
  ·have:=c.le (auS j) bv
   omega
  ·rcases avU i j with e|e|e
   ·have:=c.le (a:=i+1) (b:=j) bv bv
    omega
   ·subst e;rw[f.no]at d;cases d
   ·have:=c.le (a:=j+1) (b:=i) bv bv
    omega
def kx.aqU(t:TX ops)(s:JP P Dk w0 ops ts hs ns)(D:kx P Dk w0 ops ts hs ns ρ0 a0 ws S ρ C a w)(z:Rdy ops S j)(E:ops[j]? =some o):ny (Nm.cut ρ (ns j)) ((ts j).res (nz ops o)) a:=by
 have O:=(aus.1 E).1;intro x c n;rw[Tr.nV]at n;have A:nz ops o x=true:=by
  cases h:nz ops o x with
  |true=>rfl
  |false=>rw[h]at n;cases n
 rw[auo A]at n;have M:∀(i:Nat) p,ops[i]? =some p->p.dst=some x->i=j\/oL ops i j=true:=λi p q r=>by
  unfold nz at A;rw[avm]at A;rcases A with h|h
  ·exact t.see i j p o x q E (ayY.1 h) r
  ·split at h
   ·rename_i g K
    obtain⟨b,f,k⟩:=awF.1 (by simpa using h:pI ops g.1=some x);have J:=t.gd j o g E K;obtain rfl:i=g.1:=gX t.inj i g.1 p b x q f r k;exact .inr (by simp[oL,J.1])
   ·cases h
 by_cases B:∃(i:Nat) (p:Oper),ops[i]? =some p/\p.dst=some x
 ·obtain⟨i,p,q,r⟩:=B
  have N:=(aus.1 q).1;have G:∀d b,ops[d]? =some b->b.dst=some x->d=i:=λd b f k=>gX t.inj d i b p x f q k r;have F:S i=false->j<=i->∃u,a.tmps[x]? =some u/\KR (Nm.cut ρ (ns j)) c u:=λy L=>by
   rw[s.va (auS j) bv λd f k b l m=>by have:=G d b l m;omega]at n;obtain⟨v,f,k⟩:=D.t0 x c (λd b l m=>by rw[G d b l m];exact y) n;exact⟨v,f,k.mono (Nm.LY ρ (s.le (auS j) bv))⟩
  rcases M i p q r with e|e
  ·subst e;exact F z.no (auq _)
  ·simp only[oL,avm]at e
   by_cases H:i=j
   ·subst H;exact F z.no (auq _)
   rcases e with e|e
   ·have y:=z.ah i e H
    have L:=t.le e;have I:(ts ops.length).get x=some c:=by
     rw[s.va (a:=j) bv (auq _) λd f k b l m=>by have:=G d b l m;omega];exact n
    obtain⟨v,f,k⟩:=D.t1 i p x c q r y I;exact⟨v,f,k.mono (Nm.LY ρ (s.le bv bv))⟩
   ·have y:S i=false:=by
     cases h:S i with
     |false=>rfl
     |true=>rw[z.be i h]at e;cases e
    exact F y (t.le e)
 ·rw[s.va (auS j) bv λd f k b l m=>B ⟨d,b,l,m⟩]at n
  obtain⟨v,f,k⟩:=D.t0 x c (λd b l m=>absurd ⟨d,b,l,m⟩ B) n;exact⟨v,f,k.mono (Nm.LY ρ (s.le (auS j) bv))⟩
def kx.next(A:TX ops)(K:JP P Dk w0 ops ts hs ns)(v:kx P Dk w0 ops ts hs ns ρ0 a0 ws S ρ C a w)(U:Rdy ops S j)(h:ops[j]? =some o)(Y:C3 o.dst c (ts j) (ts (j+1))){D:u_}
 (H:Bp ρ m) (hv:KR (Nm.cut m (ns (j+1))) c Q) (N:∀d∈D,Dk d)
 (kp:KP P w0 ρ0 (hs 0).get (ns 0) ws m J (ns ops.length) k)
 (W:∀b x,(b<ns 0\/m b≠none)->Gd ops ns (λi=>S i||i==j) b x->J b=(hs x).get b)
 (R:∀b x y,m b≠none->Gd ops ns (λi=>S i||i==j) b x->(hs x).get b=some y->G7 P (ns x) y)
 (a2:∀x,x<=ops.length->(∀i,i<x->wb ops i->(S i||i==j)=true)->∀b,ns x<=b->(hs x).get b=none)
 (own:∀b,m b≠none->b<ns 0\/∃i,i<ops.length/\(S i||i==j)=true/\ns i<=b/\b<ns (i+1)):
 kx P Dk w0 ops ts hs ns ρ0 a0 ws (λi=>S i||i==j) m J (({a with defers:=D++a.defers}:Act).put o.dst Q) k:=by
 have a3:=(aus.1 h).1;have L:∀{x},o.dst≠some x->(({a with defers:=D++a.defers}:Act).put o.dst Q).tmps[x]? =a.tmps[x]? :=λ{x} z=>by
  cases V:o.dst with
  |none=>rfl
  |some d=>
   rw[V]at z;simp only[Act.put];rw[axG (λe=>z (by rw[e]))]
 refine⟨kp,λi p x B F l Z r=>?_,λx B I r=>?_,W,R,a2,own,v.df.trans ⟨D,N,by rw[put_defers]⟩⟩
 ·by_cases E:i=j
  ·subst E
   obtain rfl:=aut (h.symm.trans F);obtain⟨⟨M,G⟩,O⟩:=Y.2 x l;rw[K.va (a:=i+1) bv (auq _) λs n q t f g=>by have:=gX A.inj s i t o x f h g l;omega,O x,auo rfl]at r;cases r;rw[K.va (a:=0) (auS _) bv λs n q t f g=>by have:=gX A.inj s i t o x f h g l;omega]at G;obtain⟨u,hu,_⟩:=v.t0 x M (λs t f g=>by rw[gX A.inj s i t o x f h g l];exact U.no) G;have X:=(au9.1 hu).1;exact⟨Q,by rw[l];simp[Act.put,X],hv⟩
  ·have a1:S i=true:=by simpa[E]using Z
   rw[L λe=>E (gX A.inj i j p o x F h l e)];obtain⟨u,n,q⟩:=v.t1 i p x B F l a1 r;exact⟨u,n,q.mono (H.cut _)⟩
 ·have z:o.dst≠some x:=λe=>by have:=I j o h e;simp at this
  rw[L z];obtain⟨u,n,q⟩:=v.t0 x B (λi p f g=>by have:=I i p f g;simp at this;exact this.1) r;exact⟨u,n,q.mono (H.cut _)⟩
end
end
end
end
section
open Go Go.RowKit MapKept
section
variable{P:Fd}{Dk:Deferred->Prop}{w0:GE}{T:EQ->bu}
section
variable{ops:bp}{ts:Nat->Tr CV}{hs:Nat->Tr c5}{ns:Nat->Nat}{ρ0 ρ ρ1:Nm}{a0 a:Act}{ws w w1:GE}{S:Nat->In}{C:KH}{j:Nat}{o:Oper}{c:CV}{v:Id}{D:u_}
def kx.ag6(hx:TX ops)(l:JP P Dk w0 ops ts hs ns)(n:kx P Dk w0 ops ts hs ns ρ0 a0 ws S ρ C a w)(I:Rdy ops S j)(z:ops[j]? =some o)(hp:C3 o.dst c (ts j) (ts (j+1)))(a3:e8 o.op≠2){nb:At c5}(t:ns (j+1)=Ac (ns j) nb)
 (hh:∀k,(hs (j+1)).get k=u0 (hs j).get (ns j) nb k) (a8:nb≠none->e8 o.op=0) (B:KP P w0 (Nm.cut ρ (ns j)) (λ_=>none) (ns j) w ρ1 (u0 (λ_=>none) (ns j) nb) (Ac (ns j) nb) w1)
 (hv:KR ρ1 c v) (hD:∀d∈D,Dk d):∃ρ2 Z,kx P Dk w0 ops ts hs ns ρ0 a0 ws (λi=>S i||i==j) ρ2 Z (({a with defers:=D++a.defers}:Act).put o.dst v) w1:=by
 have J:=(aus.1 z).1;have a4:=n.free l I J;have ad:=l.mono j J;have a1:=l.le (auS j) bv;have a5:=l.le (a:=j+1) bv (auq _);rw[<-t]at B;obtain⟨kp,l1,l2⟩:=n.kp.add B a1 a5 a4;have W:∀{i},wb ops i->i≠j:=λ{i} f e=>by
  subst e;obtain⟨o',r,V⟩:=f;obtain rfl:=aut (z.symm.trans r);exact a3 V
 have M:∀k,¬(ns j<=k/\k<ns (j+1))->xd (ns (j+1)) ρ1 ρ k=ρ k:=λk g=>by
  by_cases h:k<ns (j+1)
  ·rw[eA h,B.ro k bv,Nm.iV bv]
  ·rw[hS bv]
 have U:∀{k x},Gd ops ns (λi=>S i||i==j) k x->Gd ops ns S k x:=λ{k x} ⟨O,Q,R,G⟩=>⟨O,Q,λi f L=>R i f (by simp[L]),λi f m L=>G i f m (by simp[L,W f])⟩;have Y:∀{k x},ns j<=k->k<ns (j+1)->Gd ops ns (λi=>S i||i==j) k x->j+1<=x/\(hs x).get k=u0 (λ_=>none) (ns j) nb k:=λ{k x} r V ⟨O,Q,R,G⟩=>by
  have X:j+1<=x:=by
   by_cases h:x<=j
   ·have:=l.le h bv;omega
   ·omega
  cases u:nb with
  |none=>rw[u]at t;simp only[Ac]at t;omega
  |some b=>
   have g:k=ns j:=by rw[u]at t;simp only[Ac]at t;omega
   have h0:=a8 (by rw[u];simp);refine⟨X,?_⟩;have N:(hs (j+1)).get k=some b:=by rw[hh,u];exact auo g
   have ac:∀y,j+1<=y->y<=x->(hs y).get k=some b:=by
    intro y A ae
    induction y with
    |zero=>omega
    |succ y ih=>
     by_cases e:y=j
     ·subst e;exact N
     ·have ab:=ih bv bv
      have a7:y<ops.length:=bv
      have K:ops[y]? =some ops[y]:=auy a7;have a6:k<ns y:=by have:=l.le (a:=j+1) (b:=y) bv bv;omega
      by_cases H:e8 (ops[y]).op=2
      ·have f:wb ops y:=⟨_,K,H⟩
       have a9:S y=true:=by
        cases h:S y with
        |true=>rfl
        |false=>have:=G y f bv (by simp[h,e]);omega
       rcases l.made j y o _ z K h0 H bv (I.be y a9)with h|h
       ·omega
       ·rw[<-g]at h
        rw[<-h];exact N
      ·rw[(l.ky y _ K).keep H a6];exact ab
   rw[ac x X (auq _)];exact(auo g).symm
 refine⟨_,_,n.next hx l I z hp l2 (hv.mono λk p g=>?_) hD kp (λk x m s=>?_) (λk x y m s A=>?_) (λx aa a2=>n.DZ x aa λi r f=>?_) (λk g=>?_)⟩
 ·have:=B.hr.lt g
  rw[Nm.iV this];exact l1 k p g
 ·by_cases h:ns j<=k/\k<ns (j+1)
  ·rw[auo h]
   exact(Y h.1 h.2 s).2.symm
  ·rw[aun h]
   rw[M k h]at m;exact n.hg k x m (U s)
 ·by_cases h:ns j<=k/\k<ns (j+1)
  ·obtain⟨E,F⟩:=Y h.1 h.2 s
   rw[eA h.2]at m;rw[F]at A;obtain⟨q,hq⟩:=axC.1 m;exact((B.hr.ob k y q.1 q.2 A hq).Hv B.hr.top).mono (l.le E s.1)
  ·rw[M k h]at m
   exact n.hb k x y m (U s) A
 ·have:=a2 i r f
  simpa[W f]using this
 ·by_cases h:ns j<=k/\k<ns (j+1)
  ·exact .inr ⟨j,J,d5,h.1,h.2⟩
  ·rw[M k h]at g
   rcases n.own k g with r|⟨i,E,F,e3⟩
   ·exact .inl r
   ·exact .inr ⟨i,E,by simp[F],e3⟩
def Rdy.row(g:TX ops)(f:Rdy ops S j)(b:wb ops j):(∀i,wb ops i->S i=true->i<j)/\∀i,i<j->wb ops i->S i=true:=by
 obtain⟨o,q,m⟩:=b;have h:∀i,wb ops i->i=j\/oL ops i j=true:=λi ⟨p,k,l⟩=>g.row i j p o k q l m;refine⟨λi b d=>?_,λi r b=>?_⟩
 ·rcases h i b with e|e
  ·subst e;rw[f.no]at d;cases d
  ·simp only[oL,avm]at e
   rcases e with e|e
   ·by_cases n:i=j
    ·subst n;rw[f.no]at d;cases d
    ·have:=g.le e;omega
   ·rw[f.be i d]at e;cases e
 ·rcases h i b with e|e
  ·omega
  ·simp only[oL,avm]at e
   rcases e with e|e
   ·exact f.ah i e bv
   ·have:=g.le e;omega
def kx.ak8(R:TX ops)(l:JP P Dk w0 ops ts hs ns)(m:kx P Dk w0 ops ts hs ns ρ0 a0 ws S ρ C a w)(I:Rdy ops S j)(K:ops[j]? =some o)(hp:C3 o.dst c (ts j) (ts (j+1)))(a3:e8 o.op=2)
 (B:KP P w0 (Nm.cut ρ (ns j)) (hs j).get (ns j) w ρ1 (hs (j+1)).get (ns (j+1)) w1)
 (hv:KR ρ1 c v) (hD:∀d∈D,Dk d):∃ρ2 Y,kx P Dk w0 ops ts hs ns ρ0 a0 ws (λi=>S i||i==j) ρ2 Y (({a with defers:=D++a.defers}:Act).put o.dst v) w1:=by
 have J:=(aus.1 K).1;have Q:wb ops j:=⟨o,K,a3⟩;have a4:=m.free l I J;have a6:=l.mono j J;have a1:=l.le (auS j) bv;have a5:=l.le (a:=j+1) bv (auq _);obtain⟨M,r2⟩:=I.row R Q;obtain⟨a2,_,_⟩:=m.at l (by omega:j<=ops.length) M r2;obtain⟨kp,l1,l2⟩:=m.kp.merge B a1 a5 a2 a4;have X:∀{k x},k<ns (j+1)->Gd ops ns (λi=>S i||i==j) k x->j+1<=x/\(hs x).get k=(hs (j+1)).get k:=λ{k x} g ⟨E,N,F,G⟩=>by
  have U:j<x:=F j Q d5;refine⟨U,l.Ua U E (λi r H f=>?_) g⟩;have z:S i=false:=by
   cases h:S i with
   |false=>rfl
   |true=>have:=M i f h;omega
  have:=G i f H (by simp[z];omega);have:=l.le (a:=j+1) (b:=i) r bv;omega
 have W:∀{k x},ns (j+1)<=k->Gd ops ns (λi=>S i||i==j) k x->Gd ops ns S k x:=λ{k x} g ⟨E,N,F,G⟩=>⟨E,N,λi f z=>F i f (by simp[z]),λi f n z=>by
  by_cases e:i=j
  ·subst e;omega
  ·exact G i f n (by simp[z,e])⟩
 refine⟨_,_,m.next R l I K hp l2 (hv.mono λk p g=>?_) hD kp (λk x n s=>?_) (λk x y n s L=>?_) (λx V O=>?_) (λk g=>?_)⟩
 ·have:=B.hr.lt g
  rw[Nm.iV this];exact l1 k p g
 ·by_cases h:k<ns (j+1)
  ·rw[eA h]
   exact(X h s).2.symm
  ·rw[hS bv]at n⊢
   exact m.hg k x n (W bv s)
 ·by_cases h:k<ns (j+1)
  ·obtain⟨t,u⟩:=X h s
   rw[eA h]at n;rw[u]at L;obtain⟨q,hq⟩:=axC.1 n;exact((B.hr.ob k y q.1 q.2 L hq).Hv B.hr.top).mono (l.le t s.1)
  ·rw[hS bv]at n
   exact m.hb k x y n (W bv s) L
 ·by_cases h:x<=j
  ·exact m.DZ x V λi r f=>by
    have:=O i r f;have e:i≠j:=bv
    simpa[e]using this
  ·refine l.ak7 (a:=j+1) bv V (λi r H f=>?_) B.hr.DZ
   have:=O i H f;have e:i≠j:=bv
   have:S i=true:=by simpa[e]using this
   have:=M i f this;omega
 ·by_cases h:k<ns (j+1)
  ·by_cases Z:ns j<=k
   ·exact .inr ⟨j,J,d5,Z,h⟩
   ·rw[eA h,B.ro k bv,Nm.iV bv]at g
    rcases m.own k g with r|⟨i,t,u,A⟩
    ·exact .inl r
    ·exact .inr ⟨i,t,by simp[u],A⟩
  ·rw[hS bv]at g
   rcases m.own k g with r|⟨i,t,u,A⟩
   ·exact .inl r
   ·exact .inr ⟨i,t,by simp[u],A⟩
def kx.reads(n:TX ops)(t:JP P Dk w0 ops ts hs ns)(O:kx P Dk w0 ops ts hs ns ρ0 a0 ws S ρ C a w)(H:Rdy ops S j)(s:ops[j]? =some o)(hp:C3 o.dst c (ts j) (ts (j+1)))(L:e8 o.op=1)(hw:CD ops o.guard ((ts j).res (nz ops o)) true)
 (hf:PK P w0 o ((ts j).res (nz ops o)) (hs j) c):∃v,(execOp a.eval o).run P w=.ok (.value v) w/\KR (Nm.cut ρ (ns j)) c v:=by
 have aj:=(aus.1 s).1;have W:=O.aqU n t H s;by_cases K:(∀i,wb ops i->S i=true->i<j)/\∀i,i<j->wb ops i->S i=true
 ·exact hf _ a w _ W (O.at t (by omega:j<=ops.length) K.1 K.2).2.1
 have ac:∀{i},wb ops i->i≠j:=λ{i} Q e=>by
  subst e;obtain⟨o',f,k⟩:=Q;obtain rfl:=aut (s.symm.trans f);omega
 have a4:∀i b,wb ops i->wb ops b->i<b->S b=true->S i=true:=λi b ⟨p,f,k⟩ ⟨G,a5,a6⟩ E ae=>by
  rcases n.row i b p G f a5 k a6 with e|e
  ·omega
  ·simp only[oL,avm]at e
   rcases e with e|e
   ·exact H.cl i b ae e
   ·have:=n.le e;omega
 obtain⟨m,x,Q,ah,M,e1,e2⟩:∃m x,wb ops m/\(x=m\/x=m+1)/\oL ops j m=false/\(∀i,wb ops i->S i=true->i<x)/\∀i,i<x->wb ops i->S i=true:=by
  by_cases Y:∃i,i<ops.length/\(wb ops i/\S i=true/\j<i)
  ·obtain⟨m,ab,⟨F,A,ak⟩,a9⟩:=JX (λi=>wb ops i/\S i=true/\j<i) ops.length Y
   refine⟨m,m+1,F,.inr rfl,?_,λi l z=>?_,λi E l=>?_⟩
   ·cases h:oL ops j m with
    |false=>rfl
    |true=>
     simp only[oL,avm]at h;rcases h with h|h
     ·rw[H.be m A]at h;cases h
     ·have:=n.le h;omega
   ·by_cases h:i<m+1
    ·exact h
    ·exact absurd ⟨l,z,bv⟩ (a9 i bv (by obtain⟨p,f,_⟩:=l;exact(aus.1 f).1))
   ·by_cases h:i=m
    ·subst h;exact A
    ·exact a4 i m l F bv A
  ·have a1:∀i,wb ops i->S i=true->i<j:=λi l z=>by
    by_cases h:i<j
    ·exact h
    ·exact absurd ⟨i,by obtain⟨p,f,_⟩:=l;exact(aus.1 f).1,l,z,by have:=ac l;omega⟩ Y
   obtain⟨i0,h0⟩:∃i,i<j/\wb ops i/\S i=false:=by
    apply Classical.byContradiction;intro R;refine K ⟨a1,λi E l=>?_⟩;cases h:S i with
    |true=>rfl
    |false=>exact absurd ⟨i,E,l,h⟩ R
   have ai:∀i,(i<j/\wb ops i/\S i=false)->∃m,(m<j/\wb ops m/\S m=false)/\∀b,b<m->¬(b<j/\wb ops b/\S b=false):=by
    intro i
    induction i using Nat.strongRecOn with
    |_ i ih=>
     intro h;by_cases hh:∃b,b<i/\(b<j/\wb ops b/\S b=false)
     ·obtain⟨b,f,k⟩:=hh
      exact ih b f k
     ·exact⟨i,h,λb f k=>hh ⟨b,f,k⟩⟩
   obtain⟨m,⟨al,F,A⟩,aa⟩:=ai i0 h0;refine⟨m,m,F,.inl rfl,?_,λi l z=>?_,λi E l=>?_⟩
   ·cases h:oL ops j m with
    |false=>rfl
    |true=>
     simp only[oL,avm]at h;rcases h with h|h
     ·have:=n.le h;omega
     ·have:=H.ah m h bv;rw[A]at this;cases this
   ·rcases avU i m with h|h|h
    ·exact h
    ·subst h;rw[A]at z;cases z
    ·have:=a4 m i F l h z
     rw[A]at this;cases this
   ·cases h:S i with
    |true=>rfl
    |false=>exact absurd ⟨bv,l,h⟩ (aa i E)
 obtain⟨p,I,U⟩:=Q;have ab:=(aus.1 I).1;have af:CE P w0 ops o (ts ops.length) (hs x):=by
  have:=t.rd j m o p s I L U M;rcases ah with e|e
  ·subst e;exact this.1
  ·subst e;exact this.2
 have a7:=(O.at t (by omega:x<=ops.length) e1 e2).2.2;have a3:ny ρ ((ts ops.length).res (nz ops o)) a:=by
  intro y c' B;rw[Tr.nV]at B;have V:nz ops o y=true:=by
   cases h:nz ops o y with
   |true=>rfl
   |false=>rw[h]at B;cases B
  rw[auo V]at B;have ag:∀(i:Nat) q,ops[i]? =some q->q.dst=some y->i<j:=λi q hq a2=>by
   have k:=V;unfold nz at k;rw[avm]at k;rcases k with h|h
   ·have r:=n.rd j m o p s I L U M i q y hq (ayY.1 h) a2
    have:=n.le r.1;omega
   ·split at h
    ·rename_i g hg
     obtain⟨G,f,k⟩:=awF.1 (by simpa using h:pI ops g.1=some y);have r:=n.gd j o g s hg;obtain rfl:i=g.1:=gX n.inj i g.1 q G y hq f a2 k;have:=n.le r.1;omega
    ·cases h
  rw[t.va (a:=j) bv (auq _) λi f k q r J=>by have:=ag i q r J;omega]at B;obtain⟨u,f,k⟩:=W y c' (by rw[Tr.nV,auo V];exact B);exact⟨u,f,k.mono (Nm.LZ ρ _)⟩
 rcases af with R|⟨d,X,N,Z,ad⟩
 ·have f:=hw _ a W o rfl
  have k:=R _ a a3 o rfl;rw[f]at k;cases k
 ·obtain⟨v,f,k⟩:=ad ρ a w _ a3 a7
  have a8:X=c:=by
   have r:=Z;rw[t.va (a:=j+1) bv (auq _) λb f k G r J=>by have:=gX n.inj b j G o d r s J N;omega,(hp.2 d N).2 d,auo rfl]at r;cases r;rfl
  subst a8;exact⟨v,f,t.bl j m o p d X s I L U M N Z ρ v k⟩
end
end
end
variable{t:FuncId->In}
section
open Go Go.RowKit MapKept
section
variable{P:Fd}{Dk:Deferred->Prop}{w0:GE}{T:EQ->bu}
def TQ.inv{ops:bp}{o:Oper}{t g:Tr CV}(hs:TQ P Dk w0 ops o t n b g G d):
 (∃c,CD ops o.guard (t.res (nz ops o)) true/\jF P Dk w0 o (t.res (nz ops o)) n b c G d/\C3 o.dst c t g)\/(G=n/\d=b/\CD ops o.guard (t.res (nz ops o)) false/\C3 o.dst (.v undef) t g):=by
 cases hs with
 |run c k l i f h e=>exact .inl ⟨c,f,h,e⟩
 |skip i f e=>exact .inr ⟨rfl,rfl,f,e⟩
section
variable{ops:bp}{ts:Nat->Tr CV}{hs:Nat->Tr c5}{ns:Nat->Nat}{ρ0 ρ:Nm}{a0 a:Act}{ws w:GE}{S:Nat->In}{C:KH}{j:Nat}{o:Oper}
def kx.step(l:TX ops)(f:JP P Dk w0 ops ts hs ns)(b:kx P Dk w0 ops ts hs ns ρ0 a0 ws S ρ C a w)(g:Rdy ops S j)(d:ops[j]? =some o){next:Act->GE->Prop}{Q:IO->Act->GE->Prop}
 (q:∀Y L I y,kx P Dk w0 ops ts hs ns ρ0 a0 ws (λi=>S i||i==j) Y L I y->next I y):wpOp P ops.toArray Q j next a w:=by
 have a1:=(aus.1 d).1;have u:=b.aqU l f g d;have V:ops.toArray[j]? =some o:=by simpa using d
 unfold wpOp;rw[V];simp only;rcases(f.ky j o d).inv with⟨c,x,m,n⟩|⟨s,t,x,n⟩
 ·rw[x _ a u o rfl,auo rfl]
  refine .inl ?_;by_cases J:e8 o.op=0
  ·unfold jF at m
   rw[J]at m;obtain⟨cf,nb,O,U,R,X⟩:=m;refine X _ a w (λ_=>none) (ns j) u (.empty b.kp.hr.ext) next Q λv y D ⟨Z,B,F⟩ A=>?_
   obtain⟨z,r,e⟩:=b.ag6 l f g d n bv U R (λ_=>J) B (by rw[O];exact F) A;exact q _ _ _ _ e
  ·by_cases K:e8 o.op=1
   ·unfold jF at m
    rw[K]at m;obtain⟨s,t,W⟩:=m;obtain⟨v,M,N⟩:=b.reads l f g d n K x W;refine eu M ?_;obtain⟨z,r,e⟩:=b.ag6 (nb:=none) (D:=[]) l f g d n bv t (λk=>by rw[s];rfl) (λh=>absurd rfl h) (.refl (.empty b.kp.hr.ext)) N d5;exact q _ _ _ _ e
   ·have e:e8 o.op=2:=by
     have:e8 o.op=0\/e8 o.op=1\/e8 o.op=2:=by
      unfold e8;split<;>simp
     omega
    obtain⟨G,H⟩:=g.row l ⟨o,d,e⟩;have E:=(b.at f (by omega:j<=ops.length) G H).2.1;refine m.fk _ a w u E next Q λv y D ⟨Z,B,F⟩ A=>?_
    obtain⟨z,r,p⟩:=b.ak8 l f g d n e B F A;exact q _ _ _ _ p
 ·rw[x _ a u o rfl,aun d5]
  by_cases e:e8 o.op=2
  ·obtain⟨G,H⟩:=g.row l ⟨o,d,e⟩
   have E:=(b.at f (by omega:j<=ops.length) G H).2.1;obtain⟨z,r,p⟩:=b.ak8 (D:=[]) (v:=undef) l f g d n e (by rw[s,t];exact .refl E) .v d5;exact q _ _ _ _ p
  ·obtain⟨z,r,p⟩:=b.ag6 (nb:=none) (D:=[]) (v:=undef) l f g d n e t (λk=>by rw[s];rfl) (λh=>absurd rfl h) (.refl (.empty b.kp.hr.ext)) .v d5
   exact q _ _ _ _ p
def kx.fin(G:TX ops)(s:JP P Dk w0 ops ts hs ns)(d:kx P Dk w0 ops ts hs ns ρ0 a0 ws S ρ C a w)(l:∀i,i<ops.length->S i=true):
 ny ρ (ts ops.length) a/\KP P w0 ρ0 (hs 0).get (ns 0) ws ρ (hs ops.length).get (ns ops.length) w/\Df Dk a0 a:=by
 have F:∀i,wb ops i->i<ops.length:=λi ⟨p,b,_⟩=>(aus.1 b).1;obtain⟨b,_,_⟩:=d.at s (auq _) (λi B _=>F i B) (λi r _=>l i r);refine⟨λx c m=>?_,d.kp.agree (λk y=>?_) (d.DZ _ (auq _) λi r _=>l i r),d.df⟩
 ·by_cases n:∃(i:Nat) (p:Oper),ops[i]? =some p/\p.dst=some x
  ·obtain⟨i,p,z,D⟩:=n
   obtain⟨v,b,e⟩:=d.t1 i p x c z D (l i (aus.1 z).1) m;exact⟨v,b,e.mono (Nm.LZ ρ _)⟩
  ·rw[s.va (auS _) (auq _) λt b e u f g=>n ⟨t,u,f,g⟩]at m
   obtain⟨v,b,e⟩:=d.t0 x c (λt u f g=>absurd ⟨t,u,f,g⟩ n) m;exact⟨v,b,e.mono (Nm.LZ ρ _)⟩
 ·have A:k<ns ops.length:=by
   rcases y with h|h
   ·have:=s.le (auS ops.length) (auq _);omega
   ·obtain⟨q,E⟩:=axC.1 h
    exact d.kp.hr.lt E
  exact b k A y
def kx.any(D:TX ops)(M:JP P Dk w0 ops ts hs ns){Q:IO->Act->GE->Prop}(Z:∀v p u,ny v (ts ops.length) p->KP P w0 ρ0 (hs 0).get (ns 0) ws v (hs ops.length).get (ns ops.length) u->Df Dk a0 p->Q .normal p u):
 ∀(k:Nat) (c:Array In) (ρ:Nm) (C:KH) (a:Act) (w:GE),c.size=ops.length->mB ops (λi=>c.getD i false)->(∀m,m=(c.toList.filter (·==false)).length->m=k)->kx P Dk w0 ops ts hs ns ρ0 a0 ws (λi=>c.getD i false) ρ C a w->
 wpAny P .any ops.toArray Q k c a w:=by
 intro k
 induction k with
 |zero=>
  intro c ρ C a w B x s y;have H:∀j,j<ops.length->c.getD j false=true:=λj g=>by
   have X:(c.toList.filter (·==false)).length=0:=s _ rfl;have f:c.toList.filter (·==false)=[]:=avq X;have z:j<c.size:=bv
   have:c[j]∈c.toList:=d5
   have d:=ayr.1 f _ this;have:c[j]=true:=by simpa using d
   simp[z,this]
  obtain⟨R,U,V⟩:=y.fin D M H;refine⟨?_,Z _ _ _ R U V⟩;rw[awY];intro j g;obtain⟨f,o,q,_⟩:=awu.1 g;have J:j<ops.length:=by
   have:=(au9.1 q).1;simp at this;exact this
  have d:=H j J;rw[axg f]at d;cases d
 |succ k ih=>
  intro c ρ C a w B x s y;have aa:∃j,j<ops.length/\c.getD j false=false:=by
   have f:(c.toList.filter (·==false)).length=k+1:=s _ rfl;have d:c.toList.filter (·==false)≠[]:=λh=>by rw[h]at f;simp at f
   obtain⟨b,l⟩:=axh _ d;obtain⟨a1,a2⟩:=awi.1 l;obtain⟨j,g,a6⟩:=avc a1;refine⟨j,by rw[<-B];simp at g;exact g,?_⟩;have z:j<c.size:=by simp at g;exact g
   have:c[j]=b:=by simpa using a6
   have a3:b=false:=by simpa using a2
   simp[z,this,a3]
  refine⟨λa9=>?_,λj g=>?_⟩
  ·exfalso
   obtain⟨j,a4,a5⟩:=aa;have:∀j,j<ops.length->c.getD j false=false->False:=by
    intro j
    induction j using Nat.strongRecOn with
    |_ j ae=>
     intro f d;have q:ops[j]? =some ops[j]:=auy f;by_cases A:∀e∈(ops[j]).after,Region.binds .any e=true->c.getD e.on false=true
     ·have:j∈Region.ready .any ops.toArray c:=awu.2 ⟨getD_in bv d,ops[j],d5,A⟩
      rw[a9]at this;cases this
     ·simp only[ays]at A
      obtain⟨e,he,l,a8⟩:=A;have r:=D.back j _ q e he l;exact ae e.on r bv (by simpa using a8)
   exact this j a4 a5
  ·obtain⟨f,o,q,N⟩:=awu.1 g
   have t:ops[j]? =some o:=by simpa using q
   have J:j<ops.length:=(aus.1 t).1;have I:c.getD j false=false:=axg f;refine y.step D M (Rdy.of t x I N) t λv O p u W=>?_;have F:(λi=>(c.setIfInBounds j true).getD i false)=λi=>c.getD i false||i==j:=by
    funext i;by_cases n:i=j
    ·subst n
     simp[avA,show i<c.size by omega]
    ·have d:¬j=i:=λh=>n h.symm
     simp[avA,axD,d,n]
   refine ih _ v O p u (by simpa using B) ?_ ?_ (by rw[F];exact W)
   ·rw[F]
    intro i oi K ab E G l;by_cases n:i=j
    ·subst n
     obtain rfl:=aut (t.symm.trans K);simp[N E G l]
    ·have ac:c.getD i false=true:=by simpa[n]using ab
     have:=x i oi K ac E G l;simp[this]
   ·intro m a7
    have d:(c.toList.filter (·==false)).length=k+1:=s _ rfl;have Y:∀(L:br) (j:Nat),L[j]? =some false->((L.set j true).filter (·==false)).length+1=(L.filter (·==false)).length:=by
     intro L
     induction L with
     |nil=>intro j h;simp at h
     |cons b L ad=>
      intro j h;cases j with
      |zero=>simp at h;subst h;simp
      |succ j=>
       have:=ad j (by simpa using h);cases b<;>simp_all<;>omega
    have h4:=Y c.toList j (by
     have r:j<c.size:=bv
     have:c[j]=false:=by simpa[r]using I
     simp[r,this])
    rw[awN]at a7;omega
def kx.init(J:TX ops)(f:JP P Dk w0 ops ts hs ns)(F:ny ρ (ts 0) a)(d:HR P w0 ρ (hs 0).get (ns 0) w)(m:∀i,S i=false):kx P Dk w0 ops ts hs ns ρ a w S ρ (hs 0).get a w:=by
 have s:∀k,ρ k≠none->k<ns 0:=λk b=>by
  obtain⟨q,r⟩:=axC.1 b;exact d.lt r
 have z:∀{k x},k<ns 0->Gd ops ns S k x->(hs x).get k=(hs 0).get k:=λ{k x} b ⟨A,H,I,B⟩=>f.Ua (auS _) A (λi l e n=>by
  have:=B i n e (m i);have:=f.le (auS i) bv;omega) b
 refine⟨.wide d (f.le (auS _) (auq _)),λi o x c _ _ t=>?_,λx c _ E=>?_,λk x h g=>?_,λk x y h g u=>?_,λx G D=>?_,λk b=>.inl (s k b),.refl a⟩
 ·rw[m i]at t;cases t
 ·obtain⟨v,l,e⟩:=F x c E
  exact⟨v,l,e.mono λk p b=>by rw[Nm.iV (d.lt b)];exact b⟩
 ·exact(z (h.elim id (s k)) g).symm
 ·rw[z (s k h) g]at u
  obtain⟨q,r⟩:=axC.1 h;exact((d.ob k y q.1 q.2 u r).Hv d.top).mono (f.le (auS _) g.1)
 ·exact f.ak7 (auS _) G (λi l e n=>by have:=D i e n;rw[m i]at this;cases this) d.DZ
end
def ag7{R:Type}{r:R}{l:KC R}{d:Tr CV}(L:P.follows .mixedOrders=true)(F:gG P T)(D:∀c o u,GT c o u->w0.cell? ⟨c,o,none⟩=some u)(E:j0 Dk t)(G:gP P w0 l){ops:qZ}{k:KK R}(J:Yy T t l ops.toList k d n b=some r):
 ∃y p x,k y p x=some r/\∀id ρ a w Q,ny ρ d a->HR P w0 ρ n.get b w->(∀h e g,ny h y e->KP P w0 ρ n.get b w h p.get x g->Df Dk a e->Q .normal e g)->(Code.region id ops true).wp P Q a w:=by
 obtain⟨v,ts,hs,ns,rfl,rfl,rfl,s,K⟩:=abc F D E G J;refine⟨_,_,_,K,λid ρ a w Q O q N=>wp_region_any L ?_⟩;have H:HR P w0 ρ (hs 0).get (ns 0) w.drew:=q.drew;have I:=kx.init (S:=λi=>(Array.replicate ops.size false).getD i false) v s O H λi=>awj ..;refine kx.any (ρ0:=ρ) (a0:=a) (ws:=w.drew) v s (λh e g z A B=>N h e g z ((KP.drew q).trans A) B) _ _ ρ _ a _ d5 ?_ ?_ I
 ·intro j o U f
  have f:(Array.replicate ops.size false).getD j false=true:=f;rw[awj]at f;cases f
 ·intro m M
  rw[M];simp
end
end
section
open Go Go.RowKit MapKept
section
variable{P:Fd}{Dk:Deferred->Prop}{w0:GE}{T:EQ->bu}{R:Type}{r:R}
def ak9(a:KK R)(c:Nat->KK R)(b:KK R):IO->KK R
 |.normal=>a
 |.exit i=>c i
 |.ret=>b
 |_=>λ_ _ _=>none
def CK(P:Fd)(Dk:Deferred->Prop)(w0:GE)(c:Code)(t:Tr CV)(h:Tr c5)(n:Nat)(x:IO)(i:Tr CV)(f:Tr c5)(g:Nat):Prop:=
 ∀ρ a w Q,ny ρ t a->HR P w0 ρ h.get n w->(∀e b d,ny e i b->KP P w0 ρ h.get n w e f.get g d->Df Dk a b->Q x b d)->c.wp P Q a w
def Q2{O:KC R}(hm:P.follows .mixedOrders=true)(hT:gG P T)(hG:∀f o u,GT f o u->w0.cell? ⟨f,o,none⟩=some u)(ac:j0 Dk t)(hc:gP P w0 O)(c:Code):
 ∀{B:KK R} {C:Nat->KK R} {E:KK R} {d:Tr CV} {h:Tr c5} {n:Nat},QW T t O b c B C E d h n=some r->∃x K H J,ak9 B C E x K H J=some r/\CK P Dk w0 c d h n x K H J:=by
 induction c with
 |skip=>intro B C E d h n p;exact⟨.normal,d,h,n,p,λρ a w Q g j k=>wp_skip (k ρ a w g (.refl j) (.refl a))⟩
 |label l=>intro B C E d h n p;exact⟨.normal,d,h,n,p,λρ a w Q g j k=>wp_label (k ρ a w g (.refl j) (.refl a))⟩
 |exit i=>intro B C E d h n p;exact⟨.exit i,d,h,n,p,λρ a w Q g j k=>wp_exit (k ρ a w g (.refl j) (.refl a))⟩
 |ret=>intro B C E d h n p;exact⟨.ret,d,h,n,p,λρ a w Q g j k=>wp_ret (k ρ a w g (.refl j) (.refl a))⟩
 |region id a0 dr=>
  intro B C E d h n p;cases dr with
  |true=>
   have s:Yy T t O a0.toList B d h n=some r:=p;obtain⟨K,H,J,D,hw⟩:=ag7 hm hT hG ac hc s;exact⟨.normal,K,H,J,D,λρ a w Q g j k=>hw id ρ a w Q g j k⟩
  |false=>
   have s:aa8 T t O a0.toList a0.toList B d h n=some r:=p;obtain⟨K,H,J,D,hw⟩:=YC hT hG ac hc a0.toList 0 rfl s;refine⟨.normal,K,H,J,D,λρ a w Q g j k=>wp_region ?_⟩;have:=hw ρ a w Q g j k;rw[<-azq]at this;simpa using this
 |seq a f a9 aa=>
  intro B C E d h n p;obtain⟨F,z,q,y,s,A⟩:=a9 p;cases F with
  |normal=>
   obtain⟨X,W,I,V,D,N⟩:=aa s;exact⟨X,W,I,V,D,λρ a w Q g j k=>av0 (A ρ a w _ g j λρ1 a1 w1 a7 U a3=>N ρ1 a1 w1 Q a7 U.hr λρ2 a2 w2 a8 ab a4=>k ρ2 a2 w2 a8 (U.trans ab) (a3.trans a4))⟩
  |exit i=>exact⟨.exit i,z,q,y,s,λρ a w Q g j k=>av0 (A ρ a w _ g j k)⟩
  |ret=>exact⟨.ret,z,q,y,s,λρ a w Q g j k=>av0 (A ρ a w _ g j k)⟩
  |_=>cases s
 |cond x a f a9 aa=>
  intro B C E d h n p;obtain⟨v,hv,s⟩:=cx p;obtain⟨bb,rfl,D⟩:=TB s;rcases dE D with⟨rfl,a5⟩|⟨rfl,a5⟩
  ·obtain⟨F,z,q,y,a6,A⟩:=a9 a5
   exact⟨F,z,q,y,a6,λρ a w Q g j k=>wp_cond_true (hv ρ a g).bL (A ρ a w Q g j k)⟩
  ·obtain⟨F,z,q,y,a6,A⟩:=aa a5
   exact⟨F,z,q,y,a6,λρ a w Q g j k=>wp_cond_false (hv ρ a g).bL (A ρ a w Q g j k)⟩
 |block id f S=>
  intro B C E d h n p;obtain⟨F,z,q,y,s,A⟩:=S p;cases F with
  |normal=>exact⟨.normal,z,q,y,s,λρ a w Q g j k=>axt (A ρ a w _ g j k)⟩
  |exit i=>
   have Z:bB (beq i id) B (C i) z q y=some r:=s;rcases hb:beq i id with _|_
   ·have e:=hb
    rw[e]at Z;have D:C i z q y=some r:=Z;have ad:=jh e;exact⟨.exit i,z,q,y,D,λρ a w Q g j k=>axt (A ρ a w _ g j λM G L q I h3=>by
     show(if i=id then Q .normal G L else Q (.exit i) G L);rw[aun ad];exact k M G L q I h3)⟩
   ·have e:=hb
    rw[e]at Z;have D:B z q y=some r:=Z;obtain rfl:=ep e;exact⟨.normal,z,q,y,D,λρ a w Q g j k=>axt (A ρ a w _ g j λM G L q I h3=>by
     show(if i=i then Q .normal G L else _);rw[auo rfl];exact k M G L q I h3)⟩
  |ret=>exact⟨.ret,z,q,y,s,λρ a w Q g j k=>axt (A ρ a w _ g j k)⟩
  |_=>cases s
 |loop f S=>
  intro B C E d h n p;have ag:∀(Y:Nat) {d:Tr CV} {h:Tr c5} {n:Nat},ag1 Y (QW T t O b f) C E d h n=some r->
   ∃m x K H J,x≠.normal/\ak9 B C E x K H J=some r/\∀ρ a w Q,ny ρ d a->HR P w0 ρ h.get n w->(∀M G L,ny M K G->KP P w0 ρ h.get n w M H.get J L->Df Dk a G->Q x G L)->Code.rounds P f Q m a w:=by
   intro Y
   induction Y with
   |zero=>intro d h n p;cases p
   |succ Y af=>
    intro d h n p;obtain⟨F,z,q,y,s,A⟩:=S p;cases F with
    |normal=>
     obtain⟨m,X,W,I,V,ae,D,N⟩:=af s;exact⟨m+1,X,W,I,V,ae,D,λρ a w Q g j k=>A ρ a w _ g j λρ1 a1 w1 a7 U a3=>N ρ1 a1 w1 Q a7 U.hr λρ2 a2 w2 a8 ab a4=>k ρ2 a2 w2 a8 (U.trans ab) (a3.trans a4)⟩
    |exit i=>exact⟨1,.exit i,z,q,y,d5,s,λρ a w Q g j k=>A ρ a w _ g j k⟩
    |ret=>exact⟨1,.ret,z,q,y,d5,s,λρ a w Q g j k=>A ρ a w _ g j k⟩
    |_=>cases s
  obtain⟨m,X,W,I,V,_,D,N⟩:=ag b p;exact⟨X,W,I,V,D,λρ a w Q g j k=>wp_loop_rounds m (N ρ a w Q g j k)⟩
 |scope f S=>
  intro B C E d h n p;obtain⟨F,z,q,y,s,A⟩:=S p;cases F with
  |normal=>exact⟨.normal,z,q,y,s,λρ a w Q g j k=>axX (A ρ a w _ g j k)⟩
  |exit i=>exact⟨.exit i,z,q,y,s,λρ a w Q g j k=>axX (A ρ a w _ g j k)⟩
  |ret=>exact⟨.ret,z,q,y,s,λρ a w Q g j k=>axX (A ρ a w _ g j k)⟩
  |_=>cases s
 |_=>intro B C E d h n p;cases p
