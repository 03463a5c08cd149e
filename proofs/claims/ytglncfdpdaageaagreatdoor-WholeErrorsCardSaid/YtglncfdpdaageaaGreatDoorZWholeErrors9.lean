/- part 9 -/
import Derived.Test.YtglncfdpdaageaaGreatDoorZWholeErrors8
set_option linter.all false
noncomputable section
open Go Go.RowKit
set_option maxRecDepth 100000
open Go.Proofs.Tryz
namespace Go.Proofs.YtglncfdpdaageaaGreatDoor
variable{B:Func}{G:Do CV}{a:Nat}{C:Nm}{K b:GE}
section
open Go Go.RowKit MapKept
section
variable{P:Fd}{Dk:Deferred->Prop}{w0:GE}{T:EQ->bu}{R:Type}{r:R}
def KP.later{h:KH}(d:HR P w0 C h a b)(e:Ext b K):KP P w0 C h a b C h a K:=by
 have k:=KP.refl d;exact⟨⟨d.ext.trans e,λx y c m i g=>(d.ob x y c m i g).mono (Bp.refl C) (e.bW c (d.ob x y c m i g).lt),d.lo,d.inj,d.top,d.DZ⟩,auq _,λ_ _=>rfl,e.size,
  λc f j=>⟨e.bW c f,(k.fr c f j).2⟩,k.ol,k.fz⟩
def nW{g:Func}{k:dU}{Q:Ending->GE->Prop}:∀(D:u_) (w:GE),Ext w0 w->(∀d∈D,CB P w0 d)->(∀a,Ext w a->∃v,(results g k).run P a=.ok v a/\Q (.returned v) a)->Leaves P g k Q D .returning w
 |[],w,_,_,b=>b w (Ext.refl w)
 |d::D,w,h,i,b=>by
  obtain⟨p,m,f,l,y,z⟩:=i d d5;obtain⟨q,s⟩:=z w h;refine⟨d8,p,m,f,l,y,q,λc n u=>?_⟩;obtain⟨e,C,a,o,⟨⟨v,rfl⟩,rfl,j⟩,t⟩:=s c n u;exact⟨.returned v,.returning,a,o,nW D a (h.trans j) (λd x=>i d (by simp[x])) λB A=>b B (j.trans A),t⟩
def YG:∀{l:Do CV} {i:Nat} {t:Tr CV} {k:Tr CV->At R},aqS l i t k=some r->∃g,k g=some r/\(∀j,g.get j=if i<=j/\j<i+l.length then l[j - i]? else t.get j)/\∀j,i<=j->j<i+l.length->∃x,t.get j=some x
 |[],i,t,k,h=>⟨t,h,λj=>by rw[aun (by simp only[avg];omega)],λj d b=>by simp at b;omega⟩
 |c::l,i,t,k,h=>by
  obtain⟨u,d,⟨x,p⟩,e⟩:=Tr.m_ h;obtain⟨q,b,n,o⟩:=YG (l:=l) d;refine⟨q,b,λj=>?_,λj s m=>?_⟩
  ·rw[n,e]
   simp only[auP];by_cases a:j=i
   ·subst a
    rw[aun bv,auo rfl,auo bv];simp
   ·by_cases f:i+1<=j/\j<i+1+l.length
    ·rw[auo f,auo bv,show j - i=(j - (i+1))+1 by omega]
     rfl
    ·rw[aun f,aun a,aun bv]
  ·by_cases a:j=i
   ·subst a;exact⟨x,p⟩
   ·have:=o j bv (by simp at m;omega)
    rw[e,aun a]at this;exact this
def aj2{cs:Do CV}{d:bC}{t:Tr CV}(f:LR (KR C) cs d)(aZ:∀j,t.get j=if 0<=j/\j<0+cs.length then cs[j - 0]? else(Tr.fill (.v undef) 64 a).get j)(fC:∀j,0<=j->j<0+cs.length->∃x,(Tr.fill (CV.v undef) 64 a).get j=some x):
 ny C t {tmps:=d.toArray++Array.replicate (a - d.toArray.size) undef,defers:=[]}:=by
 intro i c b;rw[aZ]at b;have l:=f.1;by_cases k:i<cs.length
 ·rw[auo bv]at b
  obtain⟨u,g,h⟩:=f.get (by simpa using b);refine⟨u,?_,h⟩;have e:i<d.length:=bv
  simp[axe,e];rw[auy e]at g;simpa using g
 ·rw[aun bv]at b
  obtain⟨rfl,m⟩:=Tr.jJ b;refine⟨undef,?_,.v⟩;have e:¬i<d.length:=bv
  simp only[axe,awa,aun e,Array.getElem?_replicate];rw[auo bv]
def L2(q:gG P T)(n:∀b o u,GT b o u->w0.cell? ⟨b,o,none⟩=some u){h:Tr c5}{t:Tr CV}:∀{rs:Do ResultVar} {k:Do CV->At R},anJ T h t rs k=some r->
 ∃d,(∀ρ a w N,ny ρ t a->HR P w0 ρ h.get N w->∃f,(rs.mapM (lL a.tmps)).run P w=.ok f w/\LR (KR ρ) d f)/\k d=some r
 |[],k,g=>⟨[],λ_ _ _ _ _ _=>⟨[],d5,LR.nil⟩,g⟩
 |.tmp i::rs,k,g=>by
  obtain⟨c,s,z⟩:=bH g;obtain⟨d,v,A⟩:=L2 q n (rs:=rs) z;refine⟨c::d,λρ a w N j l=>?_,A⟩;obtain⟨f,D,B⟩:=v ρ a w N j l;obtain⟨u,E,C⟩:=j i c s;refine⟨u::f,?_,LR.cons C B⟩;have e:a.tmps.getD i undef=u:=by simp[avA,E]
  rw[axc];simp only[lL,auF,auJ,auG,D,e]
 |.cell x O::rs,k,g=>by
  obtain⟨p,I,z⟩:=bH g;obtain⟨⟨M,m⟩,J,A⟩:=bH z;obtain⟨c,s,F⟩:=agG (h:=h) n (q.ty _ _ J) A;obtain⟨d,v,G⟩:=L2 q n (rs:=rs) F;refine⟨c::d,λρ a w N j l=>?_,G⟩;obtain⟨f,D,B⟩:=v ρ a w N j l;obtain⟨u,E,C⟩:=j x p I;obtain⟨b,o,y,K,H,L⟩:=s ρ w u N l C;refine⟨y::f,?_,LR.cons L B⟩;have e:a.tmps.getD x undef=u:=by simp[avA,E]
  rw[axc];simp only[lL,auF,e,K,asAddr,auJ,auG,H,D]
def aj3{b:bC}(a:LR (KR C) G b):KR C (aa9 G) (if h:b.toArray.size=1 then b.toArray[0]else .tuple b.toArray):=by
 match G,b,a with
 |[],[],a=>exact .tu [] rfl d5
 |[c],[u],a=>simpa[aa9]using a.2 0 c u rfl rfl
 |c::d::G,u::e::b,a=>
  have:¬(u::e::b).toArray.size=1:=d5
  rw[dif_neg this];exact .tu _ a.1 a.2
 |[],u::b,a=>have:=a.1;simp at this
 |[c],[],a=>have:=a.1;simp at this
 |[c],u::e::b,a=>have:=a.1;simp at this
 |c::d::G,[],a=>have:=a.1;simp at this
 |c::d::G,[u],a=>have:=a.1;simp at this
def G8{a:dU}{us:bC}(h:(B.results.toList.mapM (lL a)).run P b=.ok us b):(results B a).run P b=.ok (if h:us.toArray.size=1 then us.toArray[0]else .tuple us.toArray) b:=by
 have c:(B.results.mapM (lL a)).run P b=.ok us.toArray b:=by
  rw[ayq];simp only[axf,h];rfl
 rw[wz];simp only[auF,c,auG,auJ]
def TV{α:Type}:∀(l:Do α) (i:Nat),atL l i=l[i]?
 |[],i=>by cases i<;>rfl
 |x::l,0=>rfl
 |x::l,i+1=>by
  show atL l i=l[i]?;exact TV l i
structure EOk(P:Program)(w0:World)(E:QX):Prop where
 fs:P.funcs.toList=E.fs
 may:∀f,Nat.testBit E.may f=true->Enters P f
 idle:j0 (CB P w0) λf=>Nat.testBit E.idle f
def Q3{E:QX}{C:KC R}(hm:P.follows .mixedOrders=true)(G:gG P T)(F:∀b o u,GT b o u->w0.cell? ⟨b,o,none⟩=some u)(q:EOk P w0 E)(M:gP P w0 C):gP P w0 (QY (R:=R) T E a C):=by
 intro f cs h n k r S;obtain⟨a0,U⟩:=bj S;obtain⟨p,H,V⟩:=bH U;obtain⟨c,L,W⟩:=bH V;obtain⟨t,X,aZ,fC⟩:=YG W;obtain⟨x,t',j,l,s,N⟩:=Q2 hm G F q.idle M c X;have Q:P.funcs[f]? =some p:=by
  rw[TV,<-q.fs]at H;simpa using H
 have A:(x=.normal\/x=.ret)/\(anJ T j t' p.results.toList λm=>k (aa9 m) j l)=some r:=by
  cases x with
  |normal=>exact⟨.inl rfl,s⟩
  |ret=>exact⟨.inr rfl,s⟩
  |_=>cases s
 obtain⟨A,Y⟩:=A;obtain⟨m,a1,Z⟩:=L2 G F Y;refine⟨aa9 m,j,l,⟨q.may f a0,λρ w vs hs z=>axS Q L (N ρ _ w _ (aj2 z aZ fC) hs λg i B a3 y ⟨D,J,O⟩=>?_)⟩,Z⟩;have K:∀d∈i.defers,CB P w0 d:=by rw[O];simpa using J
 have:Leaves P p i.tmps (λe B=>∃v g,e=.returned v/\KP P w0 ρ h.get n w g j.get l B/\KR g (aa9 m) v) i.defers .returning B:=by
  refine nW _ _ y.hr.ext K λa5 a4=>?_;have I:=KP.later y.hr a4;obtain⟨us,a2,z⟩:=a1 g i a5 l a3 I.hr;exact⟨_,G8 a2,_,g,rfl,y.trans I,aj3 z⟩
 rcases A with rfl|rfl<;>exact this
end
end
variable{j:Nat->bX}
section
open Go Go.RowKit MapKept
section
variable{P:Fd}{Dk:Deferred->Prop}{w0:GE}{T:EQ->bu}{R:Type}{r:R}
inductive oM(m:Nat->bX):CV->CV->Prop
 |v {x}:oM m (.v x) (.v x)
 |pt {k o k'} (h:m k=some k'):oM m (.pt k o) (.pt k' o)
 |sl {k o n c k'} (h:m k=some k'):oM m (.sl k o n c) (.sl k' o n c)
 |gl {g o}:oM m (.gl g o) (.gl g o)
 |ag {cs} (ds:List CV) (hl:ds.length=cs.length) (hc:∀(j:Nat) c d,cs[j]? =some c->ds[j]? =some d->oM m c d):oM m (.ag cs) (.ag ds)
 |tu {cs} (ds:List CV) (hl:ds.length=cs.length) (hc:∀(j:Nat) c d,cs[j]? =some c->ds[j]? =some d->oM m c d):oM m (.tu cs) (.tu ds)
 |cl {fn fs cs} (es ds:List CV) (hl:es.length=fs.length) (hl2:ds.length=cs.length) (hc:∀(j:Nat) c d,fs[j]? =some c->es[j]? =some d->oM m c d)
  (hc2:∀(j:Nat) c d,cs[j]? =some c->ds[j]? =some d->oM m c d):oM m (.cl fn fs cs) (.cl fn es ds)
def MLe(m a:Nat->bX):Prop:=∀j i,m j=some i->a j=some i
def oM.mono{m j:Nat->bX}(i:MLe m j){c d:CV}(h:oM m c d):oM j c d:=by
 induction h with
 |v=>exact .v
 |pt h=>exact .pt (i _ _ h)
 |sl h=>exact .sl (i _ _ h)
 |gl=>exact .gl
 |ag a b g e=>exact .ag a b e
 |tu a b g e=>exact .tu a b e
 |cl k a b l g o e n=>exact .cl k a b l e n
def oM.one{c d:CV}(h:oM j c d):d.one=c.one:=by cases h<;>rfl
def oM.kr{ρ y:Nm}(x:∀a i,j a=some i->∀p,ρ a=some p->y i=some p){c d:CV}(h:oM j c d):∀{u:Id},KR ρ c u->KR y d u:=by
 induction h with
 |v=>intro u b;cases b;exact .v
 |pt h=>intro u b;cases b with|pt q=>exact .pt (x _ _ h _ q)
 |sl h=>intro u b;cases b with|sl q E z A B=>exact .sl (x _ _ h _ q) E z A B
 |gl=>intro u b;cases b;exact .gl
 |ag s k t n=>
  intro u b;cases b with
  |ag o m l=>
   refine .ag o (m.trans k.symm) λa d u g b=>?_;have e:=(aus.1 g).1;rw[k]at e;exact n a _ d (auy e) g (l a _ u (auy e) b)
 |tu s k t n=>
  intro u b;cases b with
  |tu o m l=>
   refine .tu o (m.trans k.symm) λa d u g b=>?_;have e:=(aus.1 g).1;rw[k]at e;exact n a _ d (auy e) g (l a _ u (auy e) b)
 |cl H s k w t I n F=>
  intro u b;cases b with
  |cl o G m D l C=>
   refine .cl o G (m.trans k.symm) (D.trans w.symm) (λa d u g b=>?_) (λa d u g b=>?_)
   ·have e:=(aus.1 g).1
    rw[k]at e;exact n a _ d (auy e) g (l a _ u (auy e) b)
   ·have e:=(aus.1 g).1
    rw[w]at e;exact F a _ d (auy e) g (C a _ u (auy e) b)
def L3(m:Nat->bX)(t b:Tr CV):Prop:=∀q a,b.get q=some a->∃c,t.get q=some c/\oM m c a
def L3.mono{m a:Nat->bX}(j:MLe m a){t b:Tr CV}(h:L3 m t b):L3 a t b:=λq c i=>let⟨d,e,g⟩:=h q c i;⟨d,e,g.mono j⟩
structure Sn(src:Tr c5)(fz:Bool)(d0:Tr c5)(n0:Nat)(m0 b0:Tr Nat)(d:Tr c5)(n:Nat)(m b:Tr Nat):Prop where
 le:n0<=n
 ml:MLe m0.get m.get
 nw:∀j i,m.get j=some i->m0.get j=some i\/(n0<=i/\i<n/\m0.get j=none/\b.get i=some j/\∃cs N e wr cs',src.get j=some (.ce cs N e wr)/\d.get i=some (.ce cs' N e (bB fz false wr))/\L3 m.get cs cs')
 bn:∀i,n0<=i->i<n->∃j,b.get i=some j/\m.get j=some i/\m0.get j=none
 bo:∀i,¬(n0<=i/\i<n)->b.get i=b0.get i
 dd:∀i,¬(n0<=i/\i<n)->d.get i=d0.get i
section
variable{src:Tr c5}{fz:In}{d0:Tr c5}{n0:Nat}{m0 b0:Tr Nat}
def Sn.refl:Sn src fz d0 n0 m0 b0 d0 n0 m0 b0:=⟨auq _,λ_ _ h=>h,λ_ _ h=>.inl h,λi a b=>by omega,λ_ _=>rfl,λ_ _=>rfl⟩
def aj4(src:Tr c5)(fz:In)(d0:Tr c5)(n0:Nat)(m0 b0:Tr Nat)(f:CV->Tr c5->Nat->Tr Nat->Tr Nat->TO R CV->At R):Prop:=
 ∀c d n m b k (r:R),Sn src fz d0 n0 m0 b0 d n m b->f c d n m b k=some r->∃g h i a e,Sn src fz d0 n0 m0 b0 h i a e/\MLe m.get a.get/\oM a.get c g/\k g h i a e=some r
variable{f:CV->Tr c5->Nat->Tr Nat->Tr Nat->TO R CV->At R}
def Bw(v:aj4 src fz d0 n0 m0 b0 f):∀{l:Do CV} {d n m b} {k:TO R (Do CV)} {r:R},Sn src fz d0 n0 m0 b0 d n m b->snL f l d n m b k=some r->
 ∃a u z g t,Sn src fz d0 n0 m0 b0 u z g t/\MLe m.get g.get/\(a.length=l.length/\∀(j:Nat) c e,l[j]? =some c->a[j]? =some e->oM g.get c e)/\k a u z g t=some r
 |[],d,n,m,b,k,r,p,o=>⟨[],d,n,m,b,p,λ_ _ h=>h,⟨rfl,d5⟩,o⟩
 |c::l,d,n,m,b,k,r,p,o=>by
  obtain⟨e,N,Q,O,M,E,I,L,G⟩:=v _ _ _ _ _ _ _ p o;obtain⟨a,B,K,J,A,F,w,⟨C,D⟩,H⟩:=Bw v (l:=l) E G;refine⟨e::a,B,K,J,A,F,λj i h=>w _ _ (I _ _ h),⟨by simp[C],λj x y q s=>?_⟩,H⟩;cases j with
  |zero=>simp at q s;subst q;subst s;exact L.mono w
  |succ j=>exact D j x y (by simpa using q) (by simpa using s)
def L4(o:aj4 src fz d0 n0 m0 b0 f):∀{t:Tr CV} {d n m b} {k:TO R (Tr CV)} {r:R},Sn src fz d0 n0 m0 b0 d n m b->snT f t d n m b k=some r->
 ∃U I O p H,Sn src fz d0 n0 m0 b0 I O p H/\MLe m.get p.get/\L3 p.get t U/\k U I O p H=some r
 |.lf,d,n,m,b,k,r,B,A=>⟨.lf,d,n,m,b,B,λ_ _ h=>h,λq c h=>(by cases h),A⟩
 |.nd l x S,d,n,m,b,k,r,B,A=>by
  obtain⟨N,d1,n1,m1,Y,L,J,Q,M⟩:=L4 o (t:=l) B A;cases x with
  |none=>
   obtain⟨F,u,E,D,s,z,e,G,C⟩:=L4 o (t:=S) L M;refine⟨.nd N none F,u,E,D,s,z,λj i h=>e _ _ (J _ _ h),λq c h=>?_,C⟩;rw[Tr.iU]at h⊢;by_cases g:q=0
   ·rw[auo g]at h;cases h
   ·rw[aun g]at h⊢
    by_cases a:q % 2=1
    ·rw[auo a]at h⊢;obtain⟨y,v,w⟩:=Q _ c h;exact⟨y,v,w.mono e⟩
    ·rw[aun a]at h⊢;exact G _ c h
  |some x=>
   obtain⟨X,d3,n3,m3,Z,a,K,W,V⟩:=o _ _ _ _ _ _ _ L M;obtain⟨F,u,E,D,s,z,e,G,C⟩:=L4 o (t:=S) a V;refine⟨.nd N (some X) F,u,E,D,s,z,λj i h=>e _ _ (K _ _ (J _ _ h)),λq c h=>?_,C⟩;rw[Tr.iU]at h⊢;by_cases g:q=0
   ·rw[auo g]at h⊢;cases h;exact⟨x,rfl,W.mono e⟩
   ·rw[aun g]at h⊢
    by_cases a:q % 2=1
    ·rw[auo a]at h⊢;obtain⟨y,v,w⟩:=Q _ c h;exact⟨y,v,w.mono λj i h=>e _ _ (K _ _ h)⟩
    ·rw[aun a]at h⊢;exact G _ c h
def YH(hf:aj4 src fz d0 n0 m0 b0 f){d n m b}{k:TO R Nat}{r:R}(I:Sn src fz d0 n0 m0 b0 d n m b)(q:ajX src fz f a d n m b k=some r):
 ∃i D L u C,Sn src fz d0 n0 m0 b0 D L u C/\MLe m.get u.get/\u.get a=some i/\k i D L u C=some r:=by
 unfold ajX at q;cases A:m.get a with
 |some i=>rw[A]at q;exact⟨i,d,n,m,b,I,λ_ _ h=>h,A,q⟩
 |none=>
  rw[A]at q;obtain⟨Q,N,e,wr,a5,a0⟩:=Bq q;obtain⟨S,d1,B,J,b1,l,l1,r1,a1⟩:=L4 hf I a0;obtain⟨t,a2⟩:=bj a1;have t:J.get a=none:=by simpa using t
  obtain⟨W,a3,y⟩:=Tr.oK a2;obtain⟨K,a4,s⟩:=Tr.oK a3;obtain⟨O,G,p⟩:=Tr.oK a4;rw[fG]at G;have a7:=l.le;have o:MLe J.get K.get:=λj c x=>by
   rw[s,aun]
   ·exact x
   ·intro e;subst e;rw[t]at x;cases x
  have H:m0.get a=none:=by
   cases h:m0.get a with
   |none=>rfl
   |some i=>have:=l.ml _ _ h;rw[t]at this;cases this
  refine⟨B,W,B+1,K,O,⟨bv,λj c h=>o _ _ (l.ml _ _ h),λj c h=>?_,λi z a6=>?_,λi z=>?_,λi z=>?_⟩,λj c h=>o _ _ (l1 _ _ h),by rw[s,auo rfl],G⟩
  ·rw[s]at h
   by_cases F:j=a
   ·subst F
    rw[auo rfl]at h;cases h;exact .inr ⟨bv,bv,H,by rw[p,auo rfl],Q,N,e,wr,S,a5,by rw[y,auo rfl],r1.mono o⟩
   ·rw[aun F]at h
    rcases l.nw j c h with g|⟨v,E,w,Y,U,M,X,wr2,V,Z,g6,g7⟩
    ·exact .inl g
    ·exact .inr ⟨v,bv,w,by rw[p,aun bv];exact Y,U,M,X,wr2,V,Z,by rw[y,aun bv];exact g6,g7.mono o⟩
  ·by_cases fC:i=B
   ·subst fC
    exact⟨a,by rw[p,auo rfl],by rw[s,auo rfl],H⟩
   ·obtain⟨j,v,E,w⟩:=l.bn i z bv
    exact⟨j,by rw[p,aun fC];exact v,o _ _ E,w⟩
  ·rw[p,aun bv];exact l.bo i bv
  ·rw[y,aun bv];exact l.dd i bv
def TW:∀N,aj4 src fz d0 n0 m0 b0 (snC (R:=R) src fz N)
 |0=>λc d n m b k r w e=>by cases e
 |N+1=>λc d n m b k r w e=>by
  have B:=TW N;cases c with
  |v x=>
   have:k (.v x) d n m b=some r:=by
    cases x with
    |int F z=>rw[<-e];show k (.v (.int F z)) d n m b=kI z λz=>k (.v (.int F z)) d n m b;rw[Ab]
    |_=>exact e
   exact⟨_,d,n,m,b,w,λ_ _ h=>h,.v,this⟩
  |gl g o=>exact⟨_,d,n,m,b,w,λ_ _ h=>h,.gl,e⟩
  |pt j o=>
   obtain⟨i,u,A,y,t,p,s,l,a⟩:=YH B w e;rw[fG]at a;exact⟨_,u,A,y,t,p,s,.pt l,a⟩
  |sl j o q c=>
   obtain⟨i,u,A,y,t,p,s,l,a⟩:=YH B w e;rw[fG,fG]at a;refine⟨.sl i o q c,u,A,y,t,p,s,.sl l,?_⟩;cases c with
   |none=>exact a
   |some c=>simp only[fG]at a;exact a
  |ag E=>
   obtain⟨D,u,A,y,t,p,s,⟨l,C⟩,a⟩:=Bw B w e;exact⟨_,u,A,y,t,p,s,.ag D l C,a⟩
  |tu E=>
   obtain⟨D,u,A,y,t,p,s,⟨l,C⟩,a⟩:=Bw B w e;exact⟨_,u,A,y,t,p,s,.tu D l C,a⟩
  |cl W X E=>
   obtain⟨D,u,A,y,t,p,s,⟨l,C⟩,a⟩:=Bw B w e;obtain⟨S,I,V,U,H,L,G,⟨J,K⟩,Q⟩:=Bw B p a;exact⟨_,I,V,U,H,L,λ_ _ h=>G _ _ (s _ _ h),.cl D S l J (λj c d M O=>(C j c d M O).mono G) K,Q⟩
  |mp j=>cases e
end
end
end
section
open Go Go.RowKit MapKept
section
variable{P:Fd}{Dk:Deferred->Prop}{w0:GE}{T:EQ->bu}{R:Type}{r:R}
def BR.aqV{m:Nat->bX}{ρ ρ':Nm}(B:∀j i,m j=some i->∀p,ρ j=some p->ρ' i=some p){w w':GE}{b k:Nat}{d f:Tr CV}{e:bX}{wr F:In}(h:BR P ρ w b k (.ce d a e wr))(A:L3 m d f)(D:w'.heap[b]? =w.heap[b]?):BR P ρ' w' b k (.ce f a e F):=by
 obtain⟨t,E,q,h2,h3,s⟩:=h;refine⟨t,E,by rw[D];exact q,h2,λj c v=>?_,s⟩;obtain⟨l,o,g⟩:=A j c v;obtain⟨y,u,C,x,z⟩:=h3 j l o;exact⟨y,u,C,g.kr B x,by rw[g.one];exact z⟩
def L5(bk:Tr Nat)(ρ:Nm):Nm:=λi=>(bk.get i).bind ρ
section
variable{h hs h2 h3:Tr c5}{n m n2 n3:Nat}{mp bk m3 b3:Tr Nat}{ρ ρ':Nm}{w w':GE}
def Sn.fwd(q:Sn h true .lf 0 .lf .lf hs m mp bk)(u:HR P w0 ρ h.get n w):HR P w0 (L5 bk ρ) hs.get m w/\(∀j i,mp.get j=some i->∀p,ρ j=some p->L5 bk ρ i=some p)/\∀i x,hs.get i=some x->x.wr=false:=by
 have y:∀j i,mp.get j=some i->i<m/\bk.get i=some j/\∃c N e wr d,h.get j=some (.ce c N e wr)/\hs.get i=some (.ce d N e false)/\L3 mp.get c d:=λj i t=>by
  rcases q.nw j i t with g|⟨_,f,_,o,D⟩
  ·cases g
  ·exact⟨f,o,D⟩
 have z:∀j i,mp.get j=some i->∀p,ρ j=some p->L5 bk ρ i=some p:=λj i t p E=>by
  unfold L5;rw[(y j i t).2.1];exact E
 have G:∀i x,hs.get i=some x->i<m:=λi x a=>by
  by_cases s:i<m
  ·exact s
  ·rw[q.dd i bv]at a;cases a
 have one:∀i x,hs.get i=some x->∃j c N e wr d,bk.get i=some j/\h.get j=some (.ce c N e wr)/\x=.ce d N e false/\L3 mp.get c d:=λi x a=>by
  obtain⟨j,l,f,_⟩:=q.bn i (auS _) (G i x a);obtain⟨_,_,c,N,e,wr,d,A,B,C⟩:=y j i f;rw[B]at a;cases a;exact⟨j,c,N,e,wr,d,l,A,rfl,C⟩
 refine⟨⟨u.ext,λi x b v a k=>?_,λi x b v a k=>?_,λi J x M b K L a I k H F=>?_,λi s=>?_,λi s=>?_⟩,z,λi x a=>?_⟩
 ·obtain⟨j,c,N,e,wr,d,l,f,rfl,o⟩:=one i x a
  unfold L5 at k;rw[l]at k;exact(u.ob j _ b v f k).aqV z o rfl
 ·obtain⟨j,c,N,e,wr,d,l,f,rfl,o⟩:=one i x a
  unfold L5 at k;rw[l]at k;exact u.lo j _ b v f k
 ·obtain⟨j,c,N,e,wr,d,l,f,rfl,o⟩:=one i x a
  cases F
 ·unfold L5
  rw[q.bo i bv];rfl
 ·rw[q.dd i bv];rfl
 ·obtain⟨j,c,N,e,wr,d,l,f,rfl,o⟩:=one i x a
  rfl
def Sn.bwd(K:Sn h true .lf 0 .lf .lf hs m mp bk)(s:HR P w0 ρ h.get n w)(B:KP P w0 (L5 bk ρ) hs.get m w ρ' h2.get n2 w')(E:Sn h2 false h n bk .lf h3 n3 m3 b3):
 ∃o,KP P w0 ρ h.get n w o h3.get n3 w'/\∀j i,m3.get j=some i->∀p,ρ' j=some p->o i=some p:=by
 obtain⟨hf,aa,a3⟩:=K.fwd s;have a1:∀b,agE (L5 bk ρ) hs.get b:=λb k x l c O=>by rw[a3 k x c]at O;cases O
 have bW:∀b,b<w.heap.size->w'.heap[b]? =w.heap[b]? :=λb y=>(B.fr b y (a1 b)).1;have a0:∀j i,bk.get j=some i->j<m/\i<n:=λj i L=>by
  have V:j<m:=by
   by_cases d:j<m
   ·exact d
   ·rw[K.bo j bv]at L;cases L
  obtain⟨i',q,f,_⟩:=K.bn j (auS _) V;obtain rfl:=aut (q.symm.trans L);rcases K.nw i' j f with g|⟨_,_,_,_,t,N,e,wr,u,F,_⟩
  ·cases g
  ·exact⟨V,s.lth F⟩
 have a6:=E.le;obtain⟨o,hρ⟩:∃o:Nm,o=λk=>if k<n then ρ k else L5 b3 ρ' k:=⟨_,rfl⟩
 have A:∀{k},k<n->o k=ρ k:=λ{k} a=>by rw[hρ];exact auo a
 have G:∀{k},n<=k->o k=L5 b3 ρ' k:=λ{k} a=>by rw[hρ];exact aun bv
 have le:Bp ρ o:=λk p a=>by rw[A (s.lt a)];exact a
 have D:∀{k},k<n->h3.get k=h.get k:=λ{k} a=>E.dd k bv;have tr:∀j i,m3.get j=some i->∀p,ρ' j=some p->o i=some p:=λj i L p M=>by
  rcases E.nw j i L with g|⟨q,f,C,v,_⟩
  ·obtain⟨F,S⟩:=a0 j i g
   rw[B.ro j F]at M;unfold L5 at M;rw[g]at M;rw[A S];exact M
  ·rw[G q]
   unfold L5;rw[v];exact M
 have Q:∀k x,n<=k->h3.get k=some x->∃j t N e wr u,m<=j/\b3.get k=some j/\m3.get j=some k/\h2.get j=some (.ce t N e wr)/\x=.ce u N e wr/\L3 m3.get t u:=λk x a c=>by
  have a4:k<n3:=by
   by_cases d:k<n3
   ·exact d
   ·rw[E.dd k bv,s.DZ k a]at c;cases c
  obtain⟨j,q,f,C⟩:=E.bn k a a4;have V:m<=j:=by
   by_cases d:j<m
   ·obtain⟨i',F,_⟩:=K.bn j (auS _) d
    rw[F]at C;cases C
   ·omega
  rcases E.nw j k f with g|⟨_,_,_,_,t,N,e,wr,u,F,S,e3⟩
  ·have:=(a0 j k g).2;omega
  ·rw[S]at c
   cases c;exact⟨j,t,N,e,wr,u,V,q,f,F,by cases wr<;>rfl,e3⟩
 have Z:∀k x b l,n<=k->h3.get k=some x->o k=some (b,l)->¬b<w.heap.size:=λk x b l a c y a5=>by
  obtain⟨j,t,N,e,wr,u,q,f,C,v,rfl,U⟩:=Q k x a c;rw[G a]at y;unfold L5 at y;rw[f]at y;exact(B.fr b a5 (a1 b)).2 j _ l q v y
 refine⟨o,⟨⟨B.hr.ext,λk x b l c a=>?_,λk x b l c a=>?_,λk I x Y b W X c H a z O=>?_,λk a=>?_,λk a=>?_⟩,a6,λk a=>A a,B.sz,λb y a9=>⟨bW b y,λk x l a c a2=>Z k x b l a c a2 y⟩,λk x a c=>⟨x,by rw[<-D a];exact c,rfl⟩,λk x a c _=>by rw[D a];exact c⟩,tr⟩
 ·by_cases d:k<n
  ·rw[A d]at a
   rw[D d]at c;have:=s.ob k x b l c a;exact this.mono le (bW b this.lt)
  ·obtain⟨j,t,N,e,wr,u,q,f,C,v,rfl,U⟩:=Q k x bv c
   rw[G bv]at a;unfold L5 at a;rw[f]at a;exact(B.hr.ob j _ b l v a).aqV tr U rfl
 ·by_cases d:k<n
  ·rw[A d]at a
   rw[D d]at c;exact s.lo k x b l c a
  ·obtain⟨j,t,N,e,wr,u,q,f,C,v,rfl,U⟩:=Q k x bv c
   rw[G bv]at a;unfold L5 at a;rw[f]at a;exact B.hr.lo j _ b l v a
 ·by_cases d:k<n
  ·by_cases J:I<n
   ·rw[A d]at a
    rw[D d]at c;rw[A J]at z;rw[D J]at H;exact s.inj k I x Y b W X c H a z O
   ·rw[A d]at a
    rw[D d]at c;exact absurd (s.ob k x b W c a).lt (Z I Y b X bv H z)
  ·by_cases J:I<n
   ·rw[A J]at z
    rw[D J]at H;exact absurd (s.ob I Y b X H z).lt (Z k x b W bv c a)
   ·obtain⟨j,t,N,e,wr,u,q,f,C,v,rfl,U⟩:=Q k x bv c
    obtain⟨j',a7,N2,S,wr2,a8,f1,f2,f3,f4,rfl,f6⟩:=Q I Y bv H;rw[G bv]at a z;unfold L5 at a z;rw[f]at a;rw[f2]at z;have:=B.hr.inj j j' _ _ b W X v f4 a z O;subst this;exact aut (C.symm.trans f3)
 ·rw[G bv]
  unfold L5;rw[E.bo k bv];rfl
 ·rw[E.dd k bv]
  exact s.DZ k bv
end
def MOk(P:Fd)(w0:GE)(M:Mem):Prop:=∀f a h n r b c,M f a h n=some (r,b,c)->FC P w0 f a h n r b c
def aj5{M:Mem}{l:KC (CV×Tr c5×Nat)}(D:MOk P w0 M)(E:gP P w0 l):gP P w0 (anK (R:=R) M l):=by
 intro f Y h n k r I;obtain⟨a,hs,m,mp,bk,o,_,⟨t,S⟩,K⟩:=Bw (TW 64) Sn.refl I;obtain⟨p,d,L⟩:=bH K;obtain⟨A,h3,n3,m3,b3,C,_,F,N⟩:=TW (src:=p.2.1) (fz:=false) (d0:=h) (n0:=n) (m0:=bk) (b0:=.lf) 64 _ _ _ _ _ _ _ Sn.refl L;have b:FC P w0 f a hs m p.1 p.2.1 p.2.2:=by
  cases g:M f a hs m with
  |some q=>
   rw[g]at d;cases d;exact D f a hs m p.1 p.2.1 p.2.2 g
  |none=>
   rw[g]at d;obtain⟨c,Z,n',b,J⟩:=E _ _ _ _ _ _ d;cases J;exact b
 refine⟨A,h3,n3,⟨b.1,λρ w z y x=>?_⟩,N⟩;obtain⟨H,U,_⟩:=o.fwd y;have Q:LR (KR (L5 bk ρ)) a z:=⟨x.1.trans t.symm,λj c u s V=>by
  have i:=(aus.1 s).1;rw[t]at i;exact(S j _ c (auy i) s).kr U (x.2 j _ u (auy i) V)⟩
 refine(b.2 _ w z H Q).mono λe w' ⟨v,ρ',G,O,W⟩=>?_;obtain⟨X,B,h2⟩:=o.bwd y O C;exact⟨v,X,G,B,F.kr h2 W⟩
def t_{E:QX}{M:Mem}(e:P.follows .mixedOrders=true)(d:gG P T)(c:∀b o u,GT b o u->w0.cell? ⟨b,o,none⟩=some u)(a:EOk P w0 E)(i:MOk P w0 M):∀(N:Nat) {R:Type},gP P w0 (gW T E M N (R:=R))
 |0,R=>λf g h n k r j=>by cases j
 |N+1,R=>λf g h n k r j=>by
  rcases dE (show bB (Nat.testBit E.pic f) (anK M (QY T E N (gW T E M N)) f g h n k) (QY T E N (gW T E M N) f g h n k)=some r from j)with⟨_,l⟩|⟨_,l⟩
  ·exact aj5 i (Q3 e d c a (t_ e d c a i N)) _ _ _ _ _ _ l
  ·exact Q3 e d c a (t_ e d c a i N) _ _ _ _ _ _ l
end
end
variable{I:FuncId}
section
open Go Go.RowKit MapKept
section
variable{P:Fd}{Dk:Deferred->Prop}{w0:GE}{T:EQ->bu}{R:Type}{r:R}
def Tr.ofF{α:Type}:Nat->(Nat->α)->Nat->Tr α:=Nat.rec (motive:=λ_=>(Nat->α)->Nat->Tr α) (λ_ _=>.lf)
 (λ_ a u n=>bB (Nat.beq n 0) .lf (.nd (a (λp=>u (Nat.succ (Nat.mul 2 p))) (Nat.div n 2)) (some (u 0)) (a (λp=>u (Nat.succ (Nat.succ (Nat.mul 2 p)))) (Nat.div (Nat.sub n 1) 2))))
def Tr.L6{α:Type}:∀{N n i:Nat} {u:Nat->α} {x:α},(Tr.ofF N u n).get i=some x->x=u i/\i<n
 |0,n,i,u,x,h=>by cases h
 |N+1,n,i,u,x,h=>by
  change(bB (Nat.beq n 0) Tr.lf (Tr.nd (Tr.ofF N (λp=>u (2*p+1)) (n/2)) (some (u 0)) (Tr.ofF N (λp=>u (2*p+2)) ((n - 1)/2)))).get i=_ at h;cases a:Nat.beq n 0 with
  |true=>rw[a]at h;cases h
  |false=>
   rw[a]at h;have f:=jh a;change(Tr.nd _ _ _).get i=_ at h;rw[Tr.iU]at h;split at h
   ·rename_i b;cases h;subst b;exact⟨rfl,bv⟩
   ·split at h
    ·rename_i d
     obtain⟨e,c⟩:=Tr.L6 h;exact⟨by rw[e];exact auA u bv,bv⟩
    ·obtain⟨e,c⟩:=Tr.L6 h
     exact⟨by rw[e];exact auA u bv,bv⟩
def YI{x:FuncId->In}{y:KC R}(C:gG P T)(A:∀b o u,GT b o u->w0.cell? ⟨b,o,none⟩=some u)(B:j0 Dk x)(D:gP P w0 y){ops:bp}{k:KK R}:∀(l:bp) (i:Nat) {t:Tr CV} {h:Tr c5} {n:Nat},ops.drop i=l->aa8 T x y ops l k t h n=some r->
 ∃G z F,k G z F=some r/\∀ρ a f w Q,ny ρ t a->HR P w0 ρ h.get n w->(∀g c d,ny g G c->KP P w0 ρ h.get n w g z.get F d->Df Dk a c->Q .normal c f d)->wpOpsS P ops.toArray Q (List.range' i l.length) a f w
 |[],i,t,h,n,j,m=>⟨t,h,n,m,λρ a f w Q s q p=>p ρ a w s (.refl q) (Df.refl a)⟩
 |o::l,i,t,h,n,j,m=>by
  obtain⟨t1,h1,n1,W,M⟩:=G6 C A B D m;have J:ops.drop (i+1)=l:=by rw[<-awc,j];rfl
  have S:ops[i]? =some o:=by
   have:=auA (·[0]?) j;simpa using this
  obtain⟨t2,I,Z,N,V⟩:=YI C A B D l (i+1) J M;refine⟨t2,I,Z,N,λρ a f w Q s q p=>?_⟩;rw[auP,ayZ];unfold wpOpsS;have U:ops.toArray[i]? =some o:=by simpa using S
  simp only[U];have:=W.wp (P:=P) s q (next:=λc d=>wpOpsS P ops.toArray Q (List.range' (i+1) l.length) c f d) (Q:=λe c d=>Q e c f d) λg c d X E K=>V g c f d Q X E.hr λa1 H a0 Y O L=>p a1 H a0 Y (E.trans O) (K.trans L);split
  ·rename_i v
   rw[auo v]at this;unfold Oper.wp at this;split
   ·rename_i d e
    rw[e]at this;exact this.elim
   ·exact this
  ·rename_i v
   rw[aun v]at this;exact this
def ag9(w:GE):HR P w (λ_=>none) (Tr.lf:Tr c5).get 0 w:=
 ⟨Ext.refl w,λk x b m h _=>(by cases h),λk x b m h _=>(by cases h),λk a x d b m c h _ _ _ _=>(by cases h),λ_ _=>rfl,λ_ _=>rfl⟩
def Q4(hm:P.follows .mixedOrders=true)(H:gG P T)(S:∀b o u,GT b o u->w0.cell? ⟨b,o,none⟩=some u){p:KC Nat}{N:Nat}(f:∀w,Ext w0 w->gP P w p)
 {ts:hX} {id:Nat} {A:qZ} {o:Oper} {l:bp} {d:Tmp} {k:Code} (he:Enters P I) (hf:P.funcs[I]? =some B) (V:B.body=some (.seq (.region id A false) k)) (a8:A.toList=o::l) (ho:o.op=.call ⟨.builtin .recover, #[],ts⟩) (hg:o.guard=none) (X:o.dst=some d) (ad:B.results.toList=[])
 (ae:∀u:Nat->Id,(Tr.put (.v .nilIface) (Tr.ofF 64 (λi=>.v (u i)) B.ntmps) d λt=>aa8 T (λ_=>false) p (o::l) l (QW T (λ_=>false) p N k (λ_ _ _=>some 0) (λ_ _ _ _=>none) (λ_ _ _=>some 0)) t .lf 0)=some 0):
 ∀cap,CB P w0 {target:=.fn (.func I) cap,args:= #[]}:=by
 intro cap;refine⟨.func I,cap,I, #[]++cap,rfl,λw y=>⟨fK he _ w,?_⟩⟩;have G:∀b o u,GT b o u->w.cell? ⟨b,o,none⟩=some u:=λb o u h=>y.cell (S b o u h);refine ayK hf V λg j m=>?_;obtain⟨a,q⟩:∃a:Act,a={tmps:=(#[]++cap)++Array.replicate (B.ntmps - (#[]++cap).size) undef,defers:=[]}:=⟨_,rfl⟩;rw[<-q];obtain⟨t,a4,⟨x0,ak⟩,U⟩:=Tr.m_ (ae λi=>a.tmps.getD i undef);have F:j0 (λ_=>False) (λ_=>false):=λI h=>by cases h
 obtain⟨t1,h1,n1,a5,ac⟩:=YI (Dk:=λ_=>False) (w0:=w) H G F (f w y) (ops:=o::l) l 1 rfl a4;obtain⟨x,t2,h2,n2,a6,W⟩:=Q2 (Dk:=λ_=>False) (w0:=w) hm H G F (f w y) k a5;have z:x=.normal\/x=.ret:=by
  cases x with
  |normal=>exact .inl rfl
  |ret=>exact .inr rfl
  |_=>cases a6
 have af:B.ntmps<=a.tmps.size:=by rw[q];simp;omega
 have ai:ny (λ_=>none) (Tr.ofF 64 (λi=>CV.v (a.tmps.getD i undef)) B.ntmps) a:=λi c f=>by
  obtain⟨rfl,s⟩:=Tr.L6 f;have J:i<a.tmps.size:=bv
  refine⟨a.tmps[i],avb J,?_⟩;rw[avA,avb J];exact .v
 have ah:ny (λ_=>none) t (a.put o.dst .nilIface):=by
  rw[X];intro i c f;rw[U]at f;have Z:d<a.tmps.size:=by
   have a7:=(Tr.L6 ak).2;exact awq a7 af
  by_cases s:i=d
  ·subst s
   rw[auo rfl]at f;cases f;exact⟨.nilIface,by simp[Act.put,Z],.v⟩
  ·rw[aun s]at f
   obtain⟨u,m,hk⟩:=ai i c f;exact⟨u,by simp only[Act.put];rw[axG bv];exact m,hk⟩
 refine wpS_seq (wpS_region ?_);have a9:A=(o::l).toArray:=by rw[<-a8]
 rw[a9,show List.range (o::l).toArray.size=0::List.range' 1 l.length by rw[azq];simp[ayZ]];have ab:recoverD (g::j)=none:=by
  unfold recoverD;simp only[m]
 unfold wpOpsS;have aj:Region.wanted o (yielded (o::l).toArray a.tmps)=true:=by simp[Region.wanted,hg]
 have aa:(execOp a.eval o).run P w=.ok .recover w:=by simp[execOp,ho,resolve,invoke,builtin]
 simp only[avR,axV,aj,au2,aa,ab];refine ac (λ_=>none) _ (g::j) w _ ah (ag9 w) λρ1 E L ag al M=>?_;show k.wpS P _ E (g::j) L;refine wpS_of_wp (W ρ1 E L _ ag al.hr λρ2 n C an am O=>?_);have Y:n.defers=[]:=by
  obtain⟨D,Q,e⟩:=M.trans O;have:D=[]:=awY.2 λx z=>Q x z;rw[e,this,put_defers,q];rfl
 have a3:n.defers=[]/\∃K,(g::j)={g with mode:=K}::j/\∃v,(results B n.tmps).run P C=.ok v C/\((∃v',Ending.returned v=.returned v')/\K=.returning/\Ext w C):=by
  refine⟨Y,.returning,by rw[<-m],_,G8 (us:=[]) (by rw[ad];simp),⟨_,rfl⟩,rfl,?_⟩;exact am.hr.ext
 rcases z with rfl|rfl<;>exact a3
end
end
variable{h:Nat}
section
open Go Go.RowKit MapKept
section
variable{P:Fd}{Dk:Deferred->Prop}{w0:GE}{T:EQ->bu}{R:Type}{r:R}
def ag_:Do CV->Do CV->In
 |[],[]=>true
 |a::l,b::m=>bB (cEq a b) (ag_ l m) false
 |_,_=>false
def hEq:Tr c5->Tr c5->In
 |.lf,.lf=>true
 |.nd l x r,.nd b a c=>bB (hEq l b) (bB (match x,a with
  |none,none=>true
  |x,a=>ajW x a) (hEq r c) false) false
 |_,_=>false
def YJ:∀{l m:Do CV},ag_ l m=true->l=m
 |[],[],_=>rfl
 |a::l,b::m,h=>by
  unfold ag_ at h;cases c:cEq a b with
  |false=>rw[c]at h;cases h
  |true=>rw[c]at h;rw[ag5 c,YJ h]
 |[],_::_,h=>by cases h
 |_::_,[],h=>by cases h
def TY:∀{l m:Tr c5},hEq l m=true->l=m
 |.lf,.lf,_=>rfl
 |.nd l x r,.nd g i c,h=>by
  unfold hEq at h;cases a:hEq l g with
  |false=>rw[a]at h;cases h
  |true=>
   rw[a]at h;change bB _ (hEq r c) false=true at h;have f:∀b:In,bB b (hEq r c) false=true->b=true/\hEq r c=true:=λb h=>by
    cases b with
    |false=>cases h
    |true=>exact⟨rfl,h⟩
   obtain⟨d,e⟩:=f _ h;rw[TY a,TY e];split at d
   ·rfl
   ·rw[YD d]
 |.lf,.nd _ _ _,h=>by cases h
 |.nd _ _ _,.lf,h=>by cases h
abbrev pK:=FuncId×(Do CV×Tr c5×Nat)×(CV×Tr c5×Nat)
def jG(L:Do pK):Mem:=λf b h n=>List.rec (motive:=λ_=>At (CV×Tr c5×Nat)) none (λe _ a=>bB (Nat.beq e.1 f) (bB (Nat.beq e.2.1.2.2 n) (bB (ag_ e.2.1.1 b) (bB (hEq e.2.1.2.1 h) (some e.2.2) a) a) a) a) L
def MOk.nil:MOk P w0 (jG []):=λf b h n r c d a=>by cases a
def MOk.cons{L:Do pK}{e:pK}(s:MOk P w0 (jG L))(k:FC P w0 e.1 e.2.1.1 e.2.1.2.1 e.2.1.2.2 e.2.2.1 e.2.2.2.1 e.2.2.2.2):MOk P w0 (jG (e::L)):=λf c h n r i j a=>by
 have d:∀{b:In} {x y:At (CV×Tr c5×Nat)} {z},bB b x y=some z->(b=true/\x=some z)\/y=some z:=λ{b x y z} h=>by
  cases b with
  |true=>exact .inl ⟨rfl,h⟩
  |false=>exact .inr h
 have g:jG L f c h n=some (r,i,j)->FC P w0 f c h n r i j:=s f c h n r i j;change bB (Nat.beq e.1 f) (bB (Nat.beq e.2.1.2.2 n) (bB (ag_ e.2.1.1 c) (bB (hEq e.2.1.2.1 h) (some e.2.2) (jG L f c h n)) (jG L f c h n)) (jG L f c h n)) (jG L f c h n)=_ at a;rcases d a with⟨m,t⟩|a
 ·rcases d t with⟨o,u⟩|a
  ·rcases d u with⟨p,v⟩|a
   ·rcases d v with⟨q,w⟩|a
    ·obtain rfl:=ep m
     obtain rfl:=ep o;obtain rfl:=YJ p;obtain rfl:=TY q;have l:=aut w;rw[l]at k;exact k
    ·exact g a
   ·exact g a
  ·exact g a
 ·exact g a
def qY:CV->Tr c5->Nat->At (CV×Tr c5×Nat):=λr h n=>some (r,h,n)
def ey{E:QX}{M:Mem}(m:P.follows .mixedOrders=true)(i:gG P T)(f:∀b o u,GT b o u->w0.cell? ⟨b,o,none⟩=some u)(e:EOk P w0 E)(g:MOk P w0 M){d:Tr c5}{p:CV×Tr c5×Nat}(k:gW T E M a I G d h qY=some p):FC P w0 I G d h p.1 p.2.1 p.2.2:=by
 obtain⟨c,n,q,j,l⟩:=t_ m i f e g a I G d h qY p k;cases l;exact j
def D1(T:EQ->bu)(b:KC Nat)(N:Nat)(a:Func)(u:Nat->Id):bX:=match a.body with
 |some (.seq (.region _ e false) c)=>(match e.toList with
  |o::l=>(match o.op,o.guard,o.dst with
   |.call ⟨.builtin .recover,⟨[]⟩,_⟩,none,some d=>bB a.results.toList.isEmpty (Tr.put (.v .nilIface) (Tr.ofF 64 (λi=>.v (u i)) a.ntmps) d λt=>aa8 T (λ_=>false) b (o::l) l (QW T (λ_=>false) b N c (λ_ _ _=>some 0) (λ_ _ _ _=>none) (λ_ _ _=>some 0)) t .lf 0) none
   |_,_,_=>none)
  |[]=>none)
 |_=>none
def Ah(x:P.follows .mixedOrders=true)(q:gG P T)(p:∀b o u,GT b o u->w0.cell? ⟨b,o,none⟩=some u){f:KC Nat}(s:∀w,Ext w0 w->gP P w f)
 (t:Enters P I) (v:P.funcs[I]? =some B) (e:∀u:Nat->Id,D1 T f a B u=some 0):∀n,CB P w0 {target:=.fn (.func I) n,args:= #[]}:=by
 have c:=e λ_=>undef;unfold D1 at c e;split at c
 ·rename_i id A z h
  split at c
  ·rename_i o l m
   split at c
   ·rename_i C d k j i
    obtain⟨y,_⟩:=bj c;refine Q4 (N:=a) x q p s t v h m k j i (by simpa using y) λu=>?_;have g:=e u;simp only[h,m,k,j,i]at g;exact(bj g).2
   ·cases c
  ·cases c
 ·cases c
def aha(b:Do Func)(m:Nat):In:=(List.range b.length).all λf=> !(Nat.testBit m f)||(match atL b f with
 |some a=> !(a.name== "runtime.NumGoroutine") && a.body.isSome
 |none=>false)
def kW(h:aha P.funcs.toList a=true)(l:a<2^P.funcs.toList.length):∀f,Nat.testBit a f=true->Enters P f:=by
 intro f d;have j:f<P.funcs.toList.length:=by
  by_cases e:f<P.funcs.toList.length
  ·exact e
  ·rw[azr (awq l (ayX bv bv))]at d
   cases d
 have:=auO.1 h f (avr.2 j);rw[d]at this;simp only[auH,ayj]at this;rw[TV]at this;split at this
 ·rename_i b k
  simp only[aup,avC]at this;have i:P.funcs[f]? =some b:=by simpa using k
  refine⟨b,i,this.1,?_⟩;cases g:b.body with
  |none=>rw[g]at this;simp at this
  |some c=>rfl
 ·cases this
def ala{b:Do Func}{a i c:Nat}(e:P.funcs.toList=b)(h:aha P.funcs.toList a=true)(g:a<2^P.funcs.toList.length)(d:j0 (CB P w0) λf=>Nat.testBit c f):EOk P w0 ⟨b,a,i,c⟩:=⟨e,kW h g,d⟩
end
end
abbrev vi(n:Int):CV:=.v (.int .i64 n)
abbrev vb(b:In):CV:=.v (.bool b)
abbrev vn:CV:=.v (.slice none 0 0)
noncomputable def tC(l:Do CV):Tr CV:=Tr.ofF 64 (λi=>l.getD i vn) l.length
noncomputable def tI(l:aX):Tr CV:=tC (l.map vi)
noncomputable def wFs:Do Func:=Tryz.prog.funcs.toList
def wE:QX:=⟨wFs,559936719541210032866881168897537611918440024984792972888189762001349923349971681505356879058423513084,431464458966079177025620751301545076527454739941640566618401554169888,5070602400912917614782905843712⟩
def wE0:QX:=⟨wFs,559936719541210032866881168897537611918440024984792972888189762001349923349971681505356879058423513084,431464458966079177025620751301545076527454739941640566618401554169888,0⟩
def G9:pK:=(29,([(.sl 0 0 4 none),(.ag [(vi 8),(vi 3),(vi 2),(vi 3),(.sl 1 0 3 (some 3))])],(.nd (.nd .lf (some (.ce (tI [0,1,1,0,2,0]) 6 none false)) .lf) (some (.ce (tI [0,1,1,2,2,0,3,2]) 8 (some 2) false)) .lf),2),((.tu [(.sl 2 0 4 none),(vi 13),(vi 0)]),(.nd (.nd .lf (some (.ce (tI [0,1,1,0,2,0]) 6 none false)) .lf) (some (.ce (tI [0,1,1,2,2,0,3,2]) 8 (some 2) false)) (.nd .lf (some (.ce (tI [0,1,0,2,1,2,2,3]) 8 (some 2) true)) .lf)),3))
def Hu:pK:=(29,([(.sl 0 0 1 none),(.ag [(vi 8),(vi 3),(vi 2),(vi 3),(.sl 1 0 3 (some 3))])],(.nd (.nd .lf (some (.ce (tI [0,1,1,0,2,0]) 6 none false)) .lf) (some (.ce (tI [1,0]) 2 (some 2) false)) .lf),2),((.tu [(.sl 2 0 1 none),(vi 11),(vi 0)]),(.nd (.nd .lf (some (.ce (tI [0,1,1,0,2,0]) 6 none false)) .lf) (some (.ce (tI [1,0]) 2 (some 2) false)) (.nd .lf (some (.ce (tI [0,1]) 2 (some 2) true)) .lf)),3))
def HI:pK:=(29,([(.sl 0 0 4 (some 4)),(.ag [(vi 8),(vi 3),(vi 2),(vi 3),(.sl 1 0 3 (some 3))])],(.nd (.nd .lf (some (.ce (tI [0,1,1,0,2,0]) 6 none false)) .lf) (some (.ce (tI [0,1,1,2,2,0,3,2]) 8 none false)) .lf),2),((.tu [(.sl 2 0 4 none),(vi 13),(vi 0)]),(.nd (.nd .lf (some (.ce (tI [0,1,1,0,2,0]) 6 none false)) .lf) (some (.ce (tI [0,1,1,2,2,0,3,2]) 8 none false)) (.nd .lf (some (.ce (tI [0,1,0,2,1,2,2,3]) 8 (some 2) true)) .lf)),3))
def JR:pK:=(32,([(vi 4),(.ag [(vi 2),(vi 3),(.sl 0 0 3 (some 3))])],(.nd .lf (some (.ce (tI [0,1,1,0,2,0]) 6 none false)) .lf),1),((.tu [(.sl 1 0 4 none),(vi 3),(vi 0)]),(.nd (.nd .lf (some (.ce (tI [2,3,0,1]) 4 (some 1) true)) .lf) (some (.ce (tI [0,1,1,0,2,0]) 6 none false)) .lf),2))
def L7:pK:=(59,([(.ag [(vi 5),(.sl 0 0 4 none)])],(.nd .lf (some (.ce (tC [(vi 0),(vi 1),(vi 0),(vb true),(vi 0),(vi 2),(vi 0),(vb true),(vi 1),(vi 2),(vi 0),(vb false),(vi 2),(vi 3),(vi 0),(vb true)]) 16 (some 4) false)) .lf),1),((vb true),(.nd .lf (some (.ce (tC [(vi 0),(vi 1),(vi 0),(vb true),(vi 0),(vi 2),(vi 0),(vb true),(vi 1),(vi 2),(vi 0),(vb false),(vi 2),(vi 3),(vi 0),(vb true)]) 16 (some 4) false)) .lf),1))
def Mh:pK:=(59,([(.ag [(vi 5),(.sl 0 0 3 none)])],(.nd .lf (some (.ce (tC [(vi 0),(vi 2),(vi 0),(vb true),(vi 1),(vi 2),(vi 0),(vb false),(vi 2),(vi 3),(vi 0),(vb true)]) 12 (some 4) false)) .lf),1),((vb true),(.nd .lf (some (.ce (tC [(vi 0),(vi 2),(vi 0),(vb true),(vi 1),(vi 2),(vi 0),(vb false),(vi 2),(vi 3),(vi 0),(vb true)]) 12 (some 4) false)) .lf),1))
def Q5:pK:=(59,([(.ag [(vi 5),(.sl 0 0 3 none)])],(.nd .lf (some (.ce (tC [(vi 0),(vi 2),(vi 0),(vb true),(vi 1),(vi 2),(vi 0),(vb true),(vi 2),(vi 3),(vi 0),(vb true)]) 12 (some 4) false)) .lf),1),((vb true),(.nd .lf (some (.ce (tC [(vi 0),(vi 2),(vi 0),(vb true),(vi 1),(vi 2),(vi 0),(vb true),(vi 2),(vi 3),(vi 0),(vb true)]) 12 (some 4) false)) .lf),1))
def Rn:pK:=(22,([(.ag [(vi 5),(.sl 0 0 3 none)]),(vi 0)],(.nd .lf (some (.ce (tC [(vi 0),(vi 2),(vi 0),(vb true),(vi 1),(vi 2),(vi 0),(vb true),(vi 2),(vi 3),(vi 0),(vb true)]) 12 (some 4) false)) .lf),1),((.tu [(.ag [(vi 5),(.sl 3 0 2 none)]),(vi 0)]),(.nd (.nd (.nd .lf (some (.ce (tC [(.sl 2 0 10 none),(.sl 1 0 1 (some 1))]) 2 (some 1) true)) .lf) (some (.ce (tI [4]) 1 none true)) .lf) (some (.ce (tC [(vi 0),(vi 2),(vi 0),(vb true),(vi 1),(vi 2),(vi 0),(vb true),(vi 2),(vi 3),(vi 0),(vb true)]) 12 (some 4) false)) (.nd .lf (some (.ce (tI [0,7,16,1,12,2,18,3,22,15]) 10 (some 1) true)) .lf)),4))
def TZ:pK:=(42,([(.ag [(vi 5),(.sl 0 0 4 none),(vi 1),(vi 16)]),(.ag [(vi 2),(.sl 1 0 1 none),vn]),(.ag [(vi 8),(vi 3),(vi 2),(vi 3),(.sl 2 0 3 (some 3))])],(.nd (.nd .lf (some (.ce (tI [1,0]) 2 (some 2) false)) .lf) (some (.ce (tC [(vi 0),(vi 1),(vi 0),(vb true),(vi 0),(vi 2),(vi 0),(vb true),(vi 1),(vi 2),(vi 0),(vb false),(vi 2),(vi 3),(vi 0),(vb true)]) 16 (some 4) false)) (.nd .lf (some (.ce (tI [0,1,1,0,2,0]) 6 none false)) .lf)),3),((.tu [(.ag [(vi 5),(.sl 3 0 3 none),(vi 2),(vi 28)]),(.ag [(vi 0),(vi 1),vn])]),(.nd (.nd (.nd .lf (some (.ce (tC [(vi 0),(vi 2),(vi 0),(vb true),(vi 1),(vi 2),(vi 0),(vb true),(vi 2),(vi 3),(vi 0),(vb true)]) 12 (some 4) true)) .lf) (some (.ce (tI [1,0]) 2 (some 2) false)) .lf) (some (.ce (tC [(vi 0),(vi 1),(vi 0),(vb true),(vi 0),(vi 2),(vi 0),(vb true),(vi 1),(vi 2),(vi 0),(vb false),(vi 2),(vi 3),(vi 0),(vb true)]) 16 (some 4) false)) (.nd .lf (some (.ce (tI [0,1,1,0,2,0]) 6 none false)) .lf)),4))
def YK:pK:=(5,([(.ag [(vi 5),vn,(vi 0),(vi 0)]),(.sl 0 0 39 none),(.ag [(vi 8),(vi 3),(vi 2),(vi 3),(.sl 1 0 3 (some 3))])],(.nd (.nd .lf (some (.ce (tI [0,1,1,0,2,0]) 6 none false)) .lf) (some (.ce (tC [(.v (.int .u8 1)),(.v (.int .u8 0)),(.v (.int .u8 4)),(.v (.int .u8 0)),(.v (.int .u8 0)),(.v (.int .u8 0)),(.v (.int .u8 1)),(.v (.int .u8 0)),(.v (.int .u8 1)),(.v (.int .u8 0)),(.v (.int .u8 2)),(.v (.int .u8 0)),(.v (.int .u8 2)),(.v (.int .u8 0)),(.v (.int .u8 0)),(.v (.int .u8 0)),(.v (.int .u8 3)),(.v (.int .u8 0)),(.v (.int .u8 2)),(.v (.int .u8 2)),(.v (.int .u8 0)),(.v (.int .u8 1)),(.v (.int .u8 0)),(.v (.int .u8 1)),(.v (.int .u8 0)),(.v (.int .u8 0)),(.v (.int .u8 3)),(.v (.int .u8 0)),(.v (.int .u8 2)),(.v (.int .u8 3)),(.v (.int .u8 0)),(.v (.int .u8 3)),(.v (.int .u8 0)),(.v (.int .u8 0)),(.v (.int .u8 4)),(.v (.int .u8 0)),(.v (.int .u8 0)),(.v (.int .u8 0)),(.v (.int .u8 0))]) 39 (some 1) false)) .lf),2),((.tu [(.ag [(vi 5),(.sl 2 0 3 none),(vi 3),(vi 29)]),(.sl 4 0 3 none),(vi 0)]),(.nd (.nd (.nd .lf (some (.ce (tI [4,2]) 2 (some 1) true)) .lf) (some (.ce (tI [0,1,1,0,2,0]) 6 none false)) .lf) (some (.ce (tC [(.v (.int .u8 1)),(.v (.int .u8 0)),(.v (.int .u8 4)),(.v (.int .u8 0)),(.v (.int .u8 0)),(.v (.int .u8 0)),(.v (.int .u8 1)),(.v (.int .u8 0)),(.v (.int .u8 1)),(.v (.int .u8 0)),(.v (.int .u8 2)),(.v (.int .u8 0)),(.v (.int .u8 2)),(.v (.int .u8 0)),(.v (.int .u8 0)),(.v (.int .u8 0)),(.v (.int .u8 3)),(.v (.int .u8 0)),(.v (.int .u8 2)),(.v (.int .u8 2)),(.v (.int .u8 0)),(.v (.int .u8 1)),(.v (.int .u8 0)),(.v (.int .u8 1)),(.v (.int .u8 0)),(.v (.int .u8 0)),(.v (.int .u8 3)),(.v (.int .u8 0)),(.v (.int .u8 2)),(.v (.int .u8 3)),(.v (.int .u8 0)),(.v (.int .u8 3)),(.v (.int .u8 0)),(.v (.int .u8 0)),(.v (.int .u8 4)),(.v (.int .u8 0)),(.v (.int .u8 0)),(.v (.int .u8 0)),(.v (.int .u8 0))]) 39 (some 1) false)) (.nd (.nd .lf (some (.ce (tC [(vi 0),(vi 4),vn,(vi 0),(vi 1),vn,(vi 0),(vi 0),(.sl 3 0 2 none)]) 9 (some 3) true)) .lf) (some (.ce (tC [(vi 0),(vi 2),(vi 0),(vb true),(vi 1),(vi 2),(vi 0),(vb true),(vi 2),(vi 3),(vi 0),(vb true)]) 12 (some 4) true)) .lf)),5))
def By:pK:=(37,([(.ag [(vi 5),(.sl 0 0 3 none)])],(.nd .lf (some (.ce (tC [(vi 0),(vi 2),(vi 0),(vb true),(vi 1),(vi 2),(vi 0),(vb true),(vi 2),(vi 3),(vi 0),(vb true)]) 12 (some 4) false)) .lf),1),((vb true),(.nd .lf (some (.ce (tC [(vi 0),(vi 2),(vi 0),(vb true),(vi 1),(vi 2),(vi 0),(vb true),(vi 2),(vi 3),(vi 0),(vb true)]) 12 (some 4) false)) .lf),1))
def C5:pK:=(17,([(.ag [(vi 5),(.sl 0 0 3 none),(vi 3),(vi 29)]),(.sl 1 0 4 (some 4))],(.nd (.nd .lf (some (.ce (tC [(.v (.int .u32 1)),(.v (.int .u32 2)),(.v (.int .u32 4)),(.v (.int .u32 8))]) 4 none false)) .lf) (some (.ce (tC [(vi 0),(vi 2),(vi 0),(vb true),(vi 1),(vi 2),(vi 0),(vb true),(vi 2),(vi 3),(vi 0),(vb true)]) 12 (some 4) false)) .lf),2),((.tu [(.sl 19 0 2 none),(vi 0)]),(.nd (.nd (.nd (.nd (.nd .lf (some (.ce (tI [5]) 1 (some 1) true)) .lf) (some (.ce (tI [1]) 1 (some 1) true)) .lf) (some (.ce (tI [1,4,1,2,1,3,3,4,3,4]) 10 (some 1) true)) (.nd (.nd .lf (some (.ce (tC [(.sl 6 0 10 none),(.sl 3 0 10 none),(.sl 18 0 10 (some 10)),(.sl 2 0 1 none),(.sl 7 0 1 none),(.sl 5 0 1 (some 1))]) 6 (some 3) true)) .lf) (some (.ce (tI [0,1,1,1]) 4 (some 1) true)) .lf)) (some (.ce (tC [(.v (.int .u32 1)),(.v (.int .u32 2)),(.v (.int .u32 4)),(.v (.int .u32 8))]) 4 none false)) (.nd (.nd (.nd .lf (some (.ce (tI [7,7,7]) 3 (some 1) true)) .lf) (some (.ce (tI [4,5]) 2 (some 1) true)) .lf) (some (.ce (tC [(.sl 4 0 1 none)]) 1 none true)) (.nd .lf (some (.ce (tI [1]) 1 (some 1) true)) .lf))) (some (.ce (tC [(vi 0),(vi 2),(vi 0),(vb true),(vi 1),(vi 2),(vi 0),(vb true),(vi 2),(vi 3),(vi 0),(vb true)]) 12 (some 4) false)) (.nd (.nd (.nd (.nd .lf (some (.ce (tI [3]) 1 (some 1) true)) .lf) (some (.ce (tI [8,8,8,9]) 4 (some 1) true)) .lf) (some (.ce (tI [0]) 1 (some 1) true)) (.nd .lf (some (.ce (tI [6,6,6]) 3 (some 1) true)) .lf)) (some (.ce (tI [4]) 1 (some 1) true)) (.nd (.nd (.nd .lf (some (.ce (tC [(.sl 13 0 1 none),(.sl 10 0 4 none),(.sl 16 0 1 none),(.sl 9 0 2 none),(.sl 15 0 1 none),(.sl 12 0 3 none),(.sl 17 0 3 none),(.sl 8 0 4 none),(.sl 14 0 3 none),(.sl 11 0 4 none)]) 10 none true)) .lf) (some (.ce (tI [2,3,5,7]) 4 (some 1) true)) .lf) (some (.ce (tI [0,7,16,1,12,2,18,3,22,15]) 10 (some 1) true)) (.nd .lf (some (.ce (tI [9,9,9]) 3 (some 1) true)) .lf)))),20))
def G_:pK:=(18,([(.ag [(.sl 0 0 10 none),(.sl 1 0 10 none),(.sl 12 0 10 (some 10))]),(.sl 13 0 10 (some 10))],(.nd (.nd (.nd (.nd .lf (some (.ce (tI [1]) 1 (some 1) false)) .lf) (some (.ce (tI [4,5]) 2 (some 1) false)) (.nd .lf (some (.ce (tI [7,7,7]) 3 (some 1) false)) .lf)) (some (.ce (tI [1,4,1,2,1,3,3,4,3,4]) 10 (some 1) false)) (.nd (.nd .lf (some (.ce (tI [5]) 1 (some 1) false)) .lf) (some (.ce (tI [0,1,1,1]) 4 (some 1) false)) (.nd .lf (some (.ce (tI [0,0,0,0,0,0,0,0,0,0]) 10 none false)) .lf))) (some (.ce (tI [0,7,16,1,12,2,18,3,22,15]) 10 (some 1) false)) (.nd (.nd (.nd .lf (some (.ce (tI [9,9,9]) 3 (some 1) false)) .lf) (some (.ce (tI [2,3,5,7]) 4 (some 1) false)) (.nd .lf (some (.ce (tC [(.sl 7 0 1 none),(.sl 4 0 4 none),(.sl 10 0 1 none),(.sl 3 0 2 none),(.sl 9 0 1 none),(.sl 6 0 3 none),(.sl 11 0 3 none),(.sl 2 0 4 none),(.sl 8 0 3 none),(.sl 5 0 4 none)]) 10 none false)) .lf)) (some (.ce (tI [8,8,8,9]) 4 (some 1) false)) (.nd (.nd .lf (some (.ce (tI [3]) 1 (some 1) false)) .lf) (some (.ce (tI [6,6,6]) 3 (some 1) false)) .lf))),14),((.tu [(.sl 24 0 10 (some 10)),(vi 0)]),(.nd (.nd (.nd (.nd (.nd .lf (some (.ce (tI [0,0]) 2 (some 1) true)) .lf) (some (.ce (tI [1]) 1 (some 1) false)) (.nd .lf (some (.ce (tI [0,0,0]) 3 (some 1) true)) .lf)) (some (.ce (tI [4,5]) 2 (some 1) false)) (.nd (.nd .lf (some (.ce (tI [0]) 1 (some 1) true)) .lf) (some (.ce (tI [7,7,7]) 3 (some 1) false)) .lf)) (some (.ce (tI [1,4,1,2,1,3,3,4,3,4]) 10 (some 1) false)) (.nd (.nd (.nd .lf (some (.ce (tI [0,0,0,0]) 4 (some 1) true)) .lf) (some (.ce (tI [5]) 1 (some 1) false)) .lf) (some (.ce (tI [0,1,1,1]) 4 (some 1) false)) (.nd (.nd .lf (some (.ce (tI [0]) 1 (some 1) true)) .lf) (some (.ce (tI [0,0,0,0,0,0,0,0,0,0]) 10 none false)) .lf))) (some (.ce (tI [0,7,16,1,12,2,18,3,22,15]) 10 (some 1) false)) (.nd (.nd (.nd (.nd .lf (some (.ce (tI [0,0,0,0]) 4 (some 1) true)) .lf) (some (.ce (tI [9,9,9]) 3 (some 1) false)) (.nd .lf (some (.ce (tC [(.sl 19 0 1 none),(.sl 16 0 4 none),(.sl 22 0 1 none),(.sl 15 0 2 none),(.sl 21 0 1 none),(.sl 18 0 3 none),(.sl 23 0 3 none),(.sl 14 0 4 none),(.sl 20 0 3 none),(.sl 17 0 4 none)]) 10 none true)) .lf)) (some (.ce (tI [2,3,5,7]) 4 (some 1) false)) (.nd (.nd .lf (some (.ce (tI [0,0,0]) 3 (some 1) true)) .lf) (some (.ce (tC [(.sl 7 0 1 none),(.sl 4 0 4 none),(.sl 10 0 1 none),(.sl 3 0 2 none),(.sl 9 0 1 none),(.sl 6 0 3 none),(.sl 11 0 3 none),(.sl 2 0 4 none),(.sl 8 0 3 none),(.sl 5 0 4 none)]) 10 none false)) .lf)) (some (.ce (tI [8,8,8,9]) 4 (some 1) false)) (.nd (.nd (.nd .lf (some (.ce (tI [0,0,0]) 3 (some 1) true)) .lf) (some (.ce (tI [3]) 1 (some 1) false)) .lf) (some (.ce (tI [6,6,6]) 3 (some 1) false)) (.nd (.nd .lf (some (.ce (tI [0]) 1 (some 1) true)) .lf) (some (.ce (tI [0,0,0,0]) 4 (some 1) true)) .lf)))),25))
def HJ:pK:=(20,([(.ag [(.sl 0 0 10 none),(.sl 1 0 10 none),(.sl 12 0 10 (some 10))]),(.sl 23 0 10 (some 10))],(.nd (.nd (.nd (.nd (.nd .lf (some (.ce (tI [0,0,0,0]) 4 (some 1) false)) .lf) (some (.ce (tI [1]) 1 (some 1) false)) (.nd .lf (some (.ce (tC [(.sl 18 0 1 none),(.sl 15 0 4 none),(.sl 21 0 1 none),(.sl 14 0 2 none),(.sl 20 0 1 none),(.sl 17 0 3 none),(.sl 22 0 3 none),(.sl 13 0 4 none),(.sl 19 0 3 none),(.sl 16 0 4 none)]) 10 none false)) .lf)) (some (.ce (tI [4,5]) 2 (some 1) false)) (.nd (.nd .lf (some (.ce (tI [0,0,0]) 3 (some 1) false)) .lf) (some (.ce (tI [7,7,7]) 3 (some 1) false)) .lf)) (some (.ce (tI [1,4,1,2,1,3,3,4,3,4]) 10 (some 1) false)) (.nd (.nd (.nd .lf (some (.ce (tI [0,0,0]) 3 (some 1) false)) .lf) (some (.ce (tI [5]) 1 (some 1) false)) .lf) (some (.ce (tI [0,1,1,1]) 4 (some 1) false)) (.nd (.nd .lf (some (.ce (tI [0]) 1 (some 1) false)) .lf) (some (.ce (tI [0,0,0,0]) 4 (some 1) false)) .lf))) (some (.ce (tI [0,7,16,1,12,2,18,3,22,15]) 10 (some 1) false)) (.nd (.nd (.nd (.nd .lf (some (.ce (tI [0,0,0,0]) 4 (some 1) false)) .lf) (some (.ce (tI [9,9,9]) 3 (some 1) false)) .lf) (some (.ce (tI [2,3,5,7]) 4 (some 1) false)) (.nd (.nd .lf (some (.ce (tI [0]) 1 (some 1) false)) .lf) (some (.ce (tC [(.sl 7 0 1 none),(.sl 4 0 4 none),(.sl 10 0 1 none),(.sl 3 0 2 none),(.sl 9 0 1 none),(.sl 6 0 3 none),(.sl 11 0 3 none),(.sl 2 0 4 none),(.sl 8 0 3 none),(.sl 5 0 4 none)]) 10 none false)) .lf)) (some (.ce (tI [8,8,8,9]) 4 (some 1) false)) (.nd (.nd (.nd .lf (some (.ce (tI [0]) 1 (some 1) false)) .lf) (some (.ce (tI [3]) 1 (some 1) false)) .lf) (some (.ce (tI [6,6,6]) 3 (some 1) false)) (.nd (.nd .lf (some (.ce (tI [0,0,0]) 3 (some 1) false)) .lf) (some (.ce (tI [0,0]) 2 (some 1) false)) .lf)))),24),((.tu [(vi 0),(vi 0)]),(.nd (.nd (.nd (.nd (.nd .lf (some (.ce (tI [0,0,0,0]) 4 (some 1) false)) .lf) (some (.ce (tI [1]) 1 (some 1) false)) (.nd .lf (some (.ce (tC [(.sl 18 0 1 none),(.sl 15 0 4 none),(.sl 21 0 1 none),(.sl 14 0 2 none),(.sl 20 0 1 none),(.sl 17 0 3 none),(.sl 22 0 3 none),(.sl 13 0 4 none),(.sl 19 0 3 none),(.sl 16 0 4 none)]) 10 none false)) .lf)) (some (.ce (tI [4,5]) 2 (some 1) false)) (.nd (.nd .lf (some (.ce (tI [0,0,0]) 3 (some 1) false)) .lf) (some (.ce (tI [7,7,7]) 3 (some 1) false)) .lf)) (some (.ce (tI [1,4,1,2,1,3,3,4,3,4]) 10 (some 1) false)) (.nd (.nd (.nd .lf (some (.ce (tI [0,0,0]) 3 (some 1) false)) .lf) (some (.ce (tI [5]) 1 (some 1) false)) .lf) (some (.ce (tI [0,1,1,1]) 4 (some 1) false)) (.nd (.nd .lf (some (.ce (tI [0]) 1 (some 1) false)) .lf) (some (.ce (tI [0,0,0,0]) 4 (some 1) false)) .lf))) (some (.ce (tI [0,7,16,1,12,2,18,3,22,15]) 10 (some 1) false)) (.nd (.nd (.nd (.nd .lf (some (.ce (tI [0,0,0,0]) 4 (some 1) false)) .lf) (some (.ce (tI [9,9,9]) 3 (some 1) false)) .lf) (some (.ce (tI [2,3,5,7]) 4 (some 1) false)) (.nd (.nd .lf (some (.ce (tI [0]) 1 (some 1) false)) .lf) (some (.ce (tC [(.sl 7 0 1 none),(.sl 4 0 4 none),(.sl 10 0 1 none),(.sl 3 0 2 none),(.sl 9 0 1 none),(.sl 6 0 3 none),(.sl 11 0 3 none),(.sl 2 0 4 none),(.sl 8 0 3 none),(.sl 5 0 4 none)]) 10 none false)) .lf)) (some (.ce (tI [8,8,8,9]) 4 (some 1) false)) (.nd (.nd (.nd .lf (some (.ce (tI [0]) 1 (some 1) false)) .lf) (some (.ce (tI [3]) 1 (some 1) false)) .lf) (some (.ce (tI [6,6,6]) 3 (some 1) false)) (.nd (.nd .lf (some (.ce (tI [0,0,0]) 3 (some 1) false)) .lf) (some (.ce (tI [0,0]) 2 (some 1) false)) .lf)))),24))
def L8:pK:=(23,([(.ag [(vi 5),(.sl 2 0 2 none)]),(vi 3)],(.nd (.nd .lf (some (.ce (tI [0,7,16,1,12,2,18,3,22,15]) 10 (some 1) false)) .lf) (some (.ce (tI [4]) 1 none false)) (.nd .lf (some (.ce (tC [(.sl 1 0 10 none),(.sl 0 0 1 (some 1))]) 2 (some 1) false)) .lf)),3),((.tu [(vi 4),(vi 0)]),(.nd (.nd .lf (some (.ce (tI [0,7,16,1,12,2,18,3,22,15]) 10 (some 1) false)) .lf) (some (.ce (tI [4]) 1 none false)) (.nd .lf (some (.ce (tC [(.sl 1 0 10 none),(.sl 0 0 1 (some 1))]) 2 (some 1) false)) .lf)),3))
def Q6:pK:=(30,([(.ag [(vi 5),(.sl 0 0 3 none)]),(.sl 1 0 1 (some 1))],(.nd (.nd .lf (some (.ce (tI [1,0]) 2 none false)) .lf) (some (.ce (tC [(vi 0),(vi 2),(vi 0),(vb true),(vi 1),(vi 2),(vi 0),(vb true),(vi 2),(vi 3),(vi 0),(vb true)]) 12 (some 4) false)) .lf),2),((.tu [(.ag [(vi 5),(.sl 2 0 4 none)]),(vi 1),(vi 0)]),(.nd (.nd .lf (some (.ce (tI [1,0]) 2 none false)) .lf) (some (.ce (tC [(vi 0),(vi 2),(vi 0),(vb true),(vi 1),(vi 2),(vi 0),(vb true),(vi 2),(vi 3),(vi 0),(vb true)]) 12 (some 4) false)) (.nd .lf (some (.ce (tC [(vi 0),(vi 1),(vi 0),(vb false),(vi 0),(vi 2),(vi 0),(vb true),(vi 1),(vi 2),(vi 0),(vb true),(vi 2),(vi 3),(vi 0),(vb true)]) 16 (some 4) true)) .lf)),3))
def T0:pK:=(31,([(.ag [(vi 5),(.sl 0 0 4 none)]),(.sl 1 0 1 (some 1))],(.nd (.nd .lf (some (.ce (tI [1,0]) 2 none false)) .lf) (some (.ce (tC [(vi 0),(vi 1),(vi 0),(vb false),(vi 0),(vi 2),(vi 0),(vb true),(vi 1),(vi 2),(vi 0),(vb true),(vi 2),(vi 3),(vi 0),(vb true)]) 16 (some 4) false)) .lf),2),((.tu [(.ag [(vi 5),(.sl 2 0 3 none)]),(.sl 3 0 1 none),(vi 0)]),(.nd (.nd (.nd .lf (some (.ce (tC [(vb false),(vb false),(vi 0),(vi 0),(vi 0)]) 5 (some 5) true)) .lf) (some (.ce (tI [1,0]) 2 none false)) .lf) (some (.ce (tC [(vi 0),(vi 1),(vi 0),(vb false),(vi 0),(vi 2),(vi 0),(vb true),(vi 1),(vi 2),(vi 0),(vb true),(vi 2),(vi 3),(vi 0),(vb true)]) 16 (some 4) false)) (.nd .lf (some (.ce (tC [(vi 0),(vi 2),(vi 0),(vb true),(vi 1),(vi 2),(vi 0),(vb true),(vi 2),(vi 3),(vi 0),(vb true)]) 12 (some 4) true)) .lf)),4))
def Ai:aha Tryz.prog.funcs.toList 559936719541210032866881168897537611918440024984792972888189762001349923349971681505356879058423513084=true:=ci
def Aj:(559936719541210032866881168897537611918440024984792972888189762001349923349971681505356879058423513084:Nat)<2^Tryz.prog.funcs.toList.length:=avo ci
def alb:Func:=(atL wFs 102).getD default
def ahb:Tryz.prog.funcs[102]? =some alb:=ci
def aqW u:D1 T (gW T wE0 (jG []) 100) 100 alb u=some 0:=ci
def aqX:Func:=(atL wFs 43).getD default
def aj6:Tryz.prog.funcs[43]? =some aqX:=ci
def as4 u:D1 T (gW T wE0 (jG []) 100) 100 aqX u=some 0:=ci
def anO(w:GE):EOk Tryz.prog w wE0:=ala rfl Ai Aj λf h=>by
 have:(Nat.testBit 0 f)=true:=h;simp at this
def ahc(d:∀a o u,GT a o u->b.cell? ⟨a,o,none⟩=some u):EOk Tryz.prog b wE:=ala rfl Ai Aj λf h e=>by
 have i:∀w,Ext b w->gP Tryz.prog w (gW T wE0 (jG []) 100 (R:=Nat)):=λw l=>t_ mixed xg (λa o u h=>l.cell (d a o u h)) (anO w) MOk.nil 100;have j:f=102\/f=43:=by
  have c:Nat.testBit (2^102+2^43) f=true:=h;have k:f<128:=by
   by_cases g:f<128
   ·exact g
   ·rw[azr (awq (by decide:2^102+2^43<2^128) (ayX d6 (awt g)))]at c
    cases c
  have m:∀f,f<128->Nat.testBit (2^102+2^43) f=true->f=102\/f=43:=d6
  exact m f k c
 rcases j with rfl|rfl
 ·exact Ah mixed xg d i (kW Ai Aj 102 d6) ahb aqW e
 ·exact Ah mixed xg d i (kW Ai Aj 43 d6) aj6 as4 e
variable{i:Hp}{t:Int}{H:Do AV}{A:Id}
noncomputable def qD:bI:=[(4294967296,3),(4294967297,6),(4294967298,7),(4294967299,4),(4294967300,5)]
abbrev AK1:Type:=(EV×EV×EV×EV×EV)×At dO×At dO×At dO×At dO×At dO
abbrev AK2:Type:=EV×EV×At dO×At dO
noncomputable def aK:IO->b_->At (Sum AK1 AK2)
 |.normal,E=>some (.inl ((cy E.t 3,cy E.t 4,cy E.t 5,cy E.t 6,cy E.t 7),bx E.h 3,bx E.h 4,bx E.h 5,bx E.h 6,bx E.h 7))
 |.ret,E=>some (.inr (cy E.t 6,cy E.t 7,bx E.h 6,bx E.h 7))
 |_,_=>none
def aq0 N n d c st k j m f i g P l:px N (Sum AK1 AK2) (pq [0]) (pE n d c st k j m f i g P l) (λE=>ra T (Mg mS N) N (pq [1,0]) .z E (Sum AK1 AK2) aK)=
 aW (nO N (n,d,c,st)) λb=>cond (!b)
  (some (.inr (.pt 6 0,.pt 7 0,some (.box 28 (gS n d c st)),some (.box 49 [.sc j1 1,.sc j1 0,.nil]))))
  (some (.inl ((.pt 3 0,.pt 4 0,.pt 5 0,.pt 6 0,.pt 7 0),some (.box 28 (gS n d c st)),some (.box 56 [.sc j1 k,.sc gO j,.sc AQ m]),some (.box 38 [.sc j1 f,.sc j1 i,.sc j1 g,.sc j1 P,.sc gO l]),some (.box 28 zS),some (.box 49 zR)))):=ci
noncomputable def ahd(b c:Nat)(d f:Do EV):b_:=⟨30,[(6,.pt b 0),(7,.pt c 0)],[(b,some (.box 28 d)),(c,some (.box 49 f))]⟩
def aq1 n d b st e c z:xM T (ahd 6 7 (gS n d b st) [.sc j1 e,.sc j1 c,z]) f42.results.toList=some [.ag (gS n d b st),.ag [.sc j1 e,.sc j1 c,z]]:=ci
def alc n d b st e c z:xM T (ahd 4294967297 4294967298 (gS n d b st) [.sc j1 e,.sc j1 c,z]) f42.results.toList=some [.ag (gS n d b st),.ag [.sc j1 e,.sc j1 c,z]]:=ci
section
variable{P:Fd}{B:Bs}{Rd:bF}{e:Env}{h h2:Hp}{w:GE}{st:St}{a:Act}
def SR.less(d:SR B Rd e h w)(g:∀k ob,aZ h2 k=some ob->aZ h k=some ob):SR B Rd e h2 w/\∀b o u,bN B Rd e h w b o u->bN B Rd e h2 w b o u:=by
 have i:∀b o u,bN B Rd e h w b o u->bN B Rd e h2 w b o u:=λb o u ⟨m,h2,n⟩=>⟨m,h2,λk ob c f=>n k ob (g k ob c) f⟩;exact⟨⟨d.ext,d.kg,λk ob c=>(d.ob k ob (g k ob c)).mono i,λk ob b c f=>d.base k ob b (g k ob c) f,λk j ob l b c q f p=>d.inj k j ob l b (g k ob c) (g j l q) f p,d.rL⟩,i⟩
def ahe{f:Func}(j:Ga B Rd e st a w)(l:Ej P st f.results.toList=some H):∃v,(results f a.tmps).run P w=.ok v w/\VR (bN B Rd e st.h w) (some e) (My H) v:=by
 obtain⟨d,m,b⟩:=C_ (P:=P) j _ _ l;have k:(f.results.mapM (lL a.tmps)).run P w=.ok d.toArray w:=by
  rw[ayq];simp only[axf,m];rfl
 rw[wz];simp only[auF,k,auG,auJ];refine⟨_,rfl,?_⟩
 match H,d,b with
 |[],[],b=>exact .tu [] rfl d5
 |[c],[u],b=>simpa[My]using b.2 0 c u rfl rfl
 |c::g::H,u::i::d,b=>
  have:¬(u::i::d).toArray.size=1:=d5
  rw[dif_neg this];exact .tu _ b.1 b.2
 |[],u::d,b=>have:=b.1;simp at this
 |[c],[],b=>have:=b.1;simp at this
 |[c],u::i::d,b=>have:=b.1;simp at this
 |c::g::H,[],b=>have:=b.1;simp at this
 |c::g::H,[u],b=>have:=b.1;simp at this
end
noncomputable def rTk(n:Int)(d:Do cA)(b st e c:Int)(z:EV):EV:=.tu [.ag (gS n d b st),.ag [.sc j1 e,.sc j1 c,z]]
def aj7{Rd:bF}{E:At Env}(h:VR Rd E (enc .nil) A):VR Rd E (enc (.sc j6 [])) A:=by
 change VR Rd E (.sl true 0 []) A at h;cases h with
 |sl d l f c j b h2 g i=>
  have k:d=[]:=by simpa using c
  exact .sl (rows:=[]) [] d5 d5 rfl d5 b h2 (λh=>by cases h) d5
def ald{Rd:bF}{E:At Env}{l:Do cA}{g st e c:Int}(h:VR Rd E (enc (rTk t l g st e c .nil)) A):VR Rd E (enc (rTk t l g st e c (.sc j6 []))) A:=by
 obtain⟨m,rfl,k⟩:=h.D9 (cs:=bS [.ag (gS t l g st),.ag [.sc j1 e,.sc j1 c,.nil]]);refine .tu m k.1 λj x u b d=>?_
 match j with
 |0=>exact k.2 0 x u b d
 |1=>
  have b:enc (.ag [.sc j1 e,.sc j1 c,.sc j6 []])=x:=aut b;subst b;obtain⟨n,rfl,f⟩:=(k.2 1 (enc (.ag [.sc j1 e,.sc j1 c,.nil])) u rfl d).e5 (cs:=bS [.sc j1 e,.sc j1 c,.nil]);refine .ag n f.1 λi x u b d=>?_
  match i with
  |0=>exact f.2 0 x u b d
  |1=>exact f.2 1 x u b d
  |2=>
   have b:enc (.sc j6 [])=x:=aut b;subst b;exact aj7 (f.2 2 (enc .nil) u rfl d)
  |i+3=>cases b
 |j+2=>cases b
def aq2(n:Int)(f:Do cA)(d st e c:Int)(b:aX):(enc (rTk n f d st e c (.sc j6 b))).f_ (λ_=>true)=true:=by rfl
def T1{B:Bs}{Rd:bF}{e:Env}{w:GE}{tm:dU}{d f:Nat}{g j:Do EV}{r:Do EV}(A:SR B Rd e i w)(C:tm.size=30)
 (z:xM T (ahd d f g j) f42.results.toList=some r) (t:VR (bN B Rd e i w) (some e) (.pt d 0) (tm.getD 6 undef)) (u:VR (bN B Rd e i w) (some e) (.pt f 0) (tm.getD 7 undef))
 (p:aZ i d=some (bU (.box 28 g))) (q:aZ i f=some (bU (.box 49 j))):
 ∃v,(results f42 tm).run Tryz.prog w=.ok v w/\VR (bN B Rd e [] w) (some e) (My (bS r)) v:=by
 have y:∀k ob,aZ (bs (ahd d f g j).h) k=some ob->aZ i k=some ob:=λk ob c=>by
  change aZ [(d,some (bU (.box 28 g))),(f,some (bU (.box 49 j)))] k=some ob at c;by_cases l:k=d
  ·subst l;rw[bf]at c;rw[p];exact c
  ·rw[bc l]at c
   by_cases m:k=f
   ·subst m;rw[bf]at c;rw[q];exact c
   ·rw[bc m]at c;cases c
 obtain⟨o,n⟩:=A.less y;have x:Ga B Rd e (bg (ahd d f g j)) ⟨tm,B.df⟩ w:=⟨⟨C,by show(30:Nat)<=1000000;decide⟩,rfl,o,λb=>by
  change VR _ _ (bD [(6,.pt d 0),(7,.pt f 0)] b) (tm.getD b undef);by_cases l:b=6
  ·subst l;exact t.mono n
  ·by_cases m:b=7
   ·subst m;exact u.mono n
   ·simp only[bD,l,m,avf];exact .un⟩
 obtain⟨v,s,h2⟩:=ahe (P:=Tryz.prog) x (xP xg z);exact⟨v,s,h2.mono (o.less (h2:=[]) λk ob c=>by cases c).2⟩
variable{e:Env}{E:SV×RV}
abbrev TkT(s:SV)(x:XV)(w:WV):TA:=(x.1,x.2.1,x.2.2,w.1,w.2.1,w.2.2.1,w.2.2.2.1,w.2.2.2.2,s.1,s.2.1,s.2.2.1,s.2.2.2,0,0,[])
def T2{s:SV}{x:XV}{w:WV}(h:rE (a+1) s x w=some E):
 (nO (a+1) s=some false/\E=(s,1,0,[]))\/(nO (a+1) s=some true/\
  ((∃l,l≠0/\Jf (a+1) (TkT s x w)=some l/\E=(s,l,0,[]))\/Ba (a+2) (TkT s x w)=some (E.1.1,E.1.2.1,E.1.2.2.1,E.1.2.2.2,E.2.1,E.2.2.1,E.2.2.2))):=by
 obtain⟨n,j,A,G⟩:=s;obtain⟨k,B,F⟩:=x;obtain⟨y,z,g,P,v⟩:=w;unfold rE at h;cases u:nO (a+1) (n,j,A,G)with
 |none=>rw[u]at h;cases h
 |some b=>
  rw[u]at h;cases b with
  |false=>exact .inl ⟨rfl,(aut h).symm⟩
  |true=>
   refine .inr ⟨rfl,?_⟩;have f:dR (a+1) 0=some ():=by rw[rz];rfl
   unfold TkT;rw[aaw];unfold Jf;simp only[aW,auQ]at h⊢;generalize ru (a+1) (n,j,k,B,F,y,z,g,P,v)=C at h⊢;cases C with
   |none=>cases h
   |some c=>
    simp only at h⊢;by_cases m:c.2.1=0
    ·rw[m]at h⊢
     simp only[avF,auQ,auH,auv,f]at h⊢;generalize kL (a+1) (IntKind.wrap .i64 (((c.2.2.2.1.length:Nat):Int)+((c.2.2.2.2.length:Nat):Int)),g,P,v)=D at h⊢;cases D with
     |none=>cases h
     |some o=>
      simp only at h⊢;by_cases p:o.2.1=0
      ·rw[p]at h⊢
       simp only[avF,auQ,auH,auv,f]at h⊢;by_cases q:c.2.2.1=1
       ·simp only[q,avF,auQ]at h⊢
        generalize oH (a+1) (n,j,c.2.2.2.1)=i at h⊢;cases i with
        |none=>cases h
        |some d=>
         simp only at h⊢;by_cases e:d.2.1=0
         ·rw[e]at h⊢
          simp only[avF,auQ,f]at h⊢;cases h;exact .inr rfl
         ·simp only[auW e,auv]at h
          cases h;exact .inl ⟨_,e,rfl,rfl⟩
       ·simp only[auW q,auv]at h⊢
        by_cases r:c.2.2.1=2
        ·simp only[r,avF,auQ]at h⊢
         generalize tk (a+1) (n,j,c.2.2.2.1)=i at h⊢;cases i with
         |none=>cases h
         |some d=>
          simp only at h⊢;by_cases e:d.1=0
          ·rw[e]at h⊢
           simp only[avF,auQ,f]at h⊢;cases h;exact .inr rfl
          ·simp only[auW e,auv]at h
           cases h;exact .inl ⟨_,e,rfl,rfl⟩
        ·simp only[auW r,auv]at h⊢
         by_cases t:c.2.2.1=3
         ·simp only[t,avF,auQ]at h⊢
          generalize zr (a+1) (n,j,c.2.2.2.2)=i at h⊢;cases i with
          |none=>cases h
          |some d=>
           simp only at h⊢;by_cases e:d.1=0
           ·rw[e]at h⊢
            simp only[avF,auQ,f]at h⊢;cases h;exact .inr rfl
           ·simp only[auW e,auv]at h
            cases h;exact .inl ⟨_,e,rfl,rfl⟩
         ·simp only[auW t,auv]at h⊢
          cases h;exact .inr rfl
      ·simp only[auW p,auv,avB,auQ]at h⊢
       cases h;exact .inl ⟨_,p,rfl,rfl⟩
    ·simp only[auW m,auv,avB,auQ]at h⊢
     cases h;exact .inl ⟨_,m,rfl,rfl⟩
def anP(b:pQ qD a=some h):(a=4294967296/\h=3)\/(a=4294967297/\h=6)\/(a=4294967298/\h=7)\/(a=4294967299/\h=4)\/(a=4294967300/\h=5):=by
 have:=fx b;unfold qD at this;simpa using this
def ale:Hi 1000 qD=true:=d6
def ng{Rd:bF}{t:EQ}(h:OR Rd e b a (.box t H)):e.cP a=0:=h.1
def qQ{Rd:bF}(c:VR Rd (some e) (.pt a h) A):∃b,e.bW a=some b/\A=.pointer (some ⟨b,h,none⟩):=by
 cases c with
 |pt c=>exact⟨_,c,rfl⟩
def L9:Enters Tryz.prog 102:=⟨f102,func102,by kernel_rfl,by kernel_rfl⟩
def aq4(w:GE)(c:∀b o u,GT b o u->w.cell? ⟨b,o,none⟩=some u)(a:dU):CB Tryz.prog w {target:=.fn (.func 102) a,args:= #[]}:=
 (ahc c).idle _ d6 a
variable{v:Do (Nat×AV)}{y:aX}
noncomputable abbrev qB(e:Env)(w:GE)(D:Deferred):Bs:=(cB qD 1000 e w).mb [D]
abbrev qRd(B:Bs)(Rd:bF)(e:Env)(h:Hp)(w:GE):bF:=Md qD 1000 B Rd e h w
section
variable{B:Bs}{Rd:bF}{e e2:Env}{h H:Hp}{w w':GE}{D:Deferred}
def aq5(q:SR B Rd e h w)(p:Handed qD e h)(r:SR (qB e w D) (qRd B Rd e h w) e2 H w'){l:Do cA}{a i f c:Int}
 (s:VR (bN (qB e w D) (qRd B Rd e h w) e2 [] w') (some e2) (enc (rTk t l a i f c (.sc j6 y))) A):∃d,SR B Rd d [] w'/\VR (bN B Rd d [] w') (some d) (enc (rTk t l a i f c (.sc j6 y))) A:=by
 obtain⟨j1,j2,j3,j4⟩:=SR.eb q p ale (SR.Co r.nil) rfl;obtain⟨v,x⟩:=j1.less (h2:=[]) λk ob n=>by cases n
 exact⟨_,v,((s.mono λb o u m=>x b o u (j3 b o u m))).CN rfl (λ_=>true) (aq2 t l a i f c y) (λj g=>by cases g) (λj g=>by cases g)⟩
end
def as5{B:Bs}{Rd:bF}{e:Env}{h:Hp}{w:GE}(a:SR B Rd e h w){q r s t u:EQ}{j k l m n:Do AV}
 (b:aZ h 3=some (.box q j)) (d:aZ h 4=some (.box r k)) (f:aZ h 5=some (.box s l)) (g:aZ h 6=some (.box t m)) (i:aZ h 7=some (.box u n)):Handed qD e h:=λp c o=>by
 rcases anP o with⟨_,rfl⟩|⟨_,rfl⟩|⟨_,rfl⟩|⟨_,rfl⟩|⟨_,rfl⟩
 ·exact⟨⟨_,b⟩,ng (a.ob _ _ b)⟩
 ·exact⟨⟨_,g⟩,ng (a.ob _ _ g)⟩
 ·exact⟨⟨_,i⟩,ng (a.ob _ _ i)⟩
 ·exact⟨⟨_,d⟩,ng (a.ob _ _ d)⟩
 ·exact⟨⟨_,f⟩,ng (a.ob _ _ f)⟩
def as6{e:Env}{h:Hp}{w:GE}(n:Int)(o:Do cA)(f m k:Int)(i:bh)(l:fU)(b d g P:Int)(j:bh)
 (v:aZ h 3=some (bU (.box 28 (gS n o f m)))) (x:aZ h 4=some (bU (.box 56 [.sc j1 k,.sc gO i,.sc AQ l]))) (y:aZ h 5=some (bU (.box 38 [.sc j1 b,.sc j1 d,.sc j1 g,.sc j1 P,.sc gO j])))
 (z:aZ h 6=some (bU (.box 28 zS))) (A:aZ h 7=some (bU (.box 49 zR))):
 ∀p ob,aZ (bs (qH n o f m k i l b d g P j)) p=some ob->∃c u,pQ qD p=some c/\aZ h c=some u/\∀Rd,OR Rd e w c u->OR Rd e w c (ob.hV (ff qD 1000)):=by
 intro p ob t;have a:aZ [(4294967296,some (bU (.box 28 (gS n o f m)))),(4294967297,some (bU (.box 28 zS))),(4294967298,some (bU (.box 49 zR))),(4294967299,some (bU (.box 56 [.sc j1 k,.sc gO i,.sc AQ l]))),(4294967300,some (bU (.box 38 [.sc j1 b,.sc j1 d,.sc j1 g,.sc j1 P,.sc gO j])))] p=some ob:=t;clear t;by_cases e0:p=4294967296
 ·subst e0;rw[bf]at a;cases a;exact⟨3,_,rfl,v,λ_ h=>h⟩
 rw[bc e0]at a;by_cases q:p=4294967297
 ·subst q;rw[bf]at a;cases a;exact⟨6,_,rfl,z,λ_ h=>h⟩
 rw[bc q]at a;by_cases e2:p=4294967298
 ·subst e2;rw[bf]at a;cases a;exact⟨7,_,rfl,A,λ_ h=>h⟩
 rw[bc e2]at a;by_cases r:p=4294967299
 ·subst r;rw[bf]at a;cases a;exact⟨4,_,rfl,x,λ_ h=>h⟩
 rw[bc r]at a;by_cases s:p=4294967300
 ·subst s;rw[bf]at a;cases a;exact⟨5,_,rfl,y,λ_ h=>h⟩
 rw[bc s]at a;cases a
def aj8{B:Bs}{Rd:bF}{e:Env}{h:Hp}{w:GE}{a:Act}{D:Deferred}(q:Ga (B.mb [D]) Rd e ⟨30,v,h⟩ a w)(n:Int)(A:Do cA)(l z k:Int)(m:bh)(t:fU)(f j g P:Int)(s:bh)
 (E:Handed qD e h) (C:∀p ob,aZ (bs (qH n A l z k m t f j g P s)) p=some ob->∃c r,pQ qD p=some c/\aZ h c=some r/\∀Rd,OR Rd e w c r->OR Rd e w c (ob.hV (ff qD 1000)))
 (S:bD v 3=.pt 3 0) (U:bD v 4=.pt 4 0) (V:bD v 5=.pt 5 0) (W:bD v 6=.pt 6 0) (X:bD v 7=.pt 7 0):
 Ga (qB e w D) (qRd (B.mb [D]) Rd e h w) (e.pi qD 1000) (bg (qE n A l z k m t f j g P s)) a w:=by
 have Q:=q.sr.kJ E ale C;have L:∀b o u,bN (B.mb [D]) Rd e h w b o u->bN (cB qD 1000 e w) (qRd (B.mb [D]) Rd e h w) (e.pi qD 1000) (bs (qH n A l z k m t f j g P s)) w b o u:=λb o u N=>N.kJ E λp ob O=>by
  obtain⟨c,r,x,y,_⟩:=C p ob O;exact⟨c,x,r,y⟩
 have d:∀i p c,bD v i=.pt c 0->ff qD 1000 p=c->VR (bN (qB e w D) (qRd (B.mb [D]) Rd e h w) (e.pi qD 1000) (bs (qH n A l z k m t f j g P s)) w) (some (e.pi qD 1000)) (.pt p 0) (a.tmps.getD i undef):=λi p c R M=>by
  have:=q.tr i;change VR _ _ (bD v i) _ at this;rw[R,<-M]at this;exact(this.nC (ff qD 1000) (e':=e.pi qD 1000) (λ_=>rfl) (λ_=>rfl) rfl (c:=.pt p 0) rfl).mono L
 refine⟨q.n,q.d,SR.mb Q [D],λi=>?_⟩;change VR _ _ (bD [(3,.pt 4294967296 0),(4,.pt 4294967299 0),(5,.pt 4294967300 0),(6,.pt 4294967297 0),(7,.pt 4294967298 0)] i) _;by_cases F:i=3
 ·subst F;exact d 3 _ _ S rfl
 by_cases G:i=4
 ·subst G;exact d 4 _ _ U rfl
 by_cases I:i=5
 ·subst I;exact d 5 _ _ V rfl
 by_cases J:i=6
 ·subst J;exact d 6 _ _ W rfl
 by_cases K:i=7
 ·subst K;exact d 7 _ _ X rfl
 simp only[bD,F,G,I,J,K,avf];exact .un
variable{F:Deferred}
abbrev ahf(B:Bs)(Rd:bF)(r:EV):Ending->GE->Prop:=λx b=>∃v a,x=.returned v/\SR B Rd a [] b/\VR (bN B Rd a [] b) (some a) (enc r) v
def aq6{s:SV}{x:XV}{w:WV}(hR:nO (a+1) s=some true)
 (h:(∃m,m≠0/\Jf (a+1) (TkT s x w)=some m/\E=(s,m,0,[]))\/Ba (a+2) (TkT s x w)=some (E.1.1,E.1.2.1,E.1.2.2.1,E.1.2.2.2,E.2.1,E.2.2.1,E.2.2.2))
 {B:Bs} {Rd:bF} {t:Do (Nat×AV)} {g:Act} {u3 u6 u7:Id} (a1:F={target:=.fn (.func 102) #[u3,u6,u7],args:= #[]})
 (P:Ga (B.mb [F]) Rd e ⟨30,t,i⟩ g b) (hH:Handed qD e i) (hm:∀p ob,aZ (bs (qH s.1 s.2.1 s.2.2.1 s.2.2.2 x.1 x.2.1 x.2.2 w.1 w.2.1 w.2.2.1 w.2.2.2.1 w.2.2.2.2)) p=some ob->∃c a4,pQ qD p=some c/\aZ i c=some a4/\∀Rd,OR Rd e b c a4->OR Rd e b c (ob.hV (ff qD 1000)))
 (t3:bD t 3=.pt 3 0) (t4:bD t 4=.pt 4 0) (t5:bD t 5=.pt 5 0) (t6:bD t 6=.pt 6 0) (t7:bD t 7=.pt 7 0)
 (v3:VR (λ_ _ _=>True) (some e) (.pt 3 0) u3) (v6:VR (λ_ _ _=>True) (some e) (.pt 6 0) u6) (v7:VR (λ_ _ _=>True) (some e) (.pt 7 0) u7):
 (Code.seq (pq [1,1,1,0]) (.seq (pq [1,1,1,1,0]) qy)).wp Tryz.prog (bodyPostD Tryz.prog f42 (ahf B Rd (rTk E.1.1 E.1.2.1 E.1.2.2.1 E.1.2.2.2 E.2.1 E.2.2.1 (.sc j6 E.2.2.2)))) g b:=by
 have a2:=aj8 P s.1 s.2.1 s.2.2.1 s.2.2.2 x.1 x.2.1 x.2.2 w.1 w.2.1 w.2.2.1 w.2.2.2.1 w.2.2.2.2 hH hm t3 t4 t5 t6 t7;have ad:∀f o u,GT f o u->bN (B.mb [F]) Rd e i b f o u:=λf o u R=>P.sr.CM R;have a0:∀{C:Env} {H:Hp} {J:GE} {m ch:Int} {n:Int} {ts:Do cA} {bt st:Int} {an:aX} {v:Id},SR (qB e b F) (qRd (B.mb [F]) Rd e i b) C H J->VR (bN (qB e b F) (qRd (B.mb [F]) Rd e i b) C [] J) (some C) (enc (rTk n ts bt st m ch (.sc j6 an))) v->ahf B Rd (rTk n ts bt st m ch (.sc j6 an)) (.returned v) J:=λab D=>by
  obtain⟨C,k1,k2⟩:=aq5 (B:=B.mb [F]) P.sr hH ab D;exact⟨_,C,rfl,k1.Co,k2⟩
 have I:∀{z G:Env} {H6 K:Hp} {q w7:GE} {k:Nat} {u:Id},SR (qB e b F) (qRd (B.mb [F]) Rd e i b) z H6 q->SR (qB e b F) (qRd (B.mb [F]) Rd e i b) G K w7->4294967296<=k->VR (bN (qB e b F) (qRd (B.mb [F]) Rd e i b) z H6 q) (some z) (.pt k 0) u->VR (bN (qB e b F) (qRd (B.mb [F]) Rd e i b) G K w7) (some G) (.pt k 0) u:=λh6 h7 l D=>by
  obtain⟨f,N,rfl⟩:=qQ D;exact .pt (by rw[(h7.rL _ l).1,<-(h6.rL _ l).1];exact N)
 rcases h with⟨m,a7,hE,rfl⟩|hM
 ·refine aja s.1 s.2.1 s.2.2.1 s.2.2.2 x.1 x.2.1 x.2.2 w.1 w.2.1 w.2.2.1 w.2.2.2.1 w.2.2.2.2 hE a7 _ _ _ _ _ _ a2 λex s6 S z y q j=>?_
  obtain⟨rfl,g0,L,M,X,Y,Q⟩:=S;show Leaves _ _ _ _ y.defers (.panicking [{v:=nq m,recovered:=false}]) q;have A:y.defers=[F]:=j.d;rw[A,a1];have a3:=(j.sr.less (h2:=bs (gH s.1 s.2.1 s.2.2.1 s.2.2.2 zS zR)) λk ob l=>by
   change aZ [(4294967296,some (bU (.box 28 (gS s.1 s.2.1 s.2.2.1 s.2.2.2)))),(4294967297,some (bU (.box 28 zS))),(4294967298,some (bU (.box 49 zR)))] k=some ob at l;by_cases e0:k=4294967296
   ·subst e0;rw[bf]at l;rw[g0];exact l
   rw[bc e0]at l;by_cases e1:k=4294967297
   ·subst e1;rw[bf]at l;rw[L];exact l
   rw[bc e1]at l;by_cases e2:k=4294967298
   ·subst e2;rw[bf]at l;rw[M];exact l
   rw[bc e2]at l;cases l).1
  have W:∀{p c:Nat} {u:Id} {a5:bF},4294967296<=p->ff qD 1000 p=c->VR (λ_ _ _=>True) (some e) (.pt c 0) u->VR a5 (some z) (.pt p 0) u:=λl O D=>by
   obtain⟨f,N,rfl⟩:=qQ D;refine .pt ?_;rw[(a3.rL _ l).1];show e.bW (ff qD 1000 _)=_;rw[O];exact N
  have aa:LR (VR (bN (qB e b F) (qRd (B.mb [F]) Rd e i b) z (bs (gH s.1 s.2.1 s.2.2.1 s.2.2.2 zS zR)) q) (some z)) (bS gAv) [u3,u6,u7]:=
   LR.cons (W d6 rfl v3) (LR.cons (W d6 rfl v6) (LR.cons (W d6 rfl v7) LR.nil))
  refine leaves_cons (by intro h;cases h) (fK (L9) _ _) ?_;have O:=aax m s.1 s.2.1 s.2.2.1 s.2.2.2 _ _ _ _ _ a3 aa;refine O.mono λex u' J hx=>?_;obtain⟨⟨v,rfl⟩,rfl,G,K,hK,r⟩:=hx;obtain⟨Z,U,V⟩:=T1 (tm:=y.tmps) r (j.n.1.trans Q) (alc s.1 s.2.1 s.2.2.1 s.2.2.2 m 0 .nil) (I j.sr r d6 (by have:=j.tr 6;rw[X]at this;exact this)) (I j.sr r d6 (by have:=j.tr 7;rw[Y]at this;exact this)) hK.1 hK.2;exact⟨Z,U,a0 r (ald V)⟩
 ·refine anc s.1 s.2.1 s.2.2.1 s.2.2.2 x.1 x.2.1 x.2.2 w.1 w.2.1 w.2.2.1 w.2.2.2.1 w.2.2.2.2 hM _ _ _ _ _ _ a2 λex s6 S z y q j=>?_
  obtain⟨a8,L,M,X,Y,Q⟩:=S;have a9:Leaves Tryz.prog f42 y.tmps (ahf B Rd (rTk E.1.1 E.1.2.1 E.1.2.2.1 E.1.2.2.2 E.2.1 E.2.2.1 (.sc j6 E.2.2.2))) y.defers .returning q:=by
   have A:y.defers=[F]:=j.d;rw[A];refine nW (w0:=q) [F] q (Ext.refl _) (λd A=>?_) λw7 ac=>?_
   ·rw[auN]at A
    subst A;rw[a1];exact aq4 q (λf o u R=>(j.sr.CM R).1) _
   ·have r:=(j.sr.later ac).1
    obtain⟨Z,U,V⟩:=T1 (tm:=y.tmps) r (j.n.1.trans Q) (alc E.1.1 E.1.2.1 E.1.2.2.1 E.1.2.2.2 E.2.1 E.2.2.1 (.sc j6 E.2.2.2)) (I j.sr r d6 (by have:=j.tr 6;rw[X]at this;exact this)) (I j.sr r d6 (by have:=j.tr 7;rw[Y]at this;exact this)) L M;exact⟨Z,U,a0 r V⟩
  rcases a8 with rfl|rfl<;>exact a9
def aq7{s:SV}{x:XV}{w:WV}{y:SV×RV}(h:rE (a+1) s x w=some y):BG Tryz.prog 42 [] (bS (pAv s.1 s.2.1 s.2.2.1 s.2.2.2 x.1 x.2.1 x.2.2 w.1 w.2.1 w.2.2.1 w.2.2.2.1 w.2.2.2.2)) [] (enc (rTk y.1.1 y.1.2.1 y.1.2.2.1 y.1.2.2.2 y.2.1 y.2.2.1 (.sc j6 y.2.2.2))):=by
 refine⟨⟨f42,func42,by kernel_rfl,by kernel_rfl⟩,λB Rd e w0 vs a5 hv=>axS (c:=pb) func42 ci ?_⟩;have C:=ot mS (a+1);have U:uY (pq [0])=true:=ci
 have V:uY (pq [1,0])=true:=ci
 have K:=Ga.enter (fn:=f42) (B:=B.mb []) (H0:=[]) (vs:=vs) rfl (by show _<=30;rw[show(bS (pAv s.1 s.2.1 s.2.2.1 s.2.2.2 x.1 x.2.1 x.2.2 w.1 w.2.1 w.2.2.1 w.2.2.2.1 w.2.2.2.2)).length=3 from rfl];decide) (by show(30:Nat)<=1000000;decide) (a5.mb []) hv;have hE:(⟨f42.ntmps,oU 0 (bS (pAv s.1 s.2.1 s.2.2.1 s.2.2.2 x.1 x.2.1 x.2.2 w.1 w.2.1 w.2.2.1 w.2.2.2.1 w.2.2.2.2)),[]⟩:St)=bg (pE s.1 s.2.1 s.2.2.1 s.2.2.2 x.1 x.2.1 x.2.2 w.1 w.2.1 w.2.2.1 w.2.2.2.1 w.2.2.2.2):=by
  unfold bg pE;simp only[k_];rfl
 rw[hE]at K;have r:=aq0 (a+1) s.1 s.2.1 s.2.2.1 s.2.2.2 x.1 x.2.1 x.2.2 w.1 w.2.1 w.2.2.1 w.2.2.2.1 w.2.2.2.2;have a4:(s.1,s.2.1,s.2.2.1,s.2.2.2)=s:=rfl;rw[a4]at r;rw[ap9];rcases T2 h with⟨A,rfl⟩|⟨A,h2⟩
 ·rw[A]at r
  refine av0 (TC.ex C U r _ _ _ _ _ _ K λo a6 p e1 a1 w1 J=>?_);obtain⟨G,rfl,L,f⟩:=p;cases o with
  |normal=>
   refine av0 (TC.ex (N:=a+1) (pl:=.z) (E:=G) (R:=Sum AK1 AK2) (k:=aK) C V f _ _ _ _ _ _ J λo a7 p I m w2 j=>?_);obtain⟨b,rfl,M,g⟩:=p;cases o with
   |ret=>
    have d:=Sum.inr.inj (aut g);have D:cy b.t 6=_:=auA (λz=>z.1) d;have F:cy b.t 7=_:=auA (λz=>z.2.1) d;have t:bx b.h 6=_:=auA (λz=>z.2.2.1) d;have u:bx b.h 7=_:=auA (λz=>z.2.2.2) d;show Leaves _ _ _ _ m.defers .returning w2;rw[show m.defers=[]from j.d];obtain⟨v,v1,v2⟩:=T1 (tm:=m.tmps) j.sr (j.n.1.trans (M.trans L)) (aq1 s.1 s.2.1 s.2.2.1 s.2.2.2 1 0 .nil)
     (by have:=j.tr 6;rw[show bD (bg b).t 6=_ from cc _ _,D]at this;exact this) (by have:=j.tr 7;rw[show bD (bg b).t 7=_ from cc _ _,F]at this;exact this)
     ((cz _ _).trans (by rw[t];rfl)) ((cz _ _).trans (by rw[u];rfl))
    exact⟨v,v1,v,I,rfl,j.sr.Co.nil,ald v2⟩
   |_=>cases g
  |_=>cases f
 ·rw[A]at r
  refine av0 (TC.ex C U r _ _ _ _ _ _ K λo a6 p e1 a1 w1 J=>?_);obtain⟨G,rfl,L,f⟩:=p;cases o with
  |normal=>
   refine av0 (TC.ex (N:=a+1) (pl:=.z) (E:=G) (R:=Sum AK1 AK2) (k:=aK) C V f _ _ _ _ _ _ J λo a7 p I m w2 j=>?_);obtain⟨b,rfl,M,g⟩:=p;cases o with
   |normal=>
    have d:=Sum.inl.inj (aut g);have q3:cy b.t 3=_:=auA (λz=>z.1.1) d;have q4:cy b.t 4=_:=auA (λz=>z.1.2.1) d;have q5:cy b.t 5=_:=auA (λz=>z.1.2.2.1) d;have D:cy b.t 6=_:=auA (λz=>z.1.2.2.2.1) d;have F:cy b.t 7=_:=auA (λz=>z.1.2.2.2.2) d;have N:bx b.h 3=_:=auA (λz=>z.2.1) d;have O:bx b.h 4=_:=auA (λz=>z.2.2.1) d;have P:bx b.h 5=_:=auA (λz=>z.2.2.2.1) d;have t:bx b.h 6=_:=auA (λz=>z.2.2.2.2.1) d;have u:bx b.h 7=_:=auA (λz=>z.2.2.2.2.2) d;have S:b.n=30:=M.trans L;obtain⟨En,n,q⟩:=b;simp only at S q3 q4 q5 D F N O P t u;subst S;obtain⟨id,aa,ab,p1,p2,a8,a9,tt,a0⟩:=aiS;rw[a0];refine av0 (Jg rfl j (by show 14<30;decide) λa3 Q=>?_);have w3:bD (fI n) 3=.pt 3 0:=(cc _ _).trans (by rw[q3];rfl);have w4:bD (fI n) 4=.pt 4 0:=(cc _ _).trans (by rw[q4];rfl);have w5:bD (fI n) 5=.pt 5 0:=(cc _ _).trans (by rw[q5];rfl);have w6:bD (fI n) 6=.pt 6 0:=(cc _ _).trans (by rw[D];rfl);have w7:bD (fI n) 7=.pt 7 0:=(cc _ _).trans (by rw[F];rfl);have W:aZ (bs q) 3=some (bU (.box 28 (gS s.1 s.2.1 s.2.2.1 s.2.2.2))):=(cz _ _).trans (by rw[N];rfl);have X:aZ (bs q) 4=some (bU (.box 56 [.sc j1 x.1,.sc gO x.2.1,.sc AQ x.2.2])):=(cz _ _).trans (by rw[O];rfl);have Y:aZ (bs q) 5=some (bU (.box 38 [.sc j1 w.1,.sc j1 w.2.1,.sc j1 w.2.2.1,.sc j1 w.2.2.2.1,.sc gO w.2.2.2.2])):=(cz _ _).trans (by rw[P];rfl);have Z:aZ (bs q) 6=some (bU (.box 28 zS)):=(cz _ _).trans (by rw[t];rfl);have o7:aZ (bs q) 7=some (bU (.box 49 zR)):=(cz _ _).trans (by rw[u];rfl);have vt:∀i k,bD (fI n) i=.pt k 0->VR (λ_ _ _=>True) (some I) (.pt k 0) (m.tmps.getD i undef):=λi k hk=>by
     have:=j.tr i;rw[show bD (bg ⟨30,n,q⟩).t i=_ from hk]at this;exact this.mono λ_ _ _ _=>trivial
    refine aq6 (B:=B) (u3:=m.tmps.getD 3 undef) (u6:=m.tmps.getD 6 undef) (u7:=m.tmps.getD 7 undef) A h2 ?_ Q (as5 Q.sr W X Y Z o7) (as6 s.1 s.2.1 s.2.2.1 s.2.2.2 x.1 x.2.1 x.2.2 w.1 w.2.1 w.2.2.1 w.2.2.2.1 w.2.2.2.2 W X Y Z o7) w3 w4 w5 w6 w7 (vt 3 3 w3) (vt 6 6 w6) (vt 7 7 w7);simp[Act.eval]
   |_=>cases g
  |_=>cases f
noncomputable def me:Nat->kf [j1,iG,j1,j1,j1,gO,AQ,j1,j1,j1,j1,gO]->At (Int×Do cA×Int×Int×Int×Int×aX):=λN (n,e,a,d,k,b,c,w)=>(rE (N+1) (n,e,a,d) (k,b,c) w).map λy=>(y.1.1,y.1.2.1,y.1.2.2.1,y.1.2.2.2,y.2.1,y.2.2.1,y.2.2.2)
noncomputable def L_:CO:=⟨λN=>⟨42,[.ag [.h j1,.h iG,.h j1,.h j1],.ag [.h j1,.h gO,.h AQ],.ag [.h j1,.h j1,.h j1,.h j1,.h gO]],[],[j1,iG,j1,j1,j1,gO,AQ,j1,j1,j1,j1,gO],Int×Do cA×Int×Int×Int×Int×aX,me N,λy _ k=>k (rTk y.1 y.2.1 y.2.2.1 y.2.2.2.1 y.2.2.2.2.1 y.2.2.2.2.2.1 (.sc j6 y.2.2.2.2.2.2)) [],false,false⟩,λN=>by
 refine⟨λ_=>rfl,λx y i=>⟨rTk y.1 y.2.1 y.2.2.1 y.2.2.2.1 y.2.2.2.2.1 y.2.2.2.2.2.1 (.sc j6 y.2.2.2.2.2.2),[],λR k=>rfl,λ_=>rfl,λh=>(by cases h),?_⟩⟩;obtain⟨n,o,c,m,k,d,l,a,b,g,P,j⟩:=x;obtain⟨p,e,f⟩:=auY.1 (show(rE (N+1) (n,o,c,m) (k,d,l) (a,b,g,P,j)).map _=some y from i);subst f;exact aq7 e⟩
variable{D:Bs}{u:Int}{m:Do BX×Int×Int}{J:bI}
section
def unW:jH->BD
 |[⟨.iface t (.agg ⟨[.int .i64 p,.int .i64 e]⟩),false,false⟩]=>cond (Nat.beq t 127) (some (p,e)) none
 |_=>none
def anQ{a:jH}(h:unW a=some (t,u)):a=S2 t u:=by
 unfold unW at h;split at h
 ·obtain⟨b,c⟩:=aY h
  cases c;rw[auu b];rfl
 ·cases h
def aj9(p e:Int):unW (S2 p e)=some (p,e):=rfl
noncomputable def sGo(N:Nat)(b:aX):At (Do BX×Int×Int):=aW (am8 N b) λr=>match r with
 |.inr v=>some v
 |.inl q=>aW (unW q.1) λw=>cond (!(decide (w.2=0))) (some (q.2.1,w.1,w.2)) none
noncomputable def jc:Nat->aX->At (Do BX×Int×Int)
 |0,_=>none
 |N+1,b=>sGo (N+1) b
def Q7(h:jc a y=some m):sGo a y=some m:=by
 cases a with
 |zero=>cases h
 |succ a=>exact h
noncomputable def rSt(l:Do BX)(p e:Int):EV:=.tu [.sc jy l,.sc j1 p,.sc j1 e]
noncomputable def aj_(l:Do BX)(p e:Int):b_:=⟨27,[(2,.sc jy l),(3,.pt 4294967296 0),(4,.pt 4294967297 0)],sH p e⟩
def ahg l p e:xM T (aj_ l p e) f8.results.toList=some [.sc jy l,.sc j1 p,.sc j1 e]:=ci
def aka{r:SR1}(h:am8 a y=some r):TC PG (sq [1,1]) (bg (sS y)) λx s=>(x=.ret/\∃l p e,r=.inr (l,p,e)/\s=bg (aj_ l p e))\/∃c l p e,x=.panic c/\r=.inl (c,l,p,e)/\s=bg (aj_ l p e):=by
 have m:=XO (ot [amY] a) Jj (afx [am3] a) (sq [1,1]) ci _ _ _ _ _ h;refine TC.leK (m.mono λx s n=>?_);obtain⟨g,k,f,b⟩:=n;have f:g.n=27:=f;cases x with
 |ret=>
  obtain⟨v,d,j⟩:=gY (P:=PG) (show je ai9 g (λv=>some (Sum.inr v:SR1))=some r from b);rw[f]at d;exact⟨_,k.trans d,.inl ⟨rfl,v.1,v.2.1,v.2.2,(aut j).symm,rfl⟩⟩
 |panic c=>
  obtain⟨v,d,j⟩:=gY (P:=PG) (show je ai9 g (λv=>some (Sum.inl (c,v):SR1))=some r from b);rw[f]at d;exact⟨_,k.trans d,.inr ⟨c,v.1,v.2.1,v.2.2,rfl,(aut j).symm,rfl⟩⟩
 |_=>cases b
def sD:bI:=[(4294967296,3),(4294967297,4)]
def sD2:bI:=[(4294967296,4294967296),(4294967297,4294967297)]
def ahi:Hi 1000 sD=true:=d6
def ahj:Hi 1000 sD2=true:=d6
def anT(b:pQ sD a=some h):(a=4294967296/\h=3)\/(a=4294967297/\h=4):=by
 have:=fx b;unfold sD at this;simpa using this
def akb(b:pQ sD2 a=some h):(a=4294967296/\h=4294967296)\/(a=4294967297/\h=4294967297):=by
 have:=fx b;unfold sD2 at this;simpa using this
def T3{ob:Ob}(h:aZ (bs (sH t u)) a=some ob):(a=4294967296/\ob=bU (.box 3 [.sc j1 t]))\/(a=4294967297/\ob=bU (.box 30 [.sc j1 u])):=by
 have h:aZ [(4294967296,some (bU (.box 3 [.sc j1 t]))),(4294967297,some (bU (.box 30 [.sc j1 u])))] a=some ob:=h;by_cases e0:a=4294967296
 ·subst e0;rw[bf]at h;exact .inl ⟨rfl,(aut h).symm⟩
 rw[bc e0]at h;by_cases b:a=4294967297
 ·subst b;rw[bf]at h;exact .inr ⟨rfl,(aut h).symm⟩
 rw[bc b]at h;cases h
def aq8(l:Hi 1000 J=true){B:Bs}{Rd:bF}{e f:Env}{h H:Hp}{Df:u_}(q:SR B Rd e h b)(p:Handed J e h)(r:SR ((cB J 1000 e b).mb Df) (Md J 1000 B Rd e h b) f H K)
 {c:AV} (m:c.f_ (λ_=>true)=true) (s:VR (bN ((cB J 1000 e b).mb Df) (Md J 1000 B Rd e h b) f H K) (some f) c A):∃d,SR B Rd d [] K/\VR (bN B Rd d [] K) (some d) c A:=by
 obtain⟨w,x⟩:=r.less (h2:=[]) λk ob i=>by cases i
 obtain⟨j1,j2,j3,j4⟩:=SR.eb q p l (SR.Co w) rfl;obtain⟨t,v⟩:=j1.less (h2:=[]) λk ob i=>by cases i
 exact⟨_,t,(s.mono λa o u n=>v a o u (j3 a o u (x a o u n))).CN rfl (λ_=>true) m (λj g=>by cases g) (λj g=>by cases g)⟩
def Q8:Enters Tryz.prog 43:=⟨f43,func43,by kernel_rfl,by kernel_rfl⟩
def aq9(w:GE)(c:∀b o u,GT b o u->w.cell? ⟨b,o,none⟩=some u)(a:dU):CB Tryz.prog w {target:=.fn (.func 43) a,args:= #[]}:=
 (ahc c).idle _ d6 a
def akc(l:Do BX)(p e:Int):(enc (rSt l p e)).f_ (λ_=>true)=true:=by rfl
def ahk{Rd:bF}(g:SR D Rd e i b)(j:∀p c,pQ J p=some c->(p=4294967296/\c=a)\/(p=4294967297/\c=h))
 (d:aZ i a=some (bU (.box 3 [.sc j1 t]))) (f:aZ i h=some (bU (.box 30 [.sc j1 u]))):Handed J e i:=λp c k=>by
 rcases j p c k with⟨_,rfl⟩|⟨_,rfl⟩
 ·exact⟨⟨_,d⟩,ng (g.ob _ _ d)⟩
 ·exact⟨⟨_,f⟩,ng (g.ob _ _ f)⟩
def ahl{e:Env}{w:GE}{D:bI}(g:pQ D 4294967296=some a)(j:pQ D 4294967297=some h)(d:aZ i a=some (bU (.box 3 [.sc j1 t])))(f:aZ i h=some (bU (.box 30 [.sc j1 u]))):
 ∀p ob,aZ (bs (sH t u)) p=some ob->∃c b,pQ D p=some c/\aZ i c=some b/\∀Rd,OR Rd e w c b->OR Rd e w c (ob.hV (ff D 1000)):=λp ob k=>by
 rcases T3 k with⟨rfl,rfl⟩|⟨rfl,rfl⟩
 ·exact⟨a,_,g,d,λ_ i=>i⟩
 ·exact⟨h,_,j,f,λ_ i=>i⟩
def akd{Rd:bF}(m:SR D Rd e i b)(j:Handed J e i)(l:Hi 1000 J=true)
 (h:∀p ob,aZ (bs (sH t u)) p=some ob->∃c f,pQ J p=some c/\aZ i c=some f/\∀Rd,OR Rd e b c f->OR Rd e b c (ob.hV (ff J 1000))):
 ∀a o d,bN D Rd e i b a o d->bN (cB J 1000 e b) (Md J 1000 D Rd e i b) (e.pi J 1000) (bs (sH t u)) b a o d:=λa o d g=>g.kJ j λp ob k=>by
 obtain⟨c,f,t,u,_⟩:=h p ob k;exact⟨c,t,f,u⟩
def abd(x:sGo a y=some m)
 {B:Bs} {Rd:bF} {n:Act} {u3 u4:Id} (a2:F={target:=.fn (.func 43) #[u3,u4],args:= #[]})
 (D:Ga (B.mb [F]) Rd e ⟨27,v,i⟩ n b) (o3:aZ i 3=some (bU (.box 3 [.sc j1 0]))) (o4:aZ i 4=some (bU (.box 30 [.sc j1 0])))
 (t0:bD v 0=enc (.sc jb y)) (t2:bD v 2=enc .nil) (t3:bD v 3=.pt 3 0) (t4:bD v 4=.pt 4 0)
 (v3:VR (λ_ _ _=>True) (some e) (.pt 3 0) u3) (v4:VR (λ_ _ _=>True) (some e) (.pt 4 0) u4):
 (sq [1,1]).wp Tryz.prog (bodyPostD Tryz.prog f8 (ahf B Rd (rSt m.1 m.2.1 m.2.2))) n b:=by
 have S:Handed sD e i:=ahk D.sr (λp c=>anT) o3 o4;have hm:=ahl (e:=e) (w:=b) (D:=sD) rfl rfl o3 o4;have hR:=akd D.sr S ahi hm;have aa:=D.sr.kJ S ahi hm;have a9:Ga ((cB sD 1000 e b).mb [F]) (Md sD 1000 (B.mb [F]) Rd e i b) (e.pi sD 1000) (bg (sS y)) n b:=by
  refine⟨D.n,D.d,SR.mb aa [F],λf=>?_⟩;have N:∀f c O,bD v f=O->c.hV (ff sD 1000)=O->VR (bN ((cB sD 1000 e b).mb [F]) (Md sD 1000 (B.mb [F]) Rd e i b) (e.pi sD 1000) (bs (sH 0 0)) b) (some (e.pi sD 1000)) c (n.tmps.getD f undef):=λf c O ht V=>by
   have:=D.tr f;change VR _ _ (bD v f) _ at this;rw[ht,<-V]at this;exact(this.nC (ff sD 1000) (e':=e.pi sD 1000) (λ_=>rfl) (λ_=>rfl) rfl rfl).mono hR
  change VR _ _ (bD [(0,enc (.sc jb y)),(2,enc .nil),(3,.pt 4294967296 0),(4,.pt 4294967297 0)] f) _;by_cases i0:f=0
  ·subst i0;exact N 0 _ _ t0 rfl
  by_cases I:f=2
  ·subst I;exact N 2 _ _ t2 rfl
  by_cases J:f=3
  ·subst J;exact N 3 _ _ t3 rfl
  by_cases K:f=4
  ·subst K;exact N 4 _ _ t4 rfl
  simp only[bD,i0,I,J,K,avf];exact .un
 have a1:∀{l:Do BX} {p q:Int} {t:Env} {A:Act} {s:GE},Ga ((cB sD 1000 e b).mb [F]) (Md sD 1000 (B.mb [F]) Rd e i b) t (bg (aj_ l p q)) A s->∃g,(results f8 A.tmps).run Tryz.prog s=.ok g s/\ahf B Rd (rSt l p q) (.returned g) s:=λ{l p q t A s} z=>by
  obtain⟨g,h1,R⟩:=ahe (P:=Tryz.prog) z (xP xg (ahg l p q));obtain⟨e',k1,k2⟩:=aq8 ahi (B:=B.mb [F]) D.sr S z.sr (akc l p q) (show VR _ _ (enc (rSt l p q)) g from R);exact⟨g,h1,g,e',rfl,k1.Co,k2⟩
 unfold sGo at x;obtain⟨r,hr,x⟩:=bq x;refine aka hr _ _ _ _ _ _ a9 λex s6 E t A s z=>?_;have H:A.defers=[F]:=z.d;rcases E with⟨rfl,l,p,q,rfl,rfl⟩|⟨ch,l,p,q,rfl,rfl,rfl⟩
 ·cases x
  show Leaves _ _ _ _ A.defers .returning s;rw[H];refine nW (w0:=s) [F] s (Ext.refl _) (λd H=>?_) λw7 ae=>?_
  ·rw[auN]at H
   subst H;rw[a2];exact aq9 s (λy o u W=>(z.sr.CM W).1) _
  ·exact a1 (z.later ae)
 ·obtain⟨⟨L,G⟩,Z,x⟩:=bq x
  obtain⟨Y,x⟩:=aY x;cases x;have Y:G≠0:=by simpa using Y
  obtain rfl:=anQ Z;show Leaves _ _ _ _ A.defers (.panicking (S2 L G)) s;rw[H,a2];have E:=z.sr;have a3:Handed sD2 t (bs (sH p q)):=ahk E (λp c=>akb) rfl rfl;have ab:=E.kJ a3 ahj (ahl (D:=sD2) rfl rfl rfl rfl);have a7:∀{k c:Nat} {u:Id} {a0:bF},4294967296<=k->ff sD2 1000 k=k->ff sD 1000 k=c->VR (λ_ _ _=>True) (some e) (.pt c 0) u->VR a0 (some (t.pi sD2 1000)) (.pt k 0) u:=λ{k c u a0} C R V hv=>by
   obtain⟨y,U,rfl⟩:=qQ hv;refine .pt ?_;show t.bW (ff sD2 1000 k)=_;rw[R,(E.rL _ C).1];show e.bW (ff sD 1000 k)=_;rw[V];exact U
  refine leaves_cons (by intro h;cases h) (fK Q8 _ _) ?_;refine(afD L G p q Y _ _ _ _ [u3,u4] ab (LR.cons (a7 d6 rfl rfl v3) (LR.cons (a7 d6 rfl rfl v4) LR.nil))).mono λex u' w' hx=>?_;obtain⟨⟨g,rfl⟩,rfl,Q,H7,hK,ac⟩:=hx;obtain⟨ad,ag⟩:=ac.less (h2:=bs (sH L G)) λk ob C=>by
   rcases T3 C with⟨rfl,rfl⟩|⟨rfl,rfl⟩
   ·exact hK.1
   ·exact hK.2
  obtain⟨af,j2,j3,j4⟩:=SR.eb E a3 ahj ad rfl;obtain⟨a5,a8⟩:=af.less (h2:=bs (sH L G)) λk ob C=>by
   rcases T3 C with⟨rfl,rfl⟩|⟨rfl,rfl⟩
   ·rfl
   ·rfl
  refine a1 (t:=t.eb sD2 1000 Q) (A:=⟨A.tmps,[F]⟩) ⟨z.n,rfl,a5,λf=>?_⟩;have M:=z.tr f;change VR _ _ (bD [(2,enc (.sc jy l)),(3,.pt 4294967296 0),(4,.pt 4294967297 0)] f) _ at M;change VR _ _ (bD [(2,enc (.sc jy l)),(3,.pt 4294967296 0),(4,.pt 4294967297 0)] f) _;have a4:∀k,4294967296<=k->∀u,VR (bN ((cB sD 1000 e b).mb [F]) (Md sD 1000 (B.mb [F]) Rd e i b) t (bs (sH p q)) s) (some t) (.pt k 0) u->VR (bN ((cB sD 1000 e b).mb [F]) (Md sD 1000 (B.mb [F]) Rd e i b) (t.eb sD2 1000 Q) (bs (sH L G)) w') (some (t.eb sD2 1000 Q)) (.pt k 0) u:=λk C u Z=>by
   obtain⟨y,U,rfl⟩:=qQ Z;exact .pt (by rw[(a5.rL _ C).1,<-(E.rL _ C).1];exact U)
  by_cases I:f=2
  ·subst I
   exact(M.mono λy o u W=>a8 y o u (j2 y o u W)).CN rfl (λ_=>true) rfl (λj X=>by cases X) (λj X=>by cases X)
  by_cases J:f=3
  ·subst J;exact a4 _ d6 _ M
  by_cases K:f=4
  ·subst K;exact a4 _ d6 _ M
  simp only[bD,I,J,K,avf];exact .un
def as7(c:Code):Prop:=∃(id:Nat) (e f:EQ) (p1 p2:String) (a b:dm) (d:hX),c=.region id [⟨some 6,.makeFunc (.func 43) #[] #[.tmp 3,.tmp 4],e,p1,a,none⟩,⟨none,.defer ⟨.value (.tmp 6), #[],d⟩,f,p2,b,none⟩].toArray false
def anU:as7 (sq [1,0]):=⟨_,_,_,_,_,_,_,_,rfl⟩
abbrev SK0:Type:=(EV×EV×EV×EV)×At dO×At dO
def anV b:ra T (Mg [] 0) 0 (sq [0]) .z ⟨27,wH 0 [.sc jb b],[]⟩ SK0 (kGo λE=>some ((cy E.t 0,cy E.t 2,cy E.t 3,cy E.t 4),bx E.h 3,bx E.h 4))=
 some ((.sc jb b,.nil,.pt 3 0,.pt 4 0),some (.box 3 [.sc j1 0]),some (.box 30 [.sc j1 0])):=ci
set_option maxHeartbeats 2000000 in
def ake(E:sGo a y=some m):BG Tryz.prog 8 [] (bS [.sc jb y]) [] (enc (rSt m.1 m.2.1 m.2.2)):=by
 refine⟨⟨f8,func8,by kernel_rfl,by kernel_rfl⟩,λB Rd e Y O J K=>axS (c:=sb) func8 ci ?_⟩;have I:=ot [] 0;have N:uY (sq [0])=true:=ci
 have p:=Ga.enter (fn:=f8) (B:=B.mb []) (H0:=[]) (vs:=O) rfl (by show(1:Nat)<=27;decide) (by show(27:Nat)<=1000000;decide) (J.mb []) K;have D:(⟨f8.ntmps,oU 0 (bS [.sc jb y]),[]⟩:St)=bg ⟨27,wH 0 [.sc jb y],[]⟩:=by
  unfold bg;simp only[k_];rfl
 rw[D]at p;rw[aqi];refine av0 (TC.ex I N (anV y) _ _ _ _ _ _ p λC U L A h Z o=>?_);obtain⟨b,rfl,M,d⟩:=L;cases C with
 |normal=>
  have f:=aut d;have r:cy b.t 0=_:=auA (λz=>z.1.1) f;have s:cy b.t 2=_:=auA (λz=>z.1.2.1) f;have t:cy b.t 3=_:=auA (λz=>z.1.2.2.1) f;have u:cy b.t 4=_:=auA (λz=>z.1.2.2.2) f;have j:bx b.h 3=_:=auA (λz=>z.2.1) f;have n:bx b.h 4=_:=auA (λz=>z.2.2) f;have q:b.n=27:=M;obtain⟨En,g,x⟩:=b;simp only at q r s t u j n;subst q;obtain⟨id,W,X,p1,p2,Q,R,V,F⟩:=anU;rw[F];refine av0 (Jg rfl o (by show 6<27;decide) λP G=>?_);have v:bD (fI g) 3=.pt 3 0:=(cc _ _).trans (by rw[t];rfl);have w:bD (fI g) 4=.pt 4 0:=(cc _ _).trans (by rw[u];rfl);have vt:∀i k,bD (fI g) i=.pt k 0->VR (λ_ _ _=>True) (some A) (.pt k 0) (h.tmps.getD i undef):=λi k H=>by
   have:=o.tr i;rw[show bD (bg ⟨27,g,x⟩).t i=_ from H]at this;exact this.mono λ_ _ _ _=>trivial
  refine abd (B:=B) (u3:=h.tmps.getD 3 undef) (u4:=h.tmps.getD 4 undef) E ?_ G ((cz _ _).trans (by rw[j];rfl)) ((cz _ _).trans (by rw[n];rfl)) ((cc _ _).trans (by rw[r])) ((cc _ _).trans (by rw[s])) v w (vt 3 3 v) (vt 4 4 w);simp[Act.eval]
 |_=>cases d
