/- part 6 -/
import Derived.Test.YtglncfdpdaageaaGreatDoorZWholeErrors5
set_option linter.all false
noncomputable section
open Go Go.RowKit
open IntKind (wrap)
set_option maxRecDepth 100000
open Go.Proofs.Tryz
namespace Go.Proofs.YtglncfdpdaageaaGreatDoor
abbrev jb:Sc:=.sl (.i .u8)
abbrev jx:Sc:=.pr j1 (.pr gO AQ)
abbrev jy:Sc:=.sl jx
noncomputable def aqb:Do CO:=[]
noncomputable def aqc:FD:=cQ 105 f105 .z [.h j1] [] (bm [(2,.h .b)] []) false true []
noncomputable def afj:Nat->Int->eh:=mF aqb aqc
noncomputable def asC:CO:=cF aqb aqc afj func105
def aiU N k:afj (N+1) k=cond (1<=k)
 (some (decide (k<=3)))
 (some false):=ci
noncomputable def afk:Do CO:=[asC]
noncomputable def afl:FD:=cQ 104 f104 .z [.k (.pt 4294967296 0),.k (.v (.func (.func 105) #[] #[]))] [(4294967296,.box 131 [.h jb,.h j1])] (bm [(4,.h j1)] [(4294967296,.box 131 [.h jb,.h j1])]) true false [4294967296]
noncomputable def P0:Nat->aX×Int->At (Int×aX×Int):=mF afk afl
noncomputable def akU:CO:=cF afk afl P0 axW
def afm N r a:P0 (N+1) (r,a)=cond (a=(List.length r:Int))
 none
 (aW (ba r a) λb=>
  aW (afj N (wrap .i64 b)) λc=>
  cond (!c)
   none
   (some ((wrap .i64 b),r,(wrap .i64 (a+1))))):=ci
noncomputable def vZ:Do CO:=[]
noncomputable def v8:FD:=cQ 50 f50 .z [.h jb,.h j1] [] (bm [(4,.h j1),(5,.h .b)] []) false true []
noncomputable def ja:Nat->aX×Int->At (Int×In):=mF vZ v8
noncomputable def HE:CO:=cF vZ v8 ja func50
def Bb N b a:ja (N+1) (b,a)=cond (a<0)
 (some (0,false))
 (cond ((wrap .i64 ((List.length b:Int) - 2))<a)
  (some (0,false))
  (aW (ba b a) λc=>
   aW (ba b (wrap .i64 (a+1))) λd=>
   some ((Ez .or .i64 (wrap .i64 ((wrap .i64 c)*((2:Int)^(min (Int.toNat 8) 64)))) (wrap .i64 d)),true))):=ci
noncomputable def amV:Do CO:=[HE]
noncomputable def amW:FD:=cQ 106 f106 .z [.k (.pt 4294967296 0)] [(4294967296,.box 131 [.h jb,.h j1])] (bm [(2,.h j1)] [(4294967296,.box 131 [.h jb,.h j1])]) true false [4294967296]
noncomputable def tp:Nat->aX×Int->At (Int×aX×Int):=mF amV amW
noncomputable def aqd:CO:=cF amV amW tp func106
def aiV N r a:tp (N+1) (r,a)=aW (ja N (r,a)) λb=>
 cond (!b.2)
  none
  (some (b.1,r,(wrap .i64 (a+2)))):=ci
noncomputable def afn:Do CO:=[adB]
noncomputable def afo:FD:=cQ 104 f104 .z [.k (.pt 4294967296 0),.k (.v (.func (.func 107) #[] #[]))] [(4294967296,.box 131 [.h jb,.h j1])] (bm [(4,.h j1)] [(4294967296,.box 131 [.h jb,.h j1])]) true false [4294967296]
noncomputable def Jh:Nat->aX×Int->At (Int×aX×Int):=mF afn afo
noncomputable def akV:CO:=cF afn afo Jh axW
def afp N r a:Jh (N+1) (r,a)=cond (a=(List.length r:Int))
 none
 (aW (ba r a) λb=>
  aW (wR N (wrap .i64 b)) λc=>
  cond (!c)
   none
   (some ((wrap .i64 b),r,(wrap .i64 (a+1))))):=ci
noncomputable def afq:Do CO:=[akU,aqd,akV]
def SQ:PS:=bm [(0,.k (.pt 4294967296 0)),(2,.k (.pt 900 0)),(19,.h j1),(20,.h j1)] [(4294967296,.box 131 [.h jb,.h j1]),(900,.box 56 [.h j1,.k (.ow 902),.k (.ow 901)]),(902,.arr 52 j5 true),(901,.arr 58 j11 true)]
def afr:Do (IO×PS):=[((.exit 0),bm [(2,.k (.pt 900 0))] [(900,.box 56 [.h j1,.k (.ow 901),.k (.ow 902)]),(4294967296,.box 131 [.h jb,.h j1]),(901,.arr 52 j5 true),(902,.arr 58 j11 true)])]
def SU:Pl:=.z
noncomputable def Gf:Nat->Nat->Int×Int×aX×Int×Int×bh×fU->At (Int×aX×Int×bh×fU):=ga afq f45 [1,1,1,1,1,0,1,0,0] SQ afr SU
noncomputable def amX:FD:=cQ 45 f45 (.n .z (.n .z (.n .z (.n .z (.n .z (.n (.n .z (.n (.loop SQ afr SU) .z)) .z)))))) [.k (.pt 4294967296 0)] [(4294967296,.box 131 [.h jb,.h j1])] (bm [(2,.k (.pt 900 0))] [(900,.box 56 [.h j1,.h gO,.h AQ]),(4294967296,.box 131 [.h jb,.h j1])]) true false [4294967296]
noncomputable def aiW:Nat->aX×Int->At (Int×bh×fU×aX×Int):=mF afq amX
noncomputable def amY:CO:=cF afq amX aiW func45
def P1 N m b c r a x e d:Gf N (m+1) (b,c,r,a,x,e,d)=cond (c<b)
 (cond (x=3)
  (aW (Jh N (r,a)) λf=>
   aW (tp N (f.2.1,f.2.2)) λg=>
   aW (tp N (g.2.1,g.2.2)) λh=>
   aW (eo 24 d [(f.1,g.1,h.1)]) λk=>
   (Gf N m (b,(wrap .i64 (c+1)),h.2.1,h.2.2,x,e,k)))
  (aW (tp N (r,a)) λi=>
   aW (tp N (i.2.1,i.2.2)) λj=>
   aW (eo 16 e [(i.1,j.1)]) λl=>
   (Gf N m (b,(wrap .i64 (c+1)),j.2.1,j.2.2,x,l,d))))
 (some (x,r,a,e,d)):=ci
def aiX N r d:aiW (N+1) (r,d)=aW (P0 N (r,d)) λc=>
 aW (tp N (c.2.1,c.2.2)) λb=>
 cond (60<b.1)
  none
  (aW (Gf N N (b.1,0,b.2.1,b.2.2,c.1,[],[])) λa=>
   some (a.1,a.2.2.2.1,a.2.2.2.2,a.2.1,a.2.2.1)):=ci
variable{v:Code}{a:Nat}{g:Type}{A:Id}
section
variable{P:Fd}{st:St}{ca:IO->St->Prop}
def TC.le{c:St}(h:bQ P st c)(i:TC P v c ca):TC P v st ca:=λf b e a w Q k l=>by
 obtain⟨g,j⟩:=h f b e a w k;exact i f b g a w Q j l
def TC.leK(h:TC P v st λx s=>∃b,bQ P s b/\ca x b):TC P v st ca:=λq c e a w Q k m=>h q c e a w Q k λx s o r f p i=>by
 obtain⟨b,l,n⟩:=o;obtain⟨g,j⟩:=l _ _ _ _ _ i;exact m x b n g f p j
def TC.block{id:Nat}(h:TC P v st (As id ca)):TC P (.block id v) st ca:=λp m e a w Q o i=>by
 refine axt (h p m e a w _ o λn j b f c k g=>?_);cases n with
 |exit r=>
  simp only[As]at b;simp only[Exit.inBlock];split at b
  ·rename_i hid;rw[auo hid];exact i _ j b f c k g
  ·rename_i hid;rw[aun hid];exact i _ j b f c k g
 |_=>exact i _ j b f c k g
def TC.scope(h:TC P v st λx s=>(∀l,x≠.goto l)/\ca x s):TC P (.scope v) st ca:=λp m e a w Q o i=>
 axX (h p m e a w _ o λn j b f c k g=>by
  cases n with
  |goto l=>exact absurd rfl (b.1 l)
  |normal=>exact i _ j b.2 f c k g
  |exit id=>exact i _ j b.2 f c k g
  |ret=>exact i _ j b.2 f c k g
  |panic q=>exact i _ j b.2 f c k g
  |outgrown=>exact i _ j b.2 f c k g)
def TC.loop{α:Type}(I:α->St)(μ:α->Nat)(r:α)(A:bQ P st (I r))
 (K:∀x,TC P v (I x) (rQ (λc=>∃o,bQ P c (I o)/\μ o<μ x) ca)):TC P (.loop v) st ca:=by
 intro m k e a w Q E j;obtain⟨e0,C⟩:=A m k e a w E;have J:∀n x,μ x<n->∀t p q,Ga m k t (I x) p q->Code.rounds P v Q n p q:=by
  intro n
  induction n with
  |zero=>intro x G;omega
  |succ n H=>
   intro x G u s L B;refine K x m k u s L (Exit.then (Code.rounds P v Q n) Q) B λz c i g b f h=>?_;cases z with
   |normal=>
    obtain⟨o,F,N⟩:=i;obtain⟨y,D⟩:=F m k g b f h;exact H o bv y b f D
   |_=>exact j _ c i g b f h
 exact wp_loop_rounds _ (J _ r (axI _) e0 a w C)
end
def aiY:EV->At Id
 |.sc (.i k) e=>some (.int k e)
 |.v v=>some v
 |_=>none
def aiZ:Do EV->At bC
 |[]=>some []
 |c::a=>match aiY c with
  |some v=>match aiZ a with
   |some l=>some (v::l)
   |none=>none
  |none=>none
def vlE:EV->At Id
 |.ag a=>match aiZ a with
  |some l=>some (.agg ⟨l⟩)
  |none=>none
 |c=>aiY c
def XL{c:EV}(h:aiY c=some A):enc c=.v A:=by
 unfold aiY at h;split at h
 ·cases h;rfl
 ·cases h;rfl
 ·cases h
def XM:∀{a:Do EV} {l:bC},aiZ a=some l->bS a=l.map .v
 |[],l,h=>by cases h;rfl
 |c::a,l,h=>by
  simp only[aiZ]at h;split at h
  ·rename_i v e
   split at h
   ·rename_i f b
    cases h;simp only[bS,auL,XL e,XM b]
   ·cases h
  ·cases h
def afs{c:EV}(h:vlE c=some A){Rd:bF}{E:At Env}{u:Id}(f:VR Rd E (enc c) u):u=A:=by
 unfold vlE at h;split at h
 ·rename_i m
  split at h
  ·rename_i l o
   cases h;obtain⟨a,rfl,e,k⟩:=VR.e5 (cs:=bS m) f;rw[XM o]at e k;have:a=l:=by
    refine avX λj=>?_;by_cases b:j<l.length
    ·have n:j<a.length:=by rw[e,auz];exact b
     have g:a[j]? =some a[j]:=auy n;have i:l[j]? =some l[j]:=auy b;rw[g,i];exact auA some (k j (.v l[j]) a[j] (by rw[auM,i];rfl) g).bL
    ·rw[au5 (awt b),au5 (by rw[e,auz];exact awt b)]
   subst this;rfl
  ·cases h
 ·rw[XL h]at f
  exact f.bL
def aft{c:EV}(h:vlE c=some A):c≠.un:=by
 rintro rfl;cases h
section
variable{P:Fd}{st:St}{d:iC}{ty:EQ}{pos:String}{af:dm}{gd:fH}
def RS.mkI{x:If}{t:EQ}(b:∃c,P.underlying t=some (.struct c))(g:∀Rd E u,VR Rd E (st.ev x) u->u=A):RS P ⟨d,.makeInterface t x,ty,pos,af,gd⟩ st (.v (.iface t A)):=λk i e a w h=>by
 obtain⟨c,b⟩:=b;have f:=g _ _ _ (h.ev x);refine⟨.iface t A,.v,λj _=>?_⟩;simp[execOp,f,Instr.makeInterface,auR b]
def SP.panic{x:If}{t:EQ}{v:Id}{ca:IO->St->Prop}(i:∀Rd E u,VR Rd E (st.ev x) u->u=.iface t v)(f:ca (.panic [{v:=.iface t v,recovered:=false}]) st):SP P ⟨d,.panic x,ty,pos,af,gd⟩ st ca:=by
 intro k j e a w next Q h c
 have b:=i _ _ _ (h.ev x);unfold Oper.wp;have g:(execOp a.eval ⟨d,.panic x,ty,pos,af,gd⟩).run P w=.halt (.panic (.iface t v)) w:=by simp[execOp,b,Instr.panic]
 rw[g];exact c _ _ f e a w h
end
structure PnC where
 c:iS
 pan:kf c.cs->D7
def PnC.ok(P:Fd)(p:PnC):Prop:=∀x a,p.pan x=some a->Zn P p.c.f (bs (p.c.H0 x)) (bS (p.c.as x)) a
def mR{β:Type}(o:At g)(f:g->β)(b:β):β:=match o with
 |some a=>f a
 |none=>b
def SX(a:Nat->At dO)(d:Nat)(e:Do EV)(f:FuncId){R:Type}(c:jH->a_->bI->At R)(b:At R):Do PnC->At R
 |[]=>b
 |p::g=>cond (Nat.beq p.c.f f) (match Su p.c d a e with
  |some (x,gs,D)=>mR (p.pan x) (λh=>c h gs D) (SX a d e f c b g)
  |none=>SX a d e f c b g) (SX a d e f c b g)
section
variable{P:Fd}
def ai1{t:Do (Nat×AV)}{h c b:Hp}{p:Nat->In}(l:∀x,(bD t x).f_ p=true)(f:∀k ob,aZ h k=some ob->ob.f_ p=true)(i:∀k,p k=true->aZ h k=none)
 (e:gv p (b++h)=b++gv p h):bQ P ⟨a,nB p t,c++gv p (b++h)⟩ ⟨a,t,c++(b++h)⟩:=by
 rw[e];refine bQ.same (λx=>?_) λk=>?_
 ·rw[kG,ji (l x)]
 ·rw[db,db,db,db,oT]
  split
  ·rfl
  ·split
   ·rfl
   ·split
    ·rename_i j;exact i k j
    ·cases g:aZ h k with
     |none=>rfl
     |some ob=>rw[avz,Ob.mv (f k ob g)]
def Lj{m:Nat->EV}{hg:Nat->At dO}{d:Nat}{i:Do EV}{f:FuncId}{t:Op}{ty:EQ}{pos:String}{af:dm}{R:Type}{kp:jH->a_->bI->At R}{kn:At R}{r:R}
 (o:(∀c∈i,c≠.un)->ENE P t m f i):∀{PT:Do PnC},(∀p∈PT,p.ok P)->SX hg d i f kp kn PT=some r->
 kn=some r\/∃b gs D,kp b gs D=some r/\∀st,Sk m st->Hk hg (gs++D.map (·.2)) st->
  SP P ⟨some d,t,ty,pos,af,none⟩ st λx s=>x=.panic b/\s=⟨st.n,nB (mg (1000*(d+1))) st.t,my D++gv (mg (1000*(d+1))) (bs (fm hg gs)++st.h)⟩
 |[],_,h=>.inl h
 |p::A,n,h=>by
  have l:=Lj (hg:=hg) (d:=d) (ty:=ty) (pos:=pos) (af:=af) (kp:=kp) (kn:=kn) (r:=r) o (PT:=A) (λp k=>n p (by simp[k]));simp only[SX]at h;rcases bA h with⟨j,a⟩|⟨_,a⟩
  ·have j:=auu j
   split at a
   ·rename_i x gs D q
    unfold mR at a;split at a
    ·rename_i b w
     refine .inr ⟨b,gs,D,a,λst z u=>?_⟩;have k:=n p d5 x b w;have y:∀c∈i,c≠.un:=by
      have g:=q;unfold Su at g;obtain⟨g,_⟩:=aY g;intro c v e;have:=auO.1 g c v;rw[e]at this;cases this
     subst j;exact SP.ctr q k (o y _ _ _ _ _ _ z) u ⟨rfl,rfl⟩
    ·exact l a
   ·exact l a
  ·exact l a
end
variable{D:b_}{B:IO->Act->GE->Prop}{t:Oper}{F:GE}
section
variable{P:Fd}{l:bp}{iW:St}{pl:Do En}{ca:IO->St->Prop}
def SY{g:St}(q:l[a]? =some t)(n:t.guard=none)(h:SP P t g ca){d:Bs}{c:bF}{e:Env}{b:Act}{next:Act->GE->Prop}
 (o:Ga d c e g b F) (p:∀x i,ca x i->∀k f j,Ga d c k i f j->B x f j):wpOp P l.toArray B a next b F:=by
 have:=h d c e b F next B o p
 unfold wpOp;have m:l.toArray[a]? =some t:=by simpa using q
 rw[m];simp only;rw[auo (by simp[Region.wanted,n])];exact .inl this
def xy.asD(F:xy l iW pl){jp:Nat}{up:En}(X:l[jp]? =some t)(ad:pl[jp]? =some up)(hg:t.guard=none)(H:Nat->In)
 (a2:∀j o u,l[j]? =some o->pl[j]? =some u->H j=true->DS P l iW (pl.take j) o u) (a1:∀j,j<l.length->H j=false->j≠jp->cW l j jp=true)
 (aa:∀g,Kn l iW (pl.take jp) t up g->SP P t g ca) {w0:Bs} {S:bF} (hQ:∀x s,ca x s->∀e a w,Ga w0 S e s a w->B x a w):
 ∀(p:Nat) (c:Array In) (g:St) (e:Env) (a:Act) (w:GE),c.size=l.length->mB l (λi=>c.getD i false)->c.getD jp false=false->(∀m,m=(c.toList.filter (·==false)).length->m=p)->Inv iW pl (λi=>c.getD i false) g->Ga w0 S e g a w->
 wpAny P .any l.toArray B p c a w:=by
 have a5:jp<l.length:=(aus.1 X).1;intro p
 induction p with
 |zero=>
  intro c g e a w Z v z N K J;exfalso;have h0:(c.toList.filter (·==false)).length=0:=N _ rfl;have r:c.toList.filter (·==false)=[]:=avq h0;have a4:jp<c.size:=bv
  have:c[jp]∈c.toList:=d5
  have q:=ayr.1 r _ this;have:c[jp]=true:=by simpa using q
  simp[a4,this]at z
 |succ p ih=>
  intro c g e a w Z v z N K J;refine⟨λa9=>?_,λj hj=>?_⟩
  ·exfalso
   have:∀j,j<l.length->c.getD j false=false->False:=by
    intro j
    induction j using Nat.strongRecOn with
    |_ j af=>
     intro r q;have O:l[j]? =some l[j]:=auy r;by_cases n:∀e∈(l[j]).after,Region.binds .any e=true->c.getD e.on false=true
     ·have:j∈Region.ready .any l.toArray c:=awu.2 ⟨getD_in bv q,l[j],d5,n⟩
      rw[a9]at this;cases this
     ·simp only[ays]at n
      obtain⟨e,C,k,y⟩:=n;have E:=F.back j _ O e C k;exact af e.on E bv (by simpa using y)
   exact this jp a5 z
  ·obtain⟨r,o,O,n⟩:=awu.1 hj
   have f:l[j]? =some o:=by simpa using O
   have W:j<l.length:=(aus.1 f).1;have a6:j<pl.length:=by rw[F.len];exact W
   have G:pl[j]? =some pl[j]:=auy a6;have M:c.getD j false=false:=axg r;have Y:=K.kn F f G v M n;by_cases D:j=jp
   ·subst D
    obtain rfl:=aut (X.symm.trans f);obtain rfl:=aut (ad.symm.trans G);exact SY f hg (aa g Y) J hQ
   have a7:H j=true:=by
    cases hl:H j with
    |true=>rfl
    |false=>
     have a0:mB l (λi=>c.getD i false||i==j):=λi R A Q e C k=>by
      by_cases d:i=j
      ·subst d
       obtain rfl:=aut (f.symm.trans A);simp[n e C k]
      ·have:c.getD i false=true:=by simpa[d]using Q
       have:=v i R A this e C k;simp[this]
     have:=eR a0 j jp (a1 j W hl D) d5;have y:(jp==j)=false:=by simpa usingλh=>D h.symm
     rw[z,y]at this;cases this
   refine Er f (a2 j o _ f G a7 g Y) J λag ac e' a' w' a3=>?_;subst ac;have I:(λi=>(c.setIfInBounds j true).getD i false)=λi=>c.getD i false||i==j:=by
    funext i;by_cases d:i=j
    ·subst d
     simp[avA,show i<c.size by omega]
    ·have q:¬j=i:=λh=>d h.symm
     simp[avA,axD,q,d]
   refine ih _ _ e' a' w' (by simpa using Z) ?_ ?_ ?_ ?_ a3
   ·rw[I]
    intro i R A Q U V k;by_cases d:i=j
    ·subst d
     obtain rfl:=aut (f.symm.trans A);simp[n U V k]
    ·have ab:c.getD i false=true:=by simpa[d]using Q
     have:=v i R A ab U V k;simp[this]
   ·have:=congrFun I jp
    rw[show(c.setIfInBounds j true).getD jp false=(c.getD jp false||jp==j)from this,z];have y:(jp==j)=false:=by simpa usingλh=>D h.symm
    rw[y];rfl
   ·intro m a8
    have q:(c.toList.filter (·==false)).length=p+1:=N _ rfl;have h3:∀(L:br) (j:Nat),L[j]? =some false->((L.set j true).filter (·==false)).length+1=(L.filter (·==false)).length:=by
     intro L
     induction L with
     |nil=>intro j h;simp at h
     |cons b L ae=>
      intro j h;cases j with
      |zero=>simp at h;subst h;simp
      |succ j=>
       have:=ae j (by simpa using h);cases b<;>simp_all<;>omega
    have h4:=h3 c.toList j (by
     have E:j<c.size:=bv
     have:c[j]=false:=by simpa[E]using M
     simp[E,this])
    rw[awN]at a8;omega
   ·rw[I]
    exact K.step F f G v M
def TC.aqf{id:Nat}(v:P.follows .mixedOrders=true)(A:xy l iW pl){h:En}(s:l[a]? =some t)(C:pl[a]? =some h)(q:t.guard=none)(f:Nat->In)
 (p:∀j o u,l[j]? =some o->pl[j]? =some u->f j=true->DS P l iW (pl.take j) o u) (n:∀j,j<l.length->f j=false->j≠a->cW l j a=true)
 (B:∀g,Kn l iW (pl.take a) t h g->SP P t g ca):TC P (.region id l.toArray true) iW ca:=by
 intro F D e b w Q r z;refine wp_region_any v (A.asD s C q f p n B z _ _ iW e b _ d5 ?_ ?_ ?_ ?_ (r.later ((Ext.refl w).drewN 1)))
 ·intro j o E c
  have c:(Array.replicate l.toArray.size false).getD j false=true:=c;rw[awj]at c;cases c
 ·exact awj _ _
 ·intro m y
  rw[y];simp
 ·exact⟨rfl,λx _=>rfl,λi u d _ c=>(by
   have c:(Array.replicate l.toArray.size false).getD i false=true:=c;rw[awj]at c;cases c),λk _=>rfl,λk i u _ c=>(by
   have c:(Array.replicate l.toArray.size false).getD i false=true:=c;rw[awj]at c;cases c)⟩
end
def fkE(d:bX):pL:=⟨d,.un,[],[],.no,none⟩
section
variable(T:EQ->bu)(CT:Do iS)(PT:Do PnC)
noncomputable def SZ(l:bp)(E:b_)(o:Oper)(done:Do pL)(k:pL->At g):At g:=match o.guard with
 |none=>exO T CT E.n (HB l E.t done o.after.toList) (bx (kB E.h done)) o λc b d a=>
  cond (xJ false l ⟨o.dst,c,b,d,a,none⟩ done.length 0 done && jO a E) (k ⟨o.dst,c,b,d,a,none⟩) none
 |some _=>none
noncomputable def wW(l:bp)(E:b_):bp->Do pL->At (Nat×jH)->{R:Type}->(jH->At R)->At R->At R
 |[],done,j,_,b,a=>match j with
  |some (_,e)=>cond (xx l && HT 0 l) (b e) none
  |none=>a
 |o::c,done,some (g,e),_,b,a=>cond (cW l done.length g) (wW l E c (done++[fkE o.dst]) (some (g,e)) b a) (SZ T CT l E o done λu=>wW l E c (done++[u]) (some (g,e)) b a)
 |o::c,done,none,_,b,a=>match o.guard,o.dst,o.op with
  |none,some d,.call ⟨.value f,h,_⟩=>match fnE (HB l E.t done o.after.toList) f with
   |some (f,i,cs)=>SX (bx (kB E.h done)) d (i++(h.toList.map (eE (HB l E.t done o.after.toList))++cs)) f
    (λe gs D=>cond (xJ false l ⟨o.dst,.un,[],gs++D.map (·.2),.no,none⟩ done.length 0 done) (wW l E c (done++[⟨o.dst,.un,[],gs++D.map (·.2),.no,none⟩]) (some (done.length,e)) b a) none)
    (SZ T CT l E o done λu=>wW l E c (done++[u]) none b a) PT
   |none=>SZ T CT l E o done λu=>wW l E c (done++[u]) none b a
  |_,_,_=>SZ T CT l E o done λu=>wW l E c (done++[u]) none b a
end
structure PDL(P:Program)(l:bp)(iW:St)(done:List En)(lv:Nat->Bool):Prop where
 len:done.length<=l.length
 dst:∀(j:Nat) o u,l[j]? =some o->done[j]? =some u->o.dst=u.d
 ds:∀(j:Nat) o u,l[j]? =some o->done[j]? =some u->lv j=true->DS P l iW (done.take j) o u
 fit:∀(i j:Nat) v u,i<j->done[i]? =some v->done[j]? =some u->HQ l i j v u/\YY l i j v u
 CR:∀(j:Nat) u,done[j]? =some u->rR u.fr iW.t=true/\mA u.fr iW.h=true
def PDL.snoc{P:Fd}{l:bp}{iW:St}{done:Do En}{m:Nat->In}{u:En}(f:PDL P l iW done m)(k:l[done.length]? =some t)(q:t.dst=u.d)(w:m done.length=true->DS P l iW done t u)(r:MB l u done.length 0 done)(s:rR u.fr iW.t=true/\mA u.fr iW.h=true):PDL P l iW (done++[u]) m:=by
 have x:done.length<l.length:=(aus.1 k).1;have h:∀(j:Nat) a,(done++[u])[j]? =some a->(j<done.length/\done[j]? =some a)\/(j=done.length/\a=u):=λj a b=>by
  rcases avU j done.length with c|c|c
  ·rw[au7 c]at b;exact .inl ⟨c,b⟩
  ·subst c;simp at b;exact .inr ⟨rfl,b.symm⟩
  ·rw[au5 d7]at b;cases b
 refine⟨by simp;omega,λj n a e b=>?_,λj n a e b p=>?_,λi j v a o g b=>?_,λj a b=>?_⟩
 ·rcases h j a b with⟨c,d⟩|⟨rfl,rfl⟩
  ·exact f.dst j n a e d
  ·obtain rfl:=aut (k.symm.trans e);exact q
 ·rcases h j a b with⟨c,d⟩|⟨rfl,rfl⟩
  ·rw[axo bv]
   exact f.ds j n a e d p
  ·obtain rfl:=aut (k.symm.trans e)
   rw[awr];exact w p
 ·rcases h j a b with⟨c,d⟩|⟨rfl,rfl⟩
  ·rw[au7 bv]at g
   exact f.fit i j v a o g d
  ·rw[au7 o]at g
   have:=Eo r i v g;rwa[auZ]at this
 ·rcases h j a b with⟨c,d⟩|⟨rfl,rfl⟩
  ·exact f.CR j a d
  ·exact s
section
variable{P:Fd}{T:EQ->bu}{CT:Do iS}{PT:Do PnC}
def afv(l:bp)(d:bX)(j:Nat):∀(i:Nat) (done:Do En),MB l (dX (fkE d)) j i done
 |_,[]=>trivial
 |i,v::done=>⟨.inl ⟨auO.2 λp _=>rfl,λk a=>by cases a⟩,⟨⟨rS _,xz _⟩,.inl ⟨rfl,rfl⟩⟩,afv l d j (i+1) done⟩
def XN(d:Place P T CT){l:bp}{done:Do pL}{k:pL->At g}{r:g}(h:SZ T CT l D t done k=some r)(j:∀v∈done,v.sf=none):
 ∃u,k u=some r/\u.sf=none/\t.dst=(dX u).d/\DS P l (bg D) (done.map dX) t (dX u)/\MB l (dX u) done.length 0 (done.map dX)/\(rR (dX u).fr (bg D).t=true/\mA (dX u).fr (bg D).h=true):=by
 unfold SZ at h;split at h
 ·rename_i f
  obtain⟨c,o,q,n,e,h,_⟩:=Kk d.t d.c h;obtain⟨a,h⟩:=aY h;simp only[aup]at a;refine⟨_,h,rfl,rfl,λp i=>GS.plain f (FS.ds e rfl i),Dh (E:=D) (λh=>by cases h) (λv m t b=>by rw[j v m]at b;cases b) a.1,EU a.2⟩
 ·cases h
def tv(F:Place P T CT)(M:∀p∈PT,p.ok P){l:bp}{E:b_}{id:Nat}:∀{X:bp} {done:Do pL} {H:At (Nat×jH)} {R:Type} {K:jH->At R} {J:At R} {r:R},
 wW T CT PT l E X done H K J=some r->X=l.drop done.length->done.length<=l.length->(∀v∈done,v.sf=none)->
 (H=none->PDL P l (bg E) (done.map dX) λ_=>true)->(∀c i,H=some (c,i)->c<done.length/\PDL P l (bg E) (done.map dX) (λj=> !(Nat.beq j c) && !(cW l j c))/\
  ∃k y,l[c]? =some k/\(done.map dX)[c]? =some y/\k.guard=none/\∀m,Kn l (bg E) ((done.map dX).take c) k y m->SP P k m λx s=>x=.panic i/\s.n=m.n)->
 J=some r\/∃i,K i=some r/\TC P (.region id l.toArray true) (bg E) λx s=>x=.panic i/\s.n=E.n
 |[],done,H,R,K,J,r,h,hr,ae,W,h0,Z=>by
  cases H with
  |none=>simp only[wW]at h;exact .inl h
  |some q=>
   obtain⟨c,i⟩:=q;simp only[wW]at h;obtain⟨L,h⟩:=aY h;simp only[aup]at L;obtain⟨hj,I,k,y,t,hu,hg,a8⟩:=Z c i rfl;have ag:(done.map dX).length=l.length:=by
    have L:=auA List.length hr;simp at L⊢;omega
   have hW:xy l (bg E) (done.map dX):=⟨ag,I.dst,I.fit,I.CR,L.1,λj o t e S ab=>by have:=uk L.2 j o t e S ab;omega⟩;refine .inr ⟨i,h,TC.aqf F.m hW t hu hg _ I.ds (λj ak a9 a5=>?_) λm U=>?_⟩
   ·have:Nat.beq j c=false:=by
     cases hb:Nat.beq j c with
     |false=>rfl
     |true=>exact absurd (auu hb) a5
    simp only[this,avB,ayC,axR]at a9;exact a9
   ·intro w0 a3 e a w next Q a4 z
    exact a8 m U w0 a3 e a w next Q a4 λx s hx=>z x s ⟨hx.1,hx.2.trans U.n⟩
 |o::X,done,H,R,K,J,r,h,hr,ae,W,h0,Z=>by
  have t:l[done.length]? =some o:=by
   have:=auA (λx=>x[0]?) hr;simpa using this.symm
  have al:done.length<l.length:=(aus.1 t).1;have a1:∀u:pL,X=l.drop (done++[u]).length:=λu=>by
   have:l.drop (done.length+1)=(l.drop done.length).drop 1:=by rw[awc]
   rw[auE,avp,this,<-hr];rfl
  have a0:∀u:pL,(done++[u]).length<=l.length:=λu=>by simp;omega
  have a2:∀u:pL,u.sf=none->∀v∈done++[u],v.sf=none:=λu hu v G=>by
   rcases auC.1 G with G|G
   ·exact W v G
   ·rw[auN.1 G];exact hu
  have n:(done.map dX).length=done.length:=auz _;have C:∀u:pL,(done++[u]).map dX=done.map dX++[dX u]:=λu=>by simp
  have aa:∀(u:pL) (c:Nat) (i:jH),(c<done.length/\PDL P l (bg E) (done.map dX) (λj=> !(Nat.beq j c) && !(cW l j c))/\
   ∃k y,l[c]? =some k/\(done.map dX)[c]? =some y/\k.guard=none/\∀m,Kn l (bg E) ((done.map dX).take c) k y m->SP P k m λx s=>x=.panic i/\s.n=m.n)->
   o.dst=(dX u).d->((λj=> !(Nat.beq j c) && !(cW l j c)) done.length=true->DS P l (bg E) (done.map dX) o (dX u))->MB l (dX u) done.length 0 (done.map dX)->(rR (dX u).fr (bg E).t=true/\mA (dX u).fr (bg E).h=true)->
   ∀A Y,some (c,i)=some (A,Y)->A<(done++[u]).length/\PDL P l (bg E) ((done++[u]).map dX) (λj=> !(Nat.beq j A) && !(cW l j A))/\
   ∃k y,l[A]? =some k/\((done++[u]).map dX)[A]? =some y/\k.guard=none/\∀m,Kn l (bg E) (((done++[u]).map dX).take A) k y m->SP P k m λx s=>x=.panic Y/\s.n=m.n:=by
   rintro u c i ⟨q1,q2,k,y,q3,q4,q5,q6⟩ N O B z A Y S;cases S;refine⟨by simp;omega,?_,k,y,q3,?_,q5,?_⟩
   ·rw[C]
    exact q2.snoc (by rw[n];exact t) N (by rw[n];exact O) (by rw[n];exact B) z
   ·rw[C,au7 (by rw[n];exact q1)];exact q4
   ·rw[C,axo (by rw[n];omega)];exact q6
  cases H with
  |some q=>
   obtain⟨c,i⟩:=q;simp only[wW]at h;rcases bA h with⟨ha,h⟩|⟨ha,h⟩
   ·refine tv F M h (a1 _) (a0 _) (a2 _ rfl) (λe=>by cases e) (aa (fkE o.dst) c i (Z c i rfl) rfl (λe=>?_) (afv _ _ _ _ _) ⟨JY _,xz _⟩)
    simp only[ha,auH,Bool.and_false]at e;cases e
   ·obtain⟨u,h,a7,N,O,B,z⟩:=XN F h W
    exact tv F M h (a1 _) (a0 _) (a2 _ a7) (λe=>by cases e) (aa u c i (Z c i rfl) N (λ_=>O) B z)
  |none=>
   have a6:SZ T CT l E o done (λu=>wW T CT PT l E X (done++[u]) none K J)=some r->J=some r\/∃i,K i=some r/\TC P (.region id l.toArray true) (bg E) λx s=>x=.panic i/\s.n=E.n:=λh=>by
    obtain⟨u,h,a7,N,O,B,z⟩:=XN F h W;refine tv F M h (a1 _) (a0 _) (a2 _ a7) (λ_=>?_) (λc i e=>by cases e);rw[C];exact(h0 rfl).snoc (by rw[n];exact t) N (λ_=>O) (by rw[n];exact B) z
   obtain⟨aj,k,ty,ah,af,gd⟩:=o;simp only[wW]at h;split at h
   ·rename_i d f ai ts
    split at h
    ·rename_i g fs cs B
     rcases Lj (ty:=ty) (pos:=ah) (af:=af) (λa5=>Sa (ts:=ts) B a5) M h with h|⟨i,gs,D,h,a8⟩
     ·exact a6 h
     ·obtain⟨ac,h⟩:=aY h
      have ad:=Dh (E:=E) (λh=>by cases h) (λv G o t=>by rw[W v G]at t;cases t) ac;have V:=h0 rfl;have I:PDL P l (bg E) (done.map dX) (λj=> !(Nat.beq j done.length) && !(cW l j done.length)):=⟨V.len,V.dst,λj o u a b _=>V.ds j o u a b rfl,V.fit,V.CR⟩;refine tv F M h (a1 _) (a0 _) (a2 _ rfl) (λe=>by cases e) (λA Y S=>?_);cases S;refine⟨d5,?_,_,dX ⟨some d,.un,[],gs++D.map (·.2),.no,none⟩,t,?_,rfl,?_⟩
      ·rw[C]
       refine I.snoc (by rw[n];exact t) rfl (λe=>?_) (by rw[n];exact ad) ⟨JY _,xz _⟩;rw[n]at e;simp only[auX,auH,ayB]at e;cases e
      ·rw[C,avG (by rw[n];exact auq _),n,axm];rfl
      ·rw[C,axo (by rw[n];exact auq _),au0 (by rw[n];exact auq _)]
       intro m U w0 a3 e a w next Q a4 z
       refine a8 m U.sk (Kn.hk U rfl) w0 a3 e a w next Q a4 λx s hx=>z x s ?_
       obtain⟨rfl,rfl⟩:=hx;exact⟨rfl,rfl⟩
    ·exact a6 h
   ·exact a6 h
def ai2(m:Place P T CT)(k:∀p∈PT,p.ok P){l:bp}{id:Nat}{f:jH->At g}{d:At g}{r:g}(h:wW T CT PT l D l [] none f d=some r):
 d=some r\/∃b,f b=some r/\TC P (.region id l.toArray true) (bg D) λx s=>x=.panic b/\s.n=D.n:=
 tv m k h rfl (auS _) (λv c=>by cases c) (λ_=>⟨auS _,λj o u _ a=>by simp at a,λj o u _ a=>by simp at a,λi j v u _ c=>by simp at c,λj u a=>by simp at a⟩) (λn b e=>by cases e)
end
def amZ(tW:EQ)(PT:Do PnC)(o:Oper)(E:b_)(b:jH->b_->At g)(i:b_->At g)(a:At g):At g:=
 match o.guard with
 |some _=>a
 |none=>match o.op with
  |.panic x=>match vlE (eE (cy E.t) x)with
   |some (.iface t v)=>b [{v:=.iface t v,recovered:=false}] E
   |_=>a
  |.makeInterface t x=>match o.dst with
   |some d=>match vlE (eE (cy E.t) x)with
    |some v=>cond (Nat.beq t tW && Nat.blt d E.n) (i ⟨E.n,(d,.v (.iface t v))::E.t,E.h⟩) a
    |none=>a
   |none=>a
  |.call ⟨.value f,c,_⟩=>match o.dst with
   |some d=>match fnE (cy E.t) f with
    |some (f,h,cs)=>SX (bx E.h) d (h++(c.toList.map (eE (cy E.t))++cs)) f (λe gs D=>cond (jO (.bW (1000*(d+1))) E) (b e ⟨E.n,E.t,R8 D++(fm (bx E.h) gs++E.h)⟩) none) a PT
    |none=>a
   |none=>a
  |_=>a
section
variable(T:EQ->bu)(CT:Do iS)(tW:EQ)(PT:Do PnC)(N:Nat)
def afw(PT:Do PnC)(l:bp):In:=l.any λo=>match o.op with
 |.call ⟨.value (.func f),_,_⟩=>PT.any λp=>Nat.beq p.c.f f
 |_=>false
noncomputable def S0(b:bp):bp->(E:b_)->{R:Type}->(IO->b_->At R)->At R
 |[],E,_,k=>k .normal E
 |o::l,E,_,k=>amZ tW PT o E (λc a=>k (.panic c) a) (λa=>S0 b l a k) (exG T CT b o E λa=>S0 b l a k)
def Pl.s:Pl->Pl
 |.join _ _ p=>p
 |p=>p
def Ji(f:Ho)(n:Nat)(a:PS)(p:Pl){R:Type}(k:IO->b_->At R):Nat->kf a.c->At R
 |0,_=>none
 |m+1,v=>f p (eY n a v) _ λx E=>match x with
  |.normal=>je a E (Ji f n a p k m)
  |x=>k x E
def sqK(b:Ho)(p:Pl)(k:IO->b_->At g):IO->b_->At g:=λx a=>match x with
 |.normal=>b p a _ k
 |x=>k x a
def bkK(id:Nat)(k:IO->b_->At g):IO->b_->At g:=λx a=>match x with
 |.exit i=>cond (Nat.beq i id) (k .normal a) (k (.exit i) a)
 |x=>k x a
def am0(c:If)(d e:Ho):Ho:=λa E _ k=>match eE (cy E.t) c with
 |.sc .b b=>match c with
  |.tmp i=>cond b (d a.s.l ⟨E.n,(i,.sc .b true)::E.t,E.h⟩ _ k) (e a.s.r ⟨E.n,(i,.sc .b false)::E.t,E.h⟩ _ k)
  |_=>cond b (d a.s.l E _ k) (e a.s.r E _ k)
 |_=>none
def am1(b:Ho):Ho:=λc E _ k=>match c with
 |.loop a _ p=>je a E λv=>Ji b E.n a p k N v
 |_=>none
noncomputable def P2(c:Code):Ho:=
 Code.rec (motive:=λ_=>Ho)
  (λ_ E _ k=>k .normal E)
  (λid b e=>λd E _ k=>cond e (cond (afw PT b.toList) (wW T CT PT b.toList (Nv b.toList E) b.toList [] none (λh=>k (.panic h) ⟨E.n,[],[]⟩) (ra T CT N (.region id b e) .z E _ k)) (ra T CT N (.region id b e) .z E _ k)) (S0 T CT tW PT b.toList b.toList E k))
  (λ_ _ a f=>λd E _ k=>a d.s.l E _ (sqK f d.s.r k))
  (λc _ _ a f=>am0 c a f)
  (λid _ a=>λd E _ k=>a d.s.l E _ (bkK id k))
  (λ_ a=>am1 N a)
  (λ_ _ _ _ _ _=>λ_ _ _ _=>none)
  (λid _ E _ k=>k (.exit id) E)
  (λ_ a=>λd E _ k=>a d.l E _ λx g=>match x with
   |.goto _=>none
   |x=>k x g)
  (λ_=>λ_ E _ k=>k .normal E)
  (λ_=>λ_ _ _ _=>none)
  (λ_ E _ k=>k .ret E)
  (λ_=>λ_ _ _ _=>none)
  c
end
section
variable{P:Fd}{T:EQ->bu}{CT:Do iS}{tW:EQ}{PT:Do PnC}{N:Nat}
def ai3(V:∃B,P.underlying tW=some (.struct B))(U:∀p∈PT,p.ok P){E:b_}{J:jH->b_->At g}{H:b_->At g}{I:At g}{r:g}(h:amZ tW PT t E J H I=some r):
 I=some r\/(t.guard=none/\((∃i,H i=some r/\i.n=E.n/\∀K:St->Prop,K (bg i)->SS P t (bg E) K)\/∃o i,J o i=some r/\i.n=E.n/\SP P t (bg E) λx s=>x=.panic o/\bQ P s (bg i))):=by
 obtain⟨a3,op,ty,a1,M,gd⟩:=t;unfold amZ at h;split at h
 ·exact .inl h
 ·rename_i C
  simp only at C;subst C;split at h
  ·rename_i x j
   simp only at j;subst j;split at h
   ·rename_i b v n
    refine .inr ⟨rfl,.inr ⟨_,_,h,rfl,SP.panic (t:=b) (v:=v) (λRd i u m=>?_) ⟨rfl,bQ.refl⟩⟩⟩;rw[(Sk.enc E).is rfl (aft n)]at m;exact afs n m
   ·exact .inl h
  ·rename_i b x j
   simp only at j;subst j;split at h
   ·rename_i d l
    simp only at l;subst l;split at h
    ·rename_i v n
     rcases bA h with⟨y,z⟩|⟨_,z⟩
     ·simp only[aup]at y
      have ht:=auu y.1;subst ht;refine .inr ⟨rfl,.inl ⟨_,z,rfl,λK S=>SS.read (RS.mkI V λRd i u m=>?_) (auw y.2) S⟩⟩;rw[(Sk.enc E).is rfl (aft n)]at m;exact afs n m
     ·exact .inl z
    ·exact .inl h
   ·exact .inl h
  ·rename_i f a2 ts j
   simp only at j;subst j;split at h
   ·rename_i d l
    simp only at l;subst l;split at h
    ·rename_i c B cs W
     rcases Lj (ty:=ty) (pos:=a1) (af:=M) (λa0=>Sa (ts:=ts) W a0) U h with h|⟨o,gs,D,h,hs⟩
     ·exact .inl h
     ·obtain⟨X,h⟩:=aY h
      refine .inr ⟨rfl,.inr ⟨o,_,h,rfl,λw0 L e a w next Q Y hn=>hs (bg E) (Sk.enc E) (Hk.enc E _) w0 L e a w next Q Y λx s hx=>hn x s ?_⟩⟩;obtain⟨rfl,rfl⟩:=hx;refine⟨rfl,?_⟩;have q:=H_ X;have F:=pa (bx E.h) gs;have O:bg ⟨E.n,E.t,R8 D++(fm (bx E.h) gs++E.h)⟩=⟨E.n,fI E.t,my D++(bs (fm (bx E.h) gs)++bs E.h)⟩:=by
       unfold bg;simp only[fa,EO]
      rw[O];refine ai1 q.t q.h q.k (EM F.1 λk t Z=>?_);cases G:(Fr.bW (1000*(d+1))).p k with
      |false=>exact G
      |true=>
       obtain⟨b,r',xs,wr,R,_⟩:=F.1 k t Z;have A:=q.k k G;rw[show(bg E).h=bs E.h from rfl,cz,R]at A;cases A
    ·exact .inl h
   ·exact .inl h
  ·exact .inl h
def Lk(v:Place P T CT)(q:∃G,P.underlying tW=some (.struct G))(m:∀p∈PT,p.ok P){d:bp}:∀{l:bp} {E:b_} {n:Nat} {R:Type} {k:IO->b_->At R} {r:R},E.n=n->S0 T CT tW PT d l E k=some r->
 TL P d.toArray l (bg E) λx s=>∃c,bQ P s (bg c)/\c.n=n/\k x c=some r
 |[],E,n,R,k,r,f,h=>TL.nil ⟨E,bQ.refl,f,h⟩
 |o::l,E,n,R,k,r,f,h=>by
  simp only[S0]at h;rcases ai3 q m h with h|⟨g,⟨c,h,t,y⟩|⟨M,c,h,t,y⟩⟩
  ·have H:exG T CT d o E (λc=>cond (Nat.beq c.n E.n) (S0 T CT tW PT d l c k) none)=some r:=by
    have:=akx (ops:=d) (l:=[o]) (k:=λc=>S0 T CT tW PT d l c k) (E:=E) (r:=r) (by simpa only[xf]using h);simpa only[xf]using this
   refine TL.cons λB j=>?_;have a:=Kl v H;intro z i e C w next Q g u
   refine a z i e C w next Q g λA K=>u A (j A ?_)
   obtain⟨c,rfl,b⟩:=K;obtain⟨D,F⟩:=aY b;exact Lk v q m ((auu D).trans f) F
  ·refine TL.cons λB j=>GS.plain g (y _ (j _ (Lk v q m (t.trans f) h)))
  ·refine TL.last g λz i e a w next Q I u=>y z i e a w next Q I λx s L=>?_
   obtain⟨rfl,J⟩:=L;exact u _ s ⟨c,J,t.trans f,h⟩
def rQ.le{K:b_->Prop}{b:IO->St->Prop}{c:IO->b_->At g}{r:g}
 (h:TC P v (bg D) λx s=>∃a,bQ P s (bg a)/\a.n=D.n/\c x a=some r) (i:∀x a,a.n=D.n->c x a=some r->b x (bg a)):TC P v (bg D) b:=
 TC.leK (h.mono λx s j=>by
  obtain⟨a,d,e,f⟩:=j;exact⟨_,d,i x a e f⟩)
def XO(J:Place P T CT)(V:∃U,P.underlying tW=some (.struct U))(O:∀p∈PT,p.ok P)(c:Code):uY c=true->∀(o:Pl) (E:b_) (R:Type) (k:IO->b_->At R) (r:R),P2 T CT tW PT N c o E R k=some r->
 TC P c (bg E) λx s=>∃d,bQ P s (bg d)/\d.n=E.n/\k x d=some r:=by
 induction c with
 |skip=>exactλ_ o E R k r h=>TC.ac (AC.skip ⟨E,bQ.refl,rfl,h⟩)
 |region id u S=>
  intro _ o E R k r h;cases S with
  |true=>
   have M:u=u.toList.toArray:=d5
   rcases bA (show cond (afw PT u.toList) (wW T CT PT u.toList (Nv u.toList E) u.toList [] none (λF=>k (.panic F) ⟨E.n,[],[]⟩) (ra T CT N (.region id u true) .z E _ k)) (ra T CT N (.region id u true) .z E _ k)=some r from h)with⟨_,h⟩|⟨_,h⟩
   case inr=>exact(TC.ex J rfl h).mono λx s D=>let⟨d,t,w,G⟩:=D;⟨d,t▸bQ.refl,w,G⟩
   rcases ai2 (id:=id) J O h with h|⟨F,h,W⟩
   ·exact(TC.ex J rfl h).mono λx s D=>let⟨d,t,w,G⟩:=D;⟨d,t▸bQ.refl,w,G⟩
   ·rw[M]
    refine TC.le (uw (P:=P) (Sj (qh u.toList u.toList)) E).1 (W.mono λx s D=>?_);obtain⟨rfl,f⟩:=D;have f:s.n=E.n:=f.trans (uw (P:=P) (Sj (qh u.toList u.toList)) E).2;refine⟨⟨E.n,[],[]⟩,?_,rfl,h⟩;obtain⟨sn,a1,sh⟩:=s;simp only at f;subst f;exact bQ.xw (λi=>.inr rfl) λk=>.inr rfl
  |false=>
   have M:u=u.toList.toArray:=d5
   have:=Lk J V O (n:=E.n) rfl h;rw[M];exact TC.region this
 |seq a b y H=>
  intro z o E R k r h;have A:(uY a && uY b)=true:=z;simp only[aup]at A;refine TC.seq (rQ.le (K:=λ_=>True) (y A.1 o.s.l E R _ r h) λx d f j=>?_);cases x with
  |normal=>
   refine(H A.2 o.s.r d R k r j).mono λx s D=>?_;obtain⟨Q,t,w,G⟩:=D;exact⟨Q,t,w.trans f,G⟩
  |_=>exact⟨d,bQ.refl,f,j⟩
 |cond c a b y H=>
  intro z o E R k r h;have A:(uY a && uY b)=true:=z;simp only[aup]at A;change am0 c (P2 T CT tW PT N a) (P2 T CT tW PT N b) o E R k=some r at h;unfold am0 at h;split at h
  ·rename_i Y B
   have I:=(Sk.enc E).is B d8;split at h
   ·rename_i i
    rcases bA h with⟨C,t⟩|⟨C,t⟩
    ·subst C
     exact TC.Mu I (TC.le (bQ.Na (P:=P) B) (y A.1 o.s.l _ R k r t))
    ·subst C
     exact TC.Mw I (TC.le (bQ.Na (P:=P) B) (H A.2 o.s.r _ R k r t))
   ·rcases bA h with⟨C,t⟩|⟨C,t⟩
    ·subst C
     exact TC.Mu I (y A.1 o.s.l _ R k r t)
    ·subst C
     exact TC.Mw I (H A.2 o.s.r _ R k r t)
  ·cases h
 |block id a y=>
  intro z o E R k r h;refine TC.block (rQ.le (K:=λ_=>True) (y z o.s.l E R _ r h) λx d f j=>?_);cases x with
  |exit i=>
   simp only[As];have j:cond (Nat.beq i id) (k .normal d) (k (.exit i) d)=some r:=j;rcases bA j with⟨t,w⟩|⟨t,w⟩
   ·rw[auo (auu t)]
    exact⟨d,bQ.refl,f,w⟩
   ·rw[aun (λe=>by rw[e,auX]at t;cases t)]
    exact⟨d,bQ.refl,f,w⟩
  |_=>exact⟨d,bQ.refl,f,j⟩
 |loop a y=>
  intro z o E R k r h;change am1 N (P2 T CT tW PT N a) o E R k=some r at h;unfold am1 at h;split at h
  ·rename_i L a0 p
   obtain⟨v,B,t⟩:=gY (P:=P) h;refine TC.loop (α:={q:Nat×kf L.c//Ji (P2 T CT tW PT N a) E.n L p k q.1 q.2=some r}) (λq=>bg (eY E.n L q.1.2)) (λq=>q.1.1) ⟨(N,v),t⟩ B ?_;rintro⟨⟨m,v⟩,h⟩;cases m with
   |zero=>cases h
   |succ m=>
    simp only[Ji]at h;refine rQ.le (K:=λ_=>True) (y z p (eY E.n L v) _ _ _ h) λx d f j=>?_;cases x with
    |normal=>
     obtain⟨X,B,w⟩:=gY (P:=P) j;rw[show d.n=E.n from f]at B;exact⟨⟨(m,X),w⟩,B,axI m⟩
    |_=>exact⟨d,bQ.refl,f,j⟩
  ·cases h
 |exit id=>exactλ_ o E R k r h=>TC.ac (AC.exit ⟨E,bQ.refl,rfl,h⟩)
 |scope a y=>
  intro z o E R k r h;refine TC.scope (rQ.le (K:=λ_=>True) (y z o.l E R _ r h) λx d f j=>?_);cases x with
  |goto l=>cases j
  |_=>exact⟨λl e=>(by cases e),d,bQ.refl,f,j⟩
 |label l=>exactλ_ o E R k r h=>TC.ac (AC.label ⟨E,bQ.refl,rfl,h⟩)
 |ret=>exactλ_ o E R k r h=>TC.ac (AC.ret ⟨E,bQ.refl,rfl,h⟩)
 |rangeFunc g ps Z cb y H=>intro _ o E R k r h;cases h
 |goto l=>intro _ o E R k r h;cases h
 |_=>intro _ o E R k r h;cases h
end
structure PnO where
 c:CO
 pan:(N:Nat)->kf (c.c N).cs->D7
 ok:∀N x ch,pan N x=some ch->Zn PG (c.c N).f (bs ((c.c N).H0 x)) (bS ((c.c N).as x)) ch
noncomputable def pnO(l:Do PnO)(N:Nat):Do PnC:=l.map λp=>⟨p.c.c N,p.pan N⟩
def afx(l:Do PnO)(N:Nat):∀p∈pnO l N,p.ok PG:=λp a=>by
 obtain⟨q,_,rfl⟩:=auD.1 a;exact q.ok N
def aqg:IO->b_->D7
 |.panic a,_=>some a
 |_,_=>none
noncomputable def pnF(tW:EQ)(l:Do CO)(p:Do PnO)(d:FD)(c:CO)(N:Nat)(x:kf (c.c N).cs):D7:=P2 T (Mg l N) tW (pnO p N) N (eT d.fn) d.pl ⟨d.fn.ntmps,wH 0 ((c.c N).as x),(c.c N).H0 x⟩ _ aqg
noncomputable def pF(tW:EQ)(l:Do CO)(p:Do PnO)(d:FD)(c:CO)(o:∃k,PG.underlying tW=some (.struct k))(t:PG.funcs[d.f]? =some d.fn)(r:∀N,(c.c N).f=d.f:=by intro N;rfl)(m:okB d.fn d.ps d.hs d.own d.nm=true:=by kernel_rfl)(n:uY (eT d.fn)=true:=by kernel_rfl)(hl:∀N x,((c.c N).as x).length<=d.fn.ntmps):PnO:=by
 refine⟨c,pnF tW l p d c,λN x A h=>?_⟩;rw[r N];obtain⟨v,w,j,_⟩:=ph m;simp only[aup]at j;obtain⟨b,g⟩:=avS.1 w;have q:eT d.fn=b:=by unfold eT;rw[g]
 refine Zn.intro t v g (by rw[show(bS ((c.c N).as x)).length=((c.c N).as x).length from e_ _];exact hl N x) (auw j.2) ?_;have f:=XO (ot l N) o (afx p N) (eT d.fn) n _ _ _ _ _ h;rw[q]at f;have e:(⟨d.fn.ntmps,oU 0 (bS ((c.c N).as x)),bs ((c.c N).H0 x)⟩:St)=bg ⟨d.fn.ntmps,wH 0 ((c.c N).as x),(c.c N).H0 x⟩:=by
  unfold bg;simp only[k_]
 rw[e];refine f.mono λx s u=>?_;obtain⟨y,_,_,a⟩:=u;cases x with
 |panic z=>cases a;rfl
 |_=>cases a
def wV(p e:Int):Id:=.agg ⟨[.int .i64 p,.int .i64 e]⟩
def wI(p e:Int):Id:=.iface 127 (wV p e)
def S2(p e:Int):jH:=[{v:=wI p e,recovered:=false}]
def Jj:∃a,PG.underlying 127=some (.struct a):=⟨_,rfl⟩
noncomputable def afy:PnO:=pF 127 afk [] afl akU Jj axW (hl:=λN x=>by show(2:Nat)<=51;decide)
noncomputable def XP:Nat->aX×Int->D7:=afy.pan
def afz N r a:XP N (r,a)=cond (a=(List.length r:Int)) (some (S2 a 7))
 (aW (ba r a) λz=>aW (afj N (wrap .i64 z)) λb=>cond (!b) (some (S2 a 8)) none):=ci
noncomputable def afA:PnO:=pF 127 afn [] afo akV Jj axW (hl:=λN x=>by show(2:Nat)<=51;decide)
noncomputable def XQ:Nat->aX×Int->D7:=afA.pan
def afB N r a:XQ N (r,a)=cond (a=(List.length r:Int)) (some (S2 a 7))
 (aW (ba r a) λz=>aW (wR N (wrap .i64 z)) λb=>cond (!b) (some (S2 a 8)) none):=ci
noncomputable def am2:PnO:=pF 127 amV [] amW aqd Jj func106 (hl:=λN x=>by show(1:Nat)<=34;decide)
noncomputable def CY:Nat->aX×Int->D7:=am2.pan
def ai5 N r a:CY N (r,a)=aW (ja N (r,a)) λz=>cond (!z.2) (some (S2 (List.length r:Int) 7)) none:=ci
noncomputable def am3:PnO:=pF 127 afq [afy,am2,afA] amX amY Jj func45 (hl:=λN x=>by show(1:Nat)<=49;decide)
noncomputable def ai6:Nat->aX×Int->D7:=am3.pan
noncomputable abbrev xRB(N:Nat)(l:a_):Ho:=P2 T (Mg afq N) 127 (pnO [afy,am2,afA] N) N (gw l (eT f45))
noncomputable def P3(N:Nat):Nat->Int×Int×aX×Int×Int×bh×fU->D7:=Ji (xRB N [1,1,1,1,1,0,1,0,0]) 49 SQ SU (bkK 0 (sqK (xRB N [1,1,1,1,1,1]) .z aqg))
def ai7 N r a:ai6 N (r,a)=mR (XP N (r,a)) some (aW (P0 N (r,a)) λk=>mR (CY N k.2) some (aW (tp N k.2) λn=>
 cond (60<n.1) (some (S2 k.2.2 9)) (P3 N N (n.1,0,n.2.1,n.2.2,k.1,[],[])))):=ci
def XR N m n i r a k b c:P3 N (m+1) (n,i,r,a,k,b,c)=cond (i<n) (cond (k=3)
 (mR (XQ N (r,a)) some (aW (Jh N (r,a)) λx=>mR (CY N x.2) some (aW (tp N x.2) λy=>mR (CY N y.2) some (aW (tp N y.2) λz=>aW (eo 24 c [(x.1,y.1,z.1)]) λ_=>
  aW (Jh N (r,a)) λx=>aW (tp N x.2) λy=>aW (tp N y.2) λz=>aW (eo 24 c [(x.1,y.1,z.1)]) λc=>P3 N m (n,wrap .i64 (i+1),z.2.1,z.2.2,k,b,c)))))
 (mR (CY N (r,a)) some (aW (tp N (r,a)) λy=>mR (CY N y.2) some (aW (tp N y.2) λz=>aW (eo 16 b [(y.1,z.1)]) λ_=>
  aW (tp N (r,a)) λy=>aW (tp N y.2) λz=>aW (eo 16 b [(y.1,z.1)]) λb=>P3 N m (n,wrap .i64 (i+1),z.2.1,z.2.2,k,b,c)))))
 none:=ci
variable{i:a_}
set_option maxHeartbeats 400000 in
def S3(p e:Int)(w:GE):Calls Tryz.prog 44 #[wI p e] w λx c=>x=.returned (wV p e)/\Ext w c:=by
 unfold wI wV
 go_enter func44,Tryz.ntmps44
 go_wp2
 obtain⟨b,a⟩:=Jj;have a:(Tryz.prog).underlying 127=some (.struct b):=a;simp[Instr.typeAssert,auR a]
 go_wp2
 exact bodyPost_ret (v:=wV p e) (by simp[results,Tryz.results44,go_sem,wV]) rfl ⟨rfl,((Ext.refl w).alloc _).alloc _⟩
section
variable{P:Fd}{ops:qZ}{Q:IO->Act->Do Frame->GE->Prop}{cs:Do Frame}
def Jk{b:Act}(g:ops[a]? =some t)(h:if Region.wanted t (yielded ops b.tmps)then t.wp P b F (λd c=>wpOpsS P ops Q i d cs c) (λe d c=>Q e d cs c)else wpOpsS P ops Q i (b.put t.dst undef) cs F):wpOpsS P ops Q (a::i) b cs F:=by
 simp only[wpOpsS,g];split
 ·rename_i f
  rw[auo f]at h;unfold Oper.wp at h;split
  ·rename_i c j
   rw[j]at h;exact h.elim
  ·exact h
 ·rename_i f
  rw[aun f]at h;exact h
def akX{T:EQ->bu}{p:Do iS}(s:Place P T p){ops:bp}{Q:IO->Act->Do Frame->GE->Prop}{cs:Do Frame}{B:Bs}{Rd:bF}:∀{l:bp} {i:Nat} {E:b_} {R:Type} {k:b_->At R} {r:R} {e:Env} {a:Act} {w:GE},xf T p ops l E k=some r->(∀j,l[j]? =ops[i+j]?)->
 Ga B Rd e (bg E) a w->(∀c,k c=some r->∀q d n,Ga B Rd q (bg c) d n->Q .normal d cs n)->wpOpsS P ops.toArray Q (List.range' i l.length) a cs w
 |[],i,E,R,k,r,e,a,w,h,g,f,m=>m E h e a w f
 |o::l,i,E,R,k,r,e,a,w,h,g,f,m=>by
  simp only[xf]at h;have v:ops.toArray[i]? =some o:=by have:=g 0;simpa using this.symm
  have u:∀j,l[j]? =ops[i+1+j]? :=λj=>by
   have:=g (j+1);rw[show i+1+j=i+(j+1) by omega];simpa using this
  refine Jk v ?_;refine Kl s h B Rd e a w _ _ f λy x q d n t=>?_;obtain⟨c,rfl,b⟩:=x;exact akX s b u t m
end
noncomputable abbrev cb1:Code:=eT f43
noncomputable def c1O:bp:=match gw [0] cb1 with
 |.region _ ops _=>ops.toList
 |_=>[]
noncomputable def c1R:Code:=gw [1] cb1
def am4:∃id,cb1=.seq (.region id c1O.toArray false) c1R:=⟨_,rfl⟩
def am5:∃(e f:EQ) (p1 p2:String) (a b:dm) (c d:hX),c1O=⟨some 3,.call ⟨.builtin .recover, #[],c⟩,e,p1,a,none⟩::⟨some 4,.call ⟨.value (.func 44), #[.tmp 3],d⟩,f,p2,b,none⟩::c1O.drop 2:=⟨_,_,_,_,_,_,_,_,rfl⟩
noncomputable def sAv:Do EV:=[.pt 4294967296 0,.pt 4294967297 0]
noncomputable def sH(x y:Int):eS:=[(4294967296,some (.box 3 [.sc j1 x])),(4294967297,some (.box 30 [.sc j1 y]))]
noncomputable def sE1(p e x y:Int):b_:=⟨12,(4,.ag [.sc j1 p,.sc j1 e])::(3,.v (wI p e))::wH 0 sAv,sH x y⟩
noncomputable def sK1:IO->b_->At (At dO×At dO)
 |.normal,E=>some (bx E.h 4294967296,bx E.h 4294967297)
 |_,_=>none
def am6 p e x y:xf T [] c1O (c1O.drop 2) (sE1 p e x y) (λE=>ra T [] 0 c1R .z E (At dO×At dO) sK1)=
 cond (!(decide (p=0) && decide (e=0))) (some (some (.box 3 [.sc j1 p]),some (.box 30 [.sc j1 e]))) (some (some (.box 3 [.sc j1 x]),some (.box 30 [.sc j1 y]))):=ci
section
variable{P:Fd}{ops:qZ}{Q:IO->Act->Do Frame->GE->Prop}{cs cs':Do Frame}
def afC{b:Act}{v:Id}(e:ops[a]? =some t)(d:t.guard=none)(f:(execOp b.eval t).run P F=.ok .recover F)(c:recoverD cs=some (v,cs'))(h:wpOpsS P ops Q i (b.put t.dst v) cs' F):wpOpsS P ops Q (a::i) b cs F:=by
 simp only[wpOpsS,e];rw[auo (by simp[Region.wanted,d])];simp only[f,c];exact h
end
set_option maxHeartbeats 2000000 in
def afD(p e x y:Int)(W:e≠0):DCX Tryz.prog 43 (bs (sH x y)) (bS sAv) (.panicking (S2 p e)) (.panicking [{v:=wI p e,recovered:=true}]) λH=>aZ H 4294967296=some (bU (.box 3 [.sc j1 p]))/\aZ H 4294967297=some (bU (.box 30 [.sc j1 e])):=by
 intro B Rd e0 w vs a7 hv;obtain⟨id,U⟩:=am4;have E:Place Tryz.prog T []:=ot [] 0;refine ayK (c:=cb1) func43 ci λM cs b=>?_;rw[U];refine wpS_seq (wpS_region ?_);have Y:=Ga.enter (fn:=f43) (B:=B.mb []) (H0:=bs (sH x y)) (av:=bS sAv) (vs:=vs) rfl (by show _<=12;rw[show(bS sAv).length=2 from rfl];decide) (by show(12:Nat)<=1000000;decide) (a7.mb []) hv;obtain⟨ad,J,p1,p2,L,q,ac,I,A⟩:=am5;have O:c1O.toArray[0]? =some ⟨some 3,.call ⟨.builtin .recover, #[],ac⟩,ad,p1,L,none⟩:=by rw[A];rfl
 have R:c1O.toArray[1]? =some ⟨some 4,.call ⟨.value (.func 44), #[.tmp 3],I⟩,J,p2,q,none⟩:=by rw[A];rfl
 have a8:List.range c1O.toArray.size=0::1::List.range' 2 (c1O.drop 2).length:=ci
 rw[a8];refine afC (v:=wI p e) (cs':={M with mode:=.panicking [{v:=wI p e,recovered:=true}]}::cs) O rfl (by simp[execOp,resolve,invoke,builtin]) (by simp[recoverD,b,S2]) ?_;have C:=Y.put (d:=3) (c:=.v (wI p e)) (by show 3<12;decide) .v;refine Jk R ?_;rw[auo (by simp[Region.wanted])];obtain⟨k,a9,a6⟩:=JV.func (P:=Tryz.prog) (d:=4) (f:=44) (args:= #[.tmp 3]) (ts:=I) (ty:=J) (pos:=p2) (af:=q) (gd:=none) ⟨f44,func44,by kernel_rfl,by kernel_rfl⟩ _ _ _ _ _ C;have aa:k=[wI p e]:=by
  have s:LR (VR _ (some e0)) [AV.v (wI p e)] k:=a9
  match k,s.1,s.get (j:=0) (c:=.v (wI p e)) rfl with
  |[u],_,⟨v,G,ab⟩=>simp at G;subst G;rw[ab.bL]
 subst aa;unfold Oper.wp;rw[a6 w];refine(S3 p e w).mono λr w' h=>?_;obtain⟨rfl,X⟩:=h;have Z:=(C.later X).put (d:=4) (c:=.ag [.v (.int .i64 p),.v (.int .i64 e)]) (v:=wV p e) (by show 4<12;decide) (.ag [.int .i64 p,.int .i64 e] rfl λj c u g b=>by
  match j with
  |0=>simp at g b;subst g;subst b;exact .v
  |1=>simp at g b;subst g;subst b;exact .v
  |j+2=>simp at g)
 have S:(⟨f43.ntmps,(4,.ag [.v (.int .i64 p),.v (.int .i64 e)])::(3,.v (wI p e))::oU 0 (bS sAv),bs (sH x y)⟩:St)=bg (sE1 p e x y):=by
  unfold bg sE1;simp only[k_,fI];rfl
 have a0:Ga (B.mb []) Rd e0 (bg (sE1 p e x y)) _ w':=S▸Z;have F:=am6 p e x y;have a2:(!(decide (p=0) && decide (e=0)))=true:=by simp[W]
 rw[a2,auQ]at F;refine akX E F (λj=>by rw[avK]) a0 λE' hk e' a' w2 a1=>?_;show Code.wpS _ _ _ _ _ _;refine wpS_of_wp (TC.ex E ci hk _ _ _ _ _ _ a1 λr ae h N o K D=>?_);obtain⟨n,rfl,_,a⟩:=h;have V:o.defers=[]:=D.d;have a4:∃m,(results f43 o.tmps).run Tryz.prog K=.ok m K:=by
  refine⟨.tuple #[],?_⟩;have:f43.results= #[]:=rfl;simp[results,this]
 obtain⟨m,a3⟩:=a4;cases r with
 |normal=>
  have t:=aut a;refine⟨V,_,rfl,m,a3,⟨_,rfl⟩,rfl,N,_,⟨?_,?_⟩,D.sr.Co⟩
  ·exact(cz _ _).trans (by rw[show bx n.h 4294967296=_ from auA (λz=>z.1) t];rfl)
  ·exact(cz _ _).trans (by rw[show bx n.h 4294967297=_ from auA (λz=>z.2) t];rfl)
 |_=>cases a
abbrev BX:Type:=Int×bh×fU
noncomputable abbrev sb:Code:=eT f8
noncomputable abbrev sq(l:a_):Code:=gw l sb
def aqi:sb=.seq (sq [0]) (.seq (sq [1,0]) (sq [1,1])):=ci
def aqj:PS:=⟨[(0,.h jb),(2,.k (.ow 903)),(3,.k (.pt 4294967296 0)),(4,.k (.pt 4294967297 0)),(5,.k (.pt 902 0))],[(903,.arr 56 jx true),(4294967296,.box 3 [.h j1]),(4294967297,.box 30 [.h j1]),(902,.box 131 [.h jb,.h j1])],[jb,jy,j1,j1,jb,j1]⟩
def ai9:PS:=⟨[(2,.h jy),(3,.k (.pt 4294967296 0)),(4,.k (.pt 4294967297 0))],[(4294967296,.box 3 [.h j1]),(4294967297,.box 30 [.h j1])],[jy,j1,j1]⟩
abbrev SR1:Type:=Sum (jH×Do BX×Int×Int) (Do BX×Int×Int)
def kS:IO->b_->At SR1
 |.ret,E=>je ai9 E λv=>some (.inr v)
 |.panic a,E=>je ai9 E λv=>some (.inl (a,v))
 |_,_=>none
noncomputable def sS(b:aX):b_:=⟨27,[(0,.sc jb b),(2,.nil),(3,.pt 4294967296 0),(4,.pt 4294967297 0)],sH 0 0⟩
noncomputable abbrev xS(N:Nat)(l:a_):Ho:=P2 T (Mg [amY] N) 127 (pnO [am3] N) N (sq l)
noncomputable def afE(N:Nat):Nat->aX×Do BX×Int×Int×aX×Int->At SR1:=Ji (xS N [1,1,1,0,0,0]) 27 aqj .z (bkK 0 (sqK (xS N [1,1,1,1]) .z kS))
noncomputable def am8(N:Nat)(b:aX):At SR1:=xS N [1,1] (.n .z (.n (.n (.loop aqj [] .z) .z) .z)) (sS b) SR1 kS
def ai_ N b:am8 N b=afE N N (b,[],0,0,b,0):=ci
def am9 N m b l x y r a:afE N (m+1) (b,l,x,y,r,a)=cond (a<(List.length b:Int))
 (mR (ai6 N (r,a)) (λc=>some (.inl (c,l,x,y))) (aW (aiW N (r,a)) λz=>aW (eo 56 l [(z.1,z.2.1,z.2.2.1)]) λl=>afE N m (b,l,x,y,z.2.2.2.1,z.2.2.2.2)))
 (some (.inr (l,a,0))):=ci
noncomputable def asO:bp:=match gq [1,0]with
 |.region _ a _=>a.toList
 |_=>[]
def asH:∃id,gq [1,0]=.region id asO.toArray false:=⟨_,rfl⟩
def am_:∃(c d:EQ) (p1 p2:String) (a b:dm) (e:EQ),asO=⟨some 8,.move (.tmp 3),c,p1,a,none⟩::⟨some 9,.typeAssert (.tmp 8) e 207 true,d,p2,b,none⟩::asL:=⟨_,_,_,_,_,_,_,rfl⟩
noncomputable def gAv:Do EV:=[.pt 4294967296 0,.pt 4294967297 0,.pt 4294967298 0]
noncomputable def gS(n:Int)(c:Do cA)(a b:Int):Do EV:=[.sc j1 n,.sc iG c,.sc j1 a,.sc j1 b]
noncomputable def gH(n:Int)(c:Do cA)(a b:Int)(d e:Do EV):eS:=[(4294967296,some (.box 28 (gS n c a b))),(4294967297,some (.box 28 d)),(4294967298,some (.box 49 e))]
noncomputable def gE(e n:Int)(c:Do cA)(a b:Int)(d f:Do EV):b_:=⟨20,(9,.tu [.ag [.sc j1 e],.sc .b true])::(8,.v (nq e))::(3,.v (nq e))::(6,.v (nq e))::wH 0 gAv,gH n c a b d f⟩
abbrev GR2:Type:=At dO×At dO
noncomputable def gK:IO->b_->At GR2
 |.normal,E=>some (bx E.h 4294967297,bx E.h 4294967298)
 |.ret,E=>some (bx E.h 4294967297,bx E.h 4294967298)
 |_,_=>none
noncomputable def zS:Do EV:=[.sc j1 0,.nil,.sc j1 0,.sc j1 0]
noncomputable def zR:Do EV:=[.sc j1 0,.sc j1 0,.nil]
def aqk e n c a b:xf T [] asO asL (gE e n c a b zS zR) (λE=>ra T [] 0 (gq [1,1]) .z E GR2 gK)=
 some (some (.box 28 (gS n c a b)),some (.box 49 [.sc j1 e,.sc j1 0,.nil])):=ci
def afF(e n:Int)(c:Do cA)(a b:Int)(H:Hp):Prop:=
 aZ H 4294967297=some (bU (.box 28 (gS n c a b)))/\aZ H 4294967298=some (bU (.box 49 [.sc j1 e,.sc j1 0,.nil]))
def aax(e n:Int)(g:Do cA)(b f:Int):DCX Tryz.prog 102 (bs (gH n g b f zS zR)) (bS gAv) (.panicking [{v:=nq e,recovered:=false}]) (.panicking [{v:=nq e,recovered:=true}]) (afF e n g b f):=by
 refine DCX.rec (fn:=f102) (c0:=gq [0]) (c1:=.seq (gq [1,0]) (gq [1,1])) func102 ci ap_ (by show _<=20;rw[show(bS gAv).length=3 from rfl];decide) (by show(20:Nat)<=1000000;decide) (by show 6<20;decide) rfl ?_;obtain⟨id,hid⟩:=asH;rw[hid];refine TC.seq (TC.region ?_)
 suffices H:∀l,l=asO->TL Tryz.prog asO.toArray l ⟨20,(3,.v (nq e))::(6,.v (nq e))::oU 0 (bS gAv),bs (gH n g b f zS zR)⟩ (rQ (λh=>TC Tryz.prog (gq [1,1]) h λx h=>(x=.normal\/x=.ret)/\afF e n g b f h.h) λx h=>(x=.normal\/x=.ret)/\afF e n g b f h.h)from H _ rfl
 intro l r;obtain⟨P,R,p1,p2,M,N,S,B⟩:=am_;rw[B]at r;subst r;have t:Place Tryz.prog T []:=ot [] 0;refine TL.cons λz m=>GS.plain rfl (SS.read (RS.akq (c:=.v (nq e)) rfl) (by show 8<20;decide) (m _ ?_));refine TL.cons λz m=>GS.plain rfl (SS.read (RS.assert (v:=.agg #[.int .i64 e]) (c:=.ag [.v (.int .i64 e)]) (by exact⟨_,rfl⟩) rfl λRd E=>.ag [.int .i64 e] rfl λj c u o y=>?_) (by show 9<20;decide) (m _ ?_))
 ·match j with
  |0=>simp at o y;subst o;subst y;exact .v
  |j+1=>simp at o
 have C:(⟨20,(9,.tu [.ag [.v (.int .i64 e)],.v (.bool true)])::(8,.v (nq e))::(3,.v (nq e))::(6,.v (nq e))::oU 0 (bS gAv),bs (gH n g b f zS zR)⟩:St)=bg (gE e n g b f zS zR):=by
  unfold bg gE;simp only[k_,fI,auL];rfl
 have q:=Sd t (aqk e n g b f);refine TL.of ?_;have J:AL Tryz.prog asO.toArray asL ⟨20,(9,.tu [.ag [.v (.int .i64 e)],.v (.bool true)])::(8,.v (nq e))::(3,.v (nq e))::(6,.v (nq e))::oU 0 (bS gAv),bs (gH n g b f zS zR)⟩ _:=C▸q;intro K A e0 a w Q D G;refine J K A e0 a w Q D λh I=>G h ?_;obtain⟨L,rfl,F⟩:=I;refine(TC.ex t ci F).mono λx s q=>?_;obtain⟨k,rfl,_,d⟩:=q;have p:bx k.h 4294967297=some (.box 28 (gS n g b f))/\bx k.h 4294967298=some (.box 49 [.sc j1 e,.sc j1 0,.nil])/\(x=.normal\/x=.ret):=by
  cases x with
  |normal=>simp only[gK,aur,auK]at d;exact⟨d.1,d.2,.inl rfl⟩
  |ret=>simp only[gK,aur,auK]at d;exact⟨d.1,d.2,.inr rfl⟩
  |_=>cases d
 refine⟨p.2.2,?_,?_⟩
 ·show aZ (bs k.h) _=_
  rw[cz,p.1];rfl
 ·show aZ (bs k.h) _=_
  rw[cz,p.2.1];rfl
noncomputable def mS:Do CO:=[akJ,kM]
noncomputable def pO:bp:=match pq [1,1,1,1,0]with
 |.region _ a _=>a.toList
 |_=>[]
def pq5:∃id,pq [1,1,1,1,0]=.region id pO.toArray false:=⟨_,rfl⟩
noncomputable def pAv(n:Int)(i:Do cA)(c h k:Int)(d:bh)(f:fU)(a b g P:Int)(e:bh):Do EV:=
 [.ag (gS n i c h),.ag [.sc j1 k,.sc gO d,.sc AQ f],.ag [.sc j1 a,.sc j1 b,.sc j1 g,.sc j1 P,.sc gO e]]
noncomputable def pE(n:Int)(i:Do cA)(c h k:Int)(d:bh)(f:fU)(a b g P:Int)(e:bh):b_:=⟨30,wH 0 (pAv n i c h k d f a b g P e),[]⟩
noncomputable abbrev px(N:Nat)(R:Type):=λ(c:Code) (E:b_) (f:b_->At R)=>ra T (Mg mS N) N c .z E R (kGo f)
noncomputable def pD(E:b_):b_:=⟨E.n,(14,.cl (.func 102) [] [cy E.t 3,cy E.t 6,cy E.t 7])::E.t,E.h⟩
noncomputable def pC(N:Nat)(E:b_)(f:b_->At g):At g:=px N g (pq [0]) E λE=>px N g (pq [1,0]) E λE=>px N g (pq [1,1,1,0]) (pD E) λE=>xf T (Mg mS N) pO (pO.take 3) E f
def p1 N n i c h k d f a b g P e:px N Nat (pq [0]) (pE n i c h k d f a b g P e) (λE=>some E.n)=some 30:=ci
def p2 N n d a c k h j e f g P i:px N Nat (pq [0]) (pE n d a c k h j e f g P i) (λE=>px N Nat (pq [1,0]) E λE=>some E.n)=aW (nO N (n,d,a,c)) λb=>cond (!b) none (some 30):=ci
def p3 N n d a c k h j e f g P i:pC N (pE n d a c k h j e f g P i) (λE=>some E.n)=aW (nO N (n,d,a,c)) λb=>cond (!b) none (some 30):=ci
def p4 N n d a c k h j e f g P i:pC N (pE n d a c k h j e f g P i) (λE=>aW (Su (kM.c N) 21 (bx E.h) [cy E.t 18,cy E.t 19,cy E.t 20]) λp=>some p.1)=aW (nO N (n,d,a,c)) λb=>cond (!b) none (some (k,h,j,e,f,g,P,i,n,d,a,c,0,0,([]:aX))):=ci
noncomputable def qT:Do (Nat×EV):=[(3,.pt 4294967296 0),(4,.pt 4294967299 0),(5,.pt 4294967300 0),(6,.pt 4294967297 0),(7,.pt 4294967298 0)]
noncomputable def qH(n:Int)(i:Do cA)(c h k:Int)(d:bh)(f:fU)(a b g P:Int)(e:bh):eS:=
 gH n i c h zS zR++[(4294967299,some (.box 56 [.sc j1 k,.sc gO d,.sc AQ f])),(4294967300,some (.box 38 [.sc j1 a,.sc j1 b,.sc j1 g,.sc j1 P,.sc gO e]))]
noncomputable def qE(n:Int)(i:Do cA)(c h k:Int)(d:bh)(f:fU)(a b g P:Int)(e:bh):b_:=⟨30,qT,qH n i c h k d f a b g P e⟩
abbrev QR:Type:=TA×a_×bI×At dO×At dO×At dO×EV×EV×Nat
noncomputable def qC(N:Nat)(E:b_)(f:b_->At g):At g:=px N g (pq [1,1,1,0]) E λE=>xf T (Mg mS N) pO (pO.take 3) E f
def aql N n c a b k f i d e g P h:qC N (qE n c a b k f i d e g P h) (λE=>aW (Su (kM.c N) 21 (bx E.h) [cy E.t 18,cy E.t 19,cy E.t 20]) λp=>some ((p.1,p.2.1,p.2.2,bx E.h 4294967296,bx E.h 4294967297,bx E.h 4294967298,cy E.t 6,cy E.t 7,E.n):QR))=
 some ((k,f,i,d,e,g,P,h,n,c,a,b,0,0,([]:aX)),[],[(4294967296,17)],some (.box 28 (gS n c a b)),some (.box 28 zS),some (.box 49 zR),.pt 4294967297 0,.pt 4294967298 0,30):=ci
variable{y:Int}
section
variable{P:Fd}{T:EQ->bu}{CT:Do iS}(hp:Place P T CT)
include hp in
def TL.xf{f l2:bp}{g:IO->St->Prop}:∀{l:bp} {E:b_} {R:Type} {k:b_->At R} {r:R},_root_.Go.Proofs.YtglncfdpdaageaaGreatDoor.xf T CT f l E k=some r->(∀c,k c=some r->TL P f.toArray l2 (bg c) g)->TL P f.toArray (l++l2) (bg E) g
 |[],E,R,k,r,h,d=>d E h
 |o::l,E,R,k,r,h,d=>by
  simp only[_root_.Go.Proofs.YtglncfdpdaageaaGreatDoor.xf]at h;refine TL.cons λu n=>?_;have a:=Kl hp h;intro t j e m w next Q p q
  refine a t j e m w next Q p λi s=>q i (n i ?_)
  obtain⟨c,rfl,b⟩:=s;exact TL.xf b d
end
def aqm(o:Oper):Prop:=∃(c:EQ) (p:String) (a:dm) (b:hX),o=⟨some 21,.call ⟨.value (.func 103), #[.tmp 18,.tmp 19,.tmp 20],b⟩,c,p,a,none⟩
def aqn:∃o,pO=pO.take 3++[o]/\aqm o:=⟨_,rfl,_,_,_,_,rfl⟩
noncomputable def qy:Code:=pq [1,1,1,1,1]
def anb{H:Hp}{o:dO}(i:22000+1000<=a)(h:aZ H a=some (bU o))(f:Ob.kj (mg (1000*(21+1))) (bU o)=bU o):aZ (my [(4294967296,17)]++gv (mg (1000*(21+1))) (bs (fm (λ_=>none) [])++H)) a=some (bU o):=by
 have e:bs (fm (λ_=>none) [])=[]:=rfl;rw[e,avd,db];have c:(my [(4294967296,17)]).any (λp=>p.1==a)=false:=by simp[my];omega
 rw[c,oT,h];have d:mg (1000*(21+1)) a=false:=by
  cases b:mg (1000*(21+1)) a with
  |false=>rfl
  |true=>
   unfold mg at b;have g:=auw (azd.1 b).2;omega
 rw[d];simp[f]
def aja(n:Int)(j:Do cA)(e i k:Int)(t:bh)(A:fU)(m r g P:Int)(w:bh)(h:Jf (a+1) (k,t,A,m,r,g,P,w,n,j,e,i,0,0,[])=some y)(R:y≠0):
 TC Tryz.prog (.seq (pq [1,1,1,0]) (.seq (pq [1,1,1,1,0]) qy)) (bg (qE n j e i k t A m r g P w)) λx s=>x=.panic [{v:=nq y,recovered:=false}]/\aZ s.h 4294967296=some (bU (.box 28 (gS n j e i)))/\aZ s.h 4294967297=some (bU (.box 28 zS))/\aZ s.h 4294967298=some (bU (.box 49 zR))/\bD s.t 6=.pt 4294967297 0/\bD s.t 7=.pt 4294967298 0/\s.n=30:=by
 have hp:=ot mS (a+1);have C:=aql (a+1) n j e i k t A m r g P w;unfold qC px at C;have V:uY (pq [1,1,1,0])=true:=ci
 generalize Y:((k,t,A,m,r,g,P,w,n,j,e,i,(0:Int),(0:Int),([]:aX)),([]:a_),[((4294967296:Nat),(17:Nat))],some (dO.box 28 (gS n j e i)),some (dO.box 28 zS),some (dO.box 49 zR),EV.pt 4294967297 0,EV.pt 4294967298 0,30)=rr at C;refine TC.SN hp V C λF hn U=>?_;obtain⟨id,hid⟩:=pq5;rw[hid];refine TC.seq (TC.region ?_);obtain⟨o,W,ty,p,G,tt,rfl⟩:=aqn
 suffices X:∀l,l=pO->TL Tryz.prog pO.toArray l (bg F) (rQ (λa0=>TC Tryz.prog qy a0 _) _)from X _ rfl
 intro l E;rw[W]at E;subst E;refine TL.xf hp U λb u=>?_;refine TL.last rfl ?_;cases B:Su (kM.c (a+1)) 21 (bx b.h) [cy b.t 18,cy b.t 19,cy b.t 20]with
 |none=>rw[B]at u;cases u
 |some q=>
  obtain⟨x,gs,D⟩:=q;rw[B]at u;have c:=aut (u.trans (auA some Y.symm));have Z:x=(k,t,A,m,r,g,P,w,n,j,e,i,(0:Int),(0:Int),([]:aX)):=auA (λz=>z.1) c;have S:gs=[]:=auA (λz=>z.2.1) c;have Q:D=[(4294967296,17)]:=auA (λz=>z.2.2.1) c;have H:bx b.h 4294967296=_:=auA (λz=>z.2.2.2.1) c;have I:bx b.h 4294967297=_:=auA (λz=>z.2.2.2.2.1) c;have J:bx b.h 4294967298=_:=auA (λz=>z.2.2.2.2.2.1) c;have K:cy b.t 6=_:=auA (λz=>z.2.2.2.2.2.2.1) c;have L:cy b.t 7=_:=auA (λz=>z.2.2.2.2.2.2.2.1) c;have M:b.n=30:=auA (λz=>z.2.2.2.2.2.2.2.2) c;clear u c;subst S;subst Q;refine SP.ctr B (by rw[Z];exact afi h R) ?_ (λk _=>cz _ _) ?_
  ·have O:=JV.func (P:=Tryz.prog) (st:=bg b) (d:=21) (f:=103) (args:= #[.tmp 18,.tmp 19,.tmp 20]) (ts:=tt) (ty:=ty) (pos:=p) (af:=G) (gd:=none)
   have N:([.tmp 18,.tmp 19,.tmp 20]:nA).map (bg b).ev=bS [cy b.t 18,cy b.t 19,cy b.t 20]:=by
    simp only[auL,avy,bS,St.ev];rw[show(bg b).t=fI b.t from rfl,cc,cc,cc]
   rw[<-N];exact O
  ·exact⟨rfl,anb d6 ((cz _ _).trans (by rw[H];rfl)) rfl,anb d6 ((cz _ _).trans (by rw[I];rfl)) rfl,anb d6 ((cz _ _).trans (by rw[J];rfl)) rfl,(kG _ _ _).trans ((auA _ ((cc _ _).trans (auA enc K))).trans rfl),(kG _ _ _).trans ((auA _ ((cc _ _).trans (auA enc L))).trans rfl),M⟩
abbrev GR6:Type:=At dO×At dO×EV×EV
noncomputable def gK6:IO->b_->At GR6
 |.normal,E=>some (bx E.h 4294967297,bx E.h 4294967298,cy E.t 6,cy E.t 7)
 |.ret,E=>some (bx E.h 4294967297,bx E.h 4294967298,cy E.t 6,cy E.t 7)
 |_,_=>none
def aqo N n i c h k d f a b g P e:px N GR6 (pq [1,1,1,0]) (qE n i c h k d f a b g P e) (λE=>px N GR6 (pq [1,1,1,1,0]) E λE=>ra T (Mg mS N) N qy .z E GR6 gK6)=
 aW (Ba N (k,d,f,a,b,g,P,e,n,i,c,h,0,0,([]:aX))) λ(y:Int×Do cA×Int×Int×Int×Int×aX)=>some (some (.box 28 (gS y.1 y.2.1 y.2.2.1 y.2.2.2.1)),some (.box 49 [.sc j1 y.2.2.2.2.1,.sc j1 y.2.2.2.2.2.1,.sc j6 y.2.2.2.2.2.2]),.pt 4294967297 0,.pt 4294967298 0):=ci
def anc(n:Int)(t:Do cA)(j r k:Int)(m:bh)(q:fU)(e f g P:Int)(p:bh){y:Int×Do cA×Int×Int×Int×Int×aX}(h:Ba a (k,m,q,e,f,g,P,p,n,t,j,r,0,0,[])=some y):
 TC Tryz.prog (.seq (pq [1,1,1,0]) (.seq (pq [1,1,1,1,0]) qy)) (bg (qE n t j r k m q e f g P p)) λx s=>(x=.normal\/x=.ret)/\aZ s.h 4294967297=some (bU (.box 28 (gS y.1 y.2.1 y.2.2.1 y.2.2.2.1)))/\aZ s.h 4294967298=some (bU (.box 49 [.sc j1 y.2.2.2.2.1,.sc j1 y.2.2.2.2.2.1,.sc j6 y.2.2.2.2.2.2]))/\bD s.t 6=.pt 4294967297 0/\bD s.t 7=.pt 4294967298 0/\s.n=30:=by
 have u:=ot mS a;have d:=aqo a n t j r k m q e f g P p;rw[h]at d;simp only[aW]at d;have N:uY (pq [1,1,1,0])=true:=ci
 have O:uY (pq [1,1,1,1,0])=true:=ci
 have Q:uY qy=true:=ci
 generalize J:((some (dO.box 28 (gS y.1 y.2.1 y.2.2.1 y.2.2.2.1)),some (dO.box 49 [.sc j1 y.2.2.2.2.1,.sc j1 y.2.2.2.2.2.1,.sc j6 y.2.2.2.2.2.2]),EV.pt 4294967297 0,EV.pt 4294967298 0):GR6)=A at d;unfold px at d;have I:ra T (Mg mS a) a (pq [1,1,1,0]) .z (qE n t j r k m q e f g P p) GR6 (kGo λE=>ra T (Mg mS a) a (pq [1,1,1,1,0]) .z E GR6 (kGo λE=>ra T (Mg mS a) a qy .z E GR6 gK6))=some A:=d;refine TC.SN u N I λR K G=>TC.SN u O G λS L H=>(TC.ex u Q H).mono λx s w=>?_;obtain⟨b,rfl,M,c⟩:=w;have v:(x=.normal\/x=.ret)/\(bx b.h 4294967297,bx b.h 4294967298,cy b.t 6,cy b.t 7)=A:=by
  cases x with
  |normal=>exact⟨.inl rfl,aut c⟩
  |ret=>exact⟨.inr rfl,aut c⟩
  |_=>cases c
 obtain⟨w,v⟩:=v;have o:=v.trans J.symm;have B:bx b.h 4294967297=_:=auA (λz=>z.1) o;have C:bx b.h 4294967298=_:=auA (λz=>z.2.1) o;have D:cy b.t 6=_:=auA (λz=>z.2.2.1) o;have F:cy b.t 7=_:=auA (λz=>z.2.2.2) o;exact⟨w,(cz _ _).trans (by rw[B];rfl),(cz _ _).trans (by rw[C];rfl),(cc _ _).trans (by rw[D];rfl),(cc _ _).trans (by rw[F];rfl),M.trans (L.trans K)⟩
variable{d:Int}
def Fu:Nat:=18446744073709551616
def bR:Fu=18446744073709551616:=rfl
def Jl:maxLen=9223372036854775807:=rfl
def cd{p:Prop} [Decidable p](x y:g):cond (decide p) x y=if p then x else y:=by
 by_cases h:p<;>simp[h]
def Hq{p:Prop} [Decidable p](x y:g):cond (!(decide p)) x y=if p then y else x:=by
 by_cases h:p<;>simp[h]
def cb(b:In)(x y:g):cond b x y=if b=true then x else y:=by cases b<;>rfl
def ob{α β:Type}(x:α)(f:α->At β):aW (some x) f=f x:=rfl
def gZ{x:Int}(a: -9223372036854775808<=x)(b:x<=9223372036854775807):wrap .i64 x=x:=by
 simp[wrap,IntKind.bits,IntKind.signed];omega
def cG(h:a<9223372036854775807):wrap .i64 ((a:Int)+1)=((a+1:Nat):Int):=by
 rw[gZ bv bv];omega
def wu8(a:0<=d)(b:d<=255):wrap .u8 d=d:=by
 simp[wrap,IntKind.bits,IntKind.signed];omega
def asK(a:0<=d)(b:d<=4294967295):wrap .u32 d=d:=by
 simp[wrap,IntKind.bits,IntKind.signed];omega
def bd{a:Do g}{i:Nat}{x:g}(h:a[i]? =some x):ba a (i:Int)=some x:=by
 simp[ba,h]
def ane{b:Do g}{x:g}(h:b[a]? =some x)(c:d=a):ba b d=some x:=by
 subst c;exact bd h
def get_at{xs:Do g}{i:Nat}(h:i<xs.length):∃x,xs[i]? =some x:=⟨_,auy h⟩
def Ll{a:Do g}(c:0<=d)(h:d<a.length):∃x,a[d.toNat]? =some x/\ba a d=some x:=by
 obtain⟨x,b⟩:=get_at (xs:=a) (i:=d.toNat) bv;exact⟨x,b,ane b bv⟩
def dh{b:Do g}{x:g}(h:b[a]? =some x):b.drop a=x::b.drop (a+1):=by
 obtain⟨d,c⟩:=aus.1 h;rw[<-c];exact aze d
def cR{b:Do g}{x:g}(h:b[a]? =some x):b.take (a+1)=b.take a++[x]:=by
 rw[List.take_add_one,h];rfl
def Bc{a:Do g}(b:0<=d)(c:d<=y)(e:y<=a.length):iR a d y=some ((a.take y.toNat).drop d.toNat):=by
 simp[iR,b,c,e]
def tw{a:Do g}(b:0<=d)(c:d<=a.length):iR a 0 d=some (a.take d.toNat):=by
 rw[Bc bv b c];rfl
def tA{a:Do g}(b:0<=d)(c:d<=a.length):iR a d ((a.length:Nat):Int)=some (a.drop d.toNat):=by
 rw[Bc b c bv];simp
def afG(a:Do g):MO a 0 ((a.length:Nat):Int) ((a.length:Nat):Int)=some a:=by
 simp[MO]
def cw{b ys:Do g}(c:a<=1000)(h:b.length+ys.length<=100000000000):eo a b ys=some (b++ys):=by
 unfold eo;rw[auo];refine⟨?_,by rw[Jl];omega⟩
 calc (b.length+ys.length)*a<=100000000000*1000:=avZ h c
  _<=140737488355328:=d6
def mT(c:a<=1000)(b:0<=d)(h:d<=100000000000):rK d a=some d.toNat:=by
 unfold rK;rw[auo];refine⟨b,?_,by rw[Jl];omega⟩
 calc a*d.toNat<=1000*100000000000:=avZ c bv
  _<=140737488355328:=d6
def S4(h:y≠0):RF d y=some (d.tmod y):=by simp[RF,h]
def S5(h:y≠0):RG d y=some (d.tdiv y):=by simp[RG,h]
def Gg(a b:Nat):Int.tmod (a:Int) (b:Int)=((a % b:Nat):Int):=by
 rw[Int.tmod_eq_emod_of_nonneg bv];omega
def zC(a b:Nat):Int.tdiv (a:Int) (b:Int)=((a/b:Nat):Int):=by
 rw[Int.tdiv_eq_ediv_of_nonneg bv];omega
variable{C c k:Nat}{h:Nat->Nat}{o:bh}{e:bP}{j u:a_}{b m:aX}
def qJ:∀(g:bh) (c d v:Int),bO (.i .i64) (dW (.i .i64) g c v) d=if c=d then some v else bO (.i .i64) g d
 |[],c,d,v=>by
  by_cases h:c=d
  ·subst h;simp[dW,bO,iP]
  ·have b:iP (.i .i64) c d=false:=by simp[iP,h]
   simp[dW,bO,b,h]
 |(x,y)::g,c,d,v=>by
  rw[dW];by_cases h:x=c
  ·subst h
   by_cases a:x=d
   ·subst a;simp[iP,bO]
   ·have b:iP (.i .i64) x d=false:=by simp[iP,a]
    have f:iP (.i .i64) x x=true:=by simp[iP]
    simp[bO,b,f,a]
  ·have b:iP (.i .i64) x c=false:=by simp[iP,h]
   simp only[b,auv,bO];by_cases a:x=d
   ·subst a
    have f:iP (.i .i64) x x=true:=by simp[iP]
    rw[f,aun (λe=>h e.symm)];rfl
   ·have f:iP (.i .i64) x d=false:=by simp[iP,a]
    rw[f];simp only[auv];exact qJ g c d v
def zD:∀(a:bh) (c v:Int),(dW (.i .i64) a c v).length=a.length+if(bO (.i .i64) a c).isSome then 0 else 1
 |[],c,v=>by simp[dW,bO]
 |(x,y)::a,c,v=>by
  rw[dW,bO];by_cases h:x=c
  ·subst h
   have d:iP (.i .i64) x x=true:=by simp[iP]
   simp[d]
  ·have b:iP (.i .i64) x c=false:=by simp[iP,h]
   simp only[b,auv,auP,zD a c v];omega
def Jm(N:Nat)(a b:aX)(g:a.length=b.length)(j:a.length<=9223372036854775807):∀(k i m:Nat),i+k=a.length->k<m->
 zy N m (a,b,(i:Int))=some (if a.drop i=b.drop i then .inl ()else .inr false)
 |k,i,0,c,d=>by omega
 |0,i,m+1,c,d=>by
  rw[Ge,dT bv,avj bv,avj bv,auo rfl]
 |k+1,i,m+1,c,d=>by
  obtain⟨x,e⟩:=get_at (xs:=a) (i:=i) bv;obtain⟨y,f⟩:=get_at (xs:=b) (i:=i) bv;rw[Ge,eC bv,bd e,ob,bd f,ob,Hq,cG bv,Jm N a b g j k (i+1) m bv bv,dh e,dh f];by_cases h:x=y
  ·simp[h]
  ·simp[h]
def ajb(N:Nat)(f:Fu+1<=N)(a b:aX)(d:a.length<=9223372036854775807):Lf N (a,b)=some (decide (a=b)):=by
 obtain⟨N,rfl⟩:∃n,N=n+1:=⟨N - 1,bv⟩;rw[aav,Hq];by_cases c:a.length=b.length
 ·rw[auo bv,show((0:Int)=((0:Nat):Int))from rfl,Jm N a b c d a.length 0 N bv (by have:=bR;omega),ob,ave,ave]
  by_cases h:a=b<;>simp[h]
 ·rw[aun bv]
  have:¬a=b:=λe=>c (by rw[e]);simp[this]
def CZ(l:aX):Prop:=∀t∈l,0<=t/\t<=10000
def fe(l:aX):Prop:=l.length<=1000/\CZ l/\l.Nodup
instance(l:aX):Decidable (CZ l):=by unfold CZ;exact inferInstance
instance(l:aX):Decidable (fe l):=by unfold fe;exact inferInstance
def ajc(N:Nat)(a:Fu<=N)(t:Int):U0 N t=some (decide (¬(0<=t/\t<=10000))):=by
 obtain⟨N,rfl⟩:∃n,N=n+1:=⟨N - 1,by have:=bR;omega⟩;rw[ac2,cd];by_cases h:t<0
 ·rw[auo h]
  have:¬(0<=t/\t<=10000):=bv
  simp[this]
 ·rw[aun h]
  congr 1;simp only[av1];omega
def Jn(N:Nat)(f:Fu<=N)(l:aX)(n:l.length<=9223372036854775807):∀(k i m:Nat),i+k=l.length->k<m->
 ∃j:Nat,Dl N m (l,((l.length:Nat):Int),(i:Int))=some (if CZ (l.drop i)then .inl ()else .inr (j:Int))
 |k,i,0,c,d=>by omega
 |0,i,m+1,c,d=>by
  refine⟨0,?_⟩;rw[Ip,dT bv,avj bv,auo (by intro t h;cases h)]
 |k+1,i,m+1,c,d=>by
  obtain⟨x,g⟩:=get_at (xs:=l) (i:=i) bv;obtain⟨j,o⟩:=Jn N f l n k (i+1) m bv bv;rw[Ip,eC bv,bd g,ob,ajc N f x,ob,cd,cG bv,o,dh g];by_cases h:0<=x/\x<=10000
  ·refine⟨j,?_⟩
   rw[aun (λe=>e h)];have:CZ (x::l.drop (i+1))↔CZ (l.drop (i+1)):=⟨λe t a=>e t (by simp[a]),λe t a=>by
    rcases auT.1 a with rfl|a
    ·exact h
    ·exact e t a⟩
   by_cases b:CZ (l.drop (i+1))
   ·rw[auo b,auo (this.2 b)]
   ·rw[aun b,aun (λe=>b (this.1 e))]
  ·refine⟨i,?_⟩
   rw[auo h,aun (λe=>h (e x d5))]
def ajd(N:Nat)(c:Fu+2<=N)(l:aX)(b:l.length<=9223372036854775807):U4 N l=some (!decide (CZ l)):=by
 obtain⟨N,rfl⟩:∃n,N=n+2:=⟨N - 2,bv⟩;rw[ac5,ac4];obtain⟨j,h⟩:=Jn N bv l b l.length 0 N bv (by have:=bR;omega);rw[show((0:Int)=((0:Nat):Int))from rfl,h,ave];by_cases a:CZ l<;>simp[ob,a]
structure Met(l:aX)(met:bh):Prop where
 mem:∀c,(bO (.i .i64) met c).isSome=decide (c∈l)
 le:met.length<=l.length
 eq:met.length=l.length↔l.Nodup
def aje:Met [] []:=⟨λc=>rfl,d5,d5⟩
def ajf(h:Met b o)(x v:Int):Met (b++[x]) (dW (.i .i64) o x v):=by
 refine⟨λc=>?_,?_,?_⟩
 ·rw[qJ]
  by_cases g:x=c
  ·subst g;simp
  ·rw[aun g,h.mem c]
   have l:¬c=x:=λe=>g e.symm;simp[l]
 ·rw[zD]
  have:=h.le;simp only[auE,avp];split<;>omega
 ·rw[zD,h.mem x]
  have m:=h.le;have i:=h.eq;simp only[auE,avp];by_cases f:x∈b
  ·simp only[f,avF,au2]
   constructor
   ·intro e;omega
   ·intro e
    rw[avk]at e;exact absurd rfl (e.2.2 x f x d5)
  ·simp only[f,decide_false,av4,avf]
   constructor
   ·intro e
    rw[avk];refine⟨i.1 bv,d5,λa k d j=>?_⟩;simp at j;subst j;rintro rfl;exact f k
   ·intro e
    rw[avk]at e;have:=i.2 e.1;omega
def Jo(N:Nat)(l c:aX)(h:l.length<=9223372036854775807):∀(k i m:Nat) (a:bh),i+k=l.length->k<m->Met (l.take i) a->
 ∃g,Dm N m (c,l,((l.length:Nat):Int),(i:Int),a)=some (c,g)/\Met l g
 |k,i,0,a,d,e,b=>by omega
 |0,i,m+1,a,d,e,b=>by
  rw[Iq,dT bv];rw[au0 bv]at b;exact⟨a,rfl,b⟩
 |k+1,i,m+1,a,d,e,b=>by
  obtain⟨x,f⟩:=get_at (xs:=l) (i:=i) bv;rw[Iq,eC bv,bd f,ob,cG bv];refine Jo N l c h k (i+1) m _ bv bv ?_;rw[cR f];exact ajf b x _
def Lm(N:Nat)(d:Fu+1<=N)(l:aX)(c:l.length<=9223372036854775807):U8 N l=some (decide l.Nodup):=by
 obtain⟨N,rfl⟩:∃n,N=n+1:=⟨N - 1,bv⟩;obtain⟨f,a,b⟩:=Jo N l l c l.length 0 N [] bv (by have:=bR;omega) aje;rw[ac6,show((0:Int)=((0:Nat):Int))from rfl,a,ob];congr 1;rw[av1];have:=b.eq;constructor
 ·intro e;simp only at e;exact this.1 bv
 ·intro e;have:=this.2 e;simp only;omega
def Ln(N:Nat)(e:Fu+3<=N)(l:aX)(c:l.length<=9223372036854775807):AR N l=some (decide (fe l)):=by
 obtain⟨N,rfl⟩:∃n,N=n+1:=⟨N - 1,bv⟩;rw[Zu,cd];by_cases d:1000<l.length
 ·rw[auo bv]
  have:¬fe l:=λh=>by have:=h.1;omega
  simp[this]
 rw[aun bv,ajd N bv l c,ob,Lm N bv l c];by_cases a:CZ l
 ·by_cases b:l.Nodup
  ·have:fe l:=⟨bv,a,b⟩
   simp[a,b,this,ob]
  ·have:¬fe l:=λh=>b h.2.2
   simp[a,b,this,ob]
 ·have:¬fe l:=λh=>a h.2.1
  simp[a,this,ob]
def aqp(l:aX):Prop:=CZ l/\l.Nodup
instance(l:aX):Decidable (aqp l):=by unfold aqp;exact inferInstance
def ix:aX->Int->Nat
 |[],_=>0
 |x::l,v=>if x=v then 0 else ix l v+1
def C0(l:aX)(p:Nat):aX:=l.drop p++l.take p
def ej(l:aX)(v:Int):aX:=C0 l (ix l v)
def afH:∀{l:aX} {v:Int},v∈l->ix l v<l.length
 |x::l,v,h=>by
  rw[ix];by_cases c:x=v
  ·rw[auo c];simp
  ·rw[aun c]
   have:=afH (l:=l) (v:=v) ((auT.1 h).resolve_left λe=>c e.symm);simp;omega
def XS:∀{a:aX} (b:aX) {v:Int},v∉a->ix (a++b) v=a.length+ix b v
 |[],b,v,h=>by simp
 |x::a,b,v,h=>by
  rw[avH,ix,aun (λe=>h (by simp[e])),XS b (λe=>h (by simp[e]))];simp;omega
def anf{v:Int}(h:v∉b):ix (b++v::m) v=b.length:=by
 rw[XS _ h,ix,auo rfl,avO]
def zF:∀{l:aX} {v:Int},v∈l->∃u t,l=u++v::t/\v∉u/\ix l v=u.length
 |x::l,v,h=>by
  by_cases c:x=v
  ·exact⟨[],l,by rw[c];rfl,d5,by rw[ix,auo c];rfl⟩
  ·obtain⟨u,t,a,b,d⟩:=zF ((auT.1 h).resolve_left λe=>c e.symm)
   exact⟨x::u,t,by rw[a];rfl,by simp[b,show¬v=x fromλe=>c e.symm],by rw[ix,aun c,d];rfl⟩
def akZ:∀{l:aX},l.Nodup->∀{i:Nat} {v:Int},l[i]? =some v->ix l v=i
 |[],_,i,v,h=>by simp at h
 |x::l,a,0,v,h=>by
  simp at h;rw[ix,auo h]
 |x::l,a,i+1,v,h=>by
  have b:v∈l:=auI (by simpa using h);rw[ix,aun (λe:x=v=>(avD.1 a).1 (by rw[e];exact b)),akZ (avD.1 a).2 (by simpa using h)]
def Lo(l:aX)(p:Nat):(C0 l p).length=l.length:=by simp[C0];omega
def zG(l:aX)(p:Nat):(C0 l p).Perm l:=by
 unfold C0;have:= @axu Int (l.drop p) (l.take p);rwa[awf]at this
def XT:d∈C0 b a↔d∈b:=(zG b a).mem_iff
def aay:(C0 b a).Nodup↔b.Nodup:=(zG b a).nodup_iff
def P4:fe (C0 b a)↔fe b:=by
 unfold fe CZ;rw[Lo,aay];simp only[XT]
def ajg(A B:aX):C0 (A++B) A.length=B++A:=by simp[C0]
def pz{u t:aX}{v:Int}(h:v∉u):ej (u++v::t) v=v::t++u:=by
 rw[ej,anf h,ajg]
def S6{A B:aX}{v:Int}(e:(A++B).Nodup)(f:v∈A++B):ej (A++B) v=ej (B++A) v:=by
 have d:=avk.1 e;by_cases h:v∈A
 ·obtain⟨u,t,rfl,a,_⟩:=zF h
  have b:v∉B:=λc=>d.2.2 v h v c rfl;rw[show u++v::t++B=u++v::(t++B) by simp,pz a,show B++(u++v::t)=(B++u)++v::t by simp,pz (by simp[a,b])];simp
 ·have b:v∈B:=by simpa[h]using f
  obtain⟨u,t,rfl,a,_⟩:=zF b;rw[show A++(u++v::t)=(A++u)++v::t by simp,pz (by simp[a,h]),show u++v::t++A=u++v::(t++A) by simp,pz a];simp
def aaz{l:aX}(b:l.Nodup)(c:d∈l):ej (C0 l a) d=ej l d:=by
 have e:l=l.take a++l.drop a:=(awf a l).symm;unfold C0;rw[<-S6 (by rw[<-e];exact b) (by rw[<-e];exact c),<-e]
def S7:fe (ej b d)↔fe b:=P4
def Jp(l:aX)(v:Int):(ej l v).length=l.length:=Lo _ _
def Jq:y∈ej b d↔y∈b:=XT
def tB(h:d∈b):(ej b d)[0]? =some d:=by
 obtain⟨u,t,rfl,a,_⟩:=zF h;rw[pz a];rfl
def nu:aX->Int
 |[]=>0
 |[x]=>x
 |x::y::l=>if x<=nu (y::l)then x else nu (y::l)
def nR:∀{l:aX},l≠[]->nu l∈l/\∀y∈l,nu l<=y
 |[],h=>absurd rfl h
 |[x],_=>by simp[nu]
 |x::y::l,_=>by
  obtain⟨d,b⟩:=nR (l:=y::l) d5;rw[nu];by_cases c:x<=nu (y::l)
  ·rw[auo c]
   refine⟨d5,λz a=>?_⟩;rcases auT.1 a with rfl|a
   ·exact awU _
   ·exact Int.le_trans c (b z a)
  ·rw[aun c]
   refine⟨avt _ d,λz a=>?_⟩;rcases auT.1 a with rfl|a
   ·omega
   ·exact b z a
def Bd(a:d∈b)(c:∀y∈b,d<=y):nu b=d:=by
 obtain⟨e,f⟩:=nR (List.ne_nil_of_mem a);exact Int.le_antisymm (f d a) (c _ e)
def aaA(h:b.Perm m):nu b=nu m:=by
 by_cases c:m=[]
 ·subst c;rw[h.eq_nil]
 ·obtain⟨a,d⟩:=nR c
  exact Bd (h.mem_iff.2 a) λy e=>d y (h.mem_iff.1 e)
def di(l:aX):aX:=if fe l/\l≠[]then ej l (nu l)else []
def fS(h:fe b)(a:b≠[]):di b=ej b (nu b):=auo ⟨h,a⟩
def aaB(h:fe b):di (C0 b a)=di b:=by
 by_cases c:b=[]
 ·subst c;simp[C0]
 ·have d:C0 b a≠[]:=λe=>c (by have:=Lo b a;rw[e]at this;exact avq this.symm)
  rw[fS h c,fS (P4.2 h) d,aaA (zG b a),aaz h.2.2 (nR c).1]
def P5(h:fe b):di (di b)=di b:=by
 by_cases c:b=[]
 ·subst c;rfl
 ·rw[fS h c]
  exact(aaB h).trans (fS h c)
def S8(h:fe b):fe (di b):=by
 by_cases c:b=[]
 ·subst c;simpa[di]using h
 ·rw[fS h c];exact S7.2 h
def Lp(l:aX)(x:Int):In×aX:=if fe l/\x∈l then(true,ej l x)else(false,[])
def ixI(l:aX)(v:Int):Int:=if v∈l then(ix l v:Int)else -1
def DR(h:d∈b):ixI b d=(ix b d:Int):=auo h
def Lq(h:d∉b):ixI b d= -1:=aun h
def afI:(0<=ixI b d)↔d∈b:=by
 by_cases h:d∈b
 ·rw[DR h];simp[h]
 ·rw[Lq h];simp[h]
def Gh(N:Nat)(l:aX)(v:Int)(f:l.length<=9223372036854775807):∀(k i m:Nat),i+k=l.length->k<m->
 Dq N m (l,v,((l.length:Nat):Int),(i:Int))=some (if v∈l.drop i then .inr ((i+ix (l.drop i) v:Nat):Int)else .inl ())
 |k,i,0,b,a=>by omega
 |0,i,m+1,b,a=>by
  rw[Ix,dT bv,avj bv];simp
 |k+1,i,m+1,b,a=>by
  obtain⟨x,c⟩:=get_at (xs:=l) (i:=i) bv;rw[Ix,eC bv,bd c,ob,cd,cG bv,dh c];by_cases h:v=x
  ·subst h
   rw[auo rfl,auo d5,ix,auo rfl];rfl
  ·have d:ix (x::l.drop (i+1)) v=ix (l.drop (i+1)) v+1:=by rw[ix,aun (λe:x=v=>h e.symm)]
   rw[aun h,Gh N l v f k (i+1) m bv bv,d];by_cases a:v∈l.drop (i+1)
   ·rw[auo a,auo (by simp[a])];congr 3;omega
   ·rw[aun a,aun (by simp[h,a])]
def Gi(N:Nat)(b:Fu+1<=N)(l:aX)(v:Int)(a:l.length<=9223372036854775807):Iw N (l,v)=some (ixI l v):=by
 obtain⟨N,rfl⟩:∃n,N=n+1:=⟨N - 1,bv⟩;have h:=Gh N l v a l.length 0 N bv (by have:=bR;omega);rw[ave,auZ]at h;rw[adg,show((0:Int)=((0:Nat):Int))from rfl,h,ob,ixI];by_cases c:v∈l
 ·rw[auo c,auo c]
 ·rw[aun c,aun c]
def has_eq(N:Nat)(b:Fu+2<=N)(l:aX)(v:Int)(a:l.length<=9223372036854775807):Fh N (l,v)=some (decide (v∈l)):=by
 obtain⟨N,rfl⟩:∃n,N=n+1:=⟨N - 1,bv⟩;rw[adh,Gi N bv l v a,ob];congr 1;exact av1.2 afI
def P6(N:Nat)(l:aX)(o:l.length<=1000):∀(k i m:Nat) (a:Int),i+k=l.length->k<m->a∈l->(∀(j:Nat) y,j<i->l[j]? =some y->a<=y)->
 Dn N m (l,a,(i:Int))=some (nu l)
 |k,i,0,a,h,n,c,d=>by omega
 |0,i,m+1,a,h,n,c,d=>by
  rw[Ir,dT bv];congr 1;refine(Bd c λy b=>?_).symm;obtain⟨j,f⟩:=axY b;exact d j y (by have:=(aus.1 f).1;omega) f
 |k+1,i,m+1,a,h,n,c,d=>by
  obtain⟨x,g⟩:=get_at (xs:=l) (i:=i) bv;rw[Ir,eC bv,bd g,ob,cG bv];refine P6 N l o k (i+1) m _ bv bv ?_ λj y f b=>?_
  ·split
   ·exact auI g
   ·exact c
  ·by_cases e:j=i
   ·subst e
    rw[g]at b;cases b;split<;>omega
   ·have:=d j y bv b
    split<;>omega
def min_eq(N:Nat)(f:Fu+1<=N)(l:aX)(d:l.length<=1000)(c:l≠[]):NK N l=some (nu l):=by
 obtain⟨N,rfl⟩:∃n,N=n+1:=⟨N - 1,bv⟩;have e:=av8.2 c;obtain⟨x,a⟩:=get_at (xs:=l) (i:=0) e;rw[ac7,dT bv,show((0:Int)=((0:Nat):Int))from rfl,bd a,ob,show((1:Int)=((1:Nat):Int))from rfl,P6 N l d (l.length - 1) 1 N x bv (by have:=bR;omega) (auI a) (λj y g b=>by
  have:j=0:=bv
  subst this;rw[a]at b;cases b;exact awU _),ob]
structure Cl(n:Nat)(l:bI)(c:Nat->Nat):Prop where
 le:∀v,v<n->c v<=v
 fix:∀v,v<n->c (c v)=c v
 ed:∀e∈l,c e.1=c e.2
 uni:∀f:Nat->Nat,(∀e∈l,f e.1=f e.2)->∀v,v<n->f (c v)=f v
def jn(c:Nat->Nat)(u v:Nat):Nat->Nat:=λx=>if c x=max (c u) (c v)then min (c u) (c v)else c x
def aji(b:h a=h c):jn h a c=h:=by
 funext x;unfold jn;rw[b];split
 ·rename_i d;omega
 ·rfl
def Cl.jn{n:Nat}{l:bI}{c:Nat->Nat}(h:Cl n l c){u v:Nat}(i:u<n)(j:v<n):Cl n (l++[(u,v)]) (jn c u v):=by
 have p:=h.fix u i;have r:=h.fix v j;have o:c (min (c u) (c v))=min (c u) (c v):=by
  rcases axv (c u) (c v)with q|q
  ·rw[avJ q];exact p
  ·rw[axw q];exact r
 refine⟨λx d=>?_,λx d=>?_,λe a=>?_,λf k x d=>?_⟩
 ·have:=h.le x d
  unfold Proofs.YtglncfdpdaageaaGreatDoor.jn;split<;>omega
 ·have:=h.fix x d
  by_cases q:c x=max (c u) (c v)
  ·have g:Proofs.YtglncfdpdaageaaGreatDoor.jn c u v x=min (c u) (c v):=auo q
   rw[g];unfold Proofs.YtglncfdpdaageaaGreatDoor.jn;rw[o];split<;>rfl
  ·have g:Proofs.YtglncfdpdaageaaGreatDoor.jn c u v x=c x:=aun q
   rw[g];unfold Proofs.YtglncfdpdaageaaGreatDoor.jn;rw[this,aun q]
 ·rcases auC.1 a with a|a
  ·unfold Proofs.YtglncfdpdaageaaGreatDoor.jn;rw[h.ed e a]
  ·simp only[auN]at a
   subst a;have:∀y,(c y=c u\/c y=c v)->Proofs.YtglncfdpdaageaaGreatDoor.jn c u v y=min (c u) (c v):=λy t=>by
    unfold Proofs.YtglncfdpdaageaaGreatDoor.jn;split
    ·rfl
    ·omega
   rw[this u (.inl rfl),this v (.inr rfl)]
 ·have b:=h.uni f (λe a=>k e (by simp[a]))
  have m:f u=f v:=k (u,v) d5;have s:f (min (c u) (c v))=f (max (c u) (c v)):=by
   rcases axv (c u) (c v)with q|q
   ·rw[avJ q,ayL q,b u i,b v j,m]
   ·rw[axw q,ayM q,b u i,b v j,m]
  unfold Proofs.YtglncfdpdaageaaGreatDoor.jn;split
  ·rename_i q;rw[s,<-q,b x d]
  ·exact b x d
def cnt(n:Nat)(c:Nat->Nat):Nat:=((List.range n).filter λv=>c v==v).length
def Hr(l:bI):Nat->Nat:=l.foldl (λc e=>jn c e.1 e.2) id
def P7(l:bI)(e:Nat×Nat):Hr (l++[e])=jn (Hr l) e.1 e.2:=by simp[Hr]
def Lr(n:Nat)(l:bI):Prop:=∀e∈l,e.1<n/\e.2<n
def afJ(l:bI)(e:Nat×Nat):In:=Hr l e.1 !=Hr l e.2
def jB(p:bI):bI->br
 |[]=>[]
 |e::l=>afJ p e::jB (p++[e]) l
def rtf(p:Nat->Nat):Nat->Nat->Nat
 |0,v=>v
 |k+1,v=>if p v=v then v else rtf p k (p v)
def root(p:Nat->Nat)(v:Nat):Nat:=rtf p v v
def qK{p:Nat->Nat}(a:∀v,p v<=v):∀(k v:Nat),v<=k->rtf p k v=root p v
 |0,v,h=>by
  have:v=0:=bv
  subst this;rfl
 |k+1,v,h=>by
  unfold root;cases v with
  |zero=>
   have:p 0=0:=by have:=a 0;omega
   simp only[rtf,auo this]
  |succ v=>
   rw[rtf,rtf];by_cases c:p (v+1)=v+1
   ·rw[auo c,auo c]
   ·have b:=a (v+1)
    rw[aun c,aun c,qK a k _ bv,qK a v _ bv]
def g_(a:∀v,h v<=v)(v:Nat):root h v=if h v=v then v else root h (h v):=by
 rw[<-qK a (v+1) v bv,rtf];split
 ·rfl
 ·rename_i c
  have b:=a v;exact qK a v _ bv
def tD(a:∀v,h v<=v)(v:Nat):root h (h v)=root h v:=by
 rw[g_ a v];split
 ·rename_i c;rw[c,g_ a v,auo c]
 ·rfl
def zH(a:∀v,h v<=v):∀v,h (root h v)=root h v:=λv=>by
 induction v using Nat.strongRecOn with
 |_ v b=>
  rw[g_ a v];split
  ·assumption
  ·rename_i c
   have d:=a v;exact b _ bv
def zI(a:∀v,h v<=v):∀v,root h v<=v:=λv=>by
 induction v using Nat.strongRecOn with
 |_ v b=>
  rw[g_ a v];have d:=a v;split
  ·exact auq _
  ·rename_i c
   have:=b (h v) bv;omega
def kO(c:∀a,h a<=a)(b:h a=a):root h a=a:=by rw[g_ c,auo b]
def cO(p:Nat->Nat)(a b:Nat):Nat->Nat:=λx=>if x=a then b else p x
def aaC(a:∀v,h v<=v)(v x:Nat):root (cO h v (h (h v))) x=root h x:=by
 have g:∀y,cO h v (h (h v)) y<=y:=λy=>by
  unfold cO;split
  ·rename_i c;subst c;exact avl (a _) (a _)
  ·exact a y
 induction x using Nat.strongRecOn with
 |_ x d=>
  rw[g_ g x];by_cases c:x=v
  ·subst c
   have e:cO h x (h (h x)) x=h (h x):=auo rfl;rw[e];split
   ·rename_i c
    have b:=a x;have f:=a (h x);exact(kO a bv).symm
   ·rename_i c
    have b:=a x;have f:=a (h x);rw[d _ bv,tD a,tD a]
  ·have e:cO h v (h (h v)) x=h x:=aun c
   rw[e,g_ a x];split
   ·rfl
   ·have b:=a x
    exact d _ bv
def aaD(d:∀v,h v<=v)(k:h a=a)(i:h c=c)(j:a<=c)(x:Nat):root (cO h c a) x=if root h x=c then a else root h x:=by
 have f:∀y,cO h c a y<=y:=λy=>by
  unfold cO;split
  ·rename_i b;subst b;exact j
  ·exact d y
 induction x using Nat.strongRecOn with
 |_ x l=>
  rw[g_ f x];by_cases b:x=c
  ·subst b
   have e:cO h x a x=a:=auo rfl;rw[e,kO d i,auo rfl];split
   ·rename_i b;exact b.symm
   ·rename_i b
    refine kO f ?_;unfold cO;rw[aun b,k]
  ·have e:cO h c a x=h x:=aun b
   rw[e];split
   ·rename_i g
    rw[kO d g,aun b]
   ·have m:=d x
    rw[l _ bv,tD d]
def par(s:aX)(v:Nat):Nat:=(s.getD v 0).toNat
structure Jr(n:Nat)(s:aX)(c:Nat->Nat):Prop where
 len:s.length=n
 at_:∀i,i<n->∃w:Nat,s[i]? =some (w:Int)/\w<=i
 cls:∀x,x<n->root (par s) x=c x
def Jr.S9(c:Jr a b h)(v:Nat):par b v<=v:=by
 unfold par;by_cases e:v<a
 ·obtain⟨w,d,f⟩:=c.at_ v e
  simp only[avQ,d,Option.getD_some];omega
 ·rw[avQ,au5 (by have:=c.len;omega)];simp
def Jr.nth(d:Jr a b h)(f:c<a):ba b (c:Int)=some ((par b c:Nat):Int):=by
 obtain⟨w,e,g⟩:=d.at_ c f;rw[bd e];unfold par;simp[avQ,e]
def Ls(f:a<b.length):par (b.set a (c:Int))=cO (par b) a c:=by
 funext x;unfold par cO;simp only[avQ,avs];by_cases d:a=x
 ·subst d;simp[f]
 ·rw[aun d,aun (λe=>d e.symm)]
def Jr.set{c c':Nat->Nat}(h:Jr a b c){v w:Nat}(d:v<a)(g:w<=v)(e:∀x,x<a->root (cO (par b) v w) x=c' x):Jr a (b.set v (w:Int)) c':=by
 refine⟨by rw[avM];exact h.len,λi f=>?_,λx j=>by rw[Ls (by rw[h.len];exact d)];exact e x j⟩;rw[avs];by_cases q:v=i
 ·subst q
  rw[auo rfl,auo (by rw[h.len];exact d)];exact⟨w,rfl,g⟩
 ·rw[aun q]
  exact h.at_ i f
def Gj(N:Nat){n:Nat}:∀(m v:Nat) (s:aX) {c:Nat->Nat},v<m->v<n->Jr n s c->
 ∃f,DJ N m ((v:Int),s)=some (((c v:Nat):Int),f)/\Jr n f c/\∀j,j<n->par s j=c j->par f j=c j
 |0,v,s,c,h,_,_=>absurd h bv
 |m+1,v,s,c,w,d,a=>by
  rw[aai];simp only[a.nth d,ob,Hq];have b:=a.S9;have z:=b v;by_cases q:((par s v:Nat):Int)=(v:Int)
  ·rw[auo q]
   have l:par s v=v:=bv
   refine⟨s,?_,a,λj _ h=>h⟩;rw[<-a.cls v d,kO b l]
  ·rw[aun q]
   have l:¬par s v=v:=λe=>q (by rw[e]);have y:=b (par s v);simp only[a.nth (show par s v<n by omega),ob,auB];have k:Jr n (s.set v ((par s (par s v):Nat):Int)) c:=a.set d bv λx u=>by rw[aaC b,a.cls x u]
   have g:par (s.set v ((par s (par s v):Nat):Int))=cO (par s) v (par s (par s v)):=Ls (by rw[a.len];exact d);have o:par (s.set v ((par s (par s v):Nat):Int)) v=par s (par s v):=by rw[g];exact auo rfl
   simp only[k.nth d,ob,o];obtain⟨f,p,r,t⟩:=Gj N m (par s (par s v)) _ bv bv k;refine⟨f,?_,r,λj i h=>t j i ?_⟩
   ·rw[p]
    have:c (par s (par s v))=c v:=by rw[<-a.cls _ bv,tD b,tD b,a.cls _ d]
    rw[this]
   ·rw[g]
    unfold cO;split
    ·rename_i e
     subst e;rw[h,<-a.cls j i,zH b]
    ·exact h
def Gk{N:Nat}(i:Fu+1<=N)(m:a<=1000)(l:c<a)(k:Jr a b h):∃d,I7 N ((c:Int),b)=some (((h c:Nat):Int),d)/\Jr a d h/\∀j,j<a->par b j=h j->par d j=h j:=by
 obtain⟨M,rfl⟩:∃M,N=M+1:=⟨N - 1,bv⟩;obtain⟨d,e,f,g⟩:=Gj M M c b (by rw[bR]at i;omega) l k;exact⟨d,by rw[aeC,e];rfl,f,g⟩
def join_eq(E:Fu+2<=a){n u v:Nat}(m:n<=1000)(f:u<n)(g:v<n)(z:Jr n b h):
 ∃o,W6 a ((u:Int),(v:Int),b)=some (h u !=h v,o)/\Jr n o (jn h u v):=by
 obtain⟨M,rfl⟩:∃M,a=M+1:=⟨a - 1,bv⟩;obtain⟨F,r,B,_⟩:=Gk (N:=M) bv m f z;obtain⟨e,s,c,_⟩:=Gk (N:=M) bv m g B;have d:=c.S9;have C:h u<=u:=by rw[<-c.cls u f];exact zI d u
 have D:h v<=v:=by rw[<-c.cls v g];exact zI d v
 have i:par e (h u)=h u:=by rw[<-c.cls u f];exact zH d u
 have j:par e (h v)=h v:=by rw[<-c.cls v g];exact zH d v
 have p:(if((h v:Nat):Int)>((h u:Nat):Int)then((h v:Nat):Int)else((h u:Nat):Int))=((max (h u) (h v):Nat):Int):=by
  split<;>omega
 have em:(if((h v:Nat):Int)<((h u:Nat):Int)then((h v:Nat):Int)else((h u:Nat):Int))=((min (h u) (h v):Nat):Int):=by
  split<;>omega
 have l:max (h u) (h v)<n:=bv
 rw[aeD];simp only[r,s,ob,p,em,c.nth l,auB];refine⟨_,?_,c.set (w:=min (h u) (h v)) l bv (c':=jn h u v) λx A=>?_⟩
 ·congr 2
  by_cases q:h u=h v
  ·simp[q]
  ·have:¬((h u:Nat):Int)=((h v:Nat):Int):=bv
   simp[q,this]
 ·have t:par e (max (h u) (h v))=max (h u) (h v):=by
   rcases axv (h u) (h v)with k|k
   ·rw[ayL k];exact j
   ·rw[ayM k];exact i
  have y:par e (min (h u) (h v))=min (h u) (h v):=by
   rcases axv (h u) (h v)with k|k
   ·rw[avJ k];exact i
   ·rw[axw k];exact j
  rw[aaD d y t bv,c.cls x A];rfl
def Gl(N:Nat){n:Nat}(e:n<=1000):∀(m i:Nat) (s:aX),n - i<m->i<=n->s.length=n->(∀j,j<i->s[j]? =some (j:Int))->
 ∃a,zg N m ((n:Int),(i:Int),s)=some a/\a.length=n/\∀j,j<n->a[j]? =some (j:Int)
 |0,i,s,h,_,_,_=>absurd h bv
 |m+1,i,s,l,g,b,c=>by
  rw[SK,cd];by_cases q:i<n
  ·rw[auo bv]
   obtain⟨x,f⟩:=get_at (xs:=s) (i:=i) bv;simp only[bd f,ob,cG (show i<9223372036854775807 by omega),auB];refine Gl N e m (i+1) _ bv bv (by rw[avM];exact b) λj d=>?_;rw[avs];by_cases k:i=j
   ·subst k;rw[auo rfl,auo bv]
   ·rw[aun k];exact c j bv
  ·rw[aun bv]
   exact⟨s,rfl,b,λj d=>c j bv⟩
def P8{N:Nat}(d:Fu+1<=N){n:Nat}(f:n<=1000):∃s,FY N (n:Int)=some s/\Jr n s id:=by
 obtain⟨N,rfl⟩:∃M,N=M+1:=⟨N - 1,bv⟩;rw[aah,mT bv bv bv,ob];simp only[auB,axn];obtain⟨s,b,c,a⟩:=Gl N f N 0 (List.replicate n 0) (by rw[bR]at d;omega) bv d5 (λj l=>by omega);refine⟨s,?_,c,λi e=>⟨i,a i e,auq _⟩,λx k=>?_⟩
 ·rw[show((0:Nat):Int)=0 from rfl]at b
  rw[b];rfl
 ·have g:∀v,par s v<=v:=λv=>by
   unfold par;by_cases h:v<n
   ·simp[avQ,a v h]
   ·rw[avQ,au5 bv];simp
  refine kO g ?_;unfold par;simp[avQ,a x k]
def XU(e:Nat×Nat):Int×Int:=((e.1:Int),(e.2:Int))
def tF(e:Int×Int):Nat×Nat:=(e.1.toNat,e.2.toNat)
def mU(n:Int)(e:Int×Int):Prop:=(0<=e.1/\e.1<n)/\0<=e.2/\e.2<n
instance(n:Int)(e:Int×Int):Decidable (mU n e):=inferInstanceAs (Decidable (_/\_))
def ak0{e:Int×Int}(h:mU d e):XU (tF e)=e:=by
 obtain⟨a,b⟩:=e;have c:=h.1.1;have f:=h.2.1;simp only at c f;exact axk (axJ c) (axJ f)
def mU.nat{e:Int×Int}(h:mU (a:Int) e):(tF e).1<a/\(tF e).2<a:=by
 have b:=h.1;have c:=h.2;exact⟨by unfold tF;omega,by unfold tF;omega⟩
def Gm(N:Nat)(d:Fu+2<=N){n:Nat}(e:n<=1000){l:bI}(t:l.length<=100000)(c:Lr n l):∀(m i:Nat) (s:aX) (a:br),l.length - i<m->i<=l.length->a.length=i->Jr n s (Hr (l.take i))->
 ∃k,DK N m (l.map XU,(l.length:Int),(i:Int),s,a)=some (a++jB (l.take i) (l.drop i),k)/\Jr n k (Hr l)
 |0,i,s,a,h,_,_,_=>absurd h bv
 |m+1,i,s,a,B,A,u,f=>by
  rw[aaj,cd];by_cases q:i<l.length
  ·rw[auo bv]
   obtain⟨x,b⟩:=get_at (xs:=l) (i:=i) q;have g:=c x (auI b);have v:(l.map XU)[i]? =some (XU x):=by rw[auM,b];rfl
   obtain⟨y,p,j⟩:=join_eq d e g.1 g.2 f;have o:jn (Hr (l.take i)) x.1 x.2=Hr (l.take (i+1)):=by rw[cR b,P7]
   rw[o]at j;rw[bd v,ob];simp only[XU,p,ob];rw[cw bv d7,ob,cG bv];obtain⟨z,r,w⟩:=Gm N d e t c m (i+1) y (a++[Hr (l.take i) x.1 !=Hr (l.take i) x.2]) bv bv (by simp[u]) j;refine⟨z,?_,w⟩;rw[r,dh b,jB,cR b];simp[afJ]
  ·rw[aun bv]
   refine⟨s,?_,?_⟩
   ·rw[avj bv];simp[jB]
   ·rwa[au0 bv]at f
def P9{N:Nat}(f:Fu+4<=N){n:Nat}(h:n<=1000){l:bI}(g:l.length<=100000)(e:Lr n l)(i:Jr n b id):
 ∃a,Pr N (l.map XU,b)=some (jB [] l,a)/\Jr n a (Hr l):=by
 obtain⟨M,rfl⟩:∃M,N=M+2:=⟨N - 2,bv⟩;obtain⟨a,c,d⟩:=Gm M bv h g e M 0 b [] (by rw[bR]at f;omega) bv rfl i;refine⟨a,?_,d⟩;rw[aeG,aeF,auz,show(0:Int)=((0:Nat):Int)from rfl,c];rfl
def Gn(N:Nat)(n:Int)(l:bh)(p:l.length<=9223372036854775807):∀(m i:Nat),l.length - i<m->i<=l.length->
 zd N m (n,l,(l.length:Int),(i:Int))=some (if∀e∈l.drop i,mU n e then .inl ()else .inr 10)
 |0,i,h,_=>absurd h bv
 |m+1,i,s,r=>by
  rw[SJ,cd];by_cases q:i<l.length
  ·rw[auo bv]
   obtain⟨x,g⟩:=get_at (xs:=l) (i:=i) q;obtain⟨a,b⟩:=x;rw[bd g,ob,dh g,cd,cd,cG bv,Gn N n l p m (i+1) bv bv];simp only;by_cases c:mU n (a,b)
   ·have k:=c.1
    have o:=c.2;simp only at k o;rw[aun (by split<;>omega),aun (by split<;>omega)];by_cases d:∀e∈l.drop (i+1),mU n e
    ·rw[auo d,auo (axx.2 ⟨c,d⟩)]
    ·rw[aun d,aun (λh=>d (axx.1 h).2)]
   ·have:¬((0<=a/\a<n)/\0<=b/\b<n):=c
    rw[aun (λh=>c (axx.1 h).1)];by_cases f:(if b<a then b else a)<0
    ·rw[auo f]
    ·rw[aun f]
     by_cases j:n<=(if b>a then b else a)
     ·rw[auo j]
     ·exfalso
      refine this ?_;split at f<;>split at j<;>omega
  ·rw[aun bv,avj bv,auo d5]
def uZ(n:Int)(l:bh):Int:=if n<1\/64<n then 1 else if∀e∈l,mU n e then 0 else 10
def P_(g:Fu+1<=a)(n:Int)(l:bh)(h:l.length<=9223372036854775807):FW a (n,l)=some (uZ n l):=by
 obtain⟨M,rfl⟩:∃M,a=M+1:=⟨a - 1,bv⟩;have f:=Gn M n l h M 0 (by rw[bR]at g;omega) bv;rw[aae,cd,cd,show(0:Int)=((0:Nat):Int)from rfl,f,ob,ave];unfold uZ;by_cases c:n<1
 ·rw[auo c,auo (.inl c)]
 ·rw[aun c]
  by_cases d:64<n
  ·rw[auo d,auo (.inr d)]
  ·rw[aun d,aun (show¬(n<1\/64<n) by omega)]
   by_cases b:∀e∈l,mU n e
   ·rw[auo b,auo b];rfl
   ·rw[aun b,aun b]
def aaE(a:∀v,h v<=v)(v x:Nat):root (cO h v (root h v)) x=root h x:=by
 have f:∀y,cO h v (root h v) y<=y:=λy=>by
  unfold cO;split
  ·rename_i c;subst c;exact zI a _
  ·exact a y
 induction x using Nat.strongRecOn with
 |_ x b=>
  rw[g_ f x];by_cases c:x=v
  ·subst c
   have e:cO h x (root h x) x=root h x:=auo rfl;rw[e];split
   ·rename_i c;exact c.symm
   ·rename_i c
    have d:=zI a x;rw[b _ bv,kO a (zH a x)]
  ·have e:cO h v (root h v) x=h x:=aun c
   rw[e,g_ a x];split
   ·rfl
   ·have d:=a x
    exact b _ bv
def zJ(N:Nat)(f:Fu+1<=N){n:Nat}(l:n<=1000){c:Nat->Nat}:∀(m i:Nat) (s:aX),n - i<m->i<=n->Jr n s c->(∀j,j<i->par s j=c j)->
 DP N m ((n:Int),(i:Int),s)=some ((List.range n).map λv=>((c v:Nat):Int))
 |0,i,s,h,_,_,_=>absurd h bv
 |m+1,i,s,B,z,d,g=>by
  rw[aap,cd];by_cases q:i<n
  ·rw[auo bv]
   obtain⟨p,b,a,t⟩:=Gk f l q d;rw[b,ob];simp only[a.nth q,ob,auB];rw[cG bv];have o:=a.S9;have u:c i<=i:=by rw[<-a.cls i q];exact zI o i
   have r:par (p.set i ((c i:Nat):Int))=cO (par p) i (c i):=Ls (by rw[a.len];exact q);refine zJ N f l m (i+1) _ bv bv (a.set q u λx y=>?_) λj A=>?_
   ·rw[<-a.cls i q,aaE o,a.cls x y]
   ·rw[r]
    unfold cO;split
    ·rename_i e;rw[e]
    ·exact t j bv (g j bv)
  ·rw[aun bv]
   congr 1;refine avX λj=>?_;rw[auM];by_cases k:j<n
   ·obtain⟨w,b,_⟩:=d.at_ j k
    have:=g j bv;unfold par at this;rw[avQ,b]at this;simp at this;rw[b,axp k,this];rfl
   ·rw[au5 (by have:=d.len;omega),au5 d7]
    rfl
def ajj(n:Int)(l:bh):aX:=(List.range n.toNat).map λv=>((Hr (l.map tF) v:Nat):Int)
def XW(h:∀e∈o,mU d e):o=(o.map tF).map XU:=by
 rw[avE];exact(awe o).symm.trans (avi λe a=>(ak0 (h e a)).symm)
def zK{n:Int}(a:0<=n)(h:∀e∈o,mU n e):Lr n.toNat (o.map tF):=λe b=>by
 obtain⟨x,c,rfl⟩:=auD.1 b;have:=h x c;have e0:((n.toNat:Nat):Int)=n:=axJ a;exact mU.nat (by rw[e0];exact this)
def wX(n:Int)(l:bh):(uZ n l=1/\(n<1\/64<n))\/(uZ n l=10/\(1<=n/\n<=64)/\¬∀e∈l,mU n e)\/(uZ n l=0/\(1<=n/\n<=64)/\∀e∈l,mU n e):=by
 unfold uZ;by_cases b:n<1\/64<n
 ·exact .inl ⟨auo b,b⟩
 ·rw[aun b]
  by_cases a:∀e∈l,mU n e
  ·exact .inr (.inr ⟨auo a,bv,a⟩)
  ·exact .inr (.inl ⟨aun a,bv,a⟩)
def S_(g:Fu+5<=a)(n:Int)(l:bh)(i:l.length<=100000):Xz a (n,l)=some (uZ n l,if uZ n l=0 then ajj n l else []):=by
 obtain⟨M,rfl⟩:∃M,a=M+1:=⟨a - 1,bv⟩;rw[aeZ,P_ bv n l bv,ob,Hq];rcases wX n l with⟨h,_⟩|⟨h,_⟩|⟨h,o,d⟩
 ·rw[h];rfl
 ·rw[h];rfl
 ·rw[h,auo rfl,auo rfl]
  obtain⟨k,rfl⟩:∃k:Nat,n=k:=⟨n.toNat,bv⟩;obtain⟨q,e,f⟩:=P8 (N:=M) bv (n:=k) bv;obtain⟨m,b,c⟩:=P9 (N:=M) bv (n:=k) bv (l:=l.map tF) (by simpa using i) (zK bv d) f;rw[<-XW d]at b;rw[e,ob,b,ob];simp only[c.len];rw[show(0:Int)=((0:Nat):Int)from rfl,zJ M bv bv M 0 m (by rw[bR]at g;omega) bv c (λj p=>by omega)];rfl
abbrev Tk:=Nat×Nat
def ky:a_->Tk->At a_
 |[],_=>none
 |[u],t=>if t.1=u then(if t.2=u then some [u]else some [t.2,u])else none
 |u::w::r,t=>if t.1=u then(if t.2=u then some (u::w::r)else if t.2=w then some (w::r)else some (t.2::u::w::r))else none
def run:a_->Do Tk->At a_
 |s,[]=>some s
 |s,t::l=>match ky s t with
  |some z=>run z l
  |none=>none
def eM{t:Tk}{l:Do Tk}:run i (t::l)=some j↔∃y,ky i t=some y/\run y l=some j:=by
 rw[run];cases h:ky i t with
 |_=>simp
def kP:∀{l m:Do Tk} {s z:a_},run s (l++m)=some z↔∃y,run s l=some y/\run y m=some z
 |[],m,s,z=>by simp[run]
 |t::l,m,s,z=>by
  rw[avH,eM];constructor
  ·rintro⟨y,a,b⟩
   obtain⟨x,c,d⟩:=kP.1 b;exact⟨x,eM.2 ⟨y,a,c⟩,d⟩
  ·rintro⟨x,c,d⟩
   obtain⟨y,a,b⟩:=eM.1 c;exact⟨y,a,kP.2 ⟨x,b,d⟩⟩
def iw{t:Tk}(h:ky i t=some j):∃r,i=t.1::r/\((t.2=t.1/\j=i)\/(t.2≠t.1/\∃d,r=t.2::d/\j=r)\/(t.2≠t.1/\r.head?≠some t.2/\j=t.2::i)):=by
 match i with
 |[]=>simp[ky]at h
 |[u]=>
  simp only[ky]at h;split at h
  ·rename_i b
   subst b;refine⟨[],rfl,?_⟩;split at h
   ·rename_i a;cases h;exact .inl ⟨a,rfl⟩
   ·rename_i a;cases h;exact .inr (.inr ⟨a,d5,rfl⟩)
  ·cases h
 |u::w::r=>
  simp only[ky]at h;split at h
  ·rename_i b
   subst b;refine⟨w::r,rfl,?_⟩;split at h
   ·rename_i a;cases h;exact .inl ⟨a,rfl⟩
   ·rename_i a
    split at h
    ·rename_i c;cases h;exact .inr (.inl ⟨a,r,by rw[c],rfl⟩)
    ·rename_i c;cases h;exact .inr (.inr ⟨a,by simpa usingλe=>c e.symm,rfl⟩)
  ·cases h
def lx(u:Nat)(r:a_):ky (u::r) (u,u)=some (u::r):=by
 cases r<;>simp[ky]
def qL(h:c≠a)(r:a_):ky (a::c::r) (a,c)=some (c::r):=by
 simp[ky,h]
def ly(h:c≠a)(b:i.head?≠some c):ky (a::i) (a,c)=some (c::a::i):=by
 cases i with
 |nil=>simp[ky,h]
 |cons w i=>simp[ky,h,show¬c=w fromλe=>b (by rw[e];rfl)]
def XX:∀{l:Do Tk} {s z:a_} {t:Tk},run s (l++[t])=some z->∃r,z=t.2::r:=by
 intro l s z t h;obtain⟨y,j,c⟩:=kP.1 h;obtain⟨x,d,a⟩:=eM.1 c;obtain⟨r,f,g⟩:=iw d;have a:x=z:=by simpa[run]using a
 subst a;rcases g with⟨e,rfl⟩|⟨e,i,b,rfl⟩|⟨e,b,rfl⟩
 ·exact⟨r,by rw[e,f]⟩
 ·exact⟨i,b⟩
 ·exact⟨_,rfl⟩
def mV{t:Tk}{l:Do Tk}(h:run i (t::l)=some j):i.head?=some t.1:=by
 obtain⟨y,a,c⟩:=eM.1 h;obtain⟨r,b,_⟩:=iw a;rw[b];rfl
def Rb(u v:Nat)(s b:a_):Prop:=(∃a,s=a++[v,u]/\b=a++[v])\/∃a,s=a++[u]/\b=a++[u,v]/\a.getLast?≠some v
def anh{t:Tk}(h:Rb a c i j)(D:ky i t=some u):∃C,ky j t=some C/\Rb a c u C:=by
 obtain⟨E,f⟩:=t;obtain⟨r,k,p⟩:=iw D;simp only at k p;rcases h with⟨d,m,n⟩|⟨d,m,n,B⟩
 ·cases d with
  |nil=>
   simp only[avd]at m n;subst m;subst n;simp only[avw]at k;obtain⟨rfl,rfl⟩:=k;rcases p with⟨rfl,rfl⟩|⟨g,A,l,rfl⟩|⟨g,v,rfl⟩
   ·exact⟨[f],lx _ _,.inl ⟨[],rfl,rfl⟩⟩
   ·simp only[avw]at l
    obtain⟨rfl,rfl⟩:=l;exact⟨[a,c],ly g d5,.inr ⟨[],rfl,rfl,d5⟩⟩
   ·exact⟨[f,c],ly g d5,.inl ⟨[f],rfl,rfl⟩⟩
  |cons x b=>
   subst m;subst n;simp only[avH,avw]at k;obtain⟨rfl,rfl⟩:=k;have v:∀y,(b++[c,a]).head?=some y->(b++[c]).head?=some y:=λy h=>by cases b<;>simpa using h
   have w:∀y,(b++[c]).head?=some y->(b++[c,a]).head?=some y:=λy h=>by cases b<;>simpa using h
   rcases p with⟨rfl,rfl⟩|⟨g,A,l,rfl⟩|⟨g,o,rfl⟩
   ·exact⟨_,lx _ _,.inl ⟨f::b,rfl,rfl⟩⟩
   ·have:(b++[c]).head?=some f:=v _ (by rw[l];rfl)
    obtain⟨q,o⟩:∃q,b++[c]=f::q:=by
     cases s:b++[c]with
     |nil=>simp at s
     |cons y q=>rw[s]at this;simp at this;exact⟨q,by rw[this]⟩
    refine⟨b++[c],?_,.inl ⟨b,rfl,rfl⟩⟩;rw[avH,o];exact qL g _
   ·refine⟨f::x::b++[c],ly g λh=>o (w _ h),.inl ⟨f::x::b,rfl,rfl⟩⟩
 ·cases d with
  |nil=>
   simp only[avd]at m n;subst m;subst n;simp only[avw]at k;obtain⟨rfl,rfl⟩:=k;rcases p with⟨rfl,rfl⟩|⟨g,A,l,rfl⟩|⟨g,v,rfl⟩
   ·exact⟨[f,c],lx _ _,.inr ⟨[],rfl,rfl,d5⟩⟩
   ·cases l
   ·by_cases z:f=c
    ·subst z
     exact⟨[f],qL g _,.inl ⟨[],rfl,rfl⟩⟩
    ·exact⟨[f,a,c],ly g (by simpa usingλe:c=f=>z e.symm),.inr ⟨[f],rfl,rfl,by simpa using z⟩⟩
  |cons x b=>
   subst m;subst n;simp only[avH,avw]at k;obtain⟨rfl,rfl⟩:=k;have v:∀y,(b++[a]).head?=some y->(b++[a,c]).head?=some y:=λy h=>by cases b<;>simpa using h
   have w:∀y,(b++[a,c]).head?=some y->(b++[a]).head?=some y:=λy h=>by cases b<;>simpa using h
   rcases p with⟨rfl,rfl⟩|⟨g,A,l,rfl⟩|⟨g,o,rfl⟩
   ·exact⟨_,lx _ _,.inr ⟨f::b,rfl,rfl,B⟩⟩
   ·have:(b++[a,c]).head?=some f:=v _ (by rw[l];rfl)
    obtain⟨q,o⟩:∃q,b++[a,c]=f::q:=by
     cases s:b++[a,c]with
     |nil=>simp at s
     |cons y q=>rw[s]at this;simp at this;exact⟨q,by rw[this]⟩
    refine⟨b++[a,c],?_,.inr ⟨b,rfl,rfl,?_⟩⟩
    ·rw[avH,o]
     exact qL g _
    ·cases b with
     |nil=>simp
     |cons y b=>rwa[axZ]at B
   ·refine⟨f::x::b++[a,c],ly g λh=>o (w _ h),.inr ⟨f::x::b,rfl,rfl,by rwa[axZ]⟩⟩
def afK{u v:Nat}:∀{l:Do Tk} {s s' z:a_},Rb u v s s'->run s l=some z->∃a,run s' l=some a/\Rb u v z a
 |[],s,s',z,h,b=>⟨s',rfl,by have:s=z:=by simpa[run]using b
                            exact this▸h⟩
 |t::l,s,s',z,h,b=>by
  obtain⟨y,c,d⟩:=eM.1 b;obtain⟨j,e,f⟩:=anh h c;obtain⟨a,g,i⟩:=afK f d;exact⟨a,eM.2 ⟨j,e,g⟩,i⟩
def Clo(l:Do Tk)(r:Nat):Prop:=run [r] l=some [r]
def afM{t:Tk}{l:Do Tk}(h:Clo (t::l) a):t.1=a/\Clo (l++[t]) t.2:=by
 obtain⟨f,c⟩:=t;have m:f=a:=by have:=mV h;simpa using this.symm
 subst m;refine⟨rfl,?_⟩;obtain⟨y,n,g⟩:=eM.1 h;obtain⟨q,i,j⟩:=iw n;simp only[avw,true_and]at i j;subst i;rcases j with⟨rfl,rfl⟩|⟨k,B,r,rfl⟩|⟨k,A,rfl⟩
 ·exact kP.2 ⟨_,g,by simp[run,ky]⟩
 ·cases r
 ·obtain⟨w,o,p⟩:=afK (u:=f) (v:=c) (s:=[c,f]) (s':=[c]) (.inl ⟨[],rfl,rfl⟩) g
  refine kP.2 ⟨w,o,?_⟩;rcases p with⟨b,d,e⟩|⟨b,d,e,z⟩
  ·have:=auA List.length d
   simp at this
  ·cases b with
   |nil=>
    simp only[avd]at e;subst e;refine eM.2 ⟨[c],qL k _,rfl⟩
   |cons x b=>
    have:=auA List.length d;simp at this
def XY:∀{a b:Do Tk} {r:Nat},Clo (a++b) r->∃c,Clo (b++a) c
 |[],b,r,h=>⟨r,by simpa using h⟩
 |t::a,b,r,h=>by
  obtain⟨f,d⟩:=afM (by simpa using h:Clo (t::(a++b)) r);rw[auV]at d;obtain⟨c,e⟩:=XY d;exact⟨c,by simpa using e⟩
def Lt:a_->Do Tk->a_
 |_,[]=>[]
 |s,t::l=>match ky s t with
  |some z=>if s.length<z.length then t.2::Lt z l else Lt z l
  |none=>[]
def tG(l:Do Tk):Nat:=(l.filter λt=>t.1 !=t.2).length
def eZ(l:Do Tk):a_:=(l.filter λt=>t.1==t.2).map (·.1)
def Qa{t:Tk}{l:Do Tk}(h:ky i t=some j):Lt i (t::l)=if i.length<j.length then t.2::Lt j l else Lt j l:=by
 rw[Lt,h]
def uI(t:Tk)(l:Do Tk):tG (t::l)=(if t.1=t.2 then 0 else 1)+tG l:=by
 unfold tG;by_cases h:t.1=t.2
 ·simp[awx,h]
 ·simp[awx,h];omega
def Qb(l m:Do Tk):tG (l++m)=tG l+tG m:=by simp[tG]
def Lu:∀{l:Do Tk} {s z:a_},run s l=some z->2*(Lt s l).length+s.length=tG l+z.length
 |[],s,z,h=>by
  have:s=z:=by simpa[run]using h
  subst this;simp[Lt,tG]
 |t::l,s,z,h=>by
  obtain⟨y,b,d⟩:=eM.1 h;have g:=Lu d;obtain⟨r,c,f⟩:=iw b;rw[Qa b,uI];rcases f with⟨e,rfl⟩|⟨a,k,j,rfl⟩|⟨a,i,rfl⟩
  ·rw[aun (axy _),auo e.symm];omega
  ·rw[aun (by rw[c];simp),aun (λe=>a e.symm)]
   have:s.length=y.length+1:=by rw[c];rfl
   omega
  ·rw[auo d5,aun (λe=>a e.symm)]
   simp at g⊢;omega
def Lv:∀{l:Do Tk} {s z:a_},run s l=some z->∀t∈l,t.1∈s\/t.1∈Lt s l
 |[],s,z,h,t,b=>by cases b
 |x::l,s,z,h,t,b=>by
  obtain⟨y,d,f⟩:=eM.1 h;obtain⟨r,c,g⟩:=iw d;rw[Qa d];rcases auT.1 b with rfl|b
  ·exact .inl (by rw[c];simp)
  ·have a:=Lv f t b
   rcases g with⟨e,rfl⟩|⟨i,m,k,rfl⟩|⟨i,j,rfl⟩
   ·rw[aun (axy _)];exact a
   ·rw[aun (by rw[c];simp)]
    rcases a with a|a
    ·exact .inl (by rw[c];exact avt _ a)
    ·exact .inr a
   ·rw[auo d5]
    rcases a with a|a
    ·rcases auT.1 a with a|a
     ·exact .inr (by rw[a];simp)
     ·exact .inl a
    ·exact .inr (avt _ a)
def nS{α:Type} [BEq α] [LawfulBEq α]:∀{A B:Do α},A.Nodup->(∀x∈A,x∈B)->B.length<=A.length->B.Perm A
 |[],B,_,_,b=>by
  have:B=[]:=avq (by simpa using b);subst this;exact ax0 _
 |a::A,B,j,f,b=>by
  have h:a∈B:=f a d5;have c:=azf h;have d:=avD.1 j;have i:=c.length_eq;have l:(B.erase a).Perm A:=nS d.2 (λx g=>by
   have k:=f x (by simp[g]);have:=c.mem_iff.1 k;rcases auT.1 this with e|e
   ·exact absurd (e▸g) d.1
   ·exact e) (by simp at b i;omega)
  exact c.trans (l.cons a)
def uJ{l:Do Tk}:a∈eZ l↔(a,a)∈l:=by
 unfold eZ;simp only[auD,awi,aw9];constructor
 ·rintro⟨⟨c,b⟩,⟨f,d⟩,e⟩
  simp only at d e;subst d;subst e;exact f
 ·exactλh=>⟨(a,a),⟨h,rfl⟩,rfl⟩
def jf(t:Tk)(l:Do Tk):eZ (t::l)=if t.1=t.2 then t.1::eZ l else eZ l:=by
 unfold eZ;by_cases h:t.1=t.2
 ·simp[awx,h]
 ·simp[awx,h]
def Lw(l m:Do Tk):eZ (l++m)=eZ l++eZ m:=by simp[eZ]
def lz:∀{l:Do Tk},l.Nodup->(eZ l).Nodup
 |[],_=>by simp[eZ]
 |t::l,h=>by
  have c:=avD.1 h;rw[jf];split
  ·rename_i e
   refine avD.2 ⟨λd=>c.1 ?_,lz c.2⟩;have:=uJ.1 d;obtain⟨a,b⟩:=t;simp only at e this;rw[e]at this;rw[e];exact this
  ·exact lz c.2
structure C1(l:List Tk):Prop where
 nod:l.Nodup
 Hr:∃r,Clo l r
 own:∀t∈l,(t.1,t.1)∈l
 num:tG l+2=2*(eZ l).length
def C1.perm{l m:Do Tk}(h:C1 l)(a:l.Perm m)(c:∃r,Clo m r):C1 m:=by
 have e:(eZ l).length=(eZ m).length:=((a.filter _).map _).length_eq;have b:tG l=tG m:=(a.filter _).length_eq;exact⟨a.nodup_iff.1 h.nod,c,λt d=>a.mem_iff.1 (h.own t (a.mem_iff.2 d)),by rw[<-b,<-e];exact h.num⟩
def C1.C0{a b:Do Tk}(h:C1 (a++b)):C1 (b++a):=by
 obtain⟨r,c⟩:=h.Hr;exact h.perm axu (XY c)
def C1.ne{l:Do Tk}(h:C1 l):l≠[]:=λe=>by
 have:=h.num;subst e;simp[tG,eZ]at this
def C1.aqq{l:Do Tk}(h:C1 l)(c:Clo l a):(a::Lt [a] l).Perm (eZ l):=by
 have d:=Lu c;have:=h.num;refine nS (lz h.nod) (λx b=>?_) (by simp at d⊢;omega);have b:=uJ.1 b;rcases Lv c _ b with e|e
 ·simp at e;simp[e]
 ·exact avt _ e
def C1.once{l:Do Tk}(h:C1 l)(b:Clo l a):(a::Lt [a] l).Nodup:=(h.aqq b).nodup_iff.2 (lz h.nod)
def Gp{l:Do Tk}(c:l.Nodup):(run [a] l=some [a]/\(a::Lt [a] l).Nodup/\(eZ l).length=(Lt [a] l).length+1)↔(C1 l/\Clo l a):=by
 constructor
 ·rintro⟨b,j,d⟩
  have f:(a::Lt [a] l).Perm (eZ l):=nS (lz c) (λx i=>by
   rcases Lv b _ (uJ.1 i)with e|e
   ·simp at e;simp[e]
   ·exact avt _ e) (by simp[d])
  refine⟨⟨c,⟨a,b⟩,λt g=>?_,?_⟩,b⟩
  ·refine uJ.1 (f.mem_iff.1 ?_)
   rcases Lv b _ g with e|e
   ·simp at e;simp[e]
   ·exact avt _ e
  ·have:=Lu b
   simp at this;omega
 ·rintro⟨h,b⟩
  exact⟨b,h.once b,by have:=(h.aqq b).length_eq;simpa using this.symm⟩
def C1.anj{l:Do Tk}(h:C1 l){t:Tk}(o:t∈l):(t.2,t.2)∈l:=by
 obtain⟨a,b,rfl⟩:=List.append_of_mem o;have i:C1 (t::b++a):=h.C0;have g:C1 ((b++a)++[t]):=by
  have:=(show C1 ([t]++(b++a))from by simpa using i).C0;exact this
 obtain⟨r,d⟩:=g.Hr;obtain⟨q,e⟩:=XX d;have n:r=t.2:=(ayN e).1;subst n;have j:∃x m,(b++a)++[t]=x::m:=by
  cases k:(b++a)++[t]with
  |nil=>simp at k
  |cons x m=>exact⟨x,m,rfl⟩
 obtain⟨x,m,f⟩:=j;rw[f]at d;have p:x.1=t.2:=by have:=mV d;simpa using this.symm
 have c:=g.own x (by rw[f];simp);rw[p]at c;simp only[auC,auT,List.not_mem_nil,or_false]at c⊢;rcases c with(c|c)|c
 ·exact .inr (.inr c)
 ·exact .inl c
 ·exact .inr (.inl c)
def afN{t:Tk}{w:Nat}(d:t.2≠w)(h:ky i t=some j):ky (i++w::u) t=some (j++w::u):=by
 obtain⟨l,m⟩:=t;obtain⟨r,b,c⟩:=iw h;simp only at b c d;subst b;rcases c with⟨rfl,rfl⟩|⟨a,k,g,rfl⟩|⟨a,f,rfl⟩
 ·exact lx _ _
 ·subst g
  exact qL a _
 ·refine ly a ?_
  cases r with
  |nil=>simpa usingλe=>d e.symm
  |cons x r=>simpa using f
def run_lift{b:a_}{w:Nat}:∀{l:Do Tk} {s z:a_},(∀t∈l,t.2≠w)->run s l=some z->run (s++w::b) l=some (z++w::b)
 |[],s,z,_,h=>by
  have:s=z:=by simpa[run]using h
  subst this;rfl
 |t::l,s,z,a,h=>by
  obtain⟨y,c,d⟩:=eM.1 h;exact eM.2 ⟨_,afN (a t d5) c,run_lift (λx e=>a x (by simp[e])) d⟩
def C1.link{d b:Do Tk}(i:C1 ((a,a)::d))(g:C1 ((c,c)::b))(j:∀x,(x,x)∈(a,a)::d->(x,x)∉(c,c)::b):C1 ((a,a)::(a,c)::((c,c)::b++(c,a)::d)):=by
 have k:a≠c:=λe=>by subst e;exact j a d5 d5
 obtain⟨r,p⟩:=i.Hr;have:r=a:=by have:=mV p;simpa using this
 subst this;obtain⟨f,q⟩:=g.Hr;have:f=c:=by have:=mV q;simpa using this
 subst this;have w:∀t∈(f,f)::b,t.2≠r:=λt o e=>j r d5 (by have:=g.anj o;rwa[e]at this);have v:∀t,t∈(r,r)::d->t∉(f,f)::b:=λt l n=>j _ (i.own t l) (g.own t n);have B:(r,f)∉(r,r)::d:=λh=>j _ (i.anj h) d5;have E:(f,r)∉(r,r)::d:=λh=>j _ (i.own _ h) d5;have C:(r,f)∉(f,f)::b:=λh=>j _ d5 (g.own _ h);have F:(f,r)∉(f,f)::b:=λh=>j _ d5 (g.anj h);have m:((r,r)::(r,f)::((f,f)::b++(f,r)::d)).Perm ((r,f)::(f,r)::((r,r)::d++(f,f)::b)):=by
  refine(List.Perm.swap (r,f) (r,r) _).trans (List.Perm.cons _ ?_);have l:((f,f)::b++(f,r)::d).Perm ((f,r)::(d++(f,f)::b)):=by
   have:= @axu _ ((f,f)::b) ((f,r)::d);simpa using this
  exact(l.cons (r,r)).trans (List.Perm.swap _ _ _)
 have A:((r,f)::(f,r)::((r,r)::d++(f,f)::b)).Nodup:=by
  refine avD.2 ⟨λh=>?_,avD.2 ⟨λh=>?_,avk.2 ⟨i.nod,g.nod,λx G y H e=>v x G (e▸H)⟩⟩⟩
  ·rcases auT.1 h with h|h
   ·simp at h;exact k h.1
   ·rcases auC.1 h with h|h
    ·exact B h
    ·exact C h
  ·rcases auC.1 h with h|h
   ·exact E h
   ·exact F h
 refine⟨m.nodup_iff.2 A,⟨r,?_⟩,λt o=>?_,?_⟩
 ·refine eM.2 ⟨[r],lx _ _,eM.2 ⟨[f,r],ly (λe=>k e.symm) d5,?_⟩⟩
  refine kP.2 ⟨[f,r],?_,eM.2 ⟨[r],qL k _,?_⟩⟩
  ·exact run_lift (s:=[f]) (z:=[f]) (b:=[]) w q
  ·obtain⟨y,l,n⟩:=eM.1 p
   obtain rfl:=aut ((lx _ _:ky [r] (r,r)=_).symm.trans l);exact n
 ·have:=m.mem_iff.1 o
  refine m.mem_iff.2 ?_;refine avt _ (avt _ ?_);rcases auT.1 this with rfl|h
  ·exact ayl _ d5
  rcases auT.1 h with rfl|h
  ·exact aym _ d5
  rcases auC.1 h with h|h
  ·exact ayl _ (i.own t h)
  ·exact aym _ (g.own t h)
 ·have D:(eZ ((r,r)::(r,f)::((f,f)::b++(f,r)::d))).length=(eZ ((r,f)::(f,r)::((r,r)::d++(f,f)::b))).length:=((m.filter _).map _).length_eq
  have u:tG ((r,r)::(r,f)::((f,f)::b++(f,r)::d))=tG ((r,f)::(f,r)::((r,r)::d++(f,f)::b)):=(m.filter _).length_eq;rw[D,u];have l:=i.num;have n:=g.num;rw[uI,uI,jf,jf,aun k,aun k,aun (λe:f=r=>k e.symm),aun (λe:f=r=>k e.symm),Qb,Lw,auE];omega
def Qc:∀l:Do Tk,tG l+(eZ l).length=l.length
 |[]=>rfl
 |t::l=>by
  have:=Qc l;rw[uI,jf];split<;>simp<;>omega
def C1.len{l:Do Tk}(h:C1 l):l.length+2=3*(eZ l).length:=by
 have:=h.num;have:=Qc l;omega
def dk(n:Nat)(t:Int):At Tk:=
 if 0<=t/\t<n then some (t.toNat,t.toNat)
 else if(n:Int)<=t/\t.toNat<n*(n+1)then(if t.toNat/n - 1=t.toNat % n then none else some (t.toNat/n - 1,t.toNat % n))
 else none
def ek(n:Nat)(e:Tk):Int:=if e.1=e.2 then(e.1:Int)else((n*(e.1+1)+e.2:Nat):Int)
def zL{e:Tk}(h:dk a d=some e):ek a e=d/\e.1<a/\e.2<a:=by
 unfold dk at h;split at h
 ·rename_i c
  cases h;refine⟨?_,bv,bv⟩;unfold ek;rw[auo rfl];omega
 ·split at h
  ·rename_i g c
   split at h
   ·cases h
   ·rename_i f
    cases h;have b:0<a:=by
     rcases axq a with e|e
     ·subst e;simp at c
     ·exact e
    have i:d.toNat/a<a+1:=azg c.2;have j:1<=d.toNat/a:=(ax1 b).2 bv;refine⟨?_,by simp only;omega,awV _ b⟩;unfold ek;rw[aun f];simp only;rw[show d.toNat/a - 1+1=d.toNat/a by omega,Nat.div_add_mod];omega
  ·cases h
def afO{n:Nat}{e:Tk}(f:e.1<n)(a:e.2<n):dk n (ek n e)=some e:=by
 obtain⟨u,v⟩:=e;simp only at f a;unfold ek dk;by_cases c:u=v
 ·subst c
  simp only[au2];rw[auo bv];simp
 ·simp only[c,avf]
  have h:n*1<=n*(u+1):=awg n bv;have g:n*(u+1)+v<n*(n+1):=by
   have:n*(u+1)+n<=n*(n+1):=by
    have:=awg n (show u+1+1<=n+1 by omega);rw[Nat.mul_add n (u+1) 1,avP]at this;exact this
   omega
  rw[aun bv,auo ⟨bv,by rw[auB];exact g⟩];have b:(n*(u+1)+v)/n=u+1:=by
   rw[Nat.mul_add_div bv,ayI a]
  have d:(n*(u+1)+v) % n=v:=by
   rw[Nat.mul_add_mod,awH a]
  rw[auB,b,d,aun bv];simp
def ank{e:Tk}(h:dk a d=some e)(k:dk a y=some e):d=y:=(zL h).1.symm.trans (zL k).1
def DU(h:dk a d=some (c,c)):d=(c:Int)/\c<a:=by
 have:=zL h;unfold ek at this;simp only[au2]at this;exact⟨this.1.symm,this.2.1⟩
def im(h:c<a):dk a (c:Int)=some (c,c):=by
 have:=afO (e:=(c,c)) h h;unfold ek at this;simpa using this
def Qd(n:Nat)(t:Int):Int×Int×In×In:=match dk n t with
 |none=>(0,0,false,false)
 |some (u,v)=>if u=v then((u:Int),0,false,true)else((u:Int),(v:Int),true,true)
def asN(h:a<=64):a*(a+1)<=4160:=avl (avZ h (show a+1<=65 by omega)) d6
def zM(b:1<=a)(n:Int):wO a n=some (decide (1<=n/\n<=64)):=by
 obtain⟨a,rfl⟩:∃M,a=M+1:=⟨a - 1,bv⟩;rw[Zs,cd];by_cases c:1<=n<;>simp[c]
def Qe(d:2<=a)(n v:Int):oz a (n,v)=some (decide ((1<=n/\n<=64)/\0<=v/\v<n)):=by
 obtain⟨a,rfl⟩:∃M,a=M+1:=⟨a - 1,bv⟩;rw[Zv,zM bv,ob];by_cases c:1<=n/\n<=64
 ·simp only[c,and_self,avF,auQ,cd,true_and]
  by_cases b:0<=v<;>simp[b]
 ·simp[c]
def afP(n:2<=a)(i:1<=c)(g:c<=64)(t:Int):KB a ((c:Int),t)=some (Qd c t):=by
 obtain⟨a,rfl⟩:∃M,a=M+1:=⟨a - 1,bv⟩;have p:=asN g;have h:wrap .i64 ((c:Int)*(wrap .i64 ((c:Int)+(1:Int))))=((c*(c+1):Nat):Int):=by
  rw[gZ (x:=(c:Int)+1) bv bv,show(c:Int)*((c:Int)+1)=((c*(c+1):Nat):Int) by rw[awh,Int.natCast_add];rfl,gZ bv bv]
 rw[Zw,zM bv,ob,h];rw[auU (show(1:Int)<=(c:Int)/\(c:Int)<=64 by omega)];simp only[auH,auv,cd];unfold Qd dk;by_cases d:t<0
 ·rw[auo d,aun bv,aun bv]
 rw[aun d];by_cases e:((c*(c+1):Nat):Int)<=t
 ·have o:c*1<=c*(c+1):=awg c bv
  rw[auo e,aun bv,aun bv]
 rw[aun e];by_cases f:t<c
 ·rw[auo f,auo bv]
  simp;omega
 rw[aun f,aun bv,auo bv];obtain⟨k,rfl⟩:∃k:Nat,t=k:=⟨t.toNat,bv⟩;rw[S5 bv,ob,S4 bv,ob,zC,Gg,auB];have j:k/c<c+1:=azg bv;have l:1<=k/c:=(ax1 bv).2 bv;have m:k % c<c:=awV _ bv;rw[gZ (x:=((k/c:Nat):Int)) bv bv,gZ (x:=((k/c:Nat):Int) - 1) bv bv];by_cases b:k/c - 1=k % c
 ·rw[auo bv,auo b]
 ·rw[aun bv,aun b]
  simp only[b,avf];congr 2;omega
def gs:a_->a_->Do Tk->At (a_×a_)
 |s,c,[]=>some (s,c)
 |s,c,t::l=>match ky s t with
  |none=>none
  |some z=>if s.length<z.length then(if t.2∈c then none else gs z (c++[t.2]) l)else gs z c l
def Lx:∀{l:Do Tk} {s c z d:a_},c.Nodup->(gs s c l=some (z,d)↔run s l=some z/\d=c++Lt s l/\(c++Lt s l).Nodup)
 |[],s,c,z,d,f=>by
  simp only[gs,run,Lt,au_,aur,auK];constructor
  ·rintro⟨rfl,rfl⟩;exact⟨rfl,rfl,f⟩
  ·rintro⟨rfl,rfl,_⟩;exact⟨rfl,rfl⟩
 |t::l,s,c,z,d,f=>by
  rw[gs,run,Lt];cases n:ky s t with
  |none=>simp
  |some y=>
   simp only;by_cases g:s.length<y.length
   ·rw[auo g,auo g]
    by_cases i:t.2∈c
    ·rw[auo i]
     constructor
     ·intro h;cases h
     ·rintro⟨_,_,h⟩
      exact absurd rfl ((avk.1 h).2.2 t.2 i t.2 d5)
    ·rw[aun i]
     have m:(c++[t.2]).Nodup:=avk.2 ⟨f,d5,λa k b j e=>i (by simp at j;rw[<-j,<-e];exact k)⟩;rw[Lx m];simp only[auV,avW]
   ·rw[aun g,aun g]
    exact Lx f
def mW(n:Nat)(l:aX):Prop:=∃T,l.map (dk n)=T.map some/\C1 T
def zN{α:Type}:∀{a b:Do α},a.map some=b.map some->a=b
 |[],[],_=>rfl
 |[],_::_,h=>by simp at h
 |_::_,[],h=>by simp at h
 |x::a,y::b,h=>by
  simp only[auL,avw,aur]at h;rw[h.1,zN h.2]
def Cp{T S:Do Tk}(h:b.map (dk a)=T.map some)(k:b.map (dk a)=S.map some):T=S:=by
 have:T.map some=S.map some:=h.symm.trans k;exact zN this
def Gq{n:Nat}:∀{l:aX} {T:Do Tk},l.map (dk n)=T.map some->(l.Nodup↔T.Nodup)
 |[],T,h=>by cases T<;>simp at h⊢
 |x::l,[],h=>by simp at h
 |x::l,t::T,h=>by
  simp only[auL,avw]at h;have e:=Gq h.2;have a:x∈l↔t∈T:=by
   constructor
   ·intro c
    have:dk n x∈T.map some:=by rw[<-h.2];exact auD.2 ⟨x,c,rfl⟩
    rw[h.1]at this;simpa using this
   ·intro b
    have:some t∈l.map (dk n):=by rw[h.2];exact auD.2 ⟨t,b,rfl⟩
    obtain⟨y,f,d⟩:=auD.1 this;rwa[ank h.1 d]
  rw[avD,avD,e,a]
structure Cm(c:a_)(m:bh):Prop where
 at_:∀v:Nat,(bO (.i .i64) m (v:Int)).getD 0=if v∈c then 1 else 0
 len:m.length=c.length
 pos:∀v x,bO (.i .i64) m v=some x->x=1
def Cm.push{c:a_}{m:bh}(h:Cm c m){v:Nat}(i:v∉c):Cm (c++[v]) (dW (.i .i64) m (v:Int) 1):=by
 have b:=h.at_ v;rw[aun i]at b;have g:bO (.i .i64) m (v:Int)=none:=by
  cases d:bO (.i .i64) m (v:Int)with
  |none=>rfl
  |some x=>
   have:=h.pos _ _ d;rw[d,this]at b;simp at b
 refine⟨λw=>?_,?_,λw x a=>?_⟩
 ·rw[qJ]
  by_cases e:v=w
  ·subst e;simp
  ·rw[aun bv,h.at_ w]
   have:(w∈c++[v])↔w∈c:=by simp only[auC,auN];exact⟨λh=>h.resolve_right λf=>e f.symm,.inl⟩
   simp only[this]
 ·rw[zD,g,h.len];simp
 ·rw[qJ]at a
  split at a
  ·exact(aut a).symm
  ·exact h.pos _ _ a
structure Me(ms:a_)(m:bh):Prop where
 mem:∀v:Nat,(bO (.i .i64) m (v:Int)).isSome=decide (v∈ms)
 len:m.length=ms.length
def Me.push{m:bh}(h:Me i m){v:Nat}(b:v∉i)(x:Int):Me (i++[v]) (dW (.i .i64) m (v:Int) x):=by
 refine⟨λw=>?_,?_⟩
 ·rw[qJ]
  by_cases e:v=w
  ·subst e;simp
  ·rw[aun bv,h.mem w]
   have:(w∈i++[v])↔w∈i:=by simp only[auC,auN];exact⟨λh=>h.resolve_right λa=>e a.symm,.inl⟩
   simp only[this]
 ·rw[zD,h.mem v,h.len];simp[b]
def kq(s:a_):aX:=s.reverse.map λv:Nat=>(v:Int)
def pA(s:a_):(kq s).length=s.length:=by simp[kq]
def Qf(x:Nat)(r:a_):(kq (x::r))[r.length]? =some (x:Int):=by
 simp[kq,avh]
def afQ(x y:Nat)(r:a_):(kq (x::y::r))[r.length]? =some (y:Int):=by
 simp[kq,avh]
def Js(x:Nat)(s:a_):kq (x::s)=kq s++[(x:Int)]:=by simp[kq]
def afR(w:1<=a){b d:bh}(v:j.length<=100000)(m:c≠k)(s:Cm u b):
 Vb a ((c:Int),(k:Int),kq (C::j),b,d)=some (match ky (C::j) (c,k)with
  |none=>(false,b,d,kq (C::j))
  |some z=>if(C::j).length<z.length then(if k∈u then(false,b,d,kq (C::j))else(true,dW (.i .i64) b (k:Int) 1,d,kq z))else(true,b,d,kq z)):=by
 obtain⟨a,rfl⟩:∃M,a=M+1:=⟨a - 1,bv⟩;have p:wrap .i64 ((((kq (C::j)).length:Nat):Int) - (1:Int))=(j.length:Int):=by
  rw[pA,auP,gZ bv bv];omega
 have t:=s.at_ k;rw[ac8,p];simp only[bd (Qf C j),ob,Hq,cd];by_cases g:C=c
 rotate_left
 ·rw[aun bv]
  have:ky (C::j) (c,k)=none:=by
   cases j with
   |_=>simp[ky,show¬c=C fromλe=>g e.symm]
  rw[this]
 subst g;rw[auo rfl,t];have l:∀h:j.head?≠some k,(if(0:Int)<(if k∈u then 1 else 0)then some (false,b,d,kq (C::j))else
  aW (eo (8:Nat) (kq (C::j)) [(k:Int)]) λz=>some (true,dW (.i .i64) b (k:Int) (wrap .i64 ((if k∈u then 1 else 0)+(1:Int))),d,z))=
  some (match ky (C::j) (C,k)with
  |none=>(false,b,d,kq (C::j))
  |some z=>if(C::j).length<z.length then(if k∈u then(false,b,d,kq (C::j))else(true,dW (.i .i64) b (k:Int) 1,d,kq z))else(true,b,d,kq z)):=λh=>by
  rw[ly (λe=>m e.symm) h];have f:(C::j).length<(k::C::j).length:=d5
  by_cases n:k∈u
  ·simp only[auo n,auo f,auo (show(0:Int)<1 by decide)]
  ·simp only[aun n,auo f,aun (show¬(0:Int)<0 by decide)]
   rw[cw bv (by rw[pA];simp;omega),ob,Js k];rfl
 cases j with
 |nil=>
  rw[aun d5];exact l d5
 |cons y j=>
  rw[auo (by simp only[auP];omega)];have q:wrap .i64 ((((y::j).length:Nat):Int) - (1:Int))=(j.length:Int):=by
   rw[auP,gZ bv (by simp at v;omega)];omega
  rw[q];simp only[bd (afQ C y j),ob];by_cases o:y=k
  ·subst o
   have f:¬(C::y::j).length<(y::j).length:=d5
   have r:iR (kq (C::y::j)) (0:Int) (((y::j).length:Nat):Int)=some (kq (y::j)):=by
    rw[tw bv (by rw[pA];simp only[auP];omega),auB,Js C];exact auA some (aw6 (l₁:=kq (y::j)) (l₂:=[(C:Int)]) (i:=(y::j).length) (pA _))
   rw[auo rfl,r,ob];simp only[qL (λe:y=C=>m e.symm),aun f]
  ·rw[aun bv]
   exact l (by simpa usingλe=>o e)
def zO{t:Tk}{T:Do Tk}(h:ky i t=none):gs i j (t::T)=none:=by rw[gs,h]
def Gr{t:Tk}{T:Do Tk}(h:ky i t=some u)(a:¬i.length<u.length):gs i j (t::T)=gs u j T:=by
 rw[gs,h];exact aun a
def Ta{t:Tk}{T:Do Tk}(h:ky i t=some u)(a:i.length<u.length)(b:t.2∈j):gs i j (t::T)=none:=by
 rw[gs,h];simp only;rw[auo a,auo b]
def Qg{t:Tk}{T:Do Tk}(h:ky i t=some u)(a:i.length<u.length)(b:t.2∉j):gs i j (t::T)=gs u (j++[t.2]) T:=by
 rw[gs,h];simp only;rw[auo a,aun b]
def XZ{t:Tk}(h:ky i t=some j):j.length<=i.length+1/\j≠[]:=by
 obtain⟨r,a,b⟩:=iw h;rcases b with⟨_,rfl⟩|⟨_,d,c,rfl⟩|⟨_,_,rfl⟩
 ·exact⟨bv,by rw[a];simp⟩
 ·exact⟨by rw[a];simp;omega,by rw[c];simp⟩
 ·exact⟨d5,d5⟩
abbrev DV(n:Nat)(l:aX)(i:Nat)(s c e:a_)(o:(aX×bh×bh)⊕In):Prop:=
 (o=.inr false/\∀T z a,(l.drop i).map (dk n)=T.map some->gs s c T≠some (z,a))\/
  ∃T z a b d,(l.drop i).map (dk n)=T.map some/\gs s c T=some (z,a)/\o=.inl (kq z,b,d)/\Cm a b/\Me (e++eZ T) d
def qM{s f n q j p:a_}{e:Tk}{o:(aX×bh×bh)⊕In}(m:b[c]? =some d)(k:dk a d=some e)
 (l:∀T,gs s f (e::T)=gs q j T) (A:∀T,n++eZ (e::T)=p++eZ T) (h:DV a b (c+1) q j p o):DV a b c s f n o:=by
 rcases h with⟨rfl,h⟩|⟨T,z,i,r,B,t,u,v,w,y⟩
 ·refine .inl ⟨rfl,λT z i g=>?_⟩
  rw[dh m,auL,k]at g;cases T with
  |nil=>simp at g
  |cons x T=>
   simp only[auL,avw,aur]at g;rw[<-g.1,l];exact h T z i g.2
 ·refine .inr ⟨e::T,z,i,r,B,?_,by rw[l];exact u,v,w,by rw[A];exact y⟩
  rw[dh m,auL,k,t];rfl
def qN{e:Tk}(l:b[c]? =some d)(g:dk a d=some e)(k:∀T,gs i j (e::T)=none):DV a b c i j u (.inr false):=by
 refine .inl ⟨rfl,λT z m f=>?_⟩;rw[dh l,auL,g]at f;cases T with
 |nil=>simp at f
 |cons x T=>
  simp only[auL,avw,aur]at f;rw[<-f.1,k];intro h;cases h
def uK(N:Nat)(L:Fu+3<=N){n:Nat}(F:1<=n)(G:n<=64){l:aX}(O:l.length<=1000):∀(m i:Nat) (s c f:a_) (j k:bh),l.length - i<m->i<=l.length->s≠[]->s.length<=i+1->Cm c j->Me f k->(f.map (λv:Nat=>(v:Int))++l.drop i).Nodup->
 ∃o,ie N m ((n:Int),l,(l.length:Int),(i:Int),kq s,j,k)=some o/\DV n l i s c f o
 |0,i,s,c,f,j,k,h,_,_,_,_,_,_=>absurd h bv
 |m+1,i,s,c,f,j,k,hm,hi,hs,R,w,H,I=>by
  rw[SA,cd];by_cases q:i<l.length
  rotate_left
  ·rw[aun bv]
   have d:l.drop i=[]:=avj bv;exact⟨_,rfl,.inr ⟨[],s,c,j,k,by rw[d];rfl,rfl,rfl,w,by simpa[eZ]using H⟩⟩
  rw[auo bv];obtain⟨t,g⟩:=get_at (xs:=l) (i:=i) q;rw[bd g,ob,afP bv F G,ob,cG bv];obtain⟨x,r,rfl⟩:∃x r,s=x::r:=by
   cases s with
   |nil=>exact absurd rfl hs
   |cons x r=>exact⟨x,r,rfl⟩
  rw[dh g]at I;cases d:dk n t with
  |none=>
   have D:Qd n t=(0,0,false,false):=by unfold Qd;rw[d]
   rw[D];refine⟨_,rfl,.inl ⟨rfl,λT z c2 M=>?_⟩⟩;rw[dh g,auL,d]at M;cases T with
   |_=>simp at M
  |some e=>
   obtain⟨u,v⟩:=e;by_cases J:u=v
   ·subst J
    have D:Qd n t=((u:Int),0,false,true):=by unfold Qd;rw[d];simp
    obtain⟨S,a0⟩:=DU d;rw[D];simp only[auH,avB,auv,auQ];have W:wrap .i64 ((((kq (x::r)).length:Nat):Int) - (1:Int))=(r.length:Int):=by
     rw[pA,auP,gZ bv (by simp only[auP]at R;omega)];omega
    rw[W];simp only[bd (Qf x r),ob,Hq];by_cases P:x=u
    ·subst P
     rw[auo rfl];have Z:x∉f:=λhx=>(avk.1 I).2.2 (x:Int) (auD.2 ⟨x,hx,rfl⟩) t d5 S.symm;obtain⟨o,A,B⟩:=uK N L F G O m (i+1) (x::r) c (f++[x]) j _ bv bv d5 bv w (H.push Z _) (by
      rw[avh,auV];simp only[auL,avy,avW];rw[<-S];exact I)
     refine⟨o,A,qM g d (λT=>Gr (lx _ _) (axy _)) (λT=>?_) B⟩;rw[jf,auo rfl,auV];rfl
    ·rw[aun bv]
     refine⟨_,rfl,qN g d λT=>zO ?_⟩;cases r with
     |_=>simp[ky,show¬u=x fromλe=>P e.symm]
   ·have D:Qd n t=((u:Int),(v:Int),true,true):=by unfold Qd;rw[d];simp[J]
    rw[D];simp only[auH,avB,auv,auQ];rw[afR bv (by simp only[auP]at R;omega) J w,ob];have Q:(f.map (λv:Nat=>(v:Int))++l.drop (i+1)).Nodup:=by
     have K:=avk.1 I;exact avk.2 ⟨K.1,(avD.1 K.2.1).2,λa X b Y=>K.2.2 a X b (by simp[Y])⟩
    have U:∀T,f++eZ ((u,v)::T)=f++eZ T:=λT=>by rw[jf,aun J]
    cases C:ky (x::r) (u,v)with
    |none=>exact⟨_,rfl,qN g d λT=>zO C⟩
    |some z=>
     have V:=XZ C;by_cases p:(x::r).length<z.length
     ·by_cases E:v∈c
      ·simp only[auo p,auo E]
       exact⟨_,rfl,qN g d λT=>Ta C p E⟩
      ·simp only[auo p,aun E,auH,avB,auv]
       obtain⟨o,A,B⟩:=uK N L F G O m (i+1) z (c++[v]) f _ k bv bv V.2 bv (w.push E) H Q;exact⟨o,A,qM g d (λT=>Qg C p E) U B⟩
     ·simp only[aun p,auH,avB,auv]
      obtain⟨o,A,B⟩:=uK N L F G O m (i+1) z c f j k bv bv V.2 bv w H Q;exact⟨o,A,qM g d (λT=>Gr C p) U B⟩
def ajk{N:Nat}(Y:Fu+5<=N)(R:1<=a)(U:a<=64)(hl:b.length<=1000)(J:b.Nodup){l':aX}(A:b=d::l'):
 ∃f,KD N ((a:Int),b)=some f/\(f=true↔(0<=d/\d<a)/\mW a b):=by
 obtain⟨N,rfl⟩:∃M,N=M+1:=⟨N - 1,bv⟩;have a7:b[0]? =some d:=by rw[A];rfl
 have a5:ba b (0:Int)=some d:=bd (i:=0) a7;rw[Zx];simp only[a5,ob];rw[Qe bv,ob,Hq];by_cases c:0<=d/\d<a
 rotate_left
 ·rw[aun bv]
  exact⟨false,rfl,by simp[c]⟩
 rw[auo ⟨bv,c⟩];obtain⟨u,rfl⟩:∃u:Nat,d=u:=⟨d.toNat,bv⟩;have D:u<a:=bv
 have a0:Cm [u] (dW (.i .i64) [] (u:Int) 1):=by
  have:=Cm.push (c:=[]) (m:=[]) ⟨λv=>by simp[bO],rfl,λv d h=>by simp[bO]at h⟩ (v:=u) d5;simpa using this
 obtain⟨o,L,a6⟩:=uK N bv R U hl N 0 [u] [u] [] _ [] (by rw[bR]at Y;omega) bv d5 d5 a0 ⟨λv=>by simp[bO],rfl⟩ (by simpa using J);have hw:kq [u]=[(u:Int)]:=rfl;rw[hw,show((0:Nat):Int)=(0:Int)from rfl]at L;rw[L,ob];rcases a6 with⟨rfl,K⟩|⟨T,z,P,Q,a9,j,hg,rfl,a2,a4⟩
 ·refine⟨false,rfl,?_⟩
  simp only[av4,aw0,not_and];rintro _ ⟨T,j,k⟩;rw[ave]at K;have p:T≠[]:=k.ne;have I:T.head?=some (u,u):=by
   rw[A]at j;cases T with
   |nil=>exact absurd rfl p
   |cons t T=>
    simp only[auL,avw,im D,aur]at j;rw[<-j.1];rfl
  obtain⟨r,n⟩:=k.Hr;have x:r=u:=by
   cases T with
   |nil=>exact absurd rfl p
   |cons t T=>
    have:=mV n;simp at I this;rw[I]at this;exact this
  subst x;have:=((Gp k.nod).2 ⟨k,n⟩);exact K T [r] ([r]++Lt [r] T) j ((Lx d5).2 ⟨this.1,rfl,this.2.1⟩)
 ·rw[ave]at j
  have p:T.Nodup:=(Gq j).1 J;have q:=(Lx d5).1 hg;have a3:a9.length=(eZ T).length:=by simpa using a4.len
  have a1:Q.length=P.length:=a2.len;simp only[pA];have a8:∃y r,z=y::r:=by
   have X:T≠[]:=λe=>by rw[A,e]at j;simp at j
   obtain⟨F,t,rfl⟩:∃F t,T=F++[t]:=by
    rcases azh T with e|⟨g,f,e⟩
    ·exact absurd e X
    ·exact⟨g,f,by rw[e,azi]⟩
   obtain⟨r,n⟩:=XX q.1;exact⟨_,_,n⟩
  obtain⟨y,r,rfl⟩:=a8;rw[cd];by_cases C:r=[]
  rotate_left
  ·have aa:0<r.length:=av8.2 C
   rw[aun (by simp only[auP];omega)];refine⟨false,rfl,?_⟩;simp only[av4,aw0,not_and];rintro _ ⟨S,B,k⟩;obtain rfl:=Cp j B;obtain⟨E,w⟩:=k.Hr;have x:E=u:=by
    cases T with
    |nil=>exact absurd rfl k.ne
    |cons t T=>
     rw[A]at j;simp only[auL,avw,im D,aur]at j;have l:=mV w;simp at l;rw[l,<-j.1]
   subst x;have:=w.symm.trans q.1;simp only[aur,avw]at this;exact C this.2.symm
  ·subst C
   rw[auo d5];have O:run [u] T=some [y]:=q.1;refine⟨_,rfl,?_⟩;rw[avn,a3,a1,q.2.1];have ab:y=u\/True:=.inr trivial;constructor
   ·intro he
    refine⟨c,T,j,?_⟩;have Z:∀(b:Do Tk) (s z:a_),s≠[]->run s b=some z->z.getLast?=s.getLast?:=λb=>by
     induction b with
     |nil=>intro s z _ h;have:s=z:=by simpa[run]using h
           rw[this]
     |cons t b ih=>
      intro s z hs h;obtain⟨y,l,V⟩:=eM.1 h;rw[ih y z (XZ l).2 V];obtain⟨r,G,W⟩:=iw l;rcases W with⟨_,rfl⟩|⟨_,r',n,rfl⟩|⟨_,_,rfl⟩
      ·rfl
      ·rw[G,n,axZ]
      ·rw[G,axZ]
    have H:=Z T [u] [y] d5 O;simp at H;subst H;exact((Gp p).1 ⟨O,by simpa using q.2.2,by simp at he;omega⟩).1
   ·rintro⟨_,S,B,k⟩
    obtain rfl:=Cp j B;obtain⟨E,w⟩:=k.Hr;have x:E=u:=by
     cases T with
     |nil=>exact absurd rfl k.ne
     |cons t T=>
      rw[A]at j;simp only[auL,avw,im D,aur]at j;have l:=mV w;simp at l;rw[l,<-j.1]
    subst x;have:=((Gp p).2 ⟨k,w⟩).2.2;simp;omega
def mW.C0{n:Nat}{a b:aX}(h:mW n (a++b)):mW n (b++a):=by
 obtain⟨T,c,i⟩:=h;rw[avh]at c;obtain⟨S1,d,e,f,g⟩:=List.append_eq_map_iff.1 c;subst e;exact⟨d++S1,by rw[avh,avh,<-f,<-g],i.C0⟩
def Be{l:aX}:mW a (Proofs.YtglncfdpdaageaaGreatDoor.C0 l c)↔mW a l:=by
 have e:l.take c++l.drop c=l:=awf c l;constructor
 ·intro h
  have:=mW.C0 h;rwa[e]at this
 ·intro h
  rw[<-e]at h;exact h.C0
def ko(r:aX):Int:=r.headD 0
def ajl(n:Nat)(a:Int)(r:aX):Prop:=r≠[]/\a<ko r/\fe r/\nu r=ko r/\mW n r
def zP(n:Nat):Int->bP->Prop
 |_,[]=>True
 |last,r::a=>ajl n last r/\zP n (ko r) a
def vt(n:Nat)(r:aX):aX:=r.filter λt=>decide (t<(n:Int))
def rA(n:Nat)(a:bP):aX:=a.flatMap (vt n)
structure cn(n:Nat)(rs:bP):Prop where
 lo:1<=n
 hi:n<=64
 rg:zP n (-1) rs
 nd:(rA n rs).Nodup
 all:∀v:Nat,v<n->(v:Int)∈rA n rs
def zQ(h:b≠[]):b[0]? =some (ko b):=by
 cases b with
 |nil=>exact absurd rfl h
 |cons x b=>rfl
def DW{α:Type} [BEq α] [LawfulBEq α]:∀{A B:Do α},A.Nodup->(∀x∈A,x∈B)->A.length<=B.length
 |[],B,_,_=>by simp
 |a::A,B,i,d=>by
  have g:a∈B:=d a d5;have c:=azf g;have b:=avD.1 i;have h:=c.length_eq;have j:A.length<=(B.erase a).length:=DW b.2 λx f=>by
   have:=c.mem_iff.1 (d x (by simp[f]));rcases auT.1 this with e|e
   ·exact absurd (e▸f) b.1
   ·exact e
  simp at h⊢;omega
def Qh{n:Nat}:∀{b:bP} {c:Int},zP n c b->∀r∈b,∃l,ajl n l r
 |[],_,_,r,a=>by cases a
 |x::b,c,h,r,a=>by
  rcases auT.1 a with rfl|a
  ·exact⟨_,h.1⟩
  ·exact Qh h.2 r a
def afS(h:fe b)(c:d∈vt a b):d∈b/\0<=d/\d<a:=by
 unfold vt at c;simp only[awi,avn]at c;exact⟨c.1,(h.2.1 d c.1).1,c.2⟩
def afT(h:zP a d e)(b:y∈rA a e):∃r∈e,y∈r/\0<=y/\y<a:=by
 obtain⟨r,c,b⟩:=avI.1 b;obtain⟨l,f⟩:=Qh h r c;exact⟨r,c,afS f.2.2.1 b⟩
def Bf(h:mW c b):vt c b≠[]:=by
 obtain⟨T,f,d⟩:=h;cases T with
 |nil=>exact absurd rfl d.ne
 |cons t T=>
  have:=d.own t d5;have e:some (t.1,t.1)∈b.map (dk c):=by rw[f];exact auD.2 ⟨_,this,rfl⟩
  obtain⟨y,g,i⟩:=auD.1 e;have j:=DU i;refine List.ne_nil_of_mem (a:=y) ?_;unfold vt;simp only[awi,avn];exact⟨g,bv⟩
def X0{n:Nat}:∀{a:bP} {b:Int},zP n b a->a.length<=(rA n a).length
 |[],_,_=>by simp
 |r::a,b,h=>by
  have:=X0 h.2;have c:=av8.2 (Bf h.1.2.2.2.2);unfold rA at this⊢;rw[au1,auE,auP];omega
def afU(h:zP a d e)(b:(rA a e).Nodup):(rA a e).length<=a:=by
 have:=DW (B:=(List.range a).map λv:Nat=>(v:Int)) b λx c=>by
  obtain⟨r,_,_,f,g⟩:=afT h c;exact auD.2 ⟨x.toNat,avr.2 bv,bv⟩
 simpa using this
def Cq(n:Nat):((List.range n).map λv:Nat=>(v:Int)).Nodup:=by
 refine List.Pairwise.map _ ?_ ayO;intro a b h e;exact h bv
def X1(h:zP a d e)(f:(rA a e).Nodup):(∀v:Nat,v<a->(v:Int)∈rA a e)↔(rA a e).length=a:=by
 have m:=afU h f;constructor
 ·intro g
  have:=DW (A:=(List.range a).map λv:Nat=>(v:Int)) (B:=rA a e) (Cq a) λx c=>by
   obtain⟨v,b,rfl⟩:=auD.1 c;exact g v (avr.1 b)
  simp at this;omega
 ·intro i v b
  have j:=nS (B:=(List.range a).map λv:Nat=>(v:Int)) f (λx c=>by
   obtain⟨r,_,_,k,l⟩:=afT h c;exact auD.2 ⟨x.toNat,avr.2 bv,bv⟩) (by simp[i])
  exact j.mem_iff.1 (auD.2 ⟨v,avr.2 b,rfl⟩)
def Mv(n:Nat)(seen:aX)(a:bh):Prop:=∀v:Int,v<n->(bO (.i .i64) a v).getD 0=if v∈seen then 1 else 0
def Mv.asP{seen:aX}(h:Mv a seen o)(g:d<a)(f:d∉seen):Mv a (seen++[d]) (dW (.i .i64) o d (wrap .i64 ((bO (.i .i64) o d).getD 0+1))):=λv i=>by
 have b:=h d g;rw[aun f]at b;rw[qJ,b];by_cases e:d=v
 ·subst e
  rw[auo rfl,auo d5];rfl
 ·rw[aun e,h v i]
  have:v∈seen++[d]↔v∈seen:=by simp only[auC,auN];exact⟨λh=>h.resolve_right λc=>e c.symm,.inl⟩
  simp only[this]
def Mv.arc{seen:aX}(h:Mv a seen o)(c:¬d<a)(x:Int):Mv a seen (dW (.i .i64) o d x):=λv b=>by
 rw[qJ,aun bv];exact h v b
def zT(n:Nat)(t:Int)(r:aX):vt n (t::r)=if t<(n:Int)then t::vt n r else vt n r:=by
 unfold vt;by_cases c:t<(n:Int)<;>simp[awx,c]
def tH(N:Nat){n:Nat}{r:aX}(u:r.length<=1000)(g a b:Int)(j l:bP):∀(m k:Nat) (seen:aX) (f:bh),r.length - k<m->k<=r.length->seen.Nodup->Mv n seen f->
 ∃o,sF N m (g,j,a,b,r,(r.length:Int),(k:Int),(n:Int),l,f)=some o/\((o=.inr false/\¬(seen++vt n (r.drop k)).Nodup)\/
  ∃z,o=.inl (g,j,a,b,(n:Int),l,z)/\(seen++vt n (r.drop k)).Nodup/\Mv n (seen++vt n (r.drop k)) z)
 |0,k,seen,f,h,_,_,_=>absurd h bv
 |m+1,k,seen,f,D,C,p,d=>by
  rw[SC,cd];by_cases q:k<r.length
  rotate_left
  ·rw[aun bv,avj bv]
   exact⟨_,rfl,.inr ⟨f,rfl,by simpa[vt]using p,by simpa[vt]using d⟩⟩
  rw[auo bv];obtain⟨t,v⟩:=get_at (xs:=r) (i:=k) q;rw[bd v,ob,cG bv,cd,dh v,zT];by_cases c:t<(n:Int)
  ·rw[auo c,auo c,d t c,cd]
   by_cases fC:t∈seen
   ·simp only[auo fC,auo (show(0:Int)<1 by decide)]
    exact⟨_,rfl,.inl ⟨rfl,λh=>(avk.1 h).2.2 t fC t d5 rfl⟩⟩
   ·simp only[aun fC,aun (show¬(0:Int)<0 by decide)]
    have s:=d.asP c fC;rw[d t c,aun fC]at s;obtain⟨o,A,h⟩:=tH N u g a b j l m (k+1) (seen++[t]) _ bv bv (avk.2 ⟨p,d5,λx B y w e=>fC (by simp at w;rw[<-w,<-e];exact B)⟩) s;refine⟨o,A,?_⟩;rw[auV]at h;exact h
  ·rw[aun c,aun c]
   exact tH N u g a b j l m (k+1) seen _ bv bv p (d.arc c _)
def Ly(h:b≠[])(a:nu b=ko b):∀x∈b,ko b<=x:=λx c=>by
 rw[<-a];exact(nR h).2 x c
def Cr(N:Nat)(C:Fu+6<=N){n:Nat}(z:1<=n)(A:n<=64){a:bP}(M:a.length<=9223372036854775807)(E:∀r∈a,r.length<=9223372036854775807):∀(m i:Nat) (c:Int) (seen:aX) (k:bh),a.length - i<m->i<=a.length->seen.Nodup->Mv n seen k->
 ∃o,x7 N m (c,a,(a.length:Int),(i:Int),(n:Int),a,k)=some o/\((o=.inr false/\¬(zP n c (a.drop i)/\(seen++rA n (a.drop i)).Nodup))\/
  ∃f,o=.inl ((n:Int),a,f)/\zP n c (a.drop i)/\(seen++rA n (a.drop i)).Nodup/\Mv n (seen++rA n (a.drop i)) f)
 |0,i,c,seen,k,h,_,_,_=>absurd h bv
 |m+1,i,c,seen,k,V,S,G,F=>by
  rw[SD,cd];by_cases q:i<a.length
  rotate_left
  ·rw[aun bv,avj bv]
   exact⟨_,rfl,.inr ⟨k,rfl,trivial,by simpa[rA]using G,by simpa[rA]using F⟩⟩
  rw[auo bv];obtain⟨r,v⟩:=get_at (xs:=a) (i:=i) q;have W:=E r (auI v);rw[bd v,ob,dh v,cd];have l:¬ajl n c r->∃o,(some (.inr false):At ((Int×bP×bh)⊕In))=some o/\((o=.inr false/\¬(zP n c (r::a.drop (i+1))/\(seen++rA n (r::a.drop (i+1))).Nodup))\/
   ∃f,o=.inl ((n:Int),a,f)/\zP n c (r::a.drop (i+1))/\(seen++rA n (r::a.drop (i+1))).Nodup/\Mv n (seen++rA n (r::a.drop (i+1))) f):=λh=>⟨_,rfl,.inl ⟨rfl,λd=>h d.1.1⟩⟩
  by_cases e:r=[]
  ·subst e
   rw[auo (show(((([]:aX).length):Nat):Int)=0 from rfl)];exact l λh=>h.1 rfl
  have U:=av8.2 e;rw[aun bv];have P:ba r (0:Int)=some (ko r):=bd (i:=0) (zQ e);simp only[P,ob,cd,Hq];by_cases u:ko r<=c
  ·rw[auo u]
   exact l λh=>by have:=h.2.1;omega
  rw[aun u,Ln N bv r bv,ob];by_cases b:fe r
  rotate_left
  ·rw[auW b]
   exact l λh=>b h.2.2.1
  rw[auU b];simp only[auH,auv];rw[min_eq N bv r b.1 e,ob];by_cases p:nu r=ko r
  rotate_left
  ·rw[aun p]
   exact l λh=>p h.2.2.2.1
  rw[auo p];obtain⟨x,t,w⟩:∃x t,r=x::t:=by
   cases r with
   |nil=>exact absurd rfl e
   |cons x t=>exact⟨x,t,rfl⟩
  have X:ko r=x:=by rw[w];rfl
  obtain⟨g,K,L⟩:=ajk (N:=N) bv z A b.1 b.2.2 w;rw[K,ob];have D:g=true↔mW n r:=by
   rw[L];constructor
   ·exactλh=>h.2
   ·intro h
    refine⟨?_,h⟩;obtain⟨y,Q⟩:=axh _ (Bf h);have d:=afS b Q;have B:=Ly e p y d.1;have j:=(b.2.1 x (by rw[w];simp)).1;omega
  cases g with
  |false=>
   exact l λh=>by
    have:=D.2 h.2.2.2.2;cases this
  |true=>
   have O:¬(ko r<=c)->ajl n c r:=λh=>⟨e,bv,b,p,D.1 rfl⟩;simp only[auH,auv];obtain⟨o,s,d⟩:=tH N (n:=n) b.1 (ko r) ((a.length:Nat):Int) (i:Int) a a N 0 seen k (by rw[bR]at C;have:=b.1;omega) bv G F;rw[show((0:Nat):Int)=(0:Int)from rfl]at s;rw[s,ob];rw[ave]at d;rcases d with⟨rfl,d⟩|⟨f,rfl,d,B⟩
   ·refine⟨_,rfl,.inl ⟨rfl,λh=>d ?_⟩⟩
    have:=h.2;unfold rA at this;rw[au1,<-auV]at this;exact(avk.1 this).1
   ·simp only
    rw[cG bv];obtain⟨o,s,j⟩:=Cr N C z A M E m (i+1) (ko r) (seen++vt n r) f bv bv d B;refine⟨o,s,?_⟩;have H:seen++rA n (r::a.drop (i+1))=seen++vt n r++rA n (a.drop (i+1)):=by
     unfold rA;rw[au1,auV]
    rw[H];rcases j with⟨rfl,j⟩|⟨R,rfl,j,I,J⟩
    ·exact .inl ⟨rfl,λh=>j ⟨h.1.2,h.2⟩⟩
    ·exact .inr ⟨R,rfl,⟨O u,j⟩,I,J⟩
def Cs(N:Nat){n:Nat}(f:n<=64){seen:aX}{d:bh}(c:Mv n seen d):∀(m v:Nat),n - v<m->v<=n->
 ∃o,x6 N m ((n:Int),(v:Int),d)=some o/\((o=.inr false/\¬∀w:Nat,v<=w->w<n->(w:Int)∈seen)\/(o=.inl ()/\∀w:Nat,v<=w->w<n->(w:Int)∈seen))
 |0,v,h,_=>absurd h bv
 |m+1,v,i,j=>by
  rw[SB,cd];by_cases q:v<n
  rotate_left
  ·rw[aun bv]
   exact⟨_,rfl,.inr ⟨rfl,λw a b=>by omega⟩⟩
  rw[auo bv,c v bv,cd,cG bv];by_cases fC:(v:Int)∈seen
  ·simp only[auo fC,aun (show¬(1:Int)=0 by decide)]
   obtain⟨o,g,a⟩:=Cs N f c m (v+1) bv bv;refine⟨o,g,?_⟩;have e:(∀w:Nat,v<=w->w<n->(w:Int)∈seen)↔∀w:Nat,v+1<=w->w<n->(w:Int)∈seen:=by
    constructor
    ·exactλh w a b=>h w bv b
    ·intro h w a b
     by_cases e:w=v
     ·subst e;exact fC
     ·exact h w bv b
   rw[e];exact a
  ·simp only[aun fC,auo (show(0:Int)=0 from rfl)]
   exact⟨_,rfl,.inl ⟨rfl,λh=>fC (h v bv q)⟩⟩
def uL(i:Fu+7<=a)(f:Int){rs:bP}(l:rs.length<=9223372036854775807)(m:∀r∈rs,r.length<=9223372036854775807):∃b,sG a (f,rs)=some b/\(b=true↔0<=f/\cn f.toNat rs):=by
 obtain⟨a,rfl⟩:∃M,a=M+1:=⟨a - 1,bv⟩;rw[Zy,zM bv,ob];by_cases c:1<=f/\f<=64
 rotate_left
 ·rw[auW c]
  exact⟨false,rfl,by simp only[av4,aw0];rintro⟨s,h⟩;exact c ⟨by have:=h.lo;omega,by have:=h.hi;omega⟩⟩
 rw[auU c];obtain⟨n,rfl⟩:∃n:Nat,f=n:=⟨f.toNat,bv⟩;simp only[auH,auv,auB];obtain⟨o,g,d⟩:=Cr a bv (n:=n) bv bv l m a 0 (-1) [] [] (by rw[bR]at i;omega) bv d5 (λv _=>by simp[bO]);rw[show((0:Nat):Int)=(0:Int)from rfl]at g;rw[g,ob];rw[ave,avd]at d;rcases d with⟨rfl,d⟩|⟨t,rfl,d,j,k⟩
 ·exact⟨false,rfl,by simp only[av4,aw0];rintro⟨_,h⟩;exact d ⟨h.rg,h.nd⟩⟩
 ·simp only
  obtain⟨o,g,e⟩:=Cs a (n:=n) bv k a 0 (by rw[bR]at i;omega) bv;rw[show((0:Nat):Int)=(0:Int)from rfl]at g;rw[g,ob];rcases e with⟨rfl,e⟩|⟨rfl,e⟩
  ·exact⟨false,rfl,by simp only[av4,aw0];rintro⟨_,h⟩;exact e λw _ q=>h.all w q⟩
  ·exact⟨true,rfl,by simp only[true_iff];exact⟨bv,bv,bv,d,j,λv p=>e v bv p⟩⟩
def Tb(h:fe b)(a:b≠[]):di b=b↔nu b=ko b:=by
 rw[fS h a];have d:=(nR a).1;constructor
 ·intro e
  have:=tB d;rw[e,zQ a]at this;exact(aut this).symm
 ·intro e
  have c:ix b (nu b)=0:=akZ h.2.2 (by rw[e];exact zQ a);unfold ej;rw[c];simp[C0]
def Body(n:Nat)(r:aX):Prop:=r≠[]/\fe r/\nu r=ko r/\mW n r
def zU(h:b≠[]):ko b∈b:=auI (zQ h)
def zV{n:Nat}:∀{c:bP} {e:Int},zP n e c↔(∀r∈c,Body n r)/\c.Pairwise (λa b=>ko a<ko b)/\∀r∈c,e<ko r
 |[],e=>by simp[zP]
 |r::c,e=>by
  rw[zP,zV];simp only[axx,av9];constructor
  ·rintro⟨⟨f,g,h,i,j⟩,k,l,d⟩
   exact⟨⟨⟨f,h,i,j⟩,k⟩,⟨d,l⟩,g,λx m=>by have:=d x m;omega⟩
  ·rintro⟨⟨⟨f,h,i,j⟩,k⟩,⟨d,l⟩,g,o⟩
   exact⟨⟨f,g,h,i,j⟩,k,l,d⟩
def cn.body(h:cn a e):∀r∈e,Body a r:=(zV.1 h.rg).1
def cn.srt(h:cn a e):e.Pairwise λc b=>ko c<ko b:=(zV.1 h.rg).2.1
def cn.of(f:1<=a)(g:a<=64)(d:∀r∈e,Body a r)(j:e.Pairwise λc b=>ko c<ko b)(i:(rA a e).Nodup)(h:∀v:Nat,v<a->(v:Int)∈rA a e):cn a e:=
 ⟨f,g,zV.2 ⟨d,j,λr k=>by
  have:=d r k;have:=(this.2.1.2.1 _ (zU this.1)).1;omega⟩,i,h⟩
def Body.head(h:Body a b):0<=ko b/\ko b<a:=by
 have e:=(h.2.1.2.1 _ (zU h.1)).1;obtain⟨y,d⟩:=axh _ (Bf h.2.2.2);have c:=afS h.2.1 d;have f:=Ly h.1 h.2.2.1 y c.1;omega
def Body.qO(h:Body a b):ko b∈vt a b:=by
 unfold vt;simp only[awi,avn];exact⟨zU h.1,h.head.2⟩
def jg(d:c<a):(c:Int)∈vt a b↔(c:Int)∈b:=by
 unfold vt;simp only[awi,avn];exact⟨λh=>h.1,λh=>⟨h,bv⟩⟩
def Bg{α β:Type}{f:α->Do β}:∀{g:Do α},(g.flatMap f).Nodup->∀{i j:Nat} {a b:α} {x:β},g[i]? =some a->g[j]? =some b->x∈f a->x∈f b->i=j
 |[],_,i,j,a,b,x,c,_,_,_=>by simp at c
 |r::g,e,i,j,a,b,x,c,d,h,k=>by
  rw[au1,avk]at e;cases i with
  |zero=>
   cases j with
   |zero=>rfl
   |succ j=>
    simp only[axV,aur,av_]at c d;subst c;exact absurd rfl (e.2.2 x h x (avI.2 ⟨b,auI d,k⟩))
  |succ i=>
   cases j with
   |zero=>
    simp only[axV,aur,av_]at c d;subst d;exact absurd rfl (e.2.2 x k x (avI.2 ⟨a,auI c,h⟩))
   |succ j=>
    simp only[av_]at c d;rw[Bg e.2.1 c d h k]
def lE:bP->Int->Nat
 |[],_=>0
 |r::a,v=>if v∈r then 0 else lE a v+1
def X2:∀{rs:bP} {v:Int},lE rs v<rs.length->∃r,rs[lE rs v]? =some r/\v∈r
 |[],v,h=>by simp at h
 |r::rs,v,h=>by
  rw[lE];split
  ·rename_i c;exact⟨r,rfl,c⟩
  ·rename_i c
   rw[lE,aun c]at h;simp only[auP]at h;obtain⟨d,a,b⟩:=X2 (rs:=rs) (v:=v) bv;exact⟨d,by rw[av_];exact a,b⟩
def afV:∀{a:bP} {v:Int} {r:aX},r∈a->v∈r->lE a v<a.length
 |x::a,v,r,h,b=>by
  rw[lE,auP];split
  ·omega
  ·rename_i c
   rcases auT.1 h with rfl|h
   ·exact absurd b c
   ·have:=afV h b
    omega
def dS(a:bP)(v:Nat):aX:=a.getD (lE a (v:Int)) []
def wY(a:bP)(v:Nat):Nat:=(ko (dS a v)).toNat
def cn.ring(h:cn a e)(g:c<a):e[lE e (c:Int)]? =some (dS e c)/\(c:Int)∈dS e c/\dS e c∈e/\lE e (c:Int)<e.length:=by
 obtain⟨r,j,k⟩:=avI.1 (h.all c g);have f:=afV j ((jg g).1 k);obtain⟨l,d,i⟩:=X2 f;have b:dS e c=l:=by unfold dS;rw[avQ,d];rfl
 rw[b];exact⟨d,i,auI d,f⟩
def cn.uniq(h:cn a e)(i:c<a)(g:e[k]? =some b)(j:(c:Int)∈b):k=lE e (c:Int)/\b=dS e c:=by
 have d:=h.ring i;have:=Bg (f:=vt a) h.nd g d.1 ((jg i).2 j) ((jg i).2 d.2.1);refine⟨this,?_⟩;rw[this,d.1]at g;exact(aut g).symm
def cn.lv(h:cn a e)(j:c<a)(d:b∈e)(g:(c:Int)∈b):ko b=(wY e c:Int)/\wY e c<a:=by
 obtain⟨i,f⟩:=axY d;have:=(h.uniq j f g).2;have k:=(h.body b d).head;unfold wY;rw[<-this];omega
def cn.ak1(h:cn a e)(b:c<a):wY e c<a:=(h.lv b (h.ring b).2.2.1 (h.ring b).2.1).2
def cn.same{n:Nat}(h:cn n e)(j:a<n)(k:c<n):lE e (a:Int)=lE e (c:Int)↔wY e a=wY e c:=by
 have d:=h.ring j;have g:=h.ring k;have l:=(h.lv j d.2.2.1 d.2.1).1;have i:=(h.lv k g.2.2.1 g.2.1).1;constructor
 ·intro b
  rw[b,g.1]at d;have:=aut d.1;rw[this]at i;omega
 ·intro b
  have m:=h.body _ d.2.2.1;have o:=h.body _ g.2.2.1;refine Bg (f:=vt n) h.nd d.1 g.1 m.qO ?_;rw[l,b,<-i];exact o.qO
def afW(h:mW a b):b.length+2=3*(vt a b).length:=by
 obtain⟨T,f,l⟩:=h;have i:=l.len;have j:b.length=T.length:=by simpa using auA List.length f
 have k:∀(b:aX) (T:Do Tk),b.map (dk a)=T.map some->(vt a b).length=(eZ T).length:=λb=>by
  induction b with
  |nil=>intro T f;cases T<;>simp[vt,eZ]at f⊢
  |cons x b m=>
   intro T f;cases T with
   |nil=>simp at f
   |cons t T=>
    simp only[auL,avw]at f;have:=m T f.2;rw[zT,jf];obtain⟨d,e⟩:=t;have g:=zL f.1;unfold ek at g;by_cases c:d=e
    ·subst c
     simp only[au2]at g;rw[auo bv,auo rfl];simp[this]
    ·simp only[c,avf]at g
     have:a*1<=a*(d+1):=awg a bv;rw[aun bv,aun c];assumption
 rw[j,k b T f];exact i
def X3(h:b.Perm m):(vt a b).Perm (vt a m):=h.filter _
def zW{n:Nat}{a b:bP}(h:a.Perm b):(rA n a).Perm (rA n b):=h.flatMap_right _
def pB(n:Nat)(u v:Nat)(a b:aX):aX:=[(u:Int),ek n (u,v)]++ej b (v:Int)++[ek n (v,u)]++(ej a (u:Int)).drop 1
def Lz(h:c≠k)(f:c<a)(g:k<a):(a:Int)<=ek a (c,k)/\ek a (c,k)<=10000\/64<a:=by
 by_cases b:64<a
 ·exact .inr b
 ·refine .inl ?_
  unfold ek;simp only[h,avf];have d:a*1<=a*(c+1):=awg a bv;have e:a*(c+1)<=64*64:=avZ bv bv;omega
def mX(h:d∈b):ej b d=d::(ej b d).drop 1:=by
 have:=tB h;cases a:ej b d with
 |nil=>rw[a]at this;simp at this
 |cons x l=>rw[a]at this;simp at this;rw[this];rfl
def wZ(a:aX)(u:Int):(ej a u).Perm a:=zG _ _
def Gs{n u v:Nat}{a b:aX}(f:(u:Int)∈a):(pB n u v a b).Perm (ek n (u,v)::ek n (v,u)::(a++b)):=by
 unfold pB;have c:([(u:Int),ek n (u,v)]++ej b (v:Int)++[ek n (v,u)]++(ej a (u:Int)).drop 1).Perm (ek n (u,v)::ek n (v,u)::((u:Int)::(ej a (u:Int)).drop 1++ej b (v:Int))):=by
  have d:[(u:Int),ek n (u,v)]++ej b (v:Int)++[ek n (v,u)]++(ej a (u:Int)).drop 1=(u:Int)::ek n (u,v)::(ej b (v:Int)++ek n (v,u)::(ej a (u:Int)).drop 1):=d5
  rw[d];refine(List.Perm.swap _ _ _).trans (List.Perm.cons _ ?_);have e:(ej b (v:Int)++ek n (v,u)::(ej a (u:Int)).drop 1).Perm (ek n (v,u)::((ej a (u:Int)).drop 1++ej b (v:Int))):=by
   have:= @axu _ (ej b (v:Int)) (ek n (v,u)::(ej a (u:Int)).drop 1);simpa using this
  exact(e.cons (u:Int)).trans (List.Perm.swap _ _ _)
 rw[<-mX f]at c;exact c.trans (((((wZ a u).append (wZ b v))).cons _).cons _)
def Qi{T:Do Tk}(d:b.map (dk a)=T.map some)(e:c<a):(c:Int)∈b↔(c,c)∈T:=by
 constructor
 ·intro h
  have:dk a (c:Int)∈T.map some:=by rw[<-d];exact auD.2 ⟨_,h,rfl⟩
  rw[im e]at this;simpa using this
 ·intro h
  have:some (c,c)∈b.map (dk a):=by rw[d];exact auD.2 ⟨_,h,rfl⟩
  obtain⟨y,f,g⟩:=auD.1 this;rw[<-(DU g).1];exact f
def Gt(f:c<a)(n:k<a)(A:Body a b)(B:Body a m)(l:(c:Int)∈b)(q:(k:Int)∈m)(p:∀x∈vt a b,x∉vt a m):mW a (pB a c k b m):=by
 have H:c≠k:=λe=>by subst e;exact p _ ((jg f).2 l) ((jg f).2 q)
 have s:mW a (ej b (c:Int)):=Be.2 A.2.2.2;have u:mW a (ej m (k:Int)):=Be.2 B.2.2.2;obtain⟨TA,d,v⟩:=s;obtain⟨j,g,w⟩:=u;rw[mX l]at d;have o:=g;rw[mX q]at g;obtain⟨TA,rfl⟩:∃T,TA=(c,c)::T:=by
  cases TA with
  |nil=>simp at d
  |cons t T=>
   simp only[auL,avw,im f,aur]at d;exact⟨T,by rw[d.1]⟩
 obtain⟨j,rfl⟩:∃T,j=(k,k)::T:=by
  cases j with
  |nil=>simp at g
  |cons t T=>
   simp only[auL,avw,im n,aur]at g;exact⟨T,by rw[g.1]⟩
 have C:∀{r:aX} {T:Do Tk},r.map (dk a)=T.map some->∀x,(x,x)∈T->x<a:=λ{r T} z x h=>by
  have:some (x,x)∈r.map (dk a):=by rw[z];exact auD.2 ⟨_,h,rfl⟩
  obtain⟨y,_,E⟩:=auD.1 this;exact(DU E).2
 refine⟨_,?_,v.link w λx h D=>?_⟩
 ·unfold pB
  simp only[auL,avw]at d;simp only[avh,auL,avy,im f,afO (e:=(c,k)) f n,afO (e:=(k,c)) n f,o,d.2,avH,avd,auV]
 ·have i:=C d x h
  rw[<-mX l]at d;have F:=Jq.1 ((Qi d i).2 h);have G:=Jq.1 ((Qi o i).2 D);exact p _ ((jg i).2 F) ((jg i).2 G)
def Qj{d b:aX}(m:a<=64)(f:c<a)(h:k<a)(g:c≠k)(i:(c:Int)∈d):(vt a (pB a c k d b)).Perm (vt a d++vt a b):=by
 refine(X3 (Gs i)).trans ?_;have j:=Lz g f h;have l:=Lz (λe=>g e.symm) h f;rw[zT,zT,aun bv,aun bv];unfold vt;rw[awL]
def aqr{e:Tk}(h:dk a d=some e)(i:a<=64):0<=d/\d<=10000:=by
 have g:=zL h;obtain⟨f,b⟩:=e;unfold ek at g;by_cases c:f=b
 ·subst c
  simp only[au2]at g;omega
 ·simp only[c,avf]at g
  have j:a*(f+1)<=64*64:=avZ i bv;omega
def Gu(j:a<=64)(d:c<a)(l:k<a)(o:Body a b)(p:Body a m)(g:(c:Int)∈b)(n:(k:Int)∈m)(i:∀x∈vt a b,x∉vt a m)(w:(vt a b).length+(vt a m).length<=a):fe (pB a c k b m):=by
 obtain⟨T,f,h⟩:=Gt d l o p g n i;have u:c≠k:=λe=>by subst e;exact i _ ((jg d).2 g) ((jg d).2 n)
 have v:=afW ⟨T,f,h⟩;have r:=(Qj j d l u g (b:=m)).length_eq;rw[auE]at r;refine⟨bv,λt s=>?_,(Gq f).2 h.nod⟩;have:dk a t∈T.map some:=by rw[<-f];exact auD.2 ⟨t,s,rfl⟩
 obtain⟨e,_,q⟩:=auD.1 this;exact aqr q.symm j
def Gv:bP->aX->bP
 |[],r=>[r]
 |x::l,r=>if ko x<ko r then x::Gv l r else r::x::l
def uM:∀(l:bP) (r:aX),(Gv l r).Perm (r::l)
 |[],r=>ax0 _
 |x::l,r=>by
  rw[Gv];split
  ·exact((uM l r).cons x).trans (List.Perm.swap _ _ _)
  ·exact ax0 _
def Qk:∀{l:bP} {r:aX},l.Pairwise (λa b=>ko a<ko b)->(∀x∈l,ko x≠ko r)->(Gv l r).Pairwise λa b=>ko a<ko b
 |[],r,_,_=>by simp[Gv]
 |x::l,r,g,f=>by
  rw[Gv];have e:=av9.1 g;split
  ·rename_i c
   refine av9.2 ⟨λy d=>?_,Qk e.2 λy d=>f y (by simp[d])⟩;have:=(uM l r).mem_iff.1 d;rcases auT.1 this with rfl|h
   ·exact c
   ·exact e.1 y h
  ·rename_i c
   have i:=f x d5;refine av9.2 ⟨λy d=>?_,g⟩;rcases auT.1 d with rfl|h
   ·omega
   ·have:=e.1 y h
    omega
def kQ{α:Type}:∀{l:Do α} {i:Nat} {x:α},l[i]? =some x->l.Perm (x::l.eraseIdx i)
 |[],i,x,h=>by simp at h
 |y::l,0,x,h=>by
  simp at h;subst h;exact ax0 _
 |y::l,i+1,x,h=>by
  rw[av_]at h;rw[List.eraseIdx_cons_succ];exact((kQ h).cons y).trans (List.Perm.swap _ _ _)
def Ql{l:Do g}(h:c<a):(l.eraseIdx a)[c]? =l[c]? :=by
 rw[List.getElem?_eraseIdx,auo h]
def Jt(a:bP)(i j:Nat):bP:=(a.eraseIdx (max i j)).eraseIdx (min i j)
def w8(g:e[a]? =some b)(i:e[c]? =some m)(j:a≠c):e.Perm (b::m::Jt e a c):=by
 unfold Jt;rcases awT a c with h|h
 ·rw[ayL bv,avJ bv]
  have d:=kQ i;have f:=kQ (l:=e.eraseIdx c) (i:=a) (x:=b) (by rw[Ql h];exact g);exact(d.trans (f.cons m)).trans (List.Perm.swap _ _ _)
 ·rw[ayM bv,axw bv]
  have d:=kQ g;have f:=kQ (l:=e.eraseIdx a) (i:=c) (x:=m) (by rw[Ql bv];exact i);exact d.trans (f.cons b)
def aaF(a:bP)(i j:Nat):(Jt a i j).Sublist a:=(ayP _ _).trans (ayP _ _)
def pG(n:Nat)(a:bP)(u v:Nat):bP:=Gv (Jt a (lE a (u:Int)) (lE a (v:Int))) (di (pB n u v (dS a u) (dS a v)))
def afX(h:fe b)(a:b≠[]):ko (di b)=nu b:=by
 rw[fS h a];have:=tB (nR a).1;cases c:ej b (nu b)with
 |nil=>rw[c]at this;simp at this
 |cons x r=>rw[c]at this;simp at this;rw[<-this];rfl
def Tc(h:fe b)(a:b≠[]):(di b).Perm b:=by
 rw[fS h a];exact wZ _ _
def X4(h:cn a e)(s:k<a)(t:C<a)(O:lE e (k:Int)≠lE e (C:Int)):
 cn a (pG a e k C)/\(∀x,x<a->wY (pG a e k C) x=jn (wY e) k C x)/\(pG a e k C).length+1=e.length:=by
 have u:=h.ring s;have z:=h.ring t;have Z:=h.hi;have o:=h.body _ u.2.2.1;have p:=h.body _ z.2.2.1;have m:=w8 u.1 z.1 O;generalize a0:Jt e (lE e (k:Int)) (lE e (C:Int))=i at m;have P:i.Sublist e:=a0▸aaF _ _ _;generalize ha:dS e k=d at u o m;generalize hb:dS e C=b at z p m;have G:=zW (n:=a) m;have a8:(rA a (d::b::i)).Nodup:=G.nodup_iff.1 h.nd;have N:=a8;unfold rA at N;rw[au1,au1]at N;have F:=avk.1 N;have S:=avk.1 F.2.1;have Y:∀x∈vt a d,x∉vt a b:=λx g E=>F.2.2 x g x (by simp[E]) rfl;have Q:k≠C:=λf=>O (by rw[f]);have a4:=(X1 h.rg h.nd).1 h.all;have a6:(vt a d).length+(vt a b).length<=a:=by
  have:=G.length_eq;unfold rA at this a4;rw[au1,au1,auE,auE]at this;omega
 have U:=Gt s t o p u.2.1 z.2.1 Y;have v:=Gu Z s t o p u.2.1 z.2.1 Y a6;have V:=Qj (b:=b) Z s t Q u.2.1;have H:=Gs (n:=a) (v:=C) (b:=b) u.2.1;have B:pB a k C d b≠[]:=by unfold pB;simp
 have a5:pG a e k C=Gv i (di (pB a k C d b)):=by
  unfold pG;rw[a0,ha,hb]
 rw[a5];generalize pB a k C d b=J at U v V H B;have I:=Tc v B;have W:di J≠[]:=λf=>B (by rw[f]at I;exact I.symm.eq_nil);have X:Body a (di J):=by
  have j:=S8 v;refine⟨W,j,(Tb j W).1 (P5 v),?_⟩;rw[fS v B];exact Be.2 U
 have K:(vt a (di J)).Perm (vt a d++vt a b):=(X3 I).trans V;have D:=uM i (di J);have a1:(rA a (Gv i (di J))).Perm (rA a e):=by
  refine(zW D).trans (List.Perm.trans ?_ G.symm);unfold rA;rw[au1,au1,au1,<-auV];exact K.append_right _
 have M:∀r∈i,Body a r:=λr j=>h.body r (P.subset j);have ac:ko (di J)=min (ko d) (ko b):=by
  rw[afX v B];refine Bd ?_ λy n=>?_
  ·refine H.mem_iff.2 (avt _ (avt _ (auC.2 ?_)))
   rcases Int.le_total (ko d) (ko b)with c|c
   ·rw[Int.min_eq_left c];exact .inl (zU o.1)
   ·rw[Int.min_eq_right c];exact .inr (zU p.1)
  ·have e1:=Lz Q s t
   have e2:=Lz (λf=>Q f.symm) t s;have ka:=o.head;have kb:=p.head;rcases auT.1 (H.mem_iff.1 n)with rfl|n
   ·omega
   rcases auT.1 n with rfl|n
   ·omega
   rcases auC.1 n with n|n
   ·have:=Ly o.1 o.2.2.1 y n;omega
   ·have:=Ly p.1 p.2.2.1 y n;omega
 have a9:∀x∈i,ko x≠ko (di J):=λx g f=>by
  have A:=(M x g).qO;rw[f]at A;have q:=K.mem_iff.1 X.qO;have R:ko (di J)∈i.flatMap (vt a):=avI.2 ⟨x,g,A⟩;rcases auC.1 q with q|q
  ·exact F.2.2 _ q _ (by simp only[auC];exact .inr R) rfl
  ·exact S.2.2 _ q _ R rfl
 have L:cn a (Gv i (di J)):=cn.of h.lo h.hi (λr j=>by
  rcases auT.1 (D.mem_iff.1 j)with rfl|j
  ·exact X
  ·exact M r j) (Qk (h.srt.sublist P) a9) (a1.nodup_iff.2 h.nd) λw hw=>a1.mem_iff.2 (h.all w hw)
 refine⟨L,λx g=>?_,?_⟩
 ·have cu:=h.lv s (m.mem_iff.2 (by simp:d∈d::b::i)) u.2.1
  have cv:=h.lv t (m.mem_iff.2 (by simp:b∈d::b::i)) z.2.1;have ab:wY e k≠wY e C:=λf=>O ((h.same s t).2 f);have E:=G.mem_iff.1 (h.all x g);unfold rA at E;rw[au1,au1]at E;have a3:(x:Int)∈vt a d\/(x:Int)∈vt a b->wY (Gv i (di J)) x=min (wY e k) (wY e C):=λl=>by
   have a7:(x:Int)∈di J:=(jg g).1 (K.mem_iff.2 (auC.2 l));have:=(L.lv g (D.mem_iff.2 d5) a7).1;omega
  rcases auC.1 E with l|l
  ·have:=(h.lv g (m.mem_iff.2 (by simp:d∈d::b::i)) ((jg g).1 l)).1
   rw[a3 (.inl l)];unfold jn;split<;>omega
  rcases auC.1 l with l|l
  ·have:=(h.lv g (m.mem_iff.2 (by simp:b∈d::b::i)) ((jg g).1 l)).1
   rw[a3 (.inr l)];unfold jn;split<;>omega
  ·obtain⟨r,j,a2⟩:=avI.1 l
   have A:=(h.lv g (P.subset j) ((jg g).1 a2)).1;have q:=(L.lv g (D.mem_iff.2 (avt _ j)) ((jg g).1 a2)).1;have aa:=(M r j).qO;have fC:ko r∈i.flatMap (vt a):=avI.2 ⟨r,j,aa⟩;have n1:ko r≠ko d:=λf=>F.2.2 _ o.qO _ (by simp only[auC];exact .inr fC) f.symm;have n2:ko r≠ko b:=λf=>S.2.2 _ p.qO _ fC f.symm;unfold jn;split
   ·omega
   ·omega
 ·have A:=D.length_eq
  have q:=m.length_eq;simp at A q;omega
def Td(a:bP)(v:Int):Int:=if lE a v<a.length then(lE a v:Int)else -1
def cn.small(h:cn a e):e.length<=a/\∀r∈e,r.length<=1000:=by
 have c:=X0 h.rg;have d:=afU h.rg h.nd;exact⟨bv,λr b=>(h.body r b).2.1.1⟩
def cn.Td(h:cn a e)(b:c<a):Proofs.YtglncfdpdaageaaGreatDoor.Td e (c:Int)=(lE e (c:Int):Int):=auo (h.ring b).2.2.2
def lQ(n:Nat):bP->bI->bP
 |a,[]=>a
 |a,e::l=>lQ n (if lE a (e.1:Int)=lE a (e.2:Int)then a else pG n a e.1 e.2) l
def lR(n:Nat):bP->bI->br
 |_,[]=>[]
 |a,e::l=>(wY a e.1 !=wY a e.2)::lR n (if lE a (e.1:Int)=lE a (e.2:Int)then a else pG n a e.1 e.2) l
def qP:(Nat->Nat)->bI->br
 |_,[]=>[]
 |c,e::l=>(c e.1 !=c e.2)::qP (jn c e.1 e.2) l
def afY{b d:Nat->Nat}(h:∀C,C<a->b C=d C)(e:c<a)(f:k<a)(g:C<a):jn b c k C=jn d c k C:=by
 unfold jn;rw[h c e,h k f,h C g]
def LA(h:cn a e)(f:c<a)(g:k<a):
 cn a (if lE e (c:Int)=lE e (k:Int)then e else pG a e c k)/\(∀x,x<a->wY (if lE e (c:Int)=lE e (k:Int)then e else pG a e c k) x=jn (wY e) c k x)/\
  (if lE e (c:Int)=lE e (k:Int)then e else pG a e c k).length+(if wY e c !=wY e k then 1 else 0)=e.length:=by
 by_cases d:lE e (c:Int)=lE e (k:Int)
 ·rw[auo d]
  have b:=(h.same f g).1 d;exact⟨h,λx i=>by rw[aji b],by simp[b]⟩
 ·rw[aun d]
  have b:wY e c≠wY e k:=λb=>d ((h.same f g).2 b);have:=X4 h f g d;exact⟨this.1,this.2.1,by rw[auo (by simpa using b)];exact this.2.2⟩
def Qm{n:Nat}:∀{l:bI} {d:bP} {c:Nat->Nat},cn n d->Lr n l->(∀x,x<n->wY d x=c x)->lR n d l=qP c l
 |[],_,_,_,_,_=>rfl
 |e::l,d,c,h,g,f=>by
  have a:=g e d5;have i:=LA h a.1 a.2;rw[lR,qP,f _ a.1,f _ a.2];congr 1;exact Qm i.1 (λx b=>g x (by simp[b])) λx b=>by rw[i.2.1 x b,afY f a.1 a.2 b]
def Gw(d a:Nat->Nat):∀l:bI,qP (λx=>d (a x)) l=qP d (l.map λe=>(a e.1,a e.2))
 |[]=>rfl
 |e::l=>by
  have:=Gw (jn d (a e.1) (a e.2)) a l;rw[auL,qP,qP,<-this];rfl
def Qn:∀(l p:bI),qP (Hr p) l=jB p l
 |[],p=>rfl
 |e::l,p=>by
  rw[qP,jB,<-P7,Qn l (p++[e])];rfl
def Ju{n:Nat}:∀{l:bI} {a:bP},cn n a->Lr n l->cn n (lQ n a l)/\(lQ n a l).length+((lR n a l).filter id).length=a.length
 |[],a,h,_=>⟨h,by simp[lQ,lR]⟩
 |e::l,a,h,d=>by
  have f:=d e d5;have g:=LA h f.1 f.2;have i:=Ju (l:=l) g.1 λx j=>d x (by simp[j]);rw[lQ,lR];refine⟨i.1,?_⟩;have k:=i.2;have b:=g.2.2;rw[awx];simp only[id];by_cases c:(wY a e.1 !=wY a e.2)=true
  ·rw[auo c]at b⊢
   simp only[auP];omega
  ·rw[aun c]at b⊢
   omega
def cn.tr(d:Fu+7<=a)(h:cn c e):sG a ((c:Int),e)=some true:=by
 obtain⟨l,j⟩:=h.small;have k:=h.hi;obtain⟨b,f,g⟩:=uL d (c:Int) (rs:=e) bv (λr i=>by have:=j r i;omega);rw[f,g.2 ⟨bv,by rw[auB];exact h⟩]
def Ct(N:Nat)(g:Fu+3<=N)(v:Int){a:bP}(j:a.length<=9223372036854775807)(f:∀r∈a,r.length<=9223372036854775807):∀(m i:Nat),a.length - i<m->i<=a.length->
 Dr N m (a,(a.length:Int),(i:Int),v)=some (if lE (a.drop i) v<(a.drop i).length then .inr (((i+lE (a.drop i) v:Nat):Int),v)else .inl v)
 |0,i,h,_=>absurd h bv
 |m+1,i,l,k=>by
  rw[ZB,cd];by_cases q:i<a.length
  ·rw[auo bv]
   obtain⟨r,b⟩:=get_at (xs:=a) (i:=i) q;obtain⟨d,rfl⟩:∃M,N=M+1:=⟨N - 1,bv⟩;rw[bd b,ob,adj,has_eq d bv r v (f r (auI b)),ob,ob,dh b,cG bv,Ct (d+1) g v j f m (i+1) bv bv,lE];simp only[cd];by_cases c:v∈r
   ·rw[auo c,auo c,auo d5];rfl
   ·rw[aun c,aun c]
    simp only[auP];by_cases e:lE (a.drop (i+1)) v<(a.drop (i+1)).length
    ·rw[auo e,auo bv]
     congr 4;omega
    ·rw[aun e,aun bv]
  ·rw[aun bv,avj bv];rfl
def Bh{N:Nat}(a:Fu+5<=N)(f v:Int){rs:bP}(b:rs.length<=9223372036854775807)(d:∀r∈rs,r.length<=9223372036854775807):AS N (f,rs,v)=some (Td rs v):=by
 obtain⟨N,rfl⟩:∃M,N=M+2:=⟨N - 2,bv⟩;have:=Ct N bv v b d N 0 (by rw[bR]at a;omega) bv;rw[show((0:Nat):Int)=(0:Int)from rfl,ave]at this;rw[ZC,adl,this,ob];unfold Td;by_cases c:lE rs v<rs.length
 ·rw[auo c,auo c,auZ];rfl
 ·rw[aun c,aun c];rfl
def afZ(g:Fu+8<=a)(h:cn c e)(f:k<c):FX a ((c:Int),e,(k:Int))=some (lE e (k:Int):Int):=by
 obtain⟨a,rfl⟩:∃M,a=M+1:=⟨a - 1,bv⟩;obtain⟨l,d⟩:=h.small;have j:=h.lo;have i:=h.hi;rw[aaf,Qe bv,ob,h.tr bv,auU (show((1:Int)<=(c:Int)/\(c:Int)<=64)/\0<=(k:Int)/\(k:Int)<(c:Int) by omega)];simp only[ob,auH,auv];rw[Bh bv _ _ bv (λr b=>by have:=d r b;omega),ob,h.Td f]
def Jv(N:Nat)(g:1<=N)(n:Int)(a:bP){s:aX}(k:s.length<=9223372036854775807):∀(m i:Nat),s.length - i<m->i<=s.length->
 ∃o,Dp N m (s,(s.length:Int),(i:Int),n,a)=some o/\((o=.inl (n,a)/\∀v∈s.drop i,0<=v/\v<n)\/∃j:Nat,o=.inr ((j:Int),n,a)/\¬∀v∈s.drop i,0<=v/\v<n)
 |0,i,h,_=>absurd h bv
 |m+1,i,r,p=>by
  rw[Zz,cd];by_cases q:i<s.length
  ·rw[auo bv]
   obtain⟨v,e⟩:=get_at (xs:=s) (i:=i) q;obtain⟨d,rfl⟩:∃M,N=M+1:=⟨N - 1,bv⟩;have f:Vc (d+1) (v,n,a)=some (decide (v<0\/n<=v),n,a):=by
    rw[ac9,cd];by_cases c:v<0
    ·rw[auo c];simp[c]
    ·rw[aun c];simp[c]
   rw[bd e,ob,f,ob,dh e,cG bv];simp only[cd];by_cases c:v<0\/n<=v
   ·rw[auo c]
    exact⟨_,rfl,.inr ⟨i,rfl,λh=>by have:=h v d5;omega⟩⟩
   ·rw[aun c]
    obtain⟨o,l,b⟩:=Jv (d+1) g n a k m (i+1) bv bv;refine⟨o,l,?_⟩;simp only[axx];rcases b with⟨rfl,b⟩|⟨j,rfl,b⟩
    ·exact .inl ⟨rfl,bv,b⟩
    ·exact .inr ⟨j,rfl,λh=>b h.2⟩
  ·rw[aun bv,avj bv]
   exact⟨_,rfl,.inl ⟨rfl,d5⟩⟩
def Bi{N:Nat}(d:Fu+8<=N)(h:cn a e)(s:aX)(f:s.length<=9223372036854775807):Iu N ((a:Int),e,s)=some (if∀v∈s,0<=v/\v<(a:Int)then 0 else 10):=by
 obtain⟨N,rfl⟩:∃M,N=M+3:=⟨N - 3,bv⟩;obtain⟨o,c,b⟩:=Jv N bv (a:Int) e f N 0 (by rw[bR]at d;omega) bv;rw[show((0:Nat):Int)=(0:Int)from rfl]at c;rw[ave]at b;rw[ade,h.tr bv,ob];simp only[auH,auv];rw[aiF,ada,c,ob];rcases b with⟨rfl,b⟩|⟨j,rfl,b⟩
 ·rw[auo b];rfl
 ·rw[aun b]
  simp[ob]
def Jw(l:Fu+9<=a)(h:cn c e)(d:k<c):Pn a ((c:Int),e,(k:Int))=some ((wY e k:Int),0):=by
 obtain⟨a,rfl⟩:∃M,a=M+1:=⟨a - 1,bv⟩;have b:=h.ring d;have g:=h.body _ b.2.2.1;have j:ba (dS e k) (0:Int)=some (ko (dS e k)):=bd (i:=0) (zQ g.1);rw[aez,Bi bv h _ d5,ob,auo (by intro w f;simp only[auN]at f;subst f;omega),BE rfl,afZ bv h d,ob,bd b.1,ob,j,ob,(h.lv d b.2.2.1 b.2.1).1]
def LB(a:bP)(l:bI):bI:=l.map λe=>(wY a e.1,wY a e.2)
def anl(h:cn a e){l:bI}(c:Lr a l):Lr a (LB e l):=λb d=>by
 obtain⟨x,f,rfl⟩:=auD.1 d;have:=c x f;exact⟨h.ak1 this.1,h.ak1 this.2⟩
def v_(N:Nat)(f:Fu+9<=N){n:Nat}{b:bP}(h:cn n b){l:bI}(d:Lr n l)(g:l.length<=100000):∀(m i:Nat) (a:bh),l.length - i<m->i<=l.length->a.length<=i->
 DI N m (l.map XU,(l.length:Int),(i:Int),(n:Int),b,a)=some (a++(LB b (l.drop i)).map XU)
 |0,i,a,h,_,_=>absurd h bv
 |m+1,i,a,o,k,p=>by
  rw[aag,cd];by_cases q:i<l.length
  ·rw[auo bv]
   obtain⟨x,c⟩:=get_at (xs:=l) (i:=i) q;have e:=d x (auI c);have j:(l.map XU)[i]? =some (XU x):=by rw[auM,c];rfl
   rw[bd j,ob];simp only[XU];rw[Jw bv h e.1,ob,Jw bv h e.2,ob,cw bv d7,ob,cG bv];have:=v_ N f h d g m (i+1) (a++[((wY b x.1:Int),(wY b x.2:Int))]) bv bv d7;rw[this,dh c];simp[LB,XU]
  ·rw[aun bv,avj bv]
   simp[LB]
def LC(f:Fu+10<=a)(h:cn c e)(l:bh)(g:l.length<=100000):
 W2 a ((c:Int),e,l)=some (uZ (c:Int) l,if uZ (c:Int) l=0 then(LB e (l.map tF)).map XU else []):=by
 obtain⟨a,rfl⟩:∃M,a=M+1:=⟨a - 1,bv⟩;have m:=h.lo;have j:=h.hi;rw[aeA,h.tr bv,ob];simp only[auH,auv];rw[P_ bv _ l bv,ob,Hq];rcases wX (c:Int) l with⟨k,i⟩|⟨k,_⟩|⟨k,i,d⟩
 ·omega
 ·rw[k];rfl
 ·rw[k,auo rfl,auo rfl]
  have b:=zK (n:=(c:Int)) bv d;rw[auB]at b;have:=v_ a bv h b (by simpa using g) a 0 [] (by rw[bR]at f;simp;omega) bv d5;rw[<-XW d,show((0:Nat):Int)=(0:Int)from rfl,auz]at this;rw[this,ob];rfl
def Te(p:Fu+11<=a)(h:cn k e)(l:bh)(m:l.length<=100000):
 La a ((k:Int),e,l)=some (uZ (k:Int) l,if uZ (k:Int) l=0 then lR k e (l.map tF)else []):=by
 obtain⟨a,rfl⟩:∃M,a=M+1:=⟨a - 1,bv⟩;have r:=h.lo;have q:=h.hi;rw[aak,LC bv h l m,ob,Hq];rcases wX (k:Int) l with⟨b,n⟩|⟨b,_⟩|⟨b,n,o⟩
 ·omega
 ·rw[b];rfl
 ·rw[b,auo rfl]
  simp only[au2];have d:=zK (n:=(k:Int)) bv o;rw[auB]at d;obtain⟨s,f,g⟩:=P8 (N:=a) bv (n:=k) bv;obtain⟨t,i,_⟩:=P9 (N:=a) bv (n:=k) bv (l:=LB e (l.map tF)) (by simp[LB];omega) (anl h d) g;rw[f,ob,i,ob];have j:lR k e (l.map tF)=jB [] (LB e (l.map tF)):=by
   rw[Qm h d (c:=λx=>(λy=>y) (wY e x)) (λx _=>rfl),Gw (λy=>y) (wY e)];exact Qn (LB e (l.map tF)) []
  rw[j]
def X5(b:1<=a)(c:a<=64)(l:bh):uZ (a:Int) l=if∀e∈l,mU (a:Int) e then 0 else 10:=by
 unfold uZ;rw[aun bv]
def iy(n:Nat):bP:=(List.range n).map λv:Nat=>[(v:Int)]
def wa(f:1<=a)(g:a<=64):cn a (iy a):=by
 have d:rA a (iy a)=(List.range a).map λv:Nat=>(v:Int):=by
  unfold rA iy;rw[List.flatMap_map];have:∀(l:a_),(∀x∈l,x<a)->(l.flatMap λc:Nat=>vt a [(c:Int)])=l.map λv:Nat=>(v:Int):=λl=>by
   induction l with
   |nil=>intro _;rfl
   |cons c l m=>
    intro h;rw[au1,m λx e=>h x (by simp[e]),zT,auo (by have:=h c d5;omega)];simp[vt]
  exact this _ λx e=>avr.1 e
 refine cn.of f g (λr i=>?_) ?_ ?_ ?_
 ·obtain⟨v,d,rfl⟩:=auD.1 i
  have d:=avr.1 d;refine⟨d5,⟨d5,λt j=>?_,d5⟩,rfl,[(v,v)],by simp[im d],d5,⟨v,by simp[Clo,run,ky]⟩,d5,by simp[tG,eZ]⟩;simp only[auN]at j;omega
 ·unfold iy
  refine List.Pairwise.map _ ?_ List.pairwise_lt_range;intro c b h;simp only[ko,avY];omega
 ·rw[d];exact Cq a
 ·intro v k
  rw[d];exact auD.2 ⟨v,avr.2 k,rfl⟩
structure Iv(n:Nat)(l:bI)(out:aX):Prop where
 len:out.length=n
 at_:∀i,i<n->∃w:Nat,out[i]? =some (w:Int)/\w<=i
 uni:∀f:Nat->Nat,(∀e∈l,f e.1=f e.2)->∀v,v<n->f (par out v)=f v
def Iv.get{l:bI}(h:Iv a l b)(f:c<a):b[c]? =some ((par b c:Nat):Int)/\par b c<=c:=by
 obtain⟨w,d,e⟩:=h.at_ c f;have:par b c=w:=by unfold par;simp[avQ,d]
 rw[this];exact⟨d,e⟩
def Cu(N:Nat)(f:Fu+1<=N)(l a:aX)(g:l.length<=9223372036854775807)(j:a.length<=1000):∀(k i m:Nat) (b:aX),i+k=a.length->k<m->b.length<=i->
 Ds N m (l,a,((a.length:Nat):Int),(i:Int),b)=some (b++(a.drop i).map (ixI l))
 |k,i,0,b,c,d,e=>by omega
 |0,i,m+1,b,c,d,e=>by
  rw[Iy,dT bv,avj bv];simp
 |k+1,i,m+1,b,c,d,e=>by
  obtain⟨x,h⟩:=get_at (xs:=a) (i:=i) bv;rw[Iy,eC bv,bd h,ob,Gi N f l x g,ob,cw bv d7,ob,cG bv,Cu N f l a g j k (i+1) m _ bv bv d7,dh h];simp
def aaG(N:Nat)(g:Fu+4<=N)(l a:aX)(d:l.length<=9223372036854775807)(b:a.length<=1000):Vq N (l,a)=some (if fe l then(decide (∀t∈a,t∈l),a.map (ixI l))else(false,[])):=by
 obtain⟨N,rfl⟩:∃n,N=n+1:=⟨N - 1,bv⟩;have h:=Cu N bv l a d b a.length 0 N [] bv (by have:=bR;omega) d5;rw[ave,avd]at h;rw[adn,Ln N bv l d,ob];by_cases c:fe l
 ·rw[auo c,auU c,auH,auv,show((0:Int)=((0:Nat):Int))from rfl,h,ob,has_eq N bv _ _ d7,ob]
  congr 2;rw[<-decide_not];refine av1.2 ?_;rw[auD];constructor
  ·intro h t b
   refine Decidable.by_contra λf=>h ⟨t,b,Lq f⟩
  ·rintro h ⟨t,b,e⟩
   have:=DR (h t b);omega
 ·rw[aun c,auW c];rfl
def aaH(N:Nat)(k:Fu+2<=N)(a b:aX)(l:a.length<=100000)(m:b.length<=100000):Iz N [a,b]=some (a++b):=by
 obtain⟨N,rfl⟩:∃n,N=n+2:=⟨N - 2,bv⟩;obtain⟨K,d⟩:∃K,N+1=K+3:=⟨N - 2,by have:=bR;omega⟩;have e:ba ([a,b]:bP) (0:Int)=some a:=rfl;have f:ba ([a,b]:bP) (1:Int)=some b:=rfl;have g:wrap .i64 ((0:Int)+1)=1:=gZ bv bv;have h:wrap .i64 ((1:Int)+1)=2:=gZ bv bv;have i:uB (N+1) (N+1) ([a,b],0,[a,b],((([a,b]:bP).length:Nat):Int),0)=some ([a,b],(a.length:Int)+(b.length:Int)):=by
  have:∀M,uB M (K+3) ([a,b],0,[a,b],((([a,b]:bP).length:Nat):Int),0)=some ([a,b],(a.length:Int)+(b.length:Int)):=λM=>by
   rw[uD,eC d5,e,ob,cd,gZ (x:=(0:Int)+((a.length:Nat):Int)) bv bv,aun bv,g,uD,eC d5,f,ob,cd,gZ (x:=(0:Int)+((a.length:Nat):Int)+((b.length:Nat):Int)) bv bv,aun bv,h,uD,dT d5];congr 2;omega
  have c:=this (N+1);rwa[<-d]at c
 have j:uA (N+1) (N+1) ([a,b],((([a,b]:bP).length:Nat):Int),0,[])=some (a++b):=by
  have:∀M,uA M (K+3) ([a,b],((([a,b]:bP).length:Nat):Int),0,[])=some (a++b):=λM=>by
   rw[uC,eC d5,e,ob,cw bv d7,ob,g,uC,eC d5,f,ob,cw bv d7,ob,h,uC,dT d5];simp
  have c:=this (N+1);rwa[<-d]at c
 rw[NX,i,ob];simp only;rw[e7,auU ⟨bv,bv⟩,auQ,ob,j,ob]
def Jx(N:Nat)(a:Fu+3<=N)(l:aX)(p:Nat)(c:p<=l.length)(b:l.length<=1000):NY N (l,(p:Int))=some (C0 l p):=by
 obtain⟨N,rfl⟩:∃n,N=n+1:=⟨N - 1,bv⟩;rw[ado,tA bv bv,ob,tw bv bv,ob,auB,aaH N bv _ _ d7 d7,ob];rfl
def X6(N:Nat)(f:Fu+5<=N)(l:aX)(x:Int)(b:l.length<=9223372036854775807):Fi N (l,x)=some (Lp l x):=by
 obtain⟨N,rfl⟩:∃n,N=n+1:=⟨N - 1,bv⟩;rw[ZD,aaG N bv l [x] b d5,ob,Lp];by_cases c:fe l
 ·rw[auo c]
  by_cases a:x∈l
  ·have:=afH a
   rw[auo ⟨c,a⟩];have e:(decide (∀t∈[x],t∈l),[x].map (ixI l))=(true,[(ix l x:Int)]):=by simp[a,DR a]
   rw[e];have d:ba [(ix l x:Int)] (0:Int)=some (ix l x:Int):=rfl;simp only[auH,auv,d,ob];rw[Jx N bv l _ bv c.1];rfl
  ·have e:(decide (∀t∈[x],t∈l),[x].map (ixI l))=(false,[(-1:Int)]):=by simp[a,Lq a]
   rw[e,aun (λh=>a h.2)];rfl
 ·rw[aun c,aun (λh=>c h.1)];rfl
def af0(N:Nat)(e:Fu+5<=N)(l:aX)(d:l.length<=9223372036854775807):KG N l=some (di l):=by
 obtain⟨N,rfl⟩:∃n,N=n+1:=⟨N - 1,bv⟩;rw[ZF,Ln N bv l d,ob,Hq,di];by_cases c:fe l
 ·rw[auo c,cd]
  by_cases a:l=[]
  ·subst a;simp
  ·have f:=av8.2 a
   have b:=(nR a).1;have:=afH b;rw[aun bv,auo ⟨c,a⟩,min_eq N bv l c.1 a,ob,Gi N bv l _ d,ob,DR b,Jx N bv l _ bv c.1,ob];rfl
 ·rw[aun c,aun (λh=>c h.1)]
section
open Go Go.RowKit Go.Sort
def lp{σ β:Type}{F:Nat->Nat->σ->At β}{n:Nat}{I:Nat->σ->Prop}{Q:β->Prop}(g:∀m i s,i<n->I i s->(∃d,I (i+1) d/\F (m+1) i s=F m (i+1) d)\/∃b,F (m+1) i s=some b/\Q b)
 (f:∀m s,I n s->∃b,F (m+1) n s=some b/\Q b):∀{m i:Nat} {s:σ},n - i<m->i<=n->I i s->∃b,F m i s=some b/\Q b
 |0,i,s,h,_,_=>absurd h bv
 |m+1,i,s,h,k,e=>by
  by_cases c:i<n
  ·rcases g m i s c e with⟨d,a,j⟩|a
   ·rw[j];exact lp g f bv bv a
   ·exact a
  ·obtain rfl:i=n:=bv
   exact f m s e
def lpv{σ β:Type}{F:Nat->Nat->σ->At β}{n:Nat}{I:Nat->σ->Prop}{b:β}(k:∀m i s,i<n->I i s->∃c,I (i+1) c/\F (m+1) i s=F m (i+1) c)(g:∀m s,I n s->F (m+1) n s=some b)
 {m i:Nat} {s:σ} (d:n - i<m) (e:i<=n) (f:I i s):F m i s=some b:=by
 obtain⟨l,h,rfl⟩:=lp (Q:=λx=>x=b) (λm i s j a=>.inl (k m i s j a)) (λm s a=>⟨_,g m s a,rfl⟩) d e f;exact h
def X7(g:3<=a)(b:c<=64)(h:k<c)(i:C<c)(d:k≠C):Fl a ((c:Int),(k:Int),(C:Int))=some (ek c (k,C)):=by
 obtain⟨a,rfl⟩:∃M,a=M+1:=⟨a - 1,bv⟩;have f:c*(k+1)<=64*64:=avZ b bv;have e:(c:Int)*((k:Int)+1)=((c*(k+1):Nat):Int):=by rw[awh];rfl
 rw[ZE,dT bv,Qe bv,ob,Qe bv,auU (show((1:Int)<=(c:Int)/\(c:Int)<=64)/\0<=(k:Int)/\(k:Int)<(c:Int) by omega),auU (show((1:Int)<=(c:Int)/\(c:Int)<=64)/\0<=(C:Int)/\(C:Int)<(c:Int) by omega)];simp only[ob,auH,auv];rw[show wrap .i64 ((k:Int)+1)=(k:Int)+1 from gZ bv bv,e,show wrap .i64 (((c*(k+1):Nat):Int))=((c*(k+1):Nat):Int)from gZ bv bv,gZ bv bv];unfold ek;simp only[d,avf];congr 1
def wo{α:Type}(i j:Nat):Nat->Do α->Do α
 |_,[]=>[]
 |k,x::l=>if k=i\/k=j then wo i j (k+1) l else x::wo i j (k+1) l
def X8{α:Type}{i j:Nat}:∀(l:Do α) (k:Nat),i<k->j<k->wo i j k l=l
 |[],_,_,_=>rfl
 |x::l,k,a,b=>by rw[wo,aun bv,X8 l (k+1) bv bv]
def X9{α:Type}(i j:Nat):∀(l:Do α) (k:Nat),wo i j k l=wo j i k l
 |[],_=>rfl
 |x::l,k=>by
  rw[wo,wo,X9 i j l (k+1)];by_cases c:k=i\/k=j
  ·rw[auo c,auo c.symm]
  ·rw[aun c,aun λh=>c h.symm]
def af1{α:Type}{i j:Nat}{b:α}:∀(l:Do α) (k:Nat),i<k->k<=j->l[j - k]? =some b->l.Perm (b::wo i j k l)
 |[],k,_,_,h=>by simp at h
 |x::l,k,d,e,h=>by
  rw[wo];by_cases c:k=j
  ·rw[show j - k=0 by omega]at h
   have a:x=b:=by simpa using h
   rw[auo (.inr c),X8 l _ bv bv,a]
  ·rw[aun bv]
   rw[show j - k=(j - (k+1))+1 by omega,av_]at h;exact((af1 l (k+1) bv bv h).cons x).trans (List.Perm.swap _ _ _)
def LD{α:Type}{i j:Nat}{a b:α}(e:i<j):∀(l:Do α) (k:Nat),k<=i->l[i - k]? =some a->l[j - k]? =some b->l.Perm (a::b::wo i j k l)
 |[],k,_,h,_=>by simp at h
 |x::l,k,g,h,d=>by
  rw[wo];rw[show j - k=(j - (k+1))+1 by omega,av_]at d;by_cases c:k=i
  ·rw[show i - k=0 by omega]at h
   have f:x=a:=by simpa using h
   rw[auo (.inl c),f];exact(af1 l (k+1) bv bv d).cons a
  ·rw[aun bv]
   rw[show i - k=(i - (k+1))+1 by omega,av_]at h;exact((LD e l (k+1) bv h d).cons x).trans ((List.Perm.swap _ _ _).trans ((List.Perm.swap _ _ _).cons a))
def ajm(f:e[a]? =some b)(g:e[k]? =some m)(i:a≠k):(wo a k 0 e).Perm (Jt e a k):=by
 have h:=w8 f g i;rcases awT a k with c|c
 ·have d:=LD c e 0 bv f g
  exact((d.symm.trans h).cons_inv).cons_inv
 ·have d:=LD (show k<a by omega) e 0 bv g f
  rw[X9]at d;exact((d.symm.trans (h.trans (List.Perm.swap _ _ _))).cons_inv).cons_inv
def af2{α:Type}(i j:Nat):∀(l:Do α) (k:Nat),(wo i j k l).length<=l.length
 |[],_=>by simp[wo]
 |x::l,k=>by
  have:=af2 i j l (k+1);rw[wo];split
  ·simp only[auP];omega
  ·simp only[auP];omega
def ajn{N:Nat}(u:Fu+8<=N)(f:Int){rs:bP}(J:rs.length<=1000)(D:fe b)(s:e.Perm (wo a c 0 rs++[di b]))(z:e.Pairwise λg i=>ko g<ko i)(A:∀r∈e,r≠[]):
 KI N (f,rs,[(a:Int),(c:Int)],[b])=some (f,e):=by
 obtain⟨N,rfl⟩:∃M,N=M+1:=⟨N - 1,bv⟩;have K:=af2 a c rs 0;have t:pj N N ([(a:Int),(c:Int)],[b],rs,((rs.length:Nat):Int),(((0:Nat):Int),(f,(rs,(0,[])))))=some ([b],f,rs,0,wo a c 0 rs):=by
  refine lpv (F:=λm k (j:bP)=>pj N m ([(a:Int),(c:Int)],[b],rs,((rs.length:Nat):Int),((k:Int),(f,(rs,(0,j)))))) (n:=rs.length) (I:=λk j=>j++wo a c k (rs.drop k)=wo a c 0 rs/\j.length<=k) (λm k j E q=>?_) (λm j q=>?_) (by rw[bR]at u;omega) bv ⟨d5,d5⟩
  ·obtain⟨x,p⟩:=get_at (xs:=rs) (i:=k) E
   have o:=q.1;rw[dh p,wo]at o;by_cases d:k=a\/k=c
   ·rw[auo d]at o
    refine⟨j,⟨o,bv⟩,?_⟩;rw[wP,eC bv,bd p,ob,has_eq N bv _ _ d5,ob,auU d7,cG bv];rfl
   ·rw[aun d]at o
    refine⟨j++[x],⟨by rw[auV];exact o,by rw[auE];simp;omega⟩,?_⟩;rw[wP,eC bv,bd p,ob,has_eq N bv _ _ d5,ob,auW d7,cw bv d7,cG bv];rfl
  ·have:=q.1
   rw[avj (auq _),wo,au_]at this;rw[wP,dT bv,this]
 obtain⟨M,rfl⟩:∃M,N=M+2:=⟨N - 2,by rw[bR]at u;omega⟩;have H:=D.1;rw[ZG];rw[show((0:Nat):Int)=(0:Int)from rfl]at t;rw[t,ob];have B:ye (M+2) (M+2) ([b],((([b].length:Nat):Int),((0:Int),(f,(rs,((0:Int),wo a c 0 rs))))))=some (f,rs,0,wo a c 0 rs++[di b]):=by
  rw[show M+2=(M+1)+1 from rfl,Fm,eC d5,show ba [b] (0:Int)=some b from rfl,ob,af0 _ bv _ bv,ob,cw bv d7,ob,gZ bv bv,Fm,dT d5]
 rw[B,ob];have w:∀x y:aX,ltOf Kx x y=decide (ko x<ko y):=λx y=>av1.2 xV;have C:bE (M+2) (wo a c 0 rs++[di b])=some e:=by
  have v:jR (ltOf Kx) (wo a c 0 rs++[di b]):=jR.perm (l:=e) (z.imp λh=>.inl (by rw[w];exact auU h)) s;have G:=wN aoW s v (z.imp λ{x y} h=>by rw[w];exact auW bv);unfold bE Kv;rw[auo λx p=>A x (s.mem_iff.2 p),auo ⟨v,by simp;omega⟩,G]
 simp only[C,ob]
def Tf(N:Nat)(r:Fu+2<=N)(a b c d e:aX)(h:a.length+b.length+c.length+d.length+e.length<=100000):Iz N [a,b,c,d,e]=some (a++b++c++d++e):=by
 obtain⟨M,rfl⟩:∃M,N=M+7:=⟨N - 7,by rw[bR]at r;omega⟩;have w:∀x:Int,0<=x->x<=1000000->wrap .i64 x=x:=λx p q=>gZ bv bv;have s:∀f g i j k:aX,ba [f,g,i,j,k] (0:Int)=some f/\ba [f,g,i,j,k] (1:Int)=some g/\ba [f,g,i,j,k] (2:Int)=some i/\ba [f,g,i,j,k] (3:Int)=some j/\ba [f,g,i,j,k] (4:Int)=some k:=λ_ _ _ _ _=>⟨rfl,rfl,rfl,rfl,rfl⟩;obtain⟨e0,l,m,n,o⟩:=s a b c d e;have p:uB (M+6) (M+6) ([a,b,c,d,e],0,[a,b,c,d,e],((([a,b,c,d,e].length:Nat):Int),(0:Int)))=some ([a,b,c,d,e],((a.length+b.length+c.length+d.length+e.length:Nat):Int)):=by
  simp only[uD,cd,auP,avg];rw[auo d6,e0,ob,w _ bv bv,aun bv,show wrap .i64 ((0:Int)+1)=1 by decide,auo d6,l,ob,w _ bv bv,aun bv,show wrap .i64 ((1:Int)+1)=2 by decide,auo d6,m,ob,w _ bv bv,aun bv,show wrap .i64 ((2:Int)+1)=3 by decide,auo d6,n,ob,w _ bv bv,aun bv,show wrap .i64 ((3:Int)+1)=4 by decide,auo d6,o,ob,w _ bv bv,aun bv,show wrap .i64 ((4:Int)+1)=5 by decide,aun d6];congr 2;omega
 have q:uA (M+6) (M+6) ([a,b,c,d,e],((([a,b,c,d,e].length:Nat):Int),((0:Int),([]:aX))))=some (a++b++c++d++e):=by
  simp only[uC,cd,auP,avg];rw[auo d6,e0,ob,cw bv d7,ob,show wrap .i64 ((0:Int)+1)=1 by decide,auo d6,l,ob,cw bv d7,ob,show wrap .i64 ((1:Int)+1)=2 by decide,auo d6,m,ob,cw bv d7,ob,show wrap .i64 ((2:Int)+1)=3 by decide,auo d6,n,ob,cw bv d7,ob,show wrap .i64 ((3:Int)+1)=4 by decide,auo d6,o,ob,cw bv d7,ob,show wrap .i64 ((4:Int)+1)=5 by decide,aun d6];simp
 rw[show M+7=(M+6)+1 from rfl,NX,p,ob];unfold e7;rw[auU (by simp only;omega)];simp only[auQ,ob];rw[q,ob]
def af3(b:2<=a)(d:1<=c)(e:c<=64)(f:k<c):oz a ((c:Int),(k:Int))=some true:=by
 rw[Qe b,auU (show((1:Int)<=(c:Int)/\(c:Int)<=64)/\0<=(k:Int)/\(k:Int)<(c:Int) by omega)]
def af4{N:Nat}(P:Fu+9<=N)(h:cn a e)(d:c<a)(f:k<a):
 KJ N ((a:Int),e,(c:Int),(k:Int))=some (if lE e (c:Int)=lE e (k:Int)then(5,(a:Int),e)else(0,(a:Int),pG a e c k)):=by
 obtain⟨N,rfl⟩:∃M,N=M+2:=⟨N - 2,bv⟩;have q:=h.lo;have l:=h.hi;obtain⟨U,w⟩:=h.small;have F:KF (N+1) ((a:Int),e,(c:Int),(k:Int))=some 0:=by
  rw[ZA,h.tr bv,ob];simp only[auH,auv];rw[af3 bv q l d,ob];simp only[auH,auv];rw[af3 bv q l f,ob];rfl
 have u:=Bh (N:=N+1) bv (a:Int) (c:Int) (rs:=e) bv (λr m=>by have:=w r m;omega);have v:=Bh (N:=N+1) bv (a:Int) (k:Int) (rs:=e) bv (λr m=>by have:=w r m;omega);rw[h.Td d]at u;rw[h.Td f]at v;rw[ZH,F,ob];simp only[avF,auH,auv];simp only[u,v,ob,cd];by_cases i:lE e (c:Int)=lE e (k:Int)
 ·rw[auo bv,auo i]
 rw[aun bv,aun i];have g:=h.ring d;have j:=h.ring f;have n:=h.body _ g.2.2.1;have o:=h.body _ j.2.2.1;have y:c≠k:=λb=>i (by rw[b]);have Q:=n.2.1.1;have S:=o.2.1.1;have t:=w8 g.1 j.1 i;have p:=(zW (n:=a) t).nodup_iff.1 h.nd;have E:=(X1 h.rg h.nd).1 h.all;have I:(vt a (dS e c)).length+(vt a (dS e k)).length<=a:=by
  have:=(zW (n:=a) t).length_eq;unfold rA at this E;rw[au1,au1,auE,auE]at this;omega
 have H:∀x∈vt a (dS e c),x∉vt a (dS e k):=λx L O=>by
  unfold rA at p;rw[au1,au1]at p;exact(avk.1 p).2.2 x L x (by simp[O]) rfl
 have D:=Gu l d f n o g.2.1 j.2.1 H I;have B:Lp (dS e c) (c:Int)=(true,ej (dS e c) (c:Int)):=auo ⟨n.2.1,g.2.1⟩;have C:Lp (dS e k) (k:Int)=(true,ej (dS e k) (k:Int)):=auo ⟨o.2.1,j.2.1⟩;have V:=Jp (dS e c) (c:Int);have W:=Jp (dS e k) (k:Int);have R:=av8.2 n.1;rw[bd g.1,ob,X6 (N+1) bv _ _ bv,ob,bd j.1,ob,X6 (N+1) bv _ _ bv,ob,B,C];simp only;have G:=mX g.2.1;have z:(ej (dS e c) (c:Int)).take (Int.toNat 1)=[(c:Int)]:=by rw[G];rfl
 rw[tw bv bv,ob,X7 bv l d f y,ob,X7 bv l f d (λb=>y b.symm),ob,tA bv bv,ob,z,Tf (N+1) bv _ _ _ _ _ d7,ob];have A:[(c:Int)]++[ek a (c,k)]++ej (dS e k) (k:Int)++[ek a (k,c)]++(ej (dS e c) (c:Int)).drop (Int.toNat 1)=pB a c k (dS e c) (dS e k):=rfl;have s:=(X4 h d f i).1;have J:(pG a e c k).Perm (wo (lE e (c:Int)) (lE e (k:Int)) 0 e++[di (pB a c k (dS e c) (dS e k))]):=by
  refine(uM _ _).trans ?_;refine((ajm g.1 j.1 i).symm.cons _).trans ?_;exact axu (l₁:=[_])
 have K:=ajn (N:=N+1) bv (a:Int) (rs:=e) bv D J s.srt (λr m=>(s.body r m).1);rw[A,K,ob]
end
section
open Go Go.RowKit Go.Sort
def ajo(h:Fu+2<=a)(l:bh)(o:l.length<=100000):UZ a l=some (l.flatMap λe=>[e.1,e.2]):=by
 obtain⟨a,rfl⟩:∃M,a=M+1:=⟨a - 1,bv⟩;have:=lpv (F:=λm k (c:aX)=>Dj a m (l,((l.length:Nat):Int),(k:Int),c)) (n:=l.length) (b:=l.flatMap λe=>[e.1,e.2]) (I:=λk c=>c++(l.drop k).flatMap (λe=>[e.1,e.2])=l.flatMap (λe=>[e.1,e.2])/\c.length<=2*k) (λm k c j f=>by
  obtain⟨x,g⟩:=get_at (xs:=l) (i:=k) j;have d:=f.1;rw[dh g,au1,<-auV]at d;refine⟨_,⟨d,by simp;omega⟩,?_⟩;rw[Io,eC bv,bd g,ob,cw bv d7,ob,cG bv]) (λm c f=>by
  have d:=f.1;rw[avj (auq _),ax2,au_]at d;rw[Io,dT bv,d]) (m:=a) (i:=0) (s:=[]) (by rw[bR]at h;omega) bv ⟨d5,d5⟩
 rw[ac1];rw[show((0:Nat):Int)=(0:Int)from rfl]at this;rw[this,ob]
def af5{N:Nat}(C:Fu+12<=N)(h:cn a e)(w:o.length<=100000)(l:∀d∈o,mU (a:Int) d):
 ∃j,VA N ((a:Int),e,o)=some (0,(a:Int),lQ a e (o.map tF),j):=by
 obtain⟨N,rfl⟩:∃M,N=M+2:=⟨N - 2,bv⟩;have B:Lr a (o.map tF):=zK (n:=(a:Int)) bv l;have y:=Bi (N:=N) bv h (o.flatMap λd=>[d.1,d.2]) (by
  have:(o.flatMap λd=>[d.1,d.2]).length=o.length*2:=by
   clear l B w
   induction o with
   |nil=>rfl
   |cons x o J=>simp only[au1,auE,J,auP,avg];omega
  omega)
 rw[auo (λv g=>by
  obtain⟨d,n,g⟩:=avI.1 g;have:=l d n;rcases auT.1 g with rfl|g
  ·exact this.1
  ·rcases auT.1 g with rfl|g
   ·exact this.2
   ·cases g)]at y
 obtain⟨b,q,j,rfl⟩:=lp (F:=λm k (s:bP×br)=>Dt N m (o,((o.length:Nat):Int),(k:Int),(a:Int),s.1,(0:Int),s.2)) (n:=o.length) (Q:=λb=>∃j,b=((a:Int),lQ a e (o.map tF),(0:Int),j))
  (I:=λk s=>cn a s.1/\lQ a s.1 ((o.map tF).drop k)=lQ a e (o.map tF)/\s.2.length<=k) (λm k s D f=>by
   obtain⟨x,r⟩:=get_at (xs:=o) (i:=k) D;have H:(o.map tF)[k]? =some (tF x):=by rw[auM,r];rfl
   have fC:=l x (auI r);have p:=fC.nat;have n:=ak0 fC;have z:x.1=(((tF x).1:Nat):Int):=(auA Prod.fst n).symm;have A:x.2=(((tF x).2:Nat):Int):=(auA Prod.snd n).symm;have G:=LA f.1 p.1 p.2;have u:=f.2.1;rw[dh H,lQ]at u;have E:=af4 (N:=N) bv f.1 p.1 p.2;refine .inl ⟨(if lE s.1 (((tF x).1:Nat):Int)=lE s.1 (((tF x).2:Nat):Int)then s.1 else pG a s.1 (tF x).1 (tF x).2,s.2++[decide ((if lE s.1 (((tF x).1:Nat):Int)=lE s.1 (((tF x).2:Nat):Int)then(5:Int)else 0)=0)]),⟨G.1,u,by simp only[auE,auP,avg];have:=f.2.2;omega⟩,?_⟩;have K:=f.2.2;rw[IA,eC bv,bd r,ob];simp only;rw[z,A,E,ob,cw bv (by simp only[auP,avg];omega),ob,cG bv];by_cases c:lE s.1 (((tF x).1:Nat):Int)=lE s.1 (((tF x).2:Nat):Int)
   ·simp only[c,au2]
   ·simp only[c,avf]) (λm s f=>by
   have t:=f.2.1;rw[avj d5,lQ]at t;exact⟨_,by rw[IA,dT bv],⟨s.2,by rw[t]⟩⟩) (m:=N) (i:=0) (s:=(e,[])) (by rw[bR]at C;omega) bv ⟨h,rfl,d5⟩
 refine⟨j,?_⟩;rw[adr,adq,ajo bv o w,ob,y,ob];simp only[avF,auH,auv];rw[show((0:Nat):Int)=(0:Int)from rfl]at q;simp only at q;rw[q,ob];rfl
def ajp(f:Fu+2<=a)(n:Int):Kz a n=some (if 1<=n/\n<=64 then(0,n,iy n.toNat)else(1,0,[])):=by
 obtain⟨a,rfl⟩:∃M,a=M+1:=⟨a - 1,bv⟩;rw[Zt,zM bv,ob,Hq];by_cases c:1<=n/\n<=64
 ·rw[auo c,auo c]
  obtain⟨k,rfl⟩:∃k:Nat,n=(k:Int):=⟨n.toNat,bv⟩;rw[auB];have:=lpv (F:=λm i (d:bP)=>xY a m ((k:Int),(i:Int),(0:Int),(k:Int),d)) (n:=k) (b:=((0:Int),(k:Int),iy k)) (I:=λi d=>d=iy i) (λm i d g e=>by
   subst e;refine⟨iy (i+1),rfl,?_⟩;rw[Fg,eC bv,cw bv (by simp[iy];omega),ob,cG bv];have:iy i++[[(i:Int)]]=iy (i+1):=by unfold iy;rw[ax3,avh];rfl
   rw[this]) (λm d e=>by
   subst e;rw[Fg,dT bv]) (m:=a) (i:=0) (s:=[]) (by rw[bR]at f;omega) bv rfl
  rw[show((0:Nat):Int)=(0:Int)from rfl]at this;rw[this,ob]
 ·rw[aun c,aun c]
def C2(n:Nat)(l:bh):bP:=lQ n (iy n) (l.map tF)
def Tg(b:1<=a)(c:a<=64)(d:∀e∈o,mU (a:Int) e):cn a (C2 a o):=(Ju (wa b c) (zK (n:=(a:Int)) bv d)).1
def of_eq(j:Fu+13<=a)(b:1<=c)(d:c<=64)(h:o.length<=100000)(f:∀e∈o,mU (c:Int) e):Fo a ((c:Int),o)=some (0,(c:Int),C2 c o):=by
 obtain⟨a,rfl⟩:∃M,a=M+1:=⟨a - 1,bv⟩;obtain⟨i,g⟩:=af5 (N:=a) bv (wa b d) h f;rw[ZI,ajp bv,ob,auo bv];simp only[avF,auH,auv,auB];rw[g,ob];rfl
def fY(b:Do cA)(a:Int):bh:=(b.filter λt=>t.2.2.2 && decide (a<=t.2.2.1)).map λt=>(t.1,t.2.1)
def Qo(p:Fu+2<=a)(g:Int)(e:Do cA)(h:Int)(t:e.length<=100000):NG a (g,e,h)=some (fY e h):=by
 obtain⟨a,rfl⟩:∃M,a=M+1:=⟨a - 1,bv⟩;have:=lpv (F:=λm k (f:bh)=>uy a m (h,e,((e.length:Nat):Int),(k:Int),f)) (n:=e.length) (b:=fY e h) (I:=λk f=>f++fY (e.drop k) h=fY e h/\f.length<=k) (λm k f q l=>by
  obtain⟨x,o⟩:=get_at (xs:=e) (i:=k) q;have d:=l.1;have r:=l.2;rw[dh o,fY,awx]at d;cases j:x.2.2.2 with
  |false=>
   rw[j,ayB,aun d6]at d;refine⟨f,⟨d,bv⟩,?_⟩;rw[uz,eC bv,bd o,ob,j,cG bv];rfl
  |true=>
   by_cases c:h<=x.2.2.1
   ·rw[j,auU c,ayQ,auo rfl,auL,<-avW,<-auV]at d
    refine⟨_,⟨d,by rw[auE];simp;omega⟩,?_⟩;rw[uz,eC bv,bd o,ob,j,auQ,eC c,cw bv d7,ob,cG bv]
   ·rw[j,auW c,Bool.and_false,aun d6]at d
    refine⟨f,⟨d,bv⟩,?_⟩;rw[uz,eC bv,bd o,ob,j,auQ,dT c,cG bv]) (λm f l=>by
  have d:=l.1;rw[avj (auq _),fY,List.filter_nil,avy,au_]at d;rw[uz,dT bv,d]) (m:=a) (i:=0) (s:=[]) (by rw[bR]at p;omega) bv ⟨d5,d5⟩
 rw[ac0];rw[show((0:Nat):Int)=(0:Int)from rfl]at this;rw[this,ob]
def X_(N:Nat)(x y:cA):Ff (N+6) (x.1,x.2.1,x.2.2.1,x.2.2.2,y.1,y.2.1,y.2.2.1,y.2.2.2)=some (sx x y):=by
 rw[acZ,show N+5=(N+2)+3 from rfl,qm,qm,show N+2+3=N+5 from rfl];simp only[aW,Sy];rfl
end
variable{n:Do cA}
section
open Go Go.RowKit Go.Sort
def Jy(b:1<=a)(n:Int):NF a n=some (decide (1<=n/\n<=64)):=by
 obtain⟨a,rfl⟩:∃M,a=M+1:=⟨a - 1,bv⟩;rw[acU,cd];by_cases c:1<=n<;>simp[c]
def Qp(n:Nat):Nat:=if n<=1 then 0 else if n<=2 then 1 else if n<=4 then 2 else if n<=8 then 3 else if n<=16 then 4 else if n<=32 then 5 else 6
set_option maxRecDepth 100000 in
def ajq(N:Nat):∀x:Fin 64,UR (N+3) ((x.1:Nat):Int)=some ((Qp (x.1+1):Nat):Int):=by
 intro x;have a:=x.2;rw[acV,show N+2=(N+1)+1 from rfl,Zq,dT bv,ob,Zp,dT bv,ob,dT bv];simp only;rw[wu8 bv bv];revert x;unfold ahR;decide+kernel
def af6(f:6<=a)(d:1<=c)(e:c<=64):Fe a (c:Int)=some (Qp c:Int):=by
 obtain⟨a,rfl⟩:∃M,a=M+5:=⟨a - 5,bv⟩;have b:wrap .u64 (((c - 1:Nat):Nat):Int)=((c - 1:Nat):Int):=by simp[wrap,IntKind.bits,IntKind.signed];omega
 have h:=ajq a ⟨c - 1,bv⟩;rw[show c - 1+1=c by omega]at h;rw[Zr,Jy bv,ob,auU bv];simp only[auH,auv];rw[show wrap .i64 ((c:Int) - 1)=((c - 1:Nat):Int) by rw[gZ bv bv];omega,b,acX];simp only at h;rw[h,ob,ob]
def nT(n:Nat)(t:cA):Prop:=0<=t.1/\t.1<t.2.1/\t.2.1<(n:Int)/\0<=t.2.2.1/\t.2.2.1<=(Qp n:Int)
def Hs(a b:cA):Prop:=a.1<b.1\/a.1=b.1/\a.2.1<b.2.1
def mY{a b:cA}:sx a b<0↔Hs a b:=mo
structure GR(n:Nat)(ts:List cA):Prop where
 lo:1<=n
 hi:n<=64
 len:ts.length<=400
 tie:∀t∈ts,nT n t
 srt:ts.Pairwise Hs
 fst:(C2 n (fY ts 0)).length+(fY ts 0).length=n
def Bj(h:∀t∈n,nT a t)(d:Int):∀e∈fY n d,mU (a:Int) e:=λe b=>by
 obtain⟨t,c,rfl⟩:=auD.1 b;have:=h t (awi.1 c).1;unfold nT at this;exact⟨⟨bv,by show t.1<_;omega⟩,by show 0<=t.2.1;omega,by show t.2.1<_;omega⟩
def Gx(a:Do cA)(b:Int):(fY a b).length<=a.length:=by
 unfold fY;rw[auz];exact axz _ _
def af7{x y:cA}(e:n[k]? =some x)(j:n[k+1]? =some y)(h:(n.take (k+1)).Pairwise Hs):(n.take (k+2)).Pairwise Hs↔Hs x y:=by
 have f:=cR j;rw[f,azj];have i:x∈n.take (k+1):=by rw[cR e];simp
 constructor
 ·intro d;exact d.2.2 x i y d5
 ·intro d
  refine⟨h,List.pairwise_singleton _ _,λa c b g=>?_⟩;rw[auN.1 g];rw[cR e]at c h;rcases auC.1 c with c|c
  ·have:=(azj.1 h).2.2 a c x d5
   unfold Hs at*;omega
  ·rw[auN.1 c];exact d
def Qq{N:Nat}(H:Fu+8<=N){n:Nat}(a:Do cA)(J:a.length<=400):∃r,uE N N ((Qp n:Int),a,((a.length:Nat):Int),((0:Nat):Int),(n:Int),a)=some r/\(r=.inl ((n:Int),a)/\(∀t∈a,nT n t)/\a.Pairwise Hs\/r=.inr false/\¬((∀t∈a,nT n t)/\a.Pairwise Hs)):=by
 have G:=bR;refine lp (F:=λm k (_:Unit)=>uE N m ((Qp n:Int),a,((a.length:Nat):Int),(k:Int),(n:Int),a)) (n:=a.length) (I:=λk _=>(∀t∈a.take k,nT n t)/\(a.take k).Pairwise Hs) (λm k s B d=>?_) (λm s d=>⟨_,by rw[IB,dT bv],.inl ⟨rfl,by rw[au0 (auq _)]at d;exact d⟩⟩) (m:=N) (i:=0) (s:=()) bv bv ⟨d5,d5⟩;obtain⟨x,e⟩:=get_at (xs:=a) (i:=k) B;have C:=auI e;rw[IB,eC bv,bd e,ob];by_cases f:nT n x
 ·obtain⟨u,v,w,z,A⟩:=f
  rw[dT bv,dT bv,dT bv,dT bv,dT bv,cd];have l:∀t∈a.take (k+1),nT n t:=λt h=>by
   rw[cR e]at h;rcases auC.1 h with h|h
   ·exact d.1 t h
   ·rw[auN.1 h];exact⟨u,v,w,z,A⟩
  rcases axq k with g|g
  ·subst g
   rw[aun bv,cG bv];exact .inl ⟨(),⟨l,by rw[cR e];simp⟩,rfl⟩
  ·obtain⟨k,rfl⟩:∃j,k=j+1:=⟨k - 1,bv⟩
   obtain⟨y,q⟩:=get_at (xs:=a) (i:=k) bv;have p:=af7 q e d.2;rw[auo bv,show wrap .i64 (((k+1:Nat):Int) - 1)=(k:Int) by rw[gZ bv bv];omega,bd q,ob];have o:=X_ (N - 6) y x;rw[show N - 6+6=N by omega]at o;rw[o,ob,cd];by_cases c:Hs y x
   ·rw[aun (by have:=mY.2 c;omega),cG bv]
    exact .inl ⟨(),⟨l,p.2 c⟩,rfl⟩
   ·rw[auo (by have:=mt mY.1 c;omega)]
    refine .inr ⟨_,rfl,.inr ⟨rfl,λh=>c (p.1 ?_)⟩⟩;exact h.2.sublist (List.take_sublist _ _)
 ·refine .inr ?_
  have E:∀r:At (Int×Do cA⊕In),r=some (.inr false)->∃b,r=some b/\(b=.inl ((n:Int),a)/\(∀t∈a,nT n t)/\a.Pairwise Hs\/b=.inr false/\¬((∀t∈a,nT n t)/\a.Pairwise Hs)):=λr D=>⟨_,D,.inr ⟨rfl,λh=>f (h.1 x C)⟩⟩;refine E _ ?_;unfold nT at f;rw[cd];split
  ·rfl
  rw[cd];split
  ·rfl
  rw[cd];split
  ·rfl
  rw[cd];split
  ·rfl
  rw[eC bv]
def uN{N:Nat}(m:Fu+16<=N)(g:Int)(a:Do cA)(k:a.length<=100000):∃b,nN N (g,a)=some b/\(b=true↔0<=g/\GR g.toNat a):=by
 obtain⟨N,rfl⟩:∃M,N=M+1:=⟨N - 1,bv⟩;have l:=bR;rw[adt,Jy bv,ob,Hq];by_cases d:1<=g/\g<=64
 ·rw[auo d,cd]
  obtain⟨n,rfl⟩:∃n:Nat,g=(n:Int):=⟨g.toNat,bv⟩;rw[auB];by_cases i:(400:Int)<((a.length:Nat):Int)
  ·rw[auo i]
   exact⟨_,rfl,λh=>(by cases h),λh=>absurd h.2.len bv⟩
  ·rw[aun i,af6 bv bv bv,ob]
   obtain⟨r,f,h⟩:=Qq (N:=N) bv (n:=n) a bv;rw[show((0:Nat):Int)=(0:Int)from rfl]at f;rw[f,ob];rcases h with⟨rfl,c,j⟩|⟨rfl,c⟩
   ·simp only
    have o:=Gx a 0;rw[Qo bv _ _ _ k,ob,of_eq bv bv bv bv (Bj c 0),ob,eC rfl];simp only;rw[gZ bv bv];refine⟨_,rfl,?_⟩;rw[avn];constructor
    ·intro e;exact⟨bv,bv,bv,bv,c,j,bv⟩
    ·intro e;have:=e.2.fst;omega
   ·exact⟨_,rfl,λh=>(by cases h),λh=>absurd ⟨h.2.tie,h.2.srt⟩ c⟩
 ·rw[aun d]
  exact⟨_,rfl,λh=>(by cases h),λh=>absurd (⟨by have:=h.2.lo;omega,by have:=h.2.hi;omega⟩) d⟩
def GR.right(d:Fu+16<=a)(h:GR c n):nN a ((c:Int),n)=some true:=by
 obtain⟨b,e,f⟩:=uN d (c:Int) n (by have:=h.len;omega);rw[e,f.2 ⟨bv,by rw[auB];exact h⟩]
def cU(a:Do cA):bh:=a.map λt=>(t.1,t.2.1)
def Bl(l:Fu+17<=a)(h:GR c n):I3 a ((c:Int),n)=some (cU n):=by
 obtain⟨a,rfl⟩:∃M,a=M+1:=⟨a - 1,bv⟩;have j:=bR;have p:=h.len;have:=lpv (F:=λm k (d:bh)=>DH a m (n,((n.length:Nat):Int),(k:Int),d)) (n:=n.length) (b:=cU n) (I:=λk d=>d=cU (n.take k)) (λm k d g e=>by
  obtain⟨x,f⟩:=get_at (xs:=n) (i:=k) g;have o:d.length<=400:=by rw[e,cU,auz,au8];omega
  refine⟨d++[(x.1,x.2.1)],by rw[e,cR f];simp[cU],?_⟩;rw[I4,eC bv,bd f,ob,cw bv d7,ob,cG bv]) (λm d e=>by
  rw[I4,dT bv,e,au0 (auq _)]) (m:=a) (i:=0) (s:=[]) bv bv (by simp[cU])
 rw[ael,h.right bv,ob];simp only[auH,auv];rw[show((0:Nat):Int)=(0:Int)from rfl]at this;rw[this,ob]
def Gy(d:Fu+17<=a)(h:GR c n)(b:Int):Ph a ((c:Int),n,b)=some (0,(c:Int),C2 c (fY n b)):=by
 obtain⟨a,rfl⟩:∃M,a=M+1:=⟨a - 1,bv⟩;have e:=h.len;have:=Gx n b;rw[aew,h.right bv,ob];simp only[auH,auv];rw[Qo bv _ _ _ bv,ob,of_eq bv h.lo h.hi bv (Bj h.tie b),ob]
def GR.LF(h:GR a n)(b:Int):cn a (C2 a (fY n b)):=Tg h.lo h.hi (Bj h.tie b)
def Th{N:Nat}(u:Fu+8<=N)(a:Do cA)(v:a.length<=400)(y:cA):∃(i:Int) (b:In),aiL N (a,y)=some (i,b)/\(b=true->∃(k:Nat) (x:cA),i=(k:Int)/\a[k]? =some x/\sx x y=0):=by
 obtain⟨N,rfl⟩:∃M,N=M+1:=⟨N - 1,bv⟩;have t:=bR;have f:∀x:cA,Ff N (x.1,x.2.1,x.2.2.1,x.2.2.2,y.1,y.2.1,y.2.2.1,y.2.2.2)=some (sx x y):=λx=>by
  have:=X_ (N - 6) x y;rwa[show N - 6+6=N by omega]at this
 have s:∀(d i j m:Nat),j - i<=d->d<m->j<=a.length->∃k:Nat,F1 N m (a,((a.length:Nat):Int),(i:Int),(j:Int),y)=some (a,((a.length:Nat):Int),(k:Int),y):=by
  intro d
  induction d with
  |zero=>
   intro i j m p q r;obtain⟨m,rfl⟩:∃M,m=M+1:=⟨m - 1,bv⟩;exact⟨i,by rw[F2,dT bv]⟩
  |succ d l=>
   intro i j m p q r;obtain⟨m,rfl⟩:∃M,m=M+1:=⟨m - 1,bv⟩;by_cases c:i<j
   ·have n:(2:Int)^(min (Int.toNat (1:Int)) (64:Nat))=2:=d6
    have o:wrap .i64 (Int.fdiv (wrap .u64 (wrap .i64 ((i:Int)+(j:Int)))) 2)=(((i+j)/2:Nat):Int):=by
     rw[gZ (x:=(i:Int)+(j:Int)) bv bv,show wrap .u64 ((i:Int)+(j:Int))=((i+j:Nat):Int) by simp[wrap,IntKind.bits,IntKind.signed];omega,ayR _ bv,gZ bv bv];omega
    obtain⟨x,e⟩:=get_at (xs:=a) (i:=(i+j)/2) bv;rw[F2,eC bv,n,o,bd e,ob,f,ob,cd];split
    ·rw[cG bv]
     exact l _ _ m bv bv bv
    ·exact l _ _ m bv bv bv
   ·exact⟨i,by rw[F2,dT bv]⟩
 obtain⟨k,g⟩:=s a.length 0 a.length N bv bv (auq _);rw[show((0:Nat):Int)=(0:Int)from rfl]at g;obtain⟨w,z,A,B⟩:=y;rw[aiM,g,ob,cd];simp only;by_cases c:k<a.length
 ·obtain⟨x,e⟩:=get_at (xs:=a) (i:=k) c
  rw[auo bv,bd e,ob];have:=f x;simp only at this;rw[this,ob];exact⟨_,_,rfl,λh=>⟨k,x,rfl,e,avo h⟩⟩
 ·rw[aun bv]
  exact⟨_,_,rfl,λh=>by cases h⟩
def aaI{x y:cA}:sx x y=0↔x.1=y.1/\x.2.1=y.2.1:=by
 unfold sx pf;split
 ·rename_i h;have:=pg.1 h;rw[pg];exact⟨λk=>⟨this,k⟩,λk=>k.2⟩
 ·rename_i h;have:=mt pg.2 h;exact⟨λk=>absurd k h,λk=>absurd k.1 this⟩
def af8{N:Nat}(g:Fu+18<=N)(h:GR a n)(u v:Int):∃i:Int,Lb N ((a:Int),n,u,v)=some i/\(i= -1\/∃(k:Nat) (x:cA),i=(k:Int)/\n[k]? =some x/\x.1=min u v/\x.2.1=max u v):=by
 obtain⟨N,rfl⟩:∃M,N=M+2:=⟨N - 2,bv⟩;obtain⟨i,b,c,e⟩:=Th (N:=N) bv n h.len (if v<u then v else u,if v>u then v else u,0,false);rw[aam,h.right bv,ob];simp only[auH,auv];rw[aeM,c,ob,ob];cases b with
 |false=>exact⟨-1,rfl,.inl rfl⟩
 |true=>
  obtain⟨k,x,rfl,f,d⟩:=e rfl;have:=aaI.1 d;simp only at this;refine⟨(k:Int),rfl,.inr ⟨k,x,rfl,f,?_,?_⟩⟩
  ·rw[this.1];split<;>omega
  ·rw[this.2];split<;>omega
