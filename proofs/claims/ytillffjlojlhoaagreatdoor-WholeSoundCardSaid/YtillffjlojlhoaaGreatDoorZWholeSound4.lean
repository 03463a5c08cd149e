/- part 4 -/
import Derived.Test.YtillffjlojlhoaaGreatDoorZWholeSound3
set_option linter.all false
noncomputable section
open Go Go.RowKit
set_option maxRecDepth 100000
open Go.Proofs.Tryz
namespace Go.Proofs.YtillffjlojlhoaaGreatDoor
theorem ci{p:Prop}(h:p:=by kernel_rfl):p:=h
variable{e:FuncId}{v:Int}{c i:Nat}{a:Type}{d:EQ}{D:Id}
section
open Go Go.ChangeShapes Go.WideShapes Go.ChangeAt Go.RowKit
def Fits:(s:Sc)->s.dp->Prop
 |.i k,x=>k.min<=x/\x<=k.max
 |.b,_=>True
 |.sl r,b=>b.length<=maxLen/\∀x∈b,Fits r x
 |.pr a c,p=>Fits a p.1/\Fits c p.2
 |.u,_=>True
def Siz:(s:Sc)->s.dp->Prop
 |.sl r,b=>b.length<=reachBytes/\∀x∈b,Siz r x
 |.pr a c,p=>Siz a p.1/\Siz c p.2
 |_,_=>True
def sQ(P:Fd)(a:EQ->Sc->In):Do Field->Nat->Sc->In
 |[],_,_=>false
 |[f],o,s=>a f.type s && Nat.beq f.offset o && Nat.beq (P.cellsOf f.type) s.w
 |f::g::r,o,.pr s t=>a f.type s && Nat.beq f.offset o && Nat.beq (P.cellsOf f.type) s.w && sQ P a (g::r) (o+s.w) t
 |_::_::_,_,_=>false
def VO(w:Nat)(a:Sc->In):Nat->Sc->In
 |0,_=>false
 |1,s=>a s && Nat.beq w s.w
 |n+2,.pr s t=>a s && Nat.beq w s.w && VO w a (n+1) t
 |_+2,_=>false
def tyC(P:Fd):Nat->EQ->Sc->In
 |0,_,_=>false
 |d+1,t,s=>match P.underlying t with
  |some (.int k)=>(match s with
   |.i l=>decide (k=l)
   |_=>false)
  |some .bool=>(match s with
   |.b=>true
   |_=>false)
  |some (.slice e)=>(match s with
   |.sl r=>tyC P d e r && Nat.beq (P.cellsOf e) r.w && Nat.blt 0 r.w && Nat.blt 0 (P.bytesOf e)
   |_=>false)
  |some (.struct a)=>sQ P (tyC P d) a.toList 0 s && Nat.beq (P.cellsOf t) s.w
  |some (.array n e)=>VO (P.cellsOf e) (tyC P d e) n s && Nat.beq (P.cellsOf t) s.w
  |_=>false
def Rw(w:GE)(b o:Nat)(u:Id):Prop:=w.cell? ⟨b,o,none⟩=some u
def b0(w:GE):Bs:=⟨w,λ_=>False,λ_=>none,λ_=>undef,[]⟩
def e0:Env:=⟨λ_=>none,λ_=>undef,λ_=>0⟩
def akX(w:GE):Prop:=∀b o u,GT b o u->w.cell? ⟨b,o,none⟩=some u
def sr0(w:GE)(c:akX w):SR (b0 w) (Rw w) e0 [] w:=
 ⟨⟨rfl,rfl,rfl,av5 _,λ_ _=>rfl,av5 _⟩,⟨λb o u h=>⟨h,λa=>by
  have:=ax7 w _ h;rcases a with a|a
  .simp only[b0]at a;simp only at this;omega
  .exact a⟩,c⟩,λ_ _ h=>by simp[bc]at h,λ_ _ _ h=>by simp[bc]at h,λ_ _ _ _ _ h=>by simp[bc]at h,λ_ _=>⟨rfl,rfl⟩⟩
def aqK{w:GE}(h:Rw w c i D):bT (b0 w) (Rw w) e0 [] w c i D:=⟨h,λ_=>h,λ_ _ h=>by simp[bc]at h⟩
def sR(h:Nat.beq c i=true):c=i:=awb h
def afD(h:Nat.blt c i=true):c<i:=awd h
section
variable{H:Type}{enc:EQ×Id->H}{P:Fd}{w:GE}{base:Nat}{spare:Nat->In}{held:In}
def Q5(P:Fd)(t:EQ)(x:DataW H):Prop:=∀n∈x.weights P t,n<=reachBytes
def NQ{e:EQ}:∀{l:Do (DataW H×Do MemPlace)},(∀n∈DataW.weightsAll P e (l.map (·.1)),n<=reachBytes)->∀(i:Nat) x,l[i]? =some x->Q5 P e x.1
 |[],_,i,x,h=>by simp at h
 |y::l,b,i,x,h=>by
  simp only[awo,DataW.weightsAll,awc]at b;cases i with
  |zero=>simp at h;subst h;exactλn a=>b n (.inl a)
  |succ i=>exact NQ (λn a=>b n (.inr a)) i x (by simpa using h)
def Q6:∀{a:Do Field} {l:Do (DataW H×Do MemPlace)},(∀n∈DataW.weightsEach P (a.map (·.type)) (l.map (·.1)),n<=reachBytes)->∀(i:Nat) f x,a[i]? =some f->l[i]? =some x->Q5 P f.type x.1
 |[],_,_,i,f,x,h,_=>by simp at h
 |_::_,[],_,i,f,x,_,h=>by simp at h
 |g::a,y::l,d,i,f,x,b,h=>by
  simp only[awo,DataW.weightsEach,awc]at d;cases i with
  |zero=>simp at h b;subst h;subst b;exactλn c=>d n (.inl c)
  |succ i=>exact Q6 (λn c=>d n (.inr c)) i f x (by simpa using b) (by simpa using h)
def GY(enc:EQ×Id->H)(P:Fd)(w:GE)(base:Nat)(spare:Nat->In)(held:In)(n:Nat)(t:EQ)(s:Sc):Prop:=
 ∀a x,DataW.trod enc P w base spare held n t a=some x->∃y:s.dp,LR (VR (Rw w) none) (bM s y) a/\Fits s y/\(Q5 P t x.1->Siz s y)
def Fs{WA:Prop}{C:EQ->Sc->In}{n:Nat}(A:∀t s,C t s=true->GY enc P w base spare held n t s)(p:bI):
 ∀(j:Do Field) (o:Nat) (s:Sc) (b:Do (DataW H×Do MemPlace)),sQ P C j o s=true->b.length=j.length->
  (∀(i:Nat) (f:Field),j[i]? =some f->DataW.trod enc P w base spare held n f.type ((p.drop f.offset).take (P.cellsOf f.type))=b[i]?)->(WA->∀(i:Nat) f x,j[i]? =some f->b[i]? =some x->Q5 P f.type x.1)->
  ∃y:s.dp,LR (VR (Rw w) none) (bM s y) ((p.drop o).take s.w)/\Fits s y/\(WA->Siz s y)
 |[],o,s,b,h,_,_,_=>by simp[sQ]at h
 |[f],o,s,b,h,k,m,l=>by
  simp only[sQ,av4]at h;obtain⟨⟨u,v⟩,z⟩:=h;have:=m 0 f rfl;rw[sR v,sR z]at this;have e:0<b.length:=by rw[k];simp
  rw[awf e]at this;obtain⟨y,J,G,O⟩:=A _ _ u _ _ this;exact⟨y,J,G,λd=>O (l d 0 f _ rfl (awf e))⟩
 |f::g::r,o,s,b,h,k,m,l=>by
  cases s with
  |pr a c=>
   simp only[sQ,av4]at h;obtain⟨⟨⟨u,v⟩,z⟩,I⟩:=h;have:=m 0 f rfl;rw[sR v,sR z]at this;have e:0<b.length:=by rw[k];simp
   rw[awf e]at this;obtain⟨Q,K,E,M⟩:=A _ _ u _ _ this;obtain⟨R,L,F,N⟩:=Fs A p (g::r) (o+a.w) c b.tail I (by simp[k]) (λi q B=>by
    have:=m (i+1) q (by simpa using B);rw[this];cases b<;>simp) (λd i q x B D=>l d (i+1) q x (by simpa using B) (by cases b with|nil=>simp at D|cons y S=>simpa using D))
   refine⟨(Q,R),?_,⟨E,F⟩,λd=>⟨M (l d 0 f _ rfl (awf e)),N d⟩⟩;rw[bM,Sc.w,List.take_add];rw[ayb];exact K.append L
  |_=>simp[sQ]at h
def Q7{WA:Prop}{p:Sc->In}{n:Nat}{e:EQ}{ew:Nat}(k:∀s,p s=true->GY enc P w base spare held n e s)(f:bI):
 ∀(m:Nat) (o:Nat) (s:Sc),VO ew p m s=true->
  (∀i,i<m->∃x,DataW.trod enc P w base spare held n e ((f.drop (o+i*ew)).take ew)=some x/\(WA->Q5 P e x.1))->
  ∃y:s.dp,LR (VR (Rw w) none) (bM s y) ((f.drop o).take s.w)/\Fits s y/\(WA->Siz s y)
 |0,o,s,h,_=>by simp[VO]at h
 |1,o,s,h,d=>by
  simp only[VO,av4]at h;obtain⟨g,j⟩:=h;obtain⟨x,this,l⟩:=d 0 bv;rw[ayz,axv,sR j]at this;obtain⟨y,B,u,G⟩:=k _ g _ _ this;exact⟨y,B,u,λb=>G (l b)⟩
 |m+2,o,s,h,d=>by
  cases s with
  |pr a c=>
   simp only[VO,av4]at h;obtain⟨⟨g,j⟩,v⟩:=h;obtain⟨x,this,l⟩:=d 0 bv;have q:=sR j;rw[ayz,axv,q]at this;obtain⟨I,C,r,E⟩:=k _ g _ _ this;obtain⟨J,D,t,F⟩:=Q7 k f (m+1) (o+a.w) c v (λi K=>by
    obtain⟨x,A,z⟩:=d (i+1) bv;refine⟨x,?_,z⟩;rw[<-A,q];congr 3;rw[awK];omega)
   refine⟨(I,J),?_,⟨r,t⟩,λb=>⟨E (l b),F b⟩⟩;rw[bM,Sc.w,List.take_add];rw[ayb];exact C.append D
  |_=>simp[VO]at h
def LG{WA:Prop}{n:Nat}{e:EQ}{r:Sc}(J:GY enc P w base spare held n e r)(B:P.cellsOf e=r.w)(l:0<r.w){a:Addr}{v:Nat}{k:Do (DataW H×Do MemPlace)}(S:k.length=v)
 (C:∀i,i<v->(w.cells? base (a.add (i*P.cellsOf e)) (P.cellsOf e)).bind (DataW.trod enc P w base spare held n e)=k[i]?) (L:WA->∀(i:Nat) x,k[i]? =some x->Q5 P e x.1):
 ∀m,m<=v->∃f:Do r.dp,f.length=m/\((∀y∈f,Fits r y)/\(WA->∀y∈f,Siz r y))/\∃d,LR (VR (Rw w) none) (f.map (bM r)).flatten d/\∀j u,d[j]? =some u->a.spot=none/\w.cell? ⟨a.block,a.off+j,none⟩=some u
 |0,_=>⟨[],rfl,d5,[],LR.nil,d5⟩
 |m+1,hm=>by
  obtain⟨f,E,⟨U,Y⟩,d,G,K⟩:=LG J B l S C L m bv;have h:=C m bv;have I:m<k.length:=bv
  rw[awf I]at h;obtain⟨cs,R,Z⟩:=ayp.1 h;obtain⟨y,hy,O,sy⟩:=J _ _ Z;obtain⟨hb,Q,p⟩:=World.cells?_some R;rw[B]at Q p;have F:d.length=m*r.w:=by
   rw[G.1,eM (sz:=r.w)]
   .simp[E]
   .intro q W
    obtain⟨z,_,rfl⟩:=awe.1 W;exact fy r z
  have s:a.spot=none:=by
   have:=p 0 l;rw[awf bv]at this;by_cases c:m=0
   .subst c
    have a0:(a.add (0*r.w)).add 0=a:=by simp[Addr.add]
    rw[a0]at this;unfold World.cell? at this;split at this
    .split at this
     .cases this
     next X=>simpa using X
    .cases this
   .have t:∃u,d[0]? =some u:=⟨d[0]'(by rw[F];exact ayy bv l),awf _⟩
    obtain⟨u,t⟩:=t;exact(K 0 u t).1
  refine⟨f++[y],by simp[E],⟨λz c=>?_,λA z c=>?_⟩,d++cs,?_,λj u g=>⟨s,?_⟩⟩
  .rcases awc.1 c with c|c
   .exact U z c
   .simp only[awq]at c;subst c;exact O
  .rcases awc.1 c with c|c
   .exact Y A z c
   .simp only[awq]at c;subst c;exact sy (L A m _ (awf I))
  .rw[awQ,axM]
   simpa using G.append hy
  .by_cases V:j<d.length
   .rw[awY V]at g
    exact(K j u g).2
   .rw[axl bv]at g
    have a1:j - d.length<cs.length:=(av7.1 g).1;have:=p (j - d.length) bv;rw[g]at this;have N:(a.add (m*r.w)).add (j - d.length)=⟨a.block,a.off+j,none⟩:=by
     obtain⟨b,o,sp⟩:=a;simp only at s;subst s;rw[add_plain,add_plain];have D:d.length<=j:=bv
     rw[F]at D⊢;generalize m*r.w=q at D;have M:o+q+(j - q)=o+j:=bv
     rw[M]
    rw[N]at this;exact this
def xQ:∀(d:Nat) (t:EQ) (s:Sc),tyC P d t s=true->∀n,GY enc P w base spare held n t s
 |0,t,s,h,n=>by simp[tyC]at h
 |d+1,t,s,h,n=>by
  intro U x F;unfold tyC at h;split at h
  next k p=>
   cases s with
   |i l=>
    obtain rfl:k=l:=awX h;obtain⟨z,rfl,-,hw⟩:=DataW.trod_int p F;simp only[Lit.wf,av4,awJ]at hw;exact⟨z,LR.cons .v LR.nil,hw,λ_=>trivial⟩
   |_=>simp at h
  next p=>
   cases s with
   |b=>
    obtain⟨z,rfl,-⟩:=DataW.trod_bool p F;exact⟨z,LR.cons .v LR.nil,trivial,λ_=>trivial⟩
   |_=>simp at h
  next e p=>
   cases s with
   |sl r=>
    simp only[av4]at h;obtain⟨⟨⟨C,D⟩,h3⟩,h4⟩:=h;rcases DataW.trod_slice p F with⟨rfl,-⟩|⟨a,a3,a4,A,rest,m,rfl,rfl,rfl,hb,aa,a5,W,he,-,-⟩
    .refine⟨([]:Do r.dp),LR.cons ?_ LR.nil,?_,λ_=>⟨awy _,d5⟩⟩
     .exact .sl (rows:=[]) [] d5 d5 rfl d5 (av5 _) (awy _) d5 d5
     .exact⟨awy _,d5⟩
    .have I:Q5 P t (.slice (A.map (·.1)) (rest.map (·.1)):DataW H)->((A.length+rest.length)*P.bytesOf e<=reachBytes)/\∀(i:Nat) x,A[i]? =some x->Q5 P e x.1:=λg=>by
      have B:DataW.weights P t (.slice (A.map (·.1)) (rest.map (·.1)):DataW H)=(A.length+rest.length)*P.bytesOf e::(DataW.weightsAll P e (A.map (·.1))++DataW.weightsAll P e (rest.map (·.1))):=by
       simp[DataW.weights,p]
      unfold Q5 at g;rw[B]at g;exact⟨g _ d5,NQ λn hn=>g n (by simp[hn])⟩
     obtain⟨S,Y,⟨L,a9⟩,R,Z,a1⟩:=LG (WA:=Q5 P t (.slice (A.map (·.1)) (rest.map (·.1)):DataW H)) (xQ d e r C m) (sR D) (afD h3) W he (λg=>(I g).2) a3 (av5 _);refine⟨S,LR.cons ?_ LR.nil,?_,λg=>⟨?_,a9 g⟩⟩
     .have a7:(List.map (bM r) S).length=a3:=by simp[Y]
      have:=VR.sl (Rd:=Rw w) (E:=none) (tight:=false) (sz:=r.w) (rows:=List.map (bM r) S) (a:=some a) (cap:=a4) R
       (λq M=>by obtain⟨z,_,rfl⟩:=awe.1 M;exact fy r z)
       (λc hc=>by
        obtain⟨q,M,a6⟩:=ax5.1 hc;obtain⟨z,_,rfl⟩:=awe.1 M;exact rh r z c a6)
       Z.1 Z.2 bv a5 d5 (λa8=>by
        have hp:0<R.length:=axV.2 a8;have a0:=(a1 0 R[0] (awf hp)).1;obtain⟨b,o,sp⟩:=a;simp only at a0;subst a0;exact⟨b,o,rfl,λj u hj=>(a1 j u hj).2⟩)
      rw[a7]at this;exact this
     .exact⟨bv,L⟩
     .have h5:=(I g).1
      have h6:A.length*1<=(A.length+rest.length)*P.bytesOf e:=axC (Nat.le_add_right _ _) (afD h4);rw[Y,<-W];omega
   |_=>simp at h
  next V p=>
   simp only[av4]at h;obtain⟨C,D⟩:=h;obtain⟨v,m,rfl,rfl,K,a2,O⟩:=DataW.trod_struct p F;obtain⟨y,G,J,Q⟩:=Fs (WA:=Q5 P t (.agg (v.map (·.1)):DataW H)) (λt s N=>xQ d t s N m) U V.toList 0 s v C (by simpa using a2) (λi f L=>O i f (by simpa using L)) (λg=>by
    have B:DataW.weights P t (.agg (v.map (·.1)):DataW H)=DataW.weightsEach P (V.toList.map (·.type)) (v.map (·.1)):=by simp[DataW.weights,p]
    unfold Q5 at g;rw[B]at g;exact Q6 g)
   refine⟨y,?_,J,Q⟩;rw[awW,awA (by rw[K,sR D];exact av5 _)]at G;exact G
  next m e p=>
   simp only[av4]at h;obtain⟨C,D⟩:=h;obtain⟨v,m',rfl,rfl,K,a2,O⟩:=DataW.trod_array p F;have I:Q5 P t (.agg (v.map (·.1)):DataW H)->∀(i:Nat) x,v[i]? =some x->Q5 P e x.1:=λg=>by
    have B:DataW.weights P t (.agg (v.map (·.1)):DataW H)=DataW.weightsAll P e (v.map (·.1)):=by simp[DataW.weights,p]
    unfold Q5 at g;rw[B]at g;exact NQ g
   obtain⟨y,G,J,Q⟩:=Q7 (WA:=Q5 P t (.agg (v.map (·.1)):DataW H)) (ew:=P.cellsOf e) (λs N=>xQ d e s N m') U m 0 s C (λi hi=>by
    have:=O i hi;have X:i<v.length:=bv
    rw[awf X]at this;exact⟨_,by rw[awB];exact this,λg=>I g i _ (awf X)⟩)
   refine⟨y,?_,J,Q⟩;rw[awW,awA (by rw[K,sR D];exact av5 _)]at G;exact G
  .cases h
def VP(P:Fd)(t:EQ):In:=match P.underlying t with
 |some (.struct _)=>true
 |some (.array _ _)=>true
 |_=>false
def Ef{r:Reach}{b0 c:Nat}{s:Sc}{x:DataW H}{A:Do MemPlace}(j:tyC P c d s=true)(o:Value.okWide P w r b0 d D)(h:DataW.Trod enc P w base spare held d D x A):
 ∃y:s.dp,Fits s y/\(Q5 P d x->Siz s y)/\(VP P d=true->VR (Rw w) none (.ag (bM s y)) D)/\(VP P d=false->VR (Rw w) none (encS s y) D):=by
 obtain⟨n,h⟩:=h;obtain⟨y,t,u,B⟩:=xQ c d s j n _ _ h;refine⟨y,u,B,λg=>?_,λg=>?_⟩
 .unfold VP at g
  unfold Value.okWide at o;have v:∃p,D=.agg p:=by
   split at g
   next f=>rw[f]at o;obtain⟨p,h,-⟩:=o;exact⟨p,h⟩
   next f=>rw[f]at o;obtain⟨p,h,-⟩:=o;exact⟨p,h⟩
   .cases g
  obtain⟨p,rfl⟩:=v;have:=VR.ag (E:=none) (Rd:=Rw w) p.toList t.1 t.2;simpa using this
 .cases c with
  |zero=>simp[tyC]at j
  |succ c=>
   unfold tyC at j;unfold VP at g;split at j
   next k f=>
    cases s with
    |i l=>
     obtain⟨z,rfl⟩:=okWide_int f o;have q:=t.2 0 _ _ rfl rfl;exact q
    |_=>simp at j
   next f=>
    cases s with
    |b=>
     obtain⟨z,rfl⟩:=okWide_bool f o;have q:=t.2 0 _ _ rfl rfl;exact q
    |_=>simp at j
   next e f=>
    cases s with
    |sl r=>
     obtain⟨a,G,C,rfl⟩:=okWide_slice f o;have q:=t.2 0 _ _ rfl rfl;exact q
    |_=>simp at j
   next F f=>rw[f]at g;cases g
   next m e f=>rw[f]at g;cases g
   .cases j
end
def XM(h:Fits (.i .u8) v):0<=v/\v<=255:=by
 simpa[Fits,IntKind.min,IntKind.max,IntKind.signed,IntKind.bits]using h
def NR{P:Fd}{j:Do PV}{d:Do Sc}{M:mq d->At a}{g:a->(R:Type)->(EV->fv->At R)->At R}{own t:In}(p:kS.ok P ⟨e,j,[],d,a,M,g,own,t⟩){x:mq d}{y:a}(q:M x=some y)
 {w:GE} (n:akX w) {vs:bI} (s:LR (VR (Rw w) none) (cw (du j (iU d x)).1) vs) (f:g y EV (λb _=>some b)=some (.sc .b true)) (o:D=.bool true):Calls P e vs.toArray w λb k=>b=.returned D/\Ext w k:=by
 obtain⟨c,H,l,_,_,m⟩:=p.2 x y q;have f:(some c:At EV)=some (.sc .b true):=(l EV λb _=>some b).symm.trans f;obtain rfl:=av_ f;refine(m.2 (b0 w) (Rw w) e0 w vs (sr0 w n) (s.imp λ_ _ h=>(h.mono λ_ _ _ h=>aqK h).c9)).mono λb k h=>?_;obtain⟨v,u,rfl,r,i⟩:=h;change VR _ _ (enc (.sc .b true)) v at i;refine⟨?_,r.ext.ext λ_ h=>h⟩;subst o;cases i;rfl
end
variable{b:GE}
section
open Go Go.ChangeShapes Go.WideShapes Go.ChangeAt Go.RowKit
def afE:(Tryz.prog.globals[0]?).map (·.type)=some 317:=ci
def afF:Tryz.prog.cellsOf 317=32:=ci
def acg:Tryz.prog.cellsOf 5=1:=ci
def an8:aX:=[0,1,28,2,29,14,24,3,30,22,20,15,25,17,4,8,31,27,13,23,21,19,16,7,26,12,18,6,11,5,10,9]
def akY:aeh=[(0,.u8,an8)]:=rfl
def NS(h:laidMetH Tryz.prog Rows.wholeSoundRow.laid b):akX b:=by
 have j:=Lib.tabIs_of_head (rest:=[]) (g:=0) ci afE Tryz.underlying317 Tryz.underlying5 acg afF (k:=.u8)
  (zs:=an8) h
 rintro a o u ⟨k,l,x,c,e,rfl⟩;rw[akY,abJ]at c;cases d:Nat.beq a 0 with
 |false=>rw[d]at c;cases c
 |true=>
  rw[d]at c;have d:=awb d;subst d;cases c;have i:o<an8.length:=(av7.1 e).1;have f:=j.cell (g:=0) ci o (by simpa using i);rw[f];rw[axr,e];rfl
noncomputable def Eg(a:Os):GE:=
 {World.holding Tryz.prog a ⟨#[], #[],[]⟩with heap:=(World.holding Tryz.prog a ⟨#[], #[],[]⟩).heap.modify 0 λ
  |.cells _ t frozen=>.cells #[.int .u8 0,.int .u8 1,.int .u8 28,.int .u8 2,.int .u8 29,.int .u8 14,.int .u8 24,.int .u8 3,.int .u8 30,.int .u8 22,.int .u8 20,.int .u8 15,.int .u8 25,.int .u8 17,.int .u8 4,.int .u8 8,.int .u8 31,.int .u8 27,.int .u8 13,.int .u8 23,.int .u8 21,.int .u8 19,.int .u8 16,.int .u8 7,.int .u8 26,.int .u8 12,.int .u8 18,.int .u8 6,.int .u8 11,.int .u8 5,.int .u8 10,.int .u8 9] t frozen
  |o=>o}
end
abbrev vI:Id:=.int .i64 0
abbrev vB:Id:=.bool false
abbrev vS:Id:=.slice none 0 0
abbrev sI:Sc:=.i .i64
abbrev xO:At (In×Nat):=some (false,1)
def tS:a_:=[9,10,11]
def tN:a_:=[20]
def tL:Do (a_×bz):=[
 ([2,3,37,297],{ty:=xO,ze:=some [vI],ik:=some .i64}),
 ([4],{ty:=xO,bo:=true,ze:=some [vB]}),
 ([5,6,408,409],{ty:=xO,ze:=some [.int .u8 0],ik:=some .u8}),
 ([7,8],{ty:=some (true,4),fd:=[(0,false,1),(1,false,1),(2,false,1),(3,false,1)],pl:=some ([vI,vI,vB,.int .u8 0],[(0,1),(1,1),(2,1),(3,1)]),ze:=some [vI,vI,vB,.int .u8 0],eq:=some ((sI).pr ((sI).pr (Sc.b.pr (Sc.i .u8))))}),
 ([12,164,304,340],{ty:=xO,ze:=some [.int .u64 0],ik:=some .u64}),
 ([15,16,17,126,149,222,254,259,270,311,344,348,366,395,411,416],{ty:=xO,ze:=some [.pointer none]}),
 ([18,19],{ty:=some (true,1),fd:=[(0,false,1)],pl:=some ([.pointer none],[(0,1)]),ze:=some [.pointer none],zv:=some (.agg {toList:=[.pointer none]})}),
 ([21,412,413],{ty:=xO,ze:=some [.int .i32 0],ik:=some .i32}),
 ([22],{ty:=xO,el:=some (5,1,1,[.int .u8 0]),lH:=true,ze:=some [vS],co:=some (Sc.i .u8)}),
 ([23],{ty:=xO,el:=some (138,2,16,[vI,vI]),lH:=true,ze:=some [vS],co:=some ((sI).pr (sI))}),
 ([24,25,41,42],{ty:=some (true,3),fd:=[(0,false,1),(1,false,1),(2,false,1)],pl:=some ([vI,vI,vS],[(0,1),(1,1),(2,1)]),ze:=some [vI,vI,vS]}),
 ([26,27],{ty:=some (true,5),fd:=[(0,false,1),(1,false,1),(2,true,3)],pl:=some ([vI,vI,vI,vI,vS],[(0,1),(1,1),(2,3)]),ze:=some [vI,vI,vI,vI,vS]}),
 ([30],{ty:=xO,el:=some (134,4,32,[vI,vI,vI,vB]),lH:=true,ze:=some [vS],co:=some ((sI).pr ((sI).pr ((sI).pr Sc.b)))}),
 ([31,32,82,83],{ty:=some (true,2),fd:=[(0,false,1),(1,false,1)],pl:=some ([vI,vS],[(0,1),(1,1)]),ze:=some [vI,vS],zv:=some (.agg {toList:=[vI,vS]})}),
 ([33,34],{ty:=some (true,4),fd:=[(0,true,2),(2,false,1),(3,false,1)],pl:=some ([vI,vS,vI,vI],[(0,2),(2,1),(3,1)]),ze:=some [vI,vS,vI,vI]}),
 ([36],{ty:=xO,el:=some (48,3,56,[vI,vS,vS]),lH:=true,ze:=some [vS],co:=some ((sI).pr (((sI).pr (sI)).sl.pr ((sI).pr ((sI).pr (sI))).sl))}),
 ([40,159,275],{ty:=xO,el:=some (3,1,8,[vI]),lH:=true,ze:=some [vS],co:=some (sI)}),
 ([45],{ty:=xO,el:=some (52,2,16,[vI,vI]),lH:=true,ze:=some [vS],co:=some ((sI).pr (sI))}),
 ([46],{ty:=xO,el:=some (54,3,24,[vI,vI,vI]),lH:=true,ze:=some [vS],co:=some ((sI).pr ((sI).pr (sI)))}),
 ([47,48,100,101],{ty:=some (true,3),fd:=[(0,false,1),(1,false,1),(2,false,1)],pl:=some ([vI,vS,vS],[(0,1),(1,1),(2,1)]),ze:=some [vI,vS,vS]}),
 ([51,52,192,193,219,220],{ty:=some (true,2),fd:=[(0,false,1),(1,false,1)],pl:=some ([vI,vI],[(0,1),(1,1)]),ze:=some [vI,vI],eq:=some ((sI).pr (sI)),zv:=some (.agg {toList:=[vI,vI]})}),
 ([53,54],{ty:=some (true,3),fd:=[(0,false,1),(1,false,1),(2,false,1)],pl:=some ([vI,vI,vI],[(0,1),(1,1),(2,1)]),ze:=some [vI,vI,vI],eq:=some ((sI).pr ((sI).pr (sI)))}),
 ([59],{ty:=xO,el:=some (42,3,40,[vI,vI,vS]),lH:=true,ze:=some [vS],co:=some ((sI).pr ((sI).pr (sI).sl))}),
 ([66],{ty:=xO,el:=some (75,3,72,[vS,vS,vS]),lH:=true,ze:=some [vS],co:=some ((sI).sl.pr ((sI).sl.pr (sI).sl.sl))}),
 ([69],{ty:=xO,ze:=some [.int .u32 0],ik:=some .u32}),
 ([70],{ty:=xO,el:=some (69,1,4,[.int .u32 0]),lH:=true,ze:=some [vS],co:=some (Sc.i .u32)}),
 ([71],{ty:=xO,el:=some (40,1,24,[vS]),lH:=true,ze:=some [vS],co:=some (sI).sl}),
 ([74,75],{ty:=some (true,3),fd:=[(0,false,1),(1,false,1),(2,false,1)],pl:=some ([vS,vS,vS],[(0,1),(1,1),(2,1)]),ze:=some [vS,vS,vS]}),
 ([77],{ty:=xO,el:=some (4,1,1,[vB]),lH:=true,ze:=some [vS],co:=some Sc.b}),
 ([89,90],{ty:=some (true,2),fd:=[(0,false,1),(1,false,1)],pl:=some ([vS,vS],[(0,1),(1,1)]),ze:=some [vS,vS],zv:=some (.agg {toList:=[vS,vS]})}),
 ([93],{ty:=xO,el:=some (199,4,32,[vI,vI,vI,vI]),lH:=true,ze:=some [vS],co:=some ((sI).pr ((sI).pr ((sI).pr (sI))))}),
 ([94,95],{ty:=some (true,3),fd:=[(0,false,1),(1,false,1),(2,false,1)],pl:=some ([vS,vI,vS],[(0,1),(1,1),(2,1)]),ze:=some [vS,vI,vS]}),
 ([96,97],{ty:=some (true,7),fd:=[(0,true,3),(3,false,1),(4,false,1),(5,false,1),(6,false,1)],pl:=some ([vS,vI,vS,vS,vB,vI,vI],[(0,3),(3,1),(4,1),(5,1),(6,1)]),ze:=some [vS,vI,vS,vS,vB,vI,vI]}),
 ([108],{ty:=xO,el:=some (183,5,32,[vB,vB,vI,vI,vI]),lH:=true,ze:=some [vS],co:=some (Sc.b.pr (Sc.b.pr (((sI).pr (sI)).pr (sI))))}),
 ([123,124],{ty:=some (true,1),fd:=[(0,false,1)],pl:=some ([vI],[(0,1)]),ze:=some [vI],eq:=some (sI),zv:=some (.agg {toList:=[vI]})}),
 ([127,128],{ty:=some (true,7),fd:=[(0,true,4),(4,true,3)],pl:=some ([vI,vS,vI,vI,vI,vI,vS],[(0,4),(4,3)]),ze:=some [vI,vS,vI,vI,vI,vI,vS]}),
 ([133,134,264,265],{ty:=some (true,4),fd:=[(0,false,1),(1,false,1),(2,false,1),(3,false,1)],pl:=some ([vI,vI,vI,vB],[(0,1),(1,1),(2,1),(3,1)]),ze:=some [vI,vI,vI,vB],eq:=some ((sI).pr ((sI).pr ((sI).pr Sc.b)))}),
 ([138],{ty:=some (true,2),ar:=some (2,3,1),pl:=some ([vI,vI],[(0,1),(1,1)]),ze:=some [vI,vI],co:=some (sI)}),
 ([153,154],{ty:=some (true,6),fd:=[(0,true,3),(3,false,1),(4,false,1),(5,false,1)],pl:=some ([vS,vS,vS,vS,vI,vI],[(0,3),(3,1),(4,1),(5,1)]),ze:=some [vS,vS,vS,vS,vI,vI]}),
 ([182,183],{ty:=some (true,5),fd:=[(0,false,1),(1,false,1),(2,true,2),(4,false,1)],pl:=some ([vB,vB,vI,vI,vI],[(0,1),(1,1),(2,2),(4,1)]),ze:=some [vB,vB,vI,vI,vI]}),
 ([187],{ty:=xO,el:=some (265,4,32,[vI,vI,vI,vB]),lH:=true,ze:=some [vS],co:=some ((sI).pr ((sI).pr ((sI).pr Sc.b)))}),
 ([190],{ty:=xO,el:=some (193,2,16,[vI,vI]),lH:=true,ze:=some [vS],co:=some ((sI).pr (sI))}),
 ([198,199],{ty:=some (true,4),fd:=[(0,false,1),(1,false,1),(2,false,1),(3,false,1)],pl:=some ([vI,vI,vI,vI],[(0,1),(1,1),(2,1),(3,1)]),ze:=some [vI,vI,vI,vI],eq:=some ((sI).pr ((sI).pr ((sI).pr (sI))))}),
 ([201],{ty:=xO,ze:=some [.map none],mp:=some (TypeDesc.int .i64,vI),kv:=some (sI,sI)}),
 ([209],{ty:=xO,el:=some (83,2,32,[vI,vS]),lH:=true,ze:=some [vS],co:=some ((sI).pr (sI).sl.sl)}),
 ([223,224],{ty:=some (true,2),fd:=[(0,false,1),(1,false,1)],pl:=some ([vS,vI],[(0,1),(1,1)]),ze:=some [vS,vI],zv:=some (.agg {toList:=[vS,vI]})}),
 ([228],{ty:=some (true,8),ar:=some (8,3,1),pl:=some ([vI,vI,vI,vI,vI,vI,vI,vI],[(0,1),(1,1),(2,1),(3,1),(4,1),(5,1),(6,1),(7,1)]),ze:=some [vI,vI,vI,vI,vI,vI,vI,vI],co:=some (sI)}),
 ([244],{ty:=xO,ze:=some [.int .u16 0],ik:=some .u16}),
 ([245],{ty:=xO,ze:=some [.map none],mp:=some (TypeDesc.tuple {toList:=[]},vI),kv:=some ((sI).pr (sI),sI)}),
 ([256,257],{ty:=some (true,8),fd:=[(0,true,2),(2,true,5),(7,false,1)],pl:=some ([vI,vS,vB,vB,vI,vI,vI,vI],[(0,2),(2,5),(7,1)]),ze:=some [vI,vS,vB,vB,vI,vI,vI,vI]}),
 ([260,261],{ty:=some (true,8),fd:=[(0,true,7),(7,false,1)],pl:=some ([vS,vI,vS,vS,vB,vI,vI,vS],[(0,7),(7,1)]),ze:=some [vS,vI,vS,vS,vB,vI,vI,vS]}),
 ([271,272],{ty:=some (true,3),fd:=[(0,false,1),(1,false,1),(2,false,1)],pl:=some ([vS,.map none,.map none],[(0,1),(1,1),(2,1)]),ze:=some [vS,.map none,.map none]}),
 ([306],{ty:=xO,el:=some (30,1,24,[vS]),lH:=true,ze:=some [vS],co:=some ((sI).pr ((sI).pr ((sI).pr Sc.b))).sl}),
 ([310],{ty:=xO,el:=some (311,1,8,[.pointer none]),lH:=true,ze:=some [vS]}),
 ([317],{ty:=some (true,32),ar:=some (32,5,1),pl:=some ([.int .u8 0,.int .u8 0,.int .u8 0,.int .u8 0,.int .u8 0,.int .u8 0,.int .u8 0,.int .u8 0,.int .u8 0,.int .u8 0,.int .u8 0,.int .u8 0,.int .u8 0,.int .u8 0,.int .u8 0,.int .u8 0,.int .u8 0,.int .u8 0,.int .u8 0,.int .u8 0,.int .u8 0,.int .u8 0,.int .u8 0,.int .u8 0,.int .u8 0,.int .u8 0,.int .u8 0,.int .u8 0,.int .u8 0,.int .u8 0,.int .u8 0,.int .u8 0],[(0,1),(1,1),(2,1),(3,1),(4,1),(5,1),(6,1),(7,1),(8,1),(9,1),(10,1),(11,1),(12,1),(13,1),(14,1),(15,1),(16,1),(17,1),(18,1),(19,1),(20,1),(21,1),(22,1),(23,1),(24,1),(25,1),(26,1),(27,1),(28,1),(29,1),(30,1),(31,1)]),ze:=some [.int .u8 0,.int .u8 0,.int .u8 0,.int .u8 0,.int .u8 0,.int .u8 0,.int .u8 0,.int .u8 0,.int .u8 0,.int .u8 0,.int .u8 0,.int .u8 0,.int .u8 0,.int .u8 0,.int .u8 0,.int .u8 0,.int .u8 0,.int .u8 0,.int .u8 0,.int .u8 0,.int .u8 0,.int .u8 0,.int .u8 0,.int .u8 0,.int .u8 0,.int .u8 0,.int .u8 0,.int .u8 0,.int .u8 0,.int .u8 0,.int .u8 0,.int .u8 0],co:=some (Sc.i .u8)}),
 ([349,350],{ty:=some (true,11),fd:=[(0,true,7),(7,true,4)],pl:=some ([vS,vI,vS,vS,vB,vI,vI,vI,vI,vI,vB],[(0,7),(7,4)]),ze:=some [vS,vI,vS,vS,vB,vI,vI,vI,vI,vI,vB]}),
 ([405],{ty:=some (true,0),ar:=some (0,16,1),pl:=some ([],[]),ze:=some []}),
 ([406,407],{ty:=some (true,0),fd:=[(0,true,0)],pl:=some ([],[(0,0)]),ze:=some []}),
 ([414,415],{ty:=some (true,11),fd:=[(0,false,1),(1,false,1),(2,false,1),(3,false,1),(4,false,1),(5,false,1),(6,false,1),(7,false,1),(8,false,1),(9,false,1),(10,false,1)],pl:=some ([.int .u64 0,.int .u64 0,.int .u32 0,.int .u8 0,.int .u8 0,.int .u8 0,.int .u8 0,.nilFunc,.pointer none,.int .i32 0,.int .i32 0],[(0,1),(1,1),(2,1),(3,1),(4,1),(5,1),(6,1),(7,1),(8,1),(9,1),(10,1)]),ze:=some [.int .u64 0,.int .u64 0,.int .u32 0,.int .u8 0,.int .u8 0,.int .u8 0,.int .u8 0,.nilFunc,.pointer none,.int .i32 0,.int .i32 0]}),
 ([1,28,29,35,39,44,49,50,56,58,61,62,63,65,68,73,76,79,81,85,86,87,88,92,99,103,105,107,110,112,114,115,116,117,118,119,120,121,122,129,130,131,132,135,136,137,139,141,143,144,145,146,147,148,151,152,155,156,157,158,160,161,163,165,167,169,171,172,174,175,177,178,179,180,181,185,186,189,191,194,195,196,197,200,202,203,204,205,206,207,208,210,211,213,214,215,216,217,218,221,225,226,227,229,230,231,232,233,234,235,237,238,239,240,241,243,246,247,248,249,250,251,252,253,255,258,262,263,266,267,268,269,274,277,278,279,280,281,282,283,284,285,286,287,288,289,290,292,293,294,295,296,299,300,301,302,303,305,307,308,309,312,314,315,316,318,319,321,322,323,324,325,326,327,328,329,331,332,333,334,335,336,337,338,339,341,342,343,345,346,347,351,352,353,354,355,356,357,358,359,360,361,362,363,364,365,367,368,369,370,372,374,375,376,378,379,380,381,382,383,384,385,386,387,388,389,390,391,392,393,394,396,397,398,399,400,401,402,410],{ty:=xO,ze:=some [.nilFunc]})]
def T(t:EQ):bz:=tgF tS tN tL t
def Bg:hS Tryz.prog T:=akW (Q4 (S:=tS) (N:=tN) (L:=tL) ci ci ci)
def IJ:∀q∈amw,aqt Tryz.prog q:=λq h=>by cases h
def mixed:Tryz.prog.follows .mixedOrders=true:=ci
section
set_option maxHeartbeats 400000
def o4(e:Int):Id:=.iface 124 (.agg #[.int .i64 e])
def afG(e:Int)(w:GE)(b:e≠0):Calls Tryz.prog 107 #[.int .i64 e] w λx a=>x=.panicked [{v:=o4 e,recovered:=false}]/\w=a:=by
 go_enter aAm,Tryz.ntmps107
 go_wp2
 exact⟨rfl,rfl,rfl⟩
end
variable{A:Bs}{s:Code}{j:Env}{o:Func}{y:Hp}{u:Do AV}{h:Do PanicEntry}{B:yy}{k:bq}
section
variable{P:Fd}{st:St}{dO:IR->St->Prop}
def TC(P:Fd)(c:Code)(st:St)(dO:IR->St->Prop):Prop:=
 ∀h b e a w Q,Ga h b e st a w->(∀x f,dO x f->∀i d g,Ga h b i f d g->Q x d g)->c.wp P Q a w
def TC.ac(h:AC false P s st dO):TC P s st dO:=λn b e a w Q i j=>
 wpIn_wide.1 (h none n b e a w Q (λh=>by cases h) i λx l k p o f d c m g _=>by
  obtain⟨rfl,rfl⟩:=f.ne rfl;exact j x l k d c m g)
def TC.mono{c:IR->St->Prop}(h:TC P s st dO)(j:∀x b,dO x b->c x b):TC P s st c:=λl f e a w Q g i=>h l f e a w Q g λx d k=>i x d (j x d k)
def TC.seq{x y:Code}(h:TC P x st (P0 (λb=>TC P y b dO) dO)):TC P (.seq x y) st dO:=λm k e a w Q o g=>by
 refine ax6 (h m k e a w _ o λn b i d c j f=>?_);cases n with
 |normal=>exact i m k d c j Q f g
 |_=>exact g _ b i d c j f
def TC.ex{T:EQ->bz}{c:Do kS}{N:Nat}(e:Place P T c)(d:Fp s=true){pl:Pl}{E:cY}{R:Type}{k:IR->cY->At R}{r:R}(h:yF T c N s pl E R k=some r):TC P s (br E) λx a=>∃b,a=br b/\b.n=E.n/\k x b=some r:=
 .ac (afv e s false (λ_=>d) pl E R k r h)
def TL(P:Fd)(i:yy)(l:bq)(st:St)(dO:IR->St->Prop):Prop:=
 ∀g b e a w Q,Ga g b e st a w->(∀x d,dO x d->∀h c f,Ga g b h d c f->Q x c f)->wpList P i Q l a w
def TL.cons{o:Oper}(h:∀c:St->Prop,(∀b,TL P B k b dO->c b)->GS P B o st c):TL P B (o::k) st dO:=by
 intro i d e a w Q n q;refine ayZ λj m=>?_;exact h (λb=>TL P B k b dO) (λ_ h=>h) i d e a w j Q n λb r l f g p=>m f g (r i d l f g Q p q)
def TL.of(h:AL P B k st (dO .normal)):TL P B k st dO:=λi b e a w Q c d=>h i b e a w Q c λg f=>d .normal g f
def TC.region{id:Nat}(h:TL P k.toArray k st dO):TC P (.region id k.toArray false) st dO:=λf b e a w Q c d=>
 wp_region_lit (h f b e a w Q c d)
def SP(P:Fd)(o:Oper)(st:St)(dO:IR->St->Prop):Prop:=
 ∀g b e a w next Q,Ga g b e st a w->(∀x d,dO x d->∀h c f,Ga g b h d c f->Q x c f)->o.wp P a w next Q
def TL.last{o:Oper}(d:o.guard=none)(h:SP P o st dO):TL P B (o::k) st dO:=by
 intro i c e a w Q f g;refine ayZ λb j=>?_;rw[av3 (by simp[Region.wanted,d])];exact h i c e a w b Q f g
def PCX(P:Fd)(f:FuncId)(a:Hp)(c:Do AV)(d:Do PanicEntry):Prop:=
 Enters P f/\∀B Rd e w b,SR B Rd e a w->LR (VR (bT B Rd e a w) (some e)) c b->Calls P f b.toArray w λx h=>x=.panicked d/\∃g,SR B Rd g [] h
def SR.nil{Rd:bL}(d:SR A Rd j y b):SR A Rd j [] b:=
 ⟨d.ext,d.lA,(λk ob c=>by cases c),(λk ob a c=>by cases c),(λk e ob f a c=>by cases c),d.yz⟩
def PCX.intro{c:Code}(v:P.funcs[e]? =some o)(J:(o.name== "runtime.NumGoroutine")=false)(r:o.body=some c)(Q:u.length<=o.ntmps)(G:o.ntmps<=1000000)
 (b:TC P c ⟨o.ntmps,vu 0 u,y⟩ λx _=>x=.panic h):PCX P e y u h:=by
 refine⟨⟨o,v,J,by rw[r];rfl⟩,λB Rd a w k g M=>aAn v r ?_⟩;obtain⟨j,l⟩:∃j:Bs,j=⟨B.w,B.own,B.ca,B.sv,[]⟩:=⟨_,rfl⟩;have L:SR j Rd a y w:=by
  subst l;exact⟨⟨g.ext.os,g.ext.tape,g.ext.output,g.ext.size,g.ext.block,g.ext.drawn⟩,g.lA,g.ob,g.base,g.inj,g.yz⟩
 have F:∀a b w,SR j Rd a b w->SR B Rd a b w:=by
  subst l;exactλa b w f=>⟨⟨f.ext.os,f.ext.tape,f.ext.output,f.ext.size,f.ext.block,f.ext.drawn⟩,f.lA,f.ob,f.base,f.inj,f.yz⟩
 have q:LR (VR (bT j Rd a y w) (some a)) u k:=by subst l;exact M
 have t:j.df=[]:=by subst l;rfl
 have I:Ga j Rd a ⟨o.ntmps,vu 0 u,y⟩ {tmps:=k.toArray++Array.replicate (o.ntmps - k.toArray.size) undef,defers:=[]} w:=by
  refine⟨⟨by simp[q.1];omega,G⟩,by rw[t],L,λi=>?_⟩;rw[AS];simp only[awy,awG,ay1];by_cases p:i<u.length
  .have s:u[i]? =some u[i]:=awf p
   obtain⟨d,C,K⟩:=q.get s;have n:u.getD i .un=u[i]:=by simp[List.getD,s]
   have E:(k.toArray++Array.replicate (o.ntmps - k.toArray.size) undef).getD i undef=d:=by
    have A:i<k.length:=by rw[q.1];exact p
    simp[axm,ay2,A];rw[awf A]at C;simpa using C
   rw[n,E];exact K
  .have n:u.getD i .un=.un:=by simp[List.getD,awO (ayD p)]
   rw[n];exact .un
 refine b j Rd _ _ w _ I λx R N D m O z=>?_;subst N;have H:m.defers=[]:=z.d.trans t;show Leaves P o m.tmps _ m.defers (.panicking h) O;rw[H];exact⟨rfl,D,F _ _ _ z.sr.nil⟩
end
section
variable{P:Fd}{st:St}{dO:IR->St->Prop}{d:Nat}{ty:EQ}{pos:String}{af:dY}{gd:gg}
def SP.Xc{op:Op}{D:bu}{h' r:Hp}{t:Do AV}(A:PCX P e r t h)(H:PF P ⟨some d,op,ty,pos,af,gd⟩ st e u)(I:Xb st D (1000*(d+1)) h' r t u)(v:PE (1000*(d+1)) D=true)
 (F:dO (.panic h) ⟨st.n,tZ (oY (1000*(d+1))) st.t,qo D++iR (oY (1000*(d+1))) h'⟩):SP P ⟨some d,op,ty,pos,af,gd⟩ st dO:=by
 intro B s g a w next Q f K
 obtain⟨W,R,M⟩:=H A.1 B s g a w f;obtain⟨C,l,q,z,S⟩:=I B s g w _ f.sr R;have m:=f.cX l;have N:=m.sr.qp q v z;have G:=A.2 _ _ _ w W N (S.ra λb o k J=>J.qp q λp ob L=>by
  obtain⟨c,V,x,y,_⟩:=z p ob L;exact⟨c,x,V,y⟩)
 unfold Oper.wp;rw[M w];show Calls P e _ w _;refine G.mono λx X U=>?_;obtain⟨rfl,E,O⟩:=U;obtain⟨j1,j2,j3,j4⟩:=SR.eX m.sr q v O rfl;refine K _ _ F (C.eX D (1000*(d+1)) E) a X ⟨m.n,m.d,j1,λi=>?_⟩;rw[nR];exact((((m.tr i).mono j2).lB _).KT rfl (oY (1000*(d+1))) (q_ _ _) (λj n=>by simp[Env.eX,n]) (λj n=>by simp[Env.eX,n]))
end
def afH(c:kS)(d:Nat)(a:Nat->At eD)(b:Do EV):At (mq c.cs×a_×bu):=
 let D:=Qy a c.hs (sJ c.ps b [])
 cond (b.all ae0) (match nc a c.pu (pd (gC D (1000*(d+1))) c.ps) b with
 |some (e,gs)=>match Im a D (1000*(d+1)) c.hs with
  |some ws=>match yC c.cs (e++ws)with
   |some x=>cond (PE (1000*(d+1)) D && gs.all (λk=>(UQ D k).isNone) && D.all (λq=>c.hs.any λr=>Nat.beq r.1 q.1) && (c.pu||gs.all (QC a)) && !c.pu) (some (x,gs,D)) none
   |none=>none
  |none=>none
 |none=>none) none
section
variable{P:Fd}{st:St}{dO:IR->St->Prop}{d:Nat}{ty:EQ}{pos:String}{af:dY}{gd:gg}
def SP.ctr{c:kS}{b:Nat->At eD}{e:Do EV}{x:mq c.cs}{gs:a_}{D:bu}{j:Op}(a:afH c d b e=some (x,gs,D))(q:PCX P c.f (bF (c.H0 x)) (cw (c.as x)) h)
 (p:PF P ⟨some d,j,ty,pos,af,gd⟩ st c.f (cw e)) (l:Hk b (gs++D.map (·.2)) st)
 (m:dO (.panic h) ⟨st.n,tZ (oY (1000*(d+1))) st.t,qo D++iR (oY (1000*(d+1))) (bF (h8 b gs)++st.h)⟩):SP P ⟨some d,j,ty,pos,af,gd⟩ st dO:=by
 unfold afH at a;obtain⟨_,a⟩:=aY a;generalize Qy b c.hs (sJ c.ps e [])=k at a;split at a
 next y w n=>
  split at a
  next z r=>
   split at a
   next A f=>
    have f:=Ba f;obtain⟨i,a⟩:=aY a;simp only[av4,axi]at i;obtain⟨⟨⟨⟨g,s⟩,t⟩,u⟩,v⟩:=i;have o:Gp (k.map (·.2))=true:=by simp only[PE,av4]at g;exact g.1.2
    cases a;exact SP.Xc q p (vJ n r f s t u v o l) g m
   .cases a
  .cases a
 .cases a
end
noncomputable def ru(N:Nat):Do kS:=[]
def t_:Pl:=.z
def lc:Do (Nat×PV):=[(2,.h .b)]
def ig:PS:=⟨lc,[],[.b]⟩
noncomputable def ij(N:Nat):Int->eu:=exF T ru N (iX f208) 6 t_ [.h (.i .i64)] [] [(.i .i64)] ig
noncomputable def ua(N:Nat):kS:=⟨208,[.h (.i .i64)],[],[(.i .i64)],mq ig.c,ij N,λy _ k=>k (Bf T (fN 6 ig y) f208.results.toList) (gI [] (fN 6 ig y).h),false,true⟩
def zY N x:ij (N+1) x=some (!(x=x)):=ci
def zZ(N:Nat):(ua N).ok Tryz.prog:=zX (T:=T) (CT:=ru) (N:=N) (λM=>⟨Bg,nV,mixed,IJ⟩) func208 ci ci t_ [.h (.i .i64)] [] [(.i .i64)] ig false true [] ci (λy=>by kernel_rfl) (λ_=>⟨rfl,rfl⟩) (λy=>by kernel_rfl) (ij N) (λx=>by kernel_rfl)
noncomputable def ou(N:Nat):Do kS:=[ua N]
def pf:Pl:=.z
def asc:Do (Nat×PV):=[(4,.h (.i .i64))]
def gk:PS:=⟨asc,[],[(.i .i64)]⟩
noncomputable def cV(N:Nat):Int×Int->fi:=exF T ou N (iX f159) 20 pf [.h (.i .i64),.h (.i .i64)] [] [(.i .i64),(.i .i64)] gk
noncomputable def gn(N:Nat):kS:=⟨159,[.h (.i .i64),.h (.i .i64)],[],[(.i .i64),(.i .i64)],mq gk.c,cV N,λy _ k=>k (Bf T (fN 20 gk y) f159.results.toList) (gI [] (fN 20 gk y).h),false,true⟩
def vN N x y:cV (N+1) (x,y)=aW (ij N x) λb=>
 aW (ij N y) λa=>
 cond b
  (cond a
   (some 0)
   (some (-1)))
  (cond a
   (some 1)
   (cond (x<y)
    (some (-1))
    (cond (y<x)
     (some 1)
     (some 0)))):=ci
def gp(N:Nat):(gn N).ok Tryz.prog:=zX (T:=T) (CT:=ou) (N:=N) (λM=>⟨Bg,(ot (zZ M) nV),mixed,IJ⟩) func159 ci ci pf [.h (.i .i64),.h (.i .i64)] [] [(.i .i64),(.i .i64)] gk false true [] ci (λy=>by kernel_rfl) (λ_=>⟨rfl,rfl⟩) (λy=>by kernel_rfl) (cV N) (λx=>by kernel_rfl)
noncomputable def qx(N:Nat):Do kS:=[]
def vO:PS:=⟨[(3,.h (.i .i64)),(6,.h (.sl (.i .i64))),(7,.h (.i .i64)),(8,.h (.i .i64))],[],[(.i .i64),(.sl (.i .i64)),(.i .i64),(.i .i64)]⟩
def vP:Do (IR×PS):=[((.exit 0),⟨[(3,.h (.i .i64))],[],[(.i .i64)]⟩),(.ret,⟨[(2,.h (.i .i64))],[],[(.i .i64)]⟩)]
def vQ:Pl:=.z
noncomputable def ox(N:Nat):Nat->Int×aX×Int×Int->At ((Int)⊕(Int)):=IF (yF T (qx N) N (jG [1,1,0,1,0,0] (iX f158))) 18 vO vP vQ
def Bh:Pl:=(.n .z (.n .z (.n (.n .z (.n (.loop vO vP vQ) .z)) .z)))
def kZ:PS:=⟨[(2,.h (.i .i64))],[],[(.i .i64)]⟩
noncomputable def h9(N:Nat):aX->fi:=exF T qx N (iX f158) 18 Bh [.h (.sl (.i .i64))] [] [(.sl (.i .i64))] kZ
noncomputable def nG(N:Nat):kS:=⟨158,[.h (.sl (.i .i64))],[],[(.sl (.i .i64))],mq kZ.c,h9 N,λy _ k=>k (Bf T (fN 18 kZ y) f158.results.toList) (gI [] (fN 18 kZ y).h),false,true⟩
def lP N m b c d a:ox N (m+1) (b,c,d,a)=cond (a<d)
 (aW (aZ c a) λe=>
  cond (!(e=b))
   (some (.inr e))
   ((ox N m (b,c,d,(wZ (a+1))))))
 (some (.inl b)):=ci
def Gv N a:h9 (N+1) a=aW (ox N N (0,a,(List.length a:Int),0)) λb=>
 (match b with
 |.inl c=>some c
 |.inr d=>some d):=ci
def mU(N:Nat):(nG N).ok Tryz.prog:=zX (T:=T) (CT:=qx) (N:=N) (λM=>⟨Bg,nV,mixed,IJ⟩) func158 ci ci Bh [.h (.sl (.i .i64))] [] [(.sl (.i .i64))] kZ false true [] ci (λy=>by kernel_rfl) (λ_=>⟨rfl,rfl⟩) (λy=>by kernel_rfl) (h9 N) (λx=>by kernel_rfl)
noncomputable def ub(N:Nat):Do kS:=[gn N,nG N]
def vR:Pl:=.z
def iY:PS:=⟨asc,[],[(.i .i64)]⟩
noncomputable def iZ(N:Nat):Int×Int×Int×Int->fi:=exF T ub N (iX f88) 17 vR [.ag [.h (.i .i64),.h (.i .i64)],.ag [.h (.i .i64),.h (.i .i64)]] [] [(.i .i64),(.i .i64),(.i .i64),(.i .i64)] iY
noncomputable def oy(N:Nat):kS:=⟨88,[.ag [.h (.i .i64),.h (.i .i64)],.ag [.h (.i .i64),.h (.i .i64)]],[],[(.i .i64),(.i .i64),(.i .i64),(.i .i64)],mq iY.c,iZ N,λy _ k=>k (Bf T (fN 17 iY y) f88.results.toList) (gI [] (fN 17 iY y).h),false,true⟩
def Bi N a c b d:iZ (N+1) (a,c,b,d)=aW (cV N (a,b)) λe=>
 aW (cV N (c,d)) λf=>
 aW (h9 N [e,f]) λg=>
 some g:=ci
def pg(N:Nat):(oy N).ok Tryz.prog:=zX (T:=T) (CT:=ub) (N:=N) (λM=>⟨Bg,(ot (gp M) (ot (mU M) nV)),mixed,IJ⟩) func88 ci ci vR [.ag [.h (.i .i64),.h (.i .i64)],.ag [.h (.i .i64),.h (.i .i64)]] [] [(.i .i64),(.i .i64),(.i .i64),(.i .i64)] iY false true [] ci (λy=>by kernel_rfl) (λ_=>⟨rfl,rfl⟩) (λy=>by kernel_rfl) (iZ N) (λx=>by kernel_rfl)
noncomputable def yG(N:Nat):Do kS:=[oy N]
def Bj:Pl:=.z
def k4:PS:=⟨asc,[],[(.i .i64)]⟩
noncomputable def nH(N:Nat):Int×Int×Int×In×Int×Int×Int×In->fi:=exF T yG N (iX f87) 16 Bj [.ag [.h (.i .i64),.h (.i .i64),.h (.i .i64),.h .b],.ag [.h (.i .i64),.h (.i .i64),.h (.i .i64),.h .b]] [] [(.i .i64),(.i .i64),(.i .i64),.b,(.i .i64),(.i .i64),(.i .i64),.b] k4
noncomputable def Bl(N:Nat):kS:=⟨87,[.ag [.h (.i .i64),.h (.i .i64),.h (.i .i64),.h .b],.ag [.h (.i .i64),.h (.i .i64),.h (.i .i64),.h .b]],[],[(.i .i64),(.i .i64),(.i .i64),.b,(.i .i64),(.i .i64),(.i .i64),.b],mq k4.c,nH N,λy _ k=>k (Bf T (fN 16 k4 y) f87.results.toList) (gI [] (fN 16 k4 y).h),false,true⟩
def Gw N a c e f b d g h:nH (N+1) (a,c,e,f,b,d,g,h)=aW (iZ N (a,c,b,d)) λi=>
 some i:=ci
def Gx(N:Nat):(Bl N).ok Tryz.prog:=zX (T:=T) (CT:=yG) (N:=N) (λM=>⟨Bg,(ot (pg M) nV),mixed,IJ⟩) func87 ci ci Bj [.ag [.h (.i .i64),.h (.i .i64),.h (.i .i64),.h .b],.ag [.h (.i .i64),.h (.i .i64),.h (.i .i64),.h .b]] [] [(.i .i64),(.i .i64),(.i .i64),.b,(.i .i64),(.i .i64),(.i .i64),.b] k4 false true [] ci (λy=>by kernel_rfl) (λ_=>⟨rfl,rfl⟩) (λy=>by kernel_rfl) (nH N) (λx=>by kernel_rfl)
noncomputable def vT(N:Nat):Do kS:=[gn N]
def yH:Pl:=.z
def jR:PS:=⟨asc,[],[(.i .i64)]⟩
noncomputable def l3(N:Nat):aX×aX->fi:=exF T vT N (iX f268) 12 yH [.h (.sl (.i .i64)),.h (.sl (.i .i64))] [] [(.sl (.i .i64)),(.sl (.i .i64))] jR
noncomputable def yI(N:Nat):kS:=⟨268,[.h (.sl (.i .i64)),.h (.sl (.i .i64))],[],[(.sl (.i .i64)),(.sl (.i .i64))],mq jR.c,l3 N,λy _ k=>k (Bf T (fN 12 jR y) f268.results.toList) (gI [] (fN 12 jR y).h),false,true⟩
def Eh N a b:l3 (N+1) (a,b)=aW (aZ a 0) λc=>
 aW (aZ b 0) λd=>
 aW (cV N (c,d)) λe=>
 some e:=ci
def Ei(N:Nat):(yI N).ok Tryz.prog:=zX (T:=T) (CT:=vT) (N:=N) (λM=>⟨Bg,(ot (gp M) nV),mixed,IJ⟩) func268 ci ci yH [.h (.sl (.i .i64)),.h (.sl (.i .i64))] [] [(.sl (.i .i64)),(.sl (.i .i64))] jR false true [] ci (λy=>by kernel_rfl) (λ_=>⟨rfl,rfl⟩) (λy=>by kernel_rfl) (l3 N) (λx=>by kernel_rfl)
variable{n:GE}{C:ey}{m:bI}
section
open Go Go.RowKit Go.Shelf Go.Sort
section
def lQ(b:a->a->In)(l:Do a):Prop:=l.Pairwise λx y=>b x y=true\/b y x=true
open Classical in
def NT{α:Type}(lt:α->α->In)(l:Do α):At (Do α):=if lQ lt l/\l.length<1099511627776 then some (l.mergeSort λx y=> !lt y x)else none
def LH{b:a->a->In}{l r:Do a}(h:NT b l=some r):lQ b l/\l.length<1099511627776/\r=l.mergeSort λx y=> !b y x:=by
 unfold NT at h;split at h
 next c=>exact⟨c.1,c.2,(av_ h).symm⟩
 .cases h
def lQ.perm{b:a->a->In}{l r:Do a}(h:lQ b l)(c:l.Perm r):lQ b r:=c.pairwise h λ{x y} h=>h.symm
def Bm{α:Type}{b:α->α->In}(m:∀x y,b x y=true->b y x=true->False):∀{l r:Do α},l.Perm r->lQ b l->l.Pairwise (λx y=>b y x=false)->r.Pairwise (λx y=>b y x=false)->l=r
 |[],r,a,_,_,_=>by rw[List.nil_perm.1 a]
 |x::l,[],a,_,_,_=>by simp at a
 |x::l,y::r,a,f,g,i=>by
  have n:x=y:=by
   have d:x∈y::r:=a.subset d5;have c:y∈x::l:=a.symm.subset d5;rcases awr.1 d with e|d
   .exact e
   rcases awr.1 c with e|c
   .exact e.symm
   have j:=(axW.1 g).1 y c;have k:=(axW.1 i).1 x d;rcases(axW.1 f).1 y c with h|h
   .rw[k]at h;cases h
   .rw[j]at h;cases h
  subst n;rw[Bm m ((List.perm_cons x).1 a) (axW.1 f).2 (axW.1 g).2 (axW.1 i).2]
def z1{e:a->a->In}(g:SWO e){l r:Do a}(j:r.Perm l)(k:lQ e l)(n:r.Pairwise λx y=>e y x=false):r=l.mergeSort λx y=> !e y x:=by
 have m:=azw l λx y=> !e y x;refine Bm (λx y i f=>by have:=g.trans _ _ _ i f;rw[g.irrefl]at this;cases this) (j.trans m.symm) (k.perm j.symm) n ?_;have:=aAY (le:=λx y=> !e y x) (λd b c i f=>by
  simp only[axi]at i f⊢;exact g.ntrans _ _ _ f i) (λd b=>by
  cases h:e b d with
  |false=>rfl
  |true=>
   cases f:e d b with
   |false=>rfl
   |true=>have:=g.trans _ _ _ h f;rw[g.irrefl]at this;cases this) l
 exact this.imp λh=>by simpa using h
def XN [Inhabited a]{d b:Array a}(h:PermIn 0 d.size d b):b.toList.Perm d.toList:=by
 have f:=h.2.2;have c:d.extract 0 d.size=d:=d5
 have e:b.extract 0 d.size=b:=by rw[<-h.1];simp
 rwa[c,e]at f
def LI [Inhabited a]{c:a->a->In}{d b:Array a}(m:b.size=d.size)(h:SortedIn c 0 d.size b):b.toList.Pairwise λx y=>c y x=false:=by
 rw[ay6];intro i j e k g;have f:i<b.size:=by simpa using e
 have l:j<b.size:=by simpa using k
 have:=h i j (awy _) g bv;rw[ayK b i f,ayK b j l]at this;simpa using this
structure an9(w W:World)(b:Nat)(cur:ey)(t:TypeId)(us:bI):Prop where
 os:W.os=w.os
 tape:W.tape=w.tape
 output:W.output=w.output
 size:w.heap.size<=W.heap.size
 drawn:w.drawn<=W.drawn
 other:∀k,k≠b->k<w.heap.size->W.heap[k]? =w.heap[k]?
 row:∃an_,W.heap[b]? =some (.cells an_ t (0,0))/\an_.size=cur.size/\an_.toList.take us.length=us
def afI [Inhabited a](g:b.heap[c]? =some (.cells C d (0,0)))(enc:a->Id)(m:Nat)(e:Array a)(o:Array Obj)(p:e.size<=C.size):an9 b (grow (putRow enc (Sort.ahead b m) c 0 e) o) c C d (e.toList.map enc):=by
 have h:c<b.heap.size:=(awS.1 g).1;refine⟨rfl,rfl,rfl,d5,by show b.drawn<=b.drawn+m;omega,λk l n=>?_,putCells enc 0 e C,?_,by simp[putCells],?_⟩
 .simp only[grow,putRow,mapBlock,heap_ahead]
  rw[ayt (by simpa using n),axS,av2 (Ne.symm l)]
 .simp only[grow,putRow,mapBlock,heap_ahead]
  rw[ayt (by simpa using h),axS,av3 rfl,g];rfl
 .refine axA λj=>?_
  rw[awP,awa,ayn];by_cases f:j<e.size
  .have i:j<C.size:=bv
   rw[av3 f,axq,awp,axq,putCells,Array.getElem?_mapIdx,awU i,awU f];simp[f]
  .rw[av2 f,awp,axq,Array.getElem?_eq_none bv]
   rfl
def NU(h:Ext b n):∃q c,n=grow (b.drewN q) c:=by
 obtain⟨p,a⟩:=regrown_of_below h.KS;have d:b.drawn<=p.d:=by
  have:=h.drawn;rw[a]at this;exact this
 refine⟨p.d - b.drawn,p.os,a.trans ?_⟩;congr 1;unfold redrawn World.drewN;congr 1;omega
variable{P:Fd}{ρ:Ren}
def afJ{Rd:bL}(D:SR A Rd j y b)(K:A.iP c)(r:an9 b n c C d m)(t:∀o a,¬bT A Rd j y b c o a)
 {vs:bI} (s:Gq P i [] u [] (.v (.int .i64 v))) (F:LR (VR (bT A Rd j y b) none) u vs):Calls P i vs.toArray n λx l=>x=.returned (.int .i64 v)/\∃q I,l=grow (n.drewN q) I:=by
 have k:∀f o a,bT A Rd j y b f o a->n.cell? ⟨f,o,none⟩=some a:=λf o a g=>by
  have B:f≠c:=λj=>t o a (j▸g);have z:=ax7 b _ g.1;have:=r.other f B z;rw[<-g.1];unfold World.cell?;rw[this]
 have p:akX n:=λf o a w=>k f o a (D.HO w);refine(s.2 (b0 n) (Rw n) e0 n vs (sr0 n p) (F.imp λ_ _ h=>(h.mono λf o a g=>aqK (k f o a g)).c9)).mono λx l H=>?_;obtain⟨e,J,rfl,E,G⟩:=H;exact⟨by rw[G.bS],NU (E.ext.ext λ_ h=>h)⟩
def VQ{Rd:bL}{k p:Nat}{t l:Do (Do AV)}(s:SR A Rd j [(k,some (.arr d p t true))] b)(B:j.ca k=some c)(Z:b.heap[c]? =some (.cells C d (0,0)))
 (X:j.sv k=.slice (some ⟨c,0,none⟩) t.length i) (R:t.length<=i) (V:i<=maxLen) (S:C.size=i*p) (g:an9 b n c C d m) (G:l.length=t.length) (Y:∀r∈l,r.length=p) (z:∀e∈l.flatten,e.one=true)
 (H:LR (VR (bT A Rd j [(k,some (.arr d p t true))] b) none) l.flatten m):SR A Rd j [(k,some (.arr d p l true))] n:=by
 have Q:=s.base k _ c bf B;have F:j.cX k=0:=(s.ob k _ bf).2.2.1 rfl;have v:∀a x,bc [(k,some (Ob.arr d p l true))] a=some x->a=k/\x=.arr d p l true:=λa x h=>by
  by_cases q:a=k
  .subst q;rw[bf]at h;exact⟨rfl,(av_ h).symm⟩
  .rw[bd q]at h;cases h
 have N:∀f o u,bT A Rd j [(k,some (.arr d p t true))] b f o u->bT A Rd j [(k,some (.arr d p l true))] n f o u:=λf o u w=>by
  have W:f≠c:=λy=>by
   subst y;have:=w.2.2 k _ bf B;omega
  have E:=ax7 b _ w.1;refine⟨?_,w.2.1,λa ob q D=>?_⟩
  .rw[<-w.1]
   unfold World.cell?;rw[g.other f W E]
  .obtain⟨rfl,_⟩:=v a ob q
   exact w.2.2 a _ bf D
 have U:Bx A n:=s.ext.step g.os g.tape g.output g.size (λf O E=>g.other f (λy=>O (by rw[y];exact Q.1)) E) g.drawn;refine⟨U,s.lA,λa ob q=>?_,λa ob f q D=>?_,λa j' ob x f z M _ _=>by rw[(v _ _ z).1,(v _ _ M).1],s.yz⟩
 .obtain⟨rfl,rfl⟩:=v a ob q
  obtain⟨L,I,J,K⟩:=g.row;refine⟨Y,z,λ_=>F,.inr ⟨c,i,L,B,by rw[X,G],by rw[G];exact R,V,I,by rw[J,S],?_,by rw[F];exact awy _⟩⟩;have:l.flatten.length=m.length:=H.1.symm;rw[this,K];exact H.imp λ_ _ h=>h.mono N
 .obtain⟨rfl,_⟩:=v a ob q
  have:=s.base a _ f bf D;exact⟨this.1,ax9 this.2 g.size⟩
def sS(h:Bears P e o)(c:o.body.isNone=false):Enters P e:=by
 obtain⟨d,a,b⟩:=h;exact⟨_,b,a,c⟩
def nW:∀(r:Sc) (x:r.dp),r.key=true->bM r x=(dv r x).map AV.v
 |.i k,x,_=>rfl
 |.b,x,_=>rfl
 |.sl r,x,h=>by simp[Sc.key]at h
 |.pr a c,x,h=>by
  simp only[Sc.key,av4]at h;show bM a x.1++bM c x.2=(dv a x.1++dv c x.2).map AV.v;rw[nW a x.1 h.1,nW c x.2 h.2,awQ]
 |.u,x,_=>rfl
def akZ(r:Sc)(x:r.dp)(h:r.key=true):(dv r x).length=r.w:=by
 have:=fy r x;rw[nW r x h,awa]at this;exact this
def ach(r:Sc)(x:r.dp)(h:r.key=true):∀v∈dv r x,v.oneCell'=true:=λv a=>by
 have:=rh r x (.v v) (by rw[nW r x h];exact awe.2 ⟨v,a,rfl⟩);exact this
def flat_get{α:Type} [Inhabited α]{enc:α->bI}{k:Nat}(a:∀x,(enc x).length=k):∀(l:Do α) (j:Nat),j<l.length*k->(l.map enc).flatten[j]? =some ((enc l[j/k]!)[j % k]!)
 |[],j,h=>by simp at h
 |x::l,j,h=>by
  rw[awo,awI];have f:0<k:=by
   rcases ayu k with e|e
   .subst e;simp at h
   .exact e
  by_cases b:j<k
  .rw[awY (by rw[a];exact b),aAo b,ayq b]
   rw[awf (by rw[a];exact b)];simp[a,b]
  .rw[axl (by rw[a];omega),a,flat_get a l (j - k) (by rw[aws,awK,aya]at h;omega)]
   have c:j/k=(j - k)/k+1:=by
    have:j=(j - k)+k:=bv
    conv=>lhs;rw[this]
    exact Nat.add_div_right _ f
   have d:j % k=(j - k) % k:=by
    have:j=(j - k)+k:=bv
    conv=>lhs;rw[this]
    exact Nat.add_mod_right _ _
   rw[c,d];simp
def IK [Inhabited a]{enc:a->bI}(e:∀x,(enc x).length=c)(d:Array a):(flatK enc c d).toList=(d.toList.map enc).flatten:=by
 refine axA λj=>?_;have g:(d.toList.map enc).flatten.length=d.size*c:=by
  have:∀l:Do a,(l.map enc).flatten.length=l.length*c:=λl=>by
   induction l with
   |nil=>simp
   |cons x l f=>rw[awo,awI,awl,f,e,aws,awK];omega
  rw[this,ayn]
 by_cases b:j<d.size*c
 .rw[flat_get e d.toList j (by simpa using b),axq,awU (by simpa using b)]
  have:=get_flatK enc c d j b;rw[ayK (flatK enc c d) j (by simpa using b)]at this;rw[this,show d.toList[j/c]! =d[j/c]! from Array.getElem!_toList]
 .rw[awO d7,awO bv]
def IL(r:Sc)(h:r.key=true)(l:Do r.dp):(List.map (bM r) l).flatten=(l.map (dv r)).flatten.map AV.v:=by
 induction l with
 |nil=>rfl
 |cons x l a=>rw[awo,awo,awI,awI,awQ,a,nW r x h]
def XO{Rd:bL}{a:bI}(h:LR (VR Rd none) (m.map AV.v) a):a=m:=by
 refine axA λj=>?_;have d:=h.1;rw[awa]at d;by_cases b:j<m.length
 .have c:=h.2 j (.v m[j]) a[j] (by simp[b]) (awf bv)
  rw[awf bv,awf b,c.bS]
 .rw[awO bv,awO bv]
abbrev G0:Nat:=4294967296
def amK{e:AV}{Rd:bL}(d:LR (VR Rd (some j)) [.ow c,e] m):∃u,m=[j.sv c,u]/\VR Rd (some j) e u:=by
 match m,d.1 with
 |[a,b],_=>
  have f:=d.2 0 _ a rfl rfl;have g:=d.2 1 _ b rfl rfl;cases f with
  |ow=>exact⟨b,rfl,g⟩
def aqL{r:Sc}(p:r.key=true)(L:SlLaysF0.n6 P ρ)(aE:∀w,(isAgg (ρ.t 24)).run P w=.ok true w)(zE:∀w,(Go.sizeOf (ρ.t 24)).run P w=.ok r.w w)(s:r.dp->r.dp->Int)(W:SWO (ltOf s)){g:Nat}
 (Y:∀x y,Gq P g [] [.ag (bM r x),.ag (bM r y)] [] (.v (.int .i64 (s x y)))) {U:AV} (h0:∀Rd E u,VR Rd E U u->u=.func (.func g) #[] #[]) {i ys:Do r.dp} (af:NT (ltOf s) i=some ys):
 Gq P (ρ.f 6) [(G0,some (.arr d r.w (List.map (bM r) i) true))] [.ow G0,U] [(G0,some (.arr d r.w (List.map (bM r) ys) true))] (.tu []):=by
 obtain⟨hd,aj,rfl⟩:=LH af;refine⟨sS L.f6 rfl,λB Rd e w vs D hv=>?_⟩;obtain⟨u,rfl,hu⟩:=amK hv;obtain rfl:=h0 _ _ _ hu;obtain⟨ae,ak,a9,ac⟩:=D.ob G0 _ bf;rcases ac with⟨aa,K,a,F⟩|⟨b,a3,k,K,F,M,hm,t,Z,a0,ai⟩
 .have G:i=[]:=by simpa using aa
  subst G;rw[F];refine(aAp L a 0 _ w).mono λx w' G=>?_;obtain⟨rfl,rfl⟩:=G;exact⟨_,e,rfl,by simpa using D,.tu [] rfl λj c u h=>by simp at h⟩
 haveI:Inhabited r.dp:=⟨zeroV r⟩
 have R:=λx=>akZ r x p;obtain⟨f,N⟩:∃f:Array r.dp,f.toList=i:=⟨i.toArray,rfl⟩;have v:f.size=i.length:=by rw[<-N,ayn]
 rw[awa]at F M;have a5:k.toList.take (List.map (bM r) i).flatten.length=(i.map (dv r)).flatten:=by
  rw[IL r p]at a0;have:=XO a0;rw[IL r p];exact this
 have a6:(List.map (bM r) i).flatten.length=i.length*r.w:=by
  rw[eM ae,awa]
 have X:=D.base G0 _ b bf K;have a7:∀o u,¬bT B Rd e [(G0,some (.arr d r.w (List.map (bM r) i) true))] w b o u:=λo u ab=>by
  have h1:=ab.2.2 G0 _ bf K;have h2:=a9 rfl;omega
 have O:∀dk:Array r.dp,dk.size=f.size->(flatK (dv r) r.w dk).size<=k.size:=λdk Q=>by
  rw[size_flatK,Q,v,Z];exact ax_ _ M
 have hH:HoldsK (dv r) r.w w b 0 f:=λj A=>by
  have a8:j<i.length*r.w:=by rw[size_flatK,v]at A;exact A
  have ah:j<k.size:=ax9 A (O f rfl);rw[awB];refine⟨?_,ayA w b j k d t⟩;rw[aw8 w b j k d (0,0) t,ayK _ j A];have e1:(flatK (dv r) r.w f).toList=(i.map (dv r)).flatten:=by rw[IK R,N]
  have V:k.toList[j]? =(flatK (dv r) r.w f).toList[j]? :=by
   rw[e1,<-a5,awP,av3 (by rw[a6];exact a8)]
  rw[axq,axq,awU A]at V;exact V
 have a4:CmpLays P g #[] (dv r) r.w s b 0 f.size w:=λm S dk Q x y=>by
  have J:=afI t id m (flatK (dv r) r.w dk) S (O dk Q);have:=afJ D X.1 J a7 (Y x y) (vs:=[.agg (dv r x).toArray,.agg (dv r y).toArray]) ?_
  .exact this
  .have one:∀z:r.dp,VR (bT B Rd e [(G0,some (.arr d r.w (List.map (bM r) i) true))] w) none (.ag (bM r z)) (.agg (dv r z).toArray):=λz=>by
    have l:=LR.Xu (Rd:=bT B Rd e [(G0,some (.arr d r.w (List.map (bM r) i) true))] w) (E:=none) (dv r z);rw[<-nW r z p]at l;exact .ag _ l.1 l.2
   exact LR.cons (one x) (LR.cons (one y) LR.nil)
 have eg:∀H w,(callFunc g H).run P w=.ok (.enter g H) w:=λH w=>hX (Y (zeroV r) (zeroV r)).1 H w;have a1:=AnyQ.slices_SortFunc L r.w aE zE (dv r) R (λx=>ach r x p) s W g #[] b 0 a3 f w eg a4 hH X.2 bv;rw[v]at a1;rw[F];refine a1.mono λx w' G=>?_;obtain⟨rfl,I,n,S,C,a2,rfl⟩:=G;rw[<-v]at C a2;have ag:=z1 W (N▸XN C) hd (LI C.1 a2);have J:=afI t id n (flatK (dv r) r.w I) S (O I C.1);refine⟨_,e,rfl,?_,.tu [] rfl λj c u h=>by simp at h⟩;have ad:(flatK (dv r) r.w I).toList.map id=(I.toList.map (dv r)).flatten:=by rw[ayc,IK R]
 rw[ad]at J;rw[<-ag];refine VQ D K t (by rw[awa];exact F) (by rw[awa];exact M) hm Z J ?_ (λq hq=>?_) (fm r _) ?_
 .rw[awa,awa,ayn,C.1,v]
 .obtain⟨z,_,rfl⟩:=awe.1 hq
  exact fy r z
 .rw[IL r p]
  exact LR.Xu _
def rv(b:a->AV)(l:Do a):(l.map λx=>[b x]).flatten=l.map b:=by
 induction l with
 |nil=>rfl
 |cons x l c=>rw[awo,awI,c];rfl
abbrev El(b:a->AV)(Good:a->Prop)(R:bL):Type:={p:a×Id//Good p.1/\VR R none (b p.1) p.2}
def els{β:Type}{a:β->AV}{Good:β->Prop}{R:bL}:∀{l:Do β} {us:bI},(∀x∈l,Good x)->LR (VR R none) (l.map a) us->∃d:Do (El a Good R),d.map (λp=>p.1.1)=l/\d.map (λp=>p.1.2)=us
 |[],us,_,h=>by
  have:us=[]:=aAZ.1 h.1;exact⟨[],rfl,this.symm⟩
 |x::l,[],_,h=>by have:=h.1;simp at this
 |x::l,u::us,b,h=>by
  have g:=h.2 0 (a x) u rfl rfl;obtain⟨d,e,f⟩:=els (l:=l) (us:=us) (λy m=>b y (aw5 _ m)) ⟨by have:=h.1;simpa using this,λj c v i k=>h.2 (j+1) c v (by simpa using i) (by simpa using k)⟩;exact⟨⟨(x,u),b x ayY,g⟩::d,by rw[awo,e],by rw[awo,f]⟩
def afK{β:Type}{a:β->AV}{Good:β->Prop}{R:bL}:∀d:Do (El a Good R),LR (VR R none) (d.map λp=>a p.1.1) (d.map λp=>p.1.2)
 |[]=>LR.nil
 |x::d=>LR.cons x.2.2 (afK d)
def auf{av:a->AV}(O:∀x,(av x).one=true)(an:∀x k,av x≠.ow k)(Good:a->Prop)(L:SlLaysF.n6 P ρ)(Y:SlLaysF0.n6 P ρ)(s:a->a->Int)(J:SWO (ltOf s)){g:Nat}
 (hc:∀x y,Good x->Good y->Gq P g [] [av x,av y] [] (.v (.int .i64 (s x y)))) {Z:AV} (h0:∀Rd E u,VR Rd E Z u->u=.func (.func g) #[] #[]) {l ys:Do a} (hG:∀x∈l,Good x) (aj:NT (ltOf s) l=some ys):
 Gq P (ρ.f 6) [(G0,some (.arr d 1 (l.map λx=>[av x]) true))] [.ow G0,Z] [(G0,some (.arr d 1 (ys.map λx=>[av x]) true))] (.tu []):=by
 obtain⟨hd,am,rfl⟩:=LH aj;refine⟨sS L.f6 rfl,λB Rd e w vs v hv=>?_⟩;obtain⟨u,rfl,hu⟩:=amK hv;obtain rfl:=h0 _ _ _ hu;obtain⟨ap,ao,ae,ai⟩:=v.ob G0 _ bf;rcases ai with⟨ag,K,i,A⟩|⟨b,a8,C,K,A,S,hm,G,U,a4,al⟩
 .have r:l=[]:=by simpa using ag
  subst r;rw[A];refine(aAp Y i 0 _ w).mono λx w' r=>?_;obtain⟨rfl,rfl⟩:=r;exact⟨_,e,rfl,by simpa using v,.tu [] rfl λj c u h=>by simp at h⟩
 have ac:∀o u,¬bT B Rd e [(G0,some (.arr d 1 (l.map λx=>[av x]) true))] w b o u:=λo u ah=>by
  have O:=ah.2.2 G0 _ bf K;have h2:=ae rfl;omega
 obtain⟨R,Q⟩:∃R,bT B Rd e [(G0,some (.arr d 1 (l.map λx=>[av x]) true))] w=R:=⟨_,rfl⟩;rw[rv,Q]at a4;obtain⟨f,M,a3⟩:=els hG a4;have a2:f.length=l.length:=by rw[<-M,awa]
 rcases f with _|⟨t,d0⟩
 .have r:l=[]:=by rw[<-M];rfl
  subst r;rw[A];refine(aAp Y _ _ _ w).mono λx w' r=>?_;obtain⟨rfl,rfl⟩:=r;exact⟨_,e,rfl,by simpa using v,.tu [] rfl λj c u h=>by simp at h⟩
 haveI:Inhabited (El av Good R):=⟨t⟩
 obtain⟨D,a9⟩:∃D:Array (El av Good R),D.toList=t::d0:=⟨(t::d0).toArray,rfl⟩;rw[<-a9]at M a3 a2;have F:D.size=l.length:=by rw[<-a2,ayn]
 rw[awa]at A S;rw[axy]at U;have a0:=v.base G0 _ b bf K;have a7:∀dk:Array (El av Good R),dk.size=D.size->dk.size<=C.size:=λdk W=>by rw[W,F,U];exact S
 have hH:Holds (λp:El av Good R=>p.1.2) w b 0 D:=λj V=>by
  have ad:j<l.length:=by rw[<-F];exact V
  have ak:j<C.size:=bv
  rw[awB];refine⟨?_,ayA w b j C d G⟩;rw[aw8 w b j C d (0,0) G,ayK D j V];have e2:C.toList[j]? =(D.toList.map λp=>p.1.2)[j]? :=by
   rw[a3,awP,av3 (by rw[awa];exact ad)]
  rw[axq,awp,axq,awU V]at e2;exact e2
 have ab:CmpLays1 P g #[] (λp:El av Good R=>p.1.2) (λp q=>s p.1.1 q.1.1) b 0 D.size w:=λm X dk W x y=>afJ v a0.1 (afI G _ m dk X (a7 dk W)) ac (hc x.1.1 y.1.1 x.2.1 y.2.1) (by rw[Q];exact LR.cons x.2.2 (LR.cons y.2.2 LR.nil));have eg:∀I w,(callFunc g I).run P w=.ok (.enter g I) w:=λI w=>hX (hc t.1.1 t.1.1 t.2.1 t.2.1).1 I w;have aa:SWO (ltOf λ(p q:El av Good R)=>s p.1.1 q.1.1):=⟨λx=>J.irrefl _,λx y z=>J.trans _ _ _,λx y z=>J.ntrans _ _ _⟩;have a5:=Any.slices_SortFunc L (λp:El av Good R=>p.1.2) (λp=>p.2.2.kT (O _) λ_ k h=>nomatch h) (λp q=>s p.1.1 q.1.1) aa g #[] b 0 a8 D w eg ab hH a0.2 bv;rw[F]at a5;rw[A];refine a5.mono λx w' r=>?_;obtain⟨rfl,N,n,X,H,a6,rfl⟩:=r;rw[<-F]at H a6;have af:(N.toList.map λp=>p.1.1)=l.mergeSort λx y=> !(ltOf s) y x:=by
  refine z1 J ?_ hd ?_
  .rw[<-M];exact(XN H).map _
  .rw[ayL];exact LI H.1 a6
 have hW:=afI G (λp:El av Good R=>p.1.2) n N X (a7 N H.1);refine⟨_,e,rfl,?_,.tu [] rfl λj c u h=>by simp at h⟩;rw[<-af];refine VQ v K G (by rw[awa];exact A) (by rw[awa];exact S) hm (by rw[axy];exact U) hW ?_ (λq hq=>?_) (λc a1=>?_) ?_
 .rw[awa,awa,awa,ayn,H.1,F]
 .obtain⟨z,_,rfl⟩:=awe.1 hq
  rfl
 .rw[rv]at a1
  obtain⟨z,_,rfl⟩:=awe.1 a1;exact O z
 .rw[rv,axe,Q]
  exact afK _
def aoa{ρ:Ren}(L:SlLaysM.n5 P ρ){f:aX}(a0:f.length<1099511627776):
 Gq P (ρ.f 5) [(G0,some (.arr d 1 (f.map λx=>[AV.v (.int .i64 x)]) true))] [.ow G0] [(G0,some (.arr d 1 ((f.mergeSort λx y=>decide (x<=y)).map λx=>[AV.v (.int .i64 x)]) true))] (.tu []):=by
 refine⟨sS L.f5 rfl,λB Rd e w G m F=>?_⟩;obtain rfl:G=[e.sv G0]:=by
  match G,F.1 with
  |[a],_=>
   have I:=F.2 0 _ a rfl rfl;cases I with
   |ow=>rfl
 obtain⟨a2,a1,Y,U⟩:=m.ob G0 _ bf;rcases U with⟨R,p,a,i⟩|⟨b,H,g,p,i,r,O,l,s,t,Z⟩
 .have k:f=[]:=by simpa using R
  subst k;rw[i];refine(AnyM.slices_Sort_int_none L a 0 w).mono λx W k=>?_;obtain⟨rfl,rfl⟩:=k;exact⟨_,e,rfl,by simpa using m,.tu [] rfl λj c u h=>by simp at h⟩
 rw[rv]at t;have N:g.toList.take f.length=f.map (Value.int .i64):=by
  have o:(f.map λx=>AV.v (.int .i64 x))=(f.map (Value.int .i64)).map AV.v:=by rw[axe];rfl
  rw[o]at t;have:=XO t;simpa using this
 rw[awa]at i r;rw[axy]at s;have M:=m.base G0 _ b bf p;have J:Holds (Value.int .i64) w b 0 f.toArray:=λj C=>by
  have D:j<f.length:=by simpa using C
  have X:j<g.size:=bv
  rw[awB];refine⟨?_,ayA w b j g d l⟩;rw[aw8 w b j g d (0,0) l,ayK _ j C];have v:g.toList[j]? =(f.map (Value.int .i64))[j]? :=by
   rw[<-N,awP,av3 D]
  rw[axq,awp,awf D]at v;exact v
 have Q:=AnyM.slices_Sort_int L b 0 H f w J M.2 bv;rw[i];refine Q.mono λx W k=>?_;obtain⟨rfl,n,V,rfl⟩:=k;have E:(f.mergeSort λx y=>decide (x<=y)).length=f.length:=aAq _;have K:=afI l (Value.int .i64) n (f.mergeSort λx y=>decide (x<=y)).toArray V (by rw[axX,E,s];exact r);refine⟨_,e,rfl,?_,.tu [] rfl λj c u h=>by simp at h⟩;refine VQ m p l (by rw[awa];exact i) (by rw[awa];exact r) O (by rw[axy];exact s) K ?_ (λq S=>?_) (λc A=>?_) ?_
 .rw[awa,awa,E]
 .obtain⟨z,_,rfl⟩:=awe.1 S
  rfl
 .rw[rv]at A
  obtain⟨z,_,rfl⟩:=awe.1 A;rfl
 .rw[rv]
  have o:((f.mergeSort λx y=>decide (x<=y)).map λx=>AV.v (.int .i64 x))=((f.mergeSort λx y=>decide (x<=y)).map (Value.int .i64)).map AV.v:=by rw[axe];rfl
  rw[o];exact LR.Xu _
end
end
section
open Go Go.RowKit Go.Lib Go.Shelf
section
def afL{Rd:bL}(i:SR A Rd j y b)(p:Bx A n)(f:cn)(s:Id)(ob:Ob)(o:∀a,f=some a->A.iP a/\a<n.heap.size)
 (q:∀l,OR l (j.cR 0 f s 0) n 0 ob):SR A Rd (j.cR 0 f s 0) [(0,some ob)] n:=by
 have d:∀k c,bc [(0,some ob)] k=some c->k=0/\c=ob:=λk c h=>by
  by_cases e:k=0
  .subst e;rw[bf]at h;exact⟨rfl,(av_ h).symm⟩
  .rw[bd e]at h;cases h
 refine⟨p,i.lA,λk c h=>?_,λk c a h g=>?_,λk r t u a h m _ _=>?_,λk e=>?_⟩
 .obtain⟨rfl,rfl⟩:=d k c h;exact q _
 .obtain⟨rfl,rfl⟩:=d k c h
  exact o a (by rw[Env.cc]at g;exact g)
 .rw[(d _ _ h).1,(d _ _ m).1]
 .rw[Env.bE bv,Env.dy bv];exact i.yz k e
def afM(w:GE)(o:Obj):(w.alloc o).heap[w.heap.size]? =some o:=by
 unfold World.alloc;exact Array.getElem?_push_size
variable{P:Fd}{ρ:Ren}
def Q8(L:Lays8.n4 P ρ)(d:TypeInfo)(z:Id)(G:P.info? (ρ.t 25)=some d)(Q:d.zero=some z)(K:0<d.size)(O:z.cells.size=d.size)(E:d.bytes<=64)(n:Nat)(U:n<=1099511627776):
 Gq P (ρ.f 4) [] [.sl true 0 [],.v (.int .i64 n)] [(0,some (.arr (ρ.t 25) d.size [] true))] (.ow 0):=by
 refine⟨by obtain⟨X,i,q⟩:=L.f4;exact⟨_,q,i,rfl⟩,λB Rd e w t f m=>?_⟩;obtain⟨o,p,rfl⟩:∃o p,t=[o,p]:=by
  match t,m.1 with
  |[a,b],_=>exact⟨a,b,rfl⟩
 obtain⟨a,S,Y,rfl,_,_,_,_,_,N,_⟩:=(m.2 0 _ o rfl rfl).n_;obtain rfl:=(m.2 1 _ p rfl rfl).bS;obtain rfl:=N rfl;by_cases C:n=0
 .subst C
  refine(Any8.slices_Grow_room L a 0 0 0 w bv bv bv bv).mono λx y g=>?_;obtain⟨rfl,rfl⟩:=g;refine⟨_,e.cR 0 none (.slice a 0 0) 0,rfl,afL f f.ext _ _ _ (λb h=>by cases h) (λA=>⟨(λr l=>by cases l),(λc k=>by cases k),(λ_=>Env.cq),.inl ⟨rfl,Env.cc,a,Env.dZ⟩⟩),?_⟩;have:= @VR.ow (bT B Rd (e.cR 0 none (.slice a 0 0) 0) [(0,some (.arr (ρ.t 25) d.size [] true))] y) (e.cR 0 none (.slice a 0 0) 0) 0;rwa[Env.dZ]at this
 .have D:(0+n)*d.bytes<=140737488355328:=by
   have:(0+n)*d.bytes<=1099511627776*64:=axC bv E;omega
  refine(Any8.slices_Grow_grow L d z G Q K a 0 0 n [] w bv bv D bv d5 (λ_=>rfl) (λ_ _ j v H=>by simp at H)).mono λx y g=>?_;obtain⟨rfl,rfl⟩:=g;have V:=axu w (0+n) 0 (ρ.t 25);have J:B.iP w.heap.size:=f.ext.iP (av5 _);have g:=f.ext.drew.alloc (.cells ([].toArray++Builtin.zeroCells z.cells (0+n - 0)++Builtin.zeroCells z.cells (grownCap w (0+n) 0 (ρ.t 25) - (0+n))) (ρ.t 25));have s:=afM w.drew (.cells ([].toArray++Builtin.zeroCells z.cells (0+n - 0)++Builtin.zeroCells z.cells (grownCap w (0+n) 0 (ρ.t 25) - (0+n))) (ρ.t 25));have M:(Array.mk ([]:bI)++Builtin.zeroCells z.cells (0+n - 0)++Builtin.zeroCells z.cells (grownCap w (0+n) 0 (ρ.t 25) - (0+n))).size=grownCap w (0+n) 0 (ρ.t 25)*d.size:=by
   simp only[ayk,axN,axX,aw4,O];rw[awB,<-awK];congr 1;omega
  have F:=azX w (0+n) 0 (ρ.t 25) (by unfold maxLen;omega);generalize grownCap w (0+n) 0 (ρ.t 25)=c at*;generalize w.drew.alloc _=W at*;have I:w.heap.size<W.heap.size:=(awS.1 s).1;refine⟨_,e.cR 0 (some w.heap.size) (.slice (some ⟨w.heap.size,0,none⟩) 0 c) 0,rfl,afL f g _ _ _ (λR h=>by cases h;exact⟨J,I⟩) (λA=>⟨(λr l=>by cases l),(λc k=>by cases k),(λ_=>Env.cq),.inr ⟨_,_,_,Env.cc,by rw[Env.dZ];rfl,awy _,F,s,M,⟨rfl,λj c u i q=>by simp at i⟩,by rw[Env.cq];exact awy _⟩⟩),?_⟩;have:= @VR.ow (bT B Rd (e.cR 0 (some w.heap.size) (.slice (some ⟨w.heap.size,0,none⟩) 0 c) 0) [(0,some (.arr (ρ.t 25) d.size [] true))] W) (e.cR 0 (some w.heap.size) (.slice (some ⟨w.heap.size,0,none⟩) 0 c) 0) 0;rwa[Env.dZ]at this
def Q9(x:Int)(y:Unit)(h:cond (decide (0<=x/\x<=1099511627776)) (some ()) none=some y):∃n:Nat,x=(n:Int)/\n<=1099511627776:=by
 by_cases a:0<=x/\x<=1099511627776
 .exact⟨x.toNat,bv,bv⟩
 .rw[awz a]at h;cases h
end
end
variable{t:Fd}
section
open Go Go.RowKit Go.Lib Go.Shelf Go.Sort
def aob:Ren:=⟨λ|6=>86|14=>156|20=>198|21=>199|22=>200|23=>201|24=>202|25=>203|26=>204|27=>205|46=>250|49=>253|50=>254|57=>279|15=>157|28=>206|29=>207|47=>251|48=>252|x=>x,λ|0=>0|3=>3|4=>4|5=>5|9=>9|22=>30|24=>134|25=>181|39=>164|45=>297|46=>298|50=>140|53=>69|55=>304|66=>340|70=>344|76=>366|77=>166|x=>x,λx=>x⟩
def ak0:Ren:=⟨λ|6=>154|14=>196|20=>242|21=>243|22=>244|23=>245|24=>246|25=>247|26=>248|27=>249|46=>276|49=>277|50=>278|57=>294|15=>157|28=>206|29=>207|47=>251|48=>252|x=>x,λ|0=>0|3=>3|4=>4|5=>5|9=>9|22=>45|24=>52|25=>180|39=>164|45=>297|46=>298|50=>140|53=>69|55=>304|66=>340|70=>344|76=>366|77=>166|x=>x,λx=>x⟩
def aoc:Ren:=⟨λ|6=>267|14=>287|20=>299|21=>300|22=>301|23=>302|24=>303|25=>304|26=>305|27=>306|46=>316|49=>317|50=>318|57=>322|15=>157|28=>206|29=>207|47=>251|48=>252|x=>x,λ|0=>0|3=>3|4=>4|5=>5|9=>9|22=>71|24=>40|25=>357|39=>164|45=>297|46=>298|50=>140|53=>69|55=>304|66=>340|70=>344|76=>366|77=>166|x=>x,λx=>x⟩
def aod:Ren:=⟨λ|5=>283|7=>295|10=>307|11=>308|12=>309|13=>310|14=>311|15=>312|17=>314|18=>315|30=>319|33=>320|34=>321|40=>323|8=>157|16=>313|19=>206|20=>207|31=>251|32=>252|35=>208|x=>x,λ|0=>0|3=>3|4=>4|5=>5|9=>9|22=>40|23=>40|25=>3|32=>164|35=>297|36=>298|41=>140|44=>69|46=>304|53=>340|57=>344|63=>366|64=>166|x=>x,λx=>x⟩
def aqM:Ren:=⟨λ|4=>184|x=>x,λ|0=>0|3=>3|4=>4|9=>9|20=>20|22=>40|25=>3|x=>x,λx=>x⟩
def aqN:Ren:=⟨λ|4=>210|x=>x,λ|0=>0|3=>3|4=>4|9=>9|20=>20|22=>30|25=>134|x=>x,λx=>x⟩
def bears(a:(((t.funcs[e]?).getD default).name== "runtime.NumGoroutine")=false)(b:t.funcs[e]? =some {o with name:=((t.funcs[e]?).getD default).name}):Bears t e o:=⟨_,a,b⟩
def aoe:SlLaysF0.n6 Tryz.prog aob:=by
 constructor<;>first|exact mixed|exact bears ci ci|exact ci|exactλw=>by kernel_rfl
def ak1:SlLaysF0.n6 Tryz.prog ak0:=by
 constructor<;>first|exact mixed|exact bears ci ci|exact ci|exactλw=>by kernel_rfl
def afN:SlLaysF.n6 Tryz.prog aoc:=by
 constructor<;>first|exact mixed|exact bears ci ci|exact ci|exactλw=>by kernel_rfl
def aof:SlLaysM.n5 Tryz.prog aod:=by
 constructor<;>first|exact mixed|exact bears ci ci|exact ci|exactλw=>by kernel_rfl
def aqO:Lays8.n4 Tryz.prog aqM:=by
 constructor<;>first|exact mixed|exact bears ci ci|exact ci|exactλw=>by kernel_rfl
def aqP:Lays8.n4 Tryz.prog aqN:=by
 constructor<;>first|exact mixed|exact bears ci ci|exact ci|exactλw=>by kernel_rfl
def VS(c:kS)(x:mq c.cs)(y:c.α)(e:EV)(H:fv){Q:Prop}(h:c.ok t)(g:c.M x=some y)(a:c.el y (EV×fv) (λe H=>some (e,H))=some (e,H))(f:Gq t c.f (bF (c.H0 x)) (cw (c.as x)) (bF H) (enc e)=Q):Q:=by
 obtain⟨j,i,b,_,_,d⟩:=h.2 x y g;rw[b]at a;cases a;exact f▸d
def yn(a b:Int):Int:=if a<b then -1 else if b<a then 1 else 0
def rz(x y:Int×Int):Int:=if yn x.1 y.1=0 then yn x.2 y.2 else yn x.1 y.1
abbrev bm:Type:=Int×Int×Int×In
def vj(x y:bm):Int:=rz (x.1,x.2.1) (y.1,y.2.1)
def NV(x y:aX):Int:=yn (x.headD 0) (y.headD 0)
def rA{a b:Int}:yn a b<0↔a<b:=by
 unfold yn
 repeat' split
 all_goals omega
def lR{a b:Int}:yn a b=0↔a=b:=by
 unfold yn
 repeat' split
 all_goals omega
def nX{x y:Int×Int}:rz x y<0↔x.1<y.1\/x.1=y.1/\x.2<y.2:=by
 unfold rz;split
 next h=>have:=lR.1 h;rw[rA];omega
 next h=>have:=mt lR.2 h;rw[rA];omega
def VT{d:a->a->Int}{r:a->a->Prop}(h:∀x y,d x y<0↔r x y)(e:∀x,¬r x x)(i:∀x y z,r x y->r y z->r x z)(f:∀x y z,¬r x y->¬r y z->¬r x z):SWO (ltOf d):=
 ⟨λx=>awz (λg=>e x ((h _ _).1 g)),λx y z c b=>awu ((h _ _).2 (i x y z ((h _ _).1 (awX c)) ((h _ _).1 (awX b)))),λx y z c b=>awz λg=>f x y z (λr=>axT c ((h _ _).2 r)) (λr=>axT b ((h _ _).2 r)) ((h _ _).1 g)⟩
def amL:SWO (ltOf rz):=VT (λ_ _=>nX) (λx=>by omega) (λx y z=>by omega) (λx y z=>by omega)
def aqQ:SWO (ltOf vj):=VT (λ_ _=>nX) (λx=>by omega) (λx y z=>by omega) (λx y z=>by omega)
def aqR:SWO (ltOf NV):=VT (λ_ _=>rA) (λx=>by omega) (λx y z=>by omega) (λx y z=>by omega)
def sT(N:Nat)(a b:Int):cV (N+3) (a,b)=some (yn a b):=by
 rw[vN];simp only[zY,axk,awj,aW,cond];unfold yn;by_cases c:a<b
 .simp[c]
 .by_cases d:b<a
  .have e:a>b:=d;simp[c,d]
  .simp[c,d]
def VU(N:Nat)(a b:Int):h9 (N+5) [a,b]=some (if a=0 then b else a):=by
 have d:wZ ((0:Int)+1)=1:=d6
 have e:wZ ((1:Int)+1)=2:=d6
 rw[Gv,show N+4=(N+3)+1 from rfl,lP,d,show N+3=(N+2)+1 from rfl,lP,e,show N+2=(N+1)+1 from rfl,lP];by_cases h:a=0
 .subst h
  by_cases c:b=0
  .subst c;simp[aW,aZ]
  .simp[aW,aZ,c]
 .simp[aW,aZ,h]
def Q_(N:Nat)(x y:Int×Int):iZ (N+6) (x.1,x.2,y.1,y.2)=some (rz x y):=by
 rw[Bi,show N+5=(N+2)+3 from rfl,sT,sT,show N+2+3=N+5 from rfl];simp only[aW,VU];rfl
def ak2(N:Nat)(x y:bm):nH (N+7) (x.1,x.2.1,x.2.2.1,x.2.2.2,y.1,y.2.1,y.2.2.1,y.2.2.2)=some (vj x y):=by
 rw[Gw];have:=Q_ N (x.1,x.2.1) (y.1,y.2.1);simp only[this,aW];rfl
def ak3(N:Nat)(x y:aX)(d:x≠[])(e:y≠[]):l3 (N+4) (x,y)=some (NV x y):=by
 obtain⟨a,x,rfl⟩:=azx d;obtain⟨b,y,rfl⟩:=azx e;rw[show N+4=(N+3)+1 from rfl,Eh];have c:∀(a:Int) x,aZ (a::x) 0=some a:=λ_ _=>rfl;rw[c,c];simp only[aW];rw[sT];rfl
def afO(x y:Int×Int):Gq Tryz.prog 88 [] [.ag (bM (.pr (.i .i64) (.i .i64)) x),.ag (bM (.pr (.i .i64) (.i .i64)) y)] [] (.v (.int .i64 (rz x y))):=by
 refine VS (oy 6) (x.1,x.2,y.1,y.2) (rz x y) (.sc (.i .i64) (rz x y)) [] (pg 6) ?_ ci ci;exact Eq.mp ci (Q_ 0 x y)
def ak4(x y:bm):Gq Tryz.prog 87 [] [.ag (bM (.pr (.i .i64) (.pr (.i .i64) (.pr (.i .i64) .b))) x),.ag (bM (.pr (.i .i64) (.pr (.i .i64) (.pr (.i .i64) .b))) y)] [] (.v (.int .i64 (vj x y))):=by
 refine VS (Bl 7) (x.1,x.2.1,x.2.2.1,x.2.2.2,y.1,y.2.1,y.2.2.1,y.2.2.2) (vj x y) (.sc (.i .i64) (vj x y)) [] (Gx 7) ?_ ci ci;exact Eq.mp ci (ak2 0 x y)
def ak5(x y:aX)(a:x≠[])(b:y≠[]):Gq Tryz.prog 268 [] [.sl false 1 (x.map (bM (.i .i64))),.sl false 1 (y.map (bM (.i .i64)))] [] (.v (.int .i64 (NV x y))):=by
 refine VS (yI 4) (x,y) (NV x y) (.sc (.i .i64) (NV x y)) [] (Ei 4) ?_ ci ci;exact Eq.mp ci (ak3 0 x y a b)
def cC(N:Nat):bh->At bh:=NT (ltOf rz)
noncomputable def dT(N:Nat):kS:=⟨154,[.k (.ow 4294967296),.k (.v (.func (.func 88) #[] #[]))],[(4294967296,.arr 52 (.pr (.i .i64) (.i .i64)) true)],[.sl (.pr (.i .i64) (.i .i64))],bh,cC N,λy _ k=>k (.tu []) [(4294967296,some (.arr 52 (.pr (.i .i64) (.i .i64)) y true))],true,true⟩
def fw(N:Nat):(dT N).ok Tryz.prog:=
 ⟨λh=>(by cases h),λx y a=>⟨.tu [],_,λR k=>rfl,λh=>(by cases h),λ_=>⟨rfl,rfl⟩,
  aqL (r:=.pr (.i .i64) (.i .i64)) rfl ak1 (λw=>by kernel_rfl) (λw=>by kernel_rfl) rz amL (g:=88) afO (λ_ _ _ h=>h.bS) a⟩⟩
def cW(N:Nat):Do bm->At (Do bm):=NT (ltOf vj)
noncomputable def eA(N:Nat):kS:=⟨86,[.k (.ow 4294967296),.k (.v (.func (.func 87) #[] #[]))],[(4294967296,.arr 134 (.pr (.i .i64) (.pr (.i .i64) (.pr (.i .i64) .b))) true)],[.sl (.pr (.i .i64) (.pr (.i .i64) (.pr (.i .i64) .b)))],Do bm,cW N,λy _ k=>k (.tu []) [(4294967296,some (.arr 134 (.pr (.i .i64) (.pr (.i .i64) (.pr (.i .i64) .b))) y true))],true,true⟩
def fO(N:Nat):(eA N).ok Tryz.prog:=
 ⟨λh=>(by cases h),λx y a=>⟨.tu [],_,λR k=>rfl,λh=>(by cases h),λ_=>⟨rfl,rfl⟩,
  aqL (r:=.pr (.i .i64) (.pr (.i .i64) (.pr (.i .i64) .b))) rfl aoe (λw=>by kernel_rfl) (λw=>by kernel_rfl) vj aqQ (g:=87) ak4 (λ_ _ _ h=>h.bS) a⟩⟩
open Classical in
def bC(N:Nat)(l:bP):At bP:=if∀x∈l,x≠[]then NT (ltOf NV) l else none
noncomputable def eY(N:Nat):kS:=⟨267,[.k (.ow 4294967296),.k (.v (.func (.func 268) #[] #[]))],[(4294967296,.arr 40 (.sl (.i .i64)) true)],[.sl (.sl (.i .i64))],bP,bC N,λy _ k=>k (.tu []) [(4294967296,some (.arr 40 (.sl (.i .i64)) y true))],true,false⟩
def gR(N:Nat):(eY N).ok Tryz.prog:=by
 refine⟨λh=>(by cases h),λx y a=>⟨.tu [],_,λR k=>rfl,λh=>(by cases h),λh=>(by cases h),?_⟩⟩;have a:bC N x=some y:=a;unfold bC at a;split at a
 next b=>exact auf (av:=λl:aX=>AV.sl false 1 (l.map (bM (.i .i64)))) (λ_=>rfl) (λ_ _ h=>nomatch h) (λx=>x≠[]) afN {afN with} NV aqR (g:=268) ak5 (λ_ _ _ h=>h.bS) b a
 .cases a
def eE(N:Nat)(l:aX):At aX:=cond (decide (l.length<1099511627776)) (some (l.mergeSort λx y=>decide (x<=y))) none
noncomputable def jS(N:Nat):kS:=⟨283,[.k (.ow 4294967296)],[(4294967296,.arr 3 (.i .i64) true)],[.sl (.i .i64)],aX,eE N,λy _ k=>k (.tu []) [(4294967296,some (.arr 3 (.i .i64) y true))],true,true⟩
def nI(N:Nat):(jS N).ok Tryz.prog:=by
 refine⟨λh=>(by cases h),λx y a=>⟨.tu [],_,λR k=>rfl,λh=>(by cases h),λ_=>⟨rfl,rfl⟩,?_⟩⟩;have a:eE N x=some y:=a;unfold eE at a;by_cases b:List.length (α:=Int) x<1099511627776
 .rw[awu b]at a
  cases a;exact aoa aof b
 .rw[awz b]at a;cases a
def fC(N:Nat)(n:Int):At Unit:=cond (decide (0<=n/\n<=1099511627776)) (some ()) none
noncomputable def k5(N:Nat):kS:=⟨184,[.k .nil,.h (.i .i64)],[],[.i .i64],Unit,fC N,λ_ _ k=>k (.ow 0) [(0,some (.arr 3 (.i .i64) [] true))],true,true⟩
def o5(N:Nat):(k5 N).ok Tryz.prog:=by
 refine⟨λ_=>rfl,λx y c=>⟨.ow 0,_,λR k=>rfl,(λh=>by cases h),λ_=>⟨rfl,rfl⟩,?_⟩⟩;obtain⟨n,b,a⟩:=Q9 x y c;subst b;exact Q8 aqO ((Tryz.prog.info? 3).getD default) (.int .i64 0) ci ci d6 ci d6 n a
def fc(N:Nat)(n:Int):At Unit:=cond (decide (0<=n/\n<=1099511627776)) (some ()) none
noncomputable def gX(N:Nat):kS:=⟨210,[.k .nil,.h (.i .i64)],[],[.i .i64],Unit,fc N,λ_ _ k=>k (.ow 0) [(0,some (.arr 134 (.pr (.i .i64) (.pr (.i .i64) (.pr (.i .i64) .b))) [] true))],true,true⟩
def kP(N:Nat):(gX N).ok Tryz.prog:=by
 refine⟨λ_=>rfl,λx y c=>⟨.ow 0,_,λR k=>rfl,(λh=>by cases h),λ_=>⟨rfl,rfl⟩,?_⟩⟩;obtain⟨n,b,a⟩:=Q9 x y c;subst b;exact Q8 aqP ((Tryz.prog.info? 134).getD default) (.agg #[.int .i64 0,.int .i64 0,.int .i64 0,.bool false]) ci ci d6 ci d6 n a
end
section
section
noncomputable abbrev PG:Fd:=Tryz.prog
structure CO where
 c:Nat->kS
 ok:∀N,(c N).ok PG
def XP(l:Do CO)(N:Nat):Do kS:=l.map λc=>c.c N
def Ej(l:Do CO)(N:Nat):Place PG T (XP l N):=
 ⟨Bg,λc a=>by
  obtain⟨d,_,rfl⟩:=awe.1 a;exact d.ok N,mixed,IJ⟩
structure FD where
 f:FuncId
 fn:Func
 pl:Pl
 ps:List PV
 hs:List (Nat×PO)
 cs:List Sc
 rs:PS
 own:Bool
 pu:Bool
 nm:a_
mutual
def hoP:PV->Do Sc
 |.h s=>[s]
 |.t r=>[.sl r]
 |.k _=>[]
 |.ag l=>hoL l
 |.tu l=>hoL l
 |.fp l=>hoL l
 |.cl _ b a=>hoL b++hoL a
 |.pe _ _ _=>[.i .i64]
def hoL:Do PV->Do Sc
 |[]=>[]
 |p::l=>hoP p++hoL l
end
def hoO:PO->Do Sc
 |.box _ l=>hoL l
 |.arr _ r _=>[.sl r]
 |.mp _ k v=>[.sl (.pr k v)]
 |.nr _ r _=>[.sl (.sl r)]
 |.qr _ _ _=>[.sl (.i .i64)]
def hoH:Do (Nat×PO)->Do Sc
 |[]=>[]
 |q::h=>hoO q.2++hoH h
def hoT:Do (Nat×PV)->Do Sc
 |[]=>[]
 |q::t=>hoP q.2++hoT t
abbrev bg(t:Do (Nat×PV))(h:Do (Nat×PO)):PS:=⟨t,h,hoT t++hoH h⟩
noncomputable abbrev cL(f:FuncId)(c:Func)(e:Pl)(b:Do PV)(a:Do (Nat×PO))(h:PS)(own g:In)(d:a_):FD:=⟨f,c,e,b,a,hoL b++hoH a,h,own,g,d⟩
def okB(a:Func)(d:Do PV)(b:Do (Nat×PO))(own:In)(c:a_):In:= !(a.name== "runtime.NumGoroutine") && (a.body.isSome && ((Nat.ble d.length a.ntmps && Nat.ble a.ntmps 1000000) && (own||(b.isEmpty && c.isEmpty))))
def okY(a:Func)(b:PS)(d:In)(c:a_)(y:mq b.c):In:=(Ee T (fN a.ntmps b y) a.results.toList).isSome && (!d||((Bf T (fN a.ntmps b y) a.results.toList).pu && puH (gI c (fN a.ntmps b y).h)))
noncomputable def mF(l:Do CO)(d:FD)(N:Nat):mq d.cs->At (mq d.rs.c):=exF T (XP l) N (iX d.fn) d.fn.ntmps d.pl d.ps d.hs d.cs d.rs
def xR{c:Do PV}{a:Do (Nat×PO)}{own:In}{b:a_}(h:okB o c a own b=true):(o.name== "runtime.NumGoroutine")=false/\o.body.isSome=true/\(Nat.ble c.length o.ntmps && Nat.ble o.ntmps 1000000)=true/\(own=false->a=[]/\b=[]):=by
 unfold okB at h;rw[av4,av4,av4 (Nat.ble _ _ && _)]at h;obtain⟨d,e,f,g⟩:=h;refine⟨by simpa using d,e,f,λi=>?_⟩;subst i;simpa using g
noncomputable def cF(l:Do CO)(d:FD)(M:Nat->mq d.cs->At (mq d.rs.c))(e:PG.funcs[d.f]? =some d.fn)(a:okB d.fn d.ps d.hs d.own d.nm=true:=by kernel_rfl)(b:∀y,okY d.fn d.rs d.pu d.nm y=true:=by intro y;kernel_rfl)(c:∀N x,M N x=mF l d N x:=by intro N x;kernel_rfl):CO:=
 ⟨λN=>kS.mk d.f d.ps d.hs d.cs (mq d.rs.c) (M N) (λy _ k=>k (Bf T (fN d.fn.ntmps d.rs y) d.fn.results.toList) (gI d.nm (fN d.fn.ntmps d.rs y).h)) d.own d.pu,
  λN=>zX (T:=T) (CT:=XP l) (N:=N) (λM=>Ej l M) e (xR a).1 (xR a).2.1 d.pl d.ps d.hs d.cs d.rs d.own d.pu d.nm (xR a).2.2.1 (λy=>((av4 _ _).mp (b y)).1) (xR a).2.2.2 (λy=>((av4 _ _).mp (b y)).2) (M N) (c N)⟩
structure FE extends FD where
 r2:PS
 n2:a_
noncomputable def fx(l:Do CO)(a:Func)(b:a_)(i:PS)(o:Do (IR×PS))(p:Pl)(N:Nat):Nat->mq i.c->At (KZ o):=IF (yF T (XP l N) N (jG b (iX a))) a.ntmps i o p
noncomputable def jnF(l:Do CO)(a:Func)(b:a_)(i:PS)(o:Do (IR×PS))(p:Pl)(N:Nat):Nat->mq i.c->At (KZ o):=amI (auc T (XP l N) N (jG b (iX a))) a.ntmps i o p
