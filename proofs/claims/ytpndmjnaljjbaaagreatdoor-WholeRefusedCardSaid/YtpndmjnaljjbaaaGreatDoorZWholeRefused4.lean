/- part 4 -/
import Derived.Test.YtpndmjnaljjbaaaGreatDoorZWholeRefused3
set_option linter.all false
noncomputable section
open Go Go.RowKit
set_option maxRecDepth 100000
open Go.Proofs.Tryz
namespace Go.Proofs.YtpndmjnaljjbaaaGreatDoor
theorem ci{p:Prop}(h:p:=by kernel_rfl):p:=h
variable{e:FuncId}{c i:Nat}{a:Type}{d:EQ}{C:Id}
section
open Go Go.ChangeShapes Go.WideShapes Go.ChangeAt Go.RowKit
def Fits:(s:Sc)->s.c9->Prop
 |.i k,x=>k.min<=x/\x<=k.max
 |.b,_=>True
 |.sl r,b=>b.length<=maxLen/\∀x∈b,Fits r x
 |.pr a c,p=>Fits a p.1/\Fits c p.2
 |.u,_=>True
def Siz:(s:Sc)->s.c9->Prop
 |.sl r,b=>b.length<=reachBytes/\∀x∈b,Siz r x
 |.pr a c,p=>Siz a p.1/\Siz c p.2
 |_,_=>True
def rX(P:Fd)(a:EQ->Sc->In):Do Field->Nat->Sc->In
 |[],_,_=>false
 |[f],o,s=>a f.type s && Nat.beq f.offset o && Nat.beq (P.cellsOf f.type) s.w
 |f::g::r,o,.pr s t=>a f.type s && Nat.beq f.offset o && Nat.beq (P.cellsOf f.type) s.w && rX P a (g::r) (o+s.w) t
 |_::_::_,_,_=>false
def W3(w:Nat)(a:Sc->In):Nat->Sc->In
 |0,_=>false
 |1,s=>a s && Nat.beq w s.w
 |n+2,.pr s t=>a s && Nat.beq w s.w && W3 w a (n+1) t
 |_+2,_=>false
def tyC(P:Fd):Nat->EQ->Sc->In
 |0,_,_=>false
 |d+1,t,s=>match P.underlying t with
  |some (.int k)=>(match s with
   |.i l=>decide (k=l)
   |_=>false)
  |some .bool=>(match s with
   |.b=>true
   |_=>false)
  |some (.slice e)=>(match s with
   |.sl r=>tyC P d e r && Nat.beq (P.cellsOf e) r.w && Nat.blt 0 r.w && Nat.blt 0 (P.bytesOf e)
   |_=>false)
  |some (.struct a)=>rX P (tyC P d) a.toList 0 s && Nat.beq (P.cellsOf t) s.w
  |some (.array n e)=>W3 (P.cellsOf e) (tyC P d e) n s && Nat.beq (P.cellsOf t) s.w
  |_=>false
def Rw(w:GE)(b o:Nat)(u:Id):Prop:=w.cell? ⟨b,o,none⟩=some u
def b0(w:GE):Bs:=⟨w,λ_=>False,λ_=>none,λ_=>undef,[]⟩
def e0:Env:=⟨λ_=>none,λ_=>undef,λ_=>0⟩
def amo(w:GE):Prop:=∀b o u,GT b o u->w.cell? ⟨b,o,none⟩=some u
def sr0(w:GE)(c:amo w):SR (b0 w) (Rw w) e0 [] w:=
 ⟨⟨rfl,rfl,rfl,axp _,λ_ _=>rfl,axp _⟩,⟨λb o u h=>⟨h,λa=>by
  have:=azp w _ h;rcases a with a|a
  .simp only[b0]at a;simp only at this;omega
  .exact a⟩,c⟩,λ_ _ h=>by simp[bc]at h,λ_ _ _ h=>by simp[bc]at h,λ_ _ _ _ _ h=>by simp[bc]at h,λ_ _=>⟨rfl,rfl⟩⟩
def ash{w:GE}(h:Rw w c i C):bS (b0 w) (Rw w) e0 [] w c i C:=⟨h,λ_=>h,λ_ _ h=>by simp[bc]at h⟩
def rY(h:Nat.beq c i=true):c=i:=axu h
def agW(h:Nat.blt c i=true):c<i:=axv h
section
variable{H:Type}{enc:EQ×Id->H}{P:Fd}{w:GE}{base:Nat}{spare:Nat->In}{held:In}
def Si(P:Fd)(t:EQ)(x:DataW H):Prop:=∀n∈x.weights P t,n<=reachBytes
def OY{e:EQ}:∀{l:Do (DataW H×Do MemPlace)},(∀n∈DataW.weightsAll P e (l.map (·.1)),n<=reachBytes)->∀(i:Nat) x,l[i]? =some x->Si P e x.1
 |[],_,i,x,h=>by simp at h
 |y::l,b,i,x,h=>by
  simp only[axJ,DataW.weightsAll,axy]at b;cases i with
  |zero=>simp at h;subst h;exactλn a=>b n (.inl a)
  |succ i=>exact OY (λn a=>b n (.inr a)) i x (by simpa using h)
def Sj:∀{a:Do Field} {l:Do (DataW H×Do MemPlace)},(∀n∈DataW.weightsEach P (a.map (·.type)) (l.map (·.1)),n<=reachBytes)->∀(i:Nat) f x,a[i]? =some f->l[i]? =some x->Si P f.type x.1
 |[],_,_,i,f,x,h,_=>by simp at h
 |_::_,[],_,i,f,x,_,h=>by simp at h
 |g::a,y::l,d,i,f,x,b,h=>by
  simp only[axJ,DataW.weightsEach,axy]at d;cases i with
  |zero=>simp at h b;subst h;subst b;exactλn c=>d n (.inl c)
  |succ i=>exact Sj (λn c=>d n (.inr c)) i f x (by simpa using b) (by simpa using h)
def HI(enc:EQ×Id->H)(P:Fd)(w:GE)(base:Nat)(spare:Nat->In)(held:In)(n:Nat)(t:EQ)(s:Sc):Prop:=
 ∀a x,DataW.trod enc P w base spare held n t a=some x->∃y:s.c9,LR (VR (Rw w) none) (bJ s y) a/\Fits s y/\(Si P t x.1->Siz s y)
def F1{WA:Prop}{C:EQ->Sc->In}{n:Nat}(A:∀t s,C t s=true->HI enc P w base spare held n t s)(p:bH):
 ∀(j:Do Field) (o:Nat) (s:Sc) (b:Do (DataW H×Do MemPlace)),rX P C j o s=true->b.length=j.length->
  (∀(i:Nat) (f:Field),j[i]? =some f->DataW.trod enc P w base spare held n f.type ((p.drop f.offset).take (P.cellsOf f.type))=b[i]?)->(WA->∀(i:Nat) f x,j[i]? =some f->b[i]? =some x->Si P f.type x.1)->
  ∃y:s.c9,LR (VR (Rw w) none) (bJ s y) ((p.drop o).take s.w)/\Fits s y/\(WA->Siz s y)
 |[],o,s,b,h,_,_,_=>by simp[rX]at h
 |[f],o,s,b,h,k,m,l=>by
  simp only[rX,axo]at h;obtain⟨⟨u,v⟩,z⟩:=h;have:=m 0 f rfl;rw[rY v,rY z]at this;have e:0<b.length:=by rw[k];simp
  rw[axz e]at this;obtain⟨y,J,G,O⟩:=A _ _ u _ _ this;exact⟨y,J,G,λd=>O (l d 0 f _ rfl (axz e))⟩
 |f::g::r,o,s,b,h,k,m,l=>by
  cases s with
  |pr a c=>
   simp only[rX,axo]at h;obtain⟨⟨⟨u,v⟩,z⟩,I⟩:=h;have:=m 0 f rfl;rw[rY v,rY z]at this;have e:0<b.length:=by rw[k];simp
   rw[axz e]at this;obtain⟨Q,K,E,M⟩:=A _ _ u _ _ this;obtain⟨R,L,F,N⟩:=F1 A p (g::r) (o+a.w) c b.tail I (by simp[k]) (λi q B=>by
    have:=m (i+1) q (by simpa using B);rw[this];cases b<;>simp) (λd i q x B D=>l d (i+1) q x (by simpa using B) (by cases b with|nil=>simp at D|cons y S=>simpa using D))
   refine⟨(Q,R),?_,⟨E,F⟩,λd=>⟨M (l d 0 f _ rfl (axz e)),N d⟩⟩;rw[bJ,Sc.w,List.take_add];rw[azu];exact K.append L
  |_=>simp[rX]at h
def Sl{WA:Prop}{p:Sc->In}{n:Nat}{e:EQ}{ew:Nat}(k:∀s,p s=true->HI enc P w base spare held n e s)(f:bH):
 ∀(m:Nat) (o:Nat) (s:Sc),W3 ew p m s=true->
  (∀i,i<m->∃x,DataW.trod enc P w base spare held n e ((f.drop (o+i*ew)).take ew)=some x/\(WA->Si P e x.1))->
  ∃y:s.c9,LR (VR (Rw w) none) (bJ s y) ((f.drop o).take s.w)/\Fits s y/\(WA->Siz s y)
 |0,o,s,h,_=>by simp[W3]at h
 |1,o,s,h,d=>by
  simp only[W3,axo]at h;obtain⟨g,j⟩:=h;obtain⟨x,this,l⟩:=d 0 bv;rw[azT,ayO,rY j]at this;obtain⟨y,B,u,G⟩:=k _ g _ _ this;exact⟨y,B,u,λb=>G (l b)⟩
 |m+2,o,s,h,d=>by
  cases s with
  |pr a c=>
   simp only[W3,axo]at h;obtain⟨⟨g,j⟩,v⟩:=h;obtain⟨x,this,l⟩:=d 0 bv;have q:=rY j;rw[azT,ayO,q]at this;obtain⟨I,C,r,E⟩:=k _ g _ _ this;obtain⟨J,D,t,F⟩:=Sl k f (m+1) (o+a.w) c v (λi K=>by
    obtain⟨x,A,z⟩:=d (i+1) bv;refine⟨x,?_,z⟩;rw[<-A,q];congr 3;rw[ax2];omega)
   refine⟨(I,J),?_,⟨r,t⟩,λb=>⟨E (l b),F b⟩⟩;rw[bJ,Sc.w,List.take_add];rw[azu];exact C.append D
  |_=>simp[W3]at h
def MM{WA:Prop}{n:Nat}{e:EQ}{r:Sc}(J:HI enc P w base spare held n e r)(B:P.cellsOf e=r.w)(l:0<r.w){a:Addr}{v:Nat}{k:Do (DataW H×Do MemPlace)}(S:k.length=v)
 (C:∀i,i<v->(w.cells? base (a.add (i*P.cellsOf e)) (P.cellsOf e)).bind (DataW.trod enc P w base spare held n e)=k[i]?) (L:WA->∀(i:Nat) x,k[i]? =some x->Si P e x.1):
 ∀m,m<=v->∃f:Do r.c9,f.length=m/\((∀y∈f,Fits r y)/\(WA->∀y∈f,Siz r y))/\∃d,LR (VR (Rw w) none) (f.map (bJ r)).flatten d/\∀j u,d[j]? =some u->a.spot=none/\w.cell? ⟨a.block,a.off+j,none⟩=some u
 |0,_=>⟨[],rfl,d5,[],LR.nil,d5⟩
 |m+1,hm=>by
  obtain⟨f,E,⟨U,Y⟩,d,G,K⟩:=MM J B l S C L m bv;have h:=C m bv;have I:m<k.length:=bv
  rw[axz I]at h;obtain⟨cs,R,Z⟩:=azJ.1 h;obtain⟨y,hy,O,sy⟩:=J _ _ Z;obtain⟨hb,Q,p⟩:=World.cells?_some R;rw[B]at Q p;have F:d.length=m*r.w:=by
   rw[G.1,ey (sz:=r.w)]
   .simp[E]
   .intro q W
    obtain⟨z,_,rfl⟩:=axC.1 W;exact e6 r z
  have s:a.spot=none:=by
   have:=p 0 l;rw[axz bv]at this;by_cases c:m=0
   .subst c
    have a0:(a.add (0*r.w)).add 0=a:=by simp[Addr.add]
    rw[a0]at this;unfold World.cell? at this;split at this
    .split at this
     .cases this
     next X=>simpa using X
    .cases this
   .have t:∃u,d[0]? =some u:=⟨d[0]'(by rw[F];exact azS bv l),axz _⟩
    obtain⟨u,t⟩:=t;exact(K 0 u t).1
  refine⟨f++[y],by simp[E],⟨λz c=>?_,λA z c=>?_⟩,d++cs,?_,λj u g=>⟨s,?_⟩⟩
  .rcases axy.1 c with c|c
   .exact U z c
   .simp only[axK]at c;subst c;exact O
  .rcases axy.1 c with c|c
   .exact Y A z c
   .simp only[axK]at c;subst c;exact sy (L A m _ (axz I))
  .rw[aya,ay3]
   simpa using G.append hy
  .by_cases V:j<d.length
   .rw[aye V]at g
    exact(K j u g).2
   .rw[ayG bv]at g
    have a1:j - d.length<cs.length:=(axs.1 g).1;have:=p (j - d.length) bv;rw[g]at this;have N:(a.add (m*r.w)).add (j - d.length)=⟨a.block,a.off+j,none⟩:=by
     obtain⟨b,o,sp⟩:=a;simp only at s;subst s;rw[add_plain,add_plain];have D:d.length<=j:=bv
     rw[F]at D⊢;generalize m*r.w=q at D;have M:o+q+(j - q)=o+j:=bv
     rw[M]
    rw[N]at this;exact this
def xN:∀(d:Nat) (t:EQ) (s:Sc),tyC P d t s=true->∀n,HI enc P w base spare held n t s
 |0,t,s,h,n=>by simp[tyC]at h
 |d+1,t,s,h,n=>by
  intro U x F;unfold tyC at h;split at h
  next k p=>
   cases s with
   |i l=>
    obtain rfl:k=l:=ayh h;obtain⟨z,rfl,-,hw⟩:=DataW.trod_int p F;simp only[Lit.wf,axo,ayd]at hw;exact⟨z,LR.cons .v LR.nil,hw,λ_=>trivial⟩
   |_=>simp at h
  next p=>
   cases s with
   |b=>
    obtain⟨z,rfl,-⟩:=DataW.trod_bool p F;exact⟨z,LR.cons .v LR.nil,trivial,λ_=>trivial⟩
   |_=>simp at h
  next e p=>
   cases s with
   |sl r=>
    simp only[axo]at h;obtain⟨⟨⟨C,D⟩,h3⟩,h4⟩:=h;rcases DataW.trod_slice p F with⟨rfl,-⟩|⟨a,a3,a4,A,rest,m,rfl,rfl,rfl,hb,aa,a5,W,he,-,-⟩
    .refine⟨([]:Do r.c9),LR.cons ?_ LR.nil,?_,λ_=>⟨axT _,d5⟩⟩
     .exact .sl (rows:=[]) [] d5 d5 rfl d5 (axp _) (axT _) d5 d5
     .exact⟨axT _,d5⟩
    .have I:Si P t (.slice (A.map (·.1)) (rest.map (·.1)):DataW H)->((A.length+rest.length)*P.bytesOf e<=reachBytes)/\∀(i:Nat) x,A[i]? =some x->Si P e x.1:=λg=>by
      have B:DataW.weights P t (.slice (A.map (·.1)) (rest.map (·.1)):DataW H)=(A.length+rest.length)*P.bytesOf e::(DataW.weightsAll P e (A.map (·.1))++DataW.weightsAll P e (rest.map (·.1))):=by
       simp[DataW.weights,p]
      unfold Si at g;rw[B]at g;exact⟨g _ d5,OY λn hn=>g n (by simp[hn])⟩
     obtain⟨S,Y,⟨L,a9⟩,R,Z,a1⟩:=MM (WA:=Si P t (.slice (A.map (·.1)) (rest.map (·.1)):DataW H)) (xN d e r C m) (rY D) (agW h3) W he (λg=>(I g).2) a3 (axp _);refine⟨S,LR.cons ?_ LR.nil,?_,λg=>⟨?_,a9 g⟩⟩
     .have a7:(List.map (bJ r) S).length=a3:=by simp[Y]
      have:=VR.sl (Rd:=Rw w) (E:=none) (tight:=false) (sz:=r.w) (rows:=List.map (bJ r) S) (a:=some a) (cap:=a4) R
       (λq M=>by obtain⟨z,_,rfl⟩:=axC.1 M;exact e6 r z)
       (λc hc=>by
        obtain⟨q,M,a6⟩:=azm.1 hc;obtain⟨z,_,rfl⟩:=axC.1 M;exact qA r z c a6)
       Z.1 Z.2 bv a5 d5 (λa8=>by
        have hp:0<R.length:=aza.2 a8;have a0:=(a1 0 R[0] (axz hp)).1;obtain⟨b,o,sp⟩:=a;simp only at a0;subst a0;exact⟨b,o,rfl,λj u hj=>(a1 j u hj).2⟩)
      rw[a7]at this;exact this
     .exact⟨bv,L⟩
     .have h5:=(I g).1
      have h6:A.length*1<=(A.length+rest.length)*P.bytesOf e:=ay1 (Nat.le_add_right _ _) (agW h4);rw[Y,<-W];omega
   |_=>simp at h
  next V p=>
   simp only[axo]at h;obtain⟨C,D⟩:=h;obtain⟨v,m,rfl,rfl,K,a2,O⟩:=DataW.trod_struct p F;obtain⟨y,G,J,Q⟩:=F1 (WA:=Si P t (.agg (v.map (·.1)):DataW H)) (λt s N=>xN d t s N m) U V.toList 0 s v C (by simpa using a2) (λi f L=>O i f (by simpa using L)) (λg=>by
    have B:DataW.weights P t (.agg (v.map (·.1)):DataW H)=DataW.weightsEach P (V.toList.map (·.type)) (v.map (·.1)):=by simp[DataW.weights,p]
    unfold Si at g;rw[B]at g;exact Sj g)
   refine⟨y,?_,J,Q⟩;rw[ayg,axV (by rw[K,rY D];exact axp _)]at G;exact G
  next m e p=>
   simp only[axo]at h;obtain⟨C,D⟩:=h;obtain⟨v,m',rfl,rfl,K,a2,O⟩:=DataW.trod_array p F;have I:Si P t (.agg (v.map (·.1)):DataW H)->∀(i:Nat) x,v[i]? =some x->Si P e x.1:=λg=>by
    have B:DataW.weights P t (.agg (v.map (·.1)):DataW H)=DataW.weightsAll P e (v.map (·.1)):=by simp[DataW.weights,p]
    unfold Si at g;rw[B]at g;exact OY g
   obtain⟨y,G,J,Q⟩:=Sl (WA:=Si P t (.agg (v.map (·.1)):DataW H)) (ew:=P.cellsOf e) (λs N=>xN d e s N m') U m 0 s C (λi hi=>by
    have:=O i hi;have X:i<v.length:=bv
    rw[axz X]at this;exact⟨_,by rw[axY];exact this,λg=>I g i _ (axz X)⟩)
   refine⟨y,?_,J,Q⟩;rw[ayg,axV (by rw[K,rY D];exact axp _)]at G;exact G
  .cases h
def W4(P:Fd)(t:EQ):In:=match P.underlying t with
 |some (.struct _)=>true
 |some (.array _ _)=>true
 |_=>false
def EE{r:Reach}{b0 c:Nat}{s:Sc}{x:DataW H}{A:Do MemPlace}(j:tyC P c d s=true)(o:Value.okWide P w r b0 d C)(h:DataW.Trod enc P w base spare held d C x A):
 ∃y:s.c9,Fits s y/\(Si P d x->Siz s y)/\(W4 P d=true->VR (Rw w) none (.ag (bJ s y)) C)/\(W4 P d=false->VR (Rw w) none (encS s y) C):=by
 obtain⟨n,h⟩:=h;obtain⟨y,t,u,B⟩:=xN c d s j n _ _ h;refine⟨y,u,B,λg=>?_,λg=>?_⟩
 .unfold W4 at g
  unfold Value.okWide at o;have v:∃p,C=.agg p:=by
   split at g
   next f=>rw[f]at o;obtain⟨p,h,-⟩:=o;exact⟨p,h⟩
   next f=>rw[f]at o;obtain⟨p,h,-⟩:=o;exact⟨p,h⟩
   .cases g
  obtain⟨p,rfl⟩:=v;have:=VR.ag (E:=none) (Rd:=Rw w) p.toList t.1 t.2;simpa using this
 .cases c with
  |zero=>simp[tyC]at j
  |succ c=>
   unfold tyC at j;unfold W4 at g;split at j
   next k f=>
    cases s with
    |i l=>
     obtain⟨z,rfl⟩:=okWide_int f o;have q:=t.2 0 _ _ rfl rfl;exact q
    |_=>simp at j
   next f=>
    cases s with
    |b=>
     obtain⟨z,rfl⟩:=okWide_bool f o;have q:=t.2 0 _ _ rfl rfl;exact q
    |_=>simp at j
   next e f=>
    cases s with
    |sl r=>
     obtain⟨a,G,D,rfl⟩:=okWide_slice f o;have q:=t.2 0 _ _ rfl rfl;exact q
    |_=>simp at j
   next F f=>rw[f]at g;cases g
   next m e f=>rw[f]at g;cases g
   .cases j
end
def OZ{P:Fd}{j:Do PV}{d:Do Sc}{M:lW d->At a}{g:a->(R:Type)->(EV->eW->At R)->At R}{own t:In}(p:kq.ok P ⟨e,j,[],d,a,M,g,own,t⟩){x:lW d}{y:a}(q:M x=some y)
 {w:GE} (n:amo w) {vs:bH} (s:LR (VR (Rw w) none) (cg (da j (iy d x)).1) vs) (f:g y EV (λb _=>some b)=some (.sc .b true)) (o:C=.bool true):Calls P e vs.toArray w λb k=>b=.returned C/\Ext w k:=by
 obtain⟨c,H,l,_,_,m⟩:=p.2 x y q;have f:(some c:At EV)=some (.sc .b true):=(l EV λb _=>some b).symm.trans f;obtain rfl:=axt f;refine(m.2 (b0 w) (Rw w) e0 w vs (sr0 w n) (s.imp λ_ _ h=>(h.mono λ_ _ _ h=>ash h).cW)).mono λb k h=>?_;obtain⟨v,u,rfl,r,i⟩:=h;change VR _ _ (enc (.sc .b true)) v at i;refine⟨?_,r.ext.ext λ_ h=>h⟩;subst o;cases i;rfl
end
variable{b:GE}
section
open Go Go.ChangeShapes Go.WideShapes Go.ChangeAt Go.RowKit
def agX:(Tryz.prog.globals[0]?).map (·.type)=some 317:=ci
def agY:Tryz.prog.cellsOf 317=32:=ci
def adz:Tryz.prog.cellsOf 5=1:=ci
def apC:aX:=[0,1,28,2,29,14,24,3,30,22,20,15,25,17,4,8,31,27,13,23,21,19,16,7,26,12,18,6,11,5,10,9]
def amp:afx=[(0,.u8,apC)]:=rfl
def O0(h:laidMetH Tryz.prog Rows.wholeRefusedRow.laid b):amo b:=by
 have j:=Lib.tabIs_of_head (rest:=[]) (g:=0) ci agX Tryz.underlying317 Tryz.underlying5 adz agY (k:=.u8)
  (zs:=apC) h
 rintro a o u ⟨k,l,x,c,e,rfl⟩;rw[amp,ac1]at c;cases d:Nat.beq a 0 with
 |false=>rw[d]at c;cases c
 |true=>
  rw[d]at c;have d:=axu d;subst d;cases c;have i:o<apC.length:=(axs.1 e).1;have f:=j.cell (g:=0) ci o (by simpa using i);rw[f];rw[ayL,e];rfl
noncomputable def EF(a:Os):GE:=
 {World.holding Tryz.prog a ⟨#[], #[],[]⟩with heap:=(World.holding Tryz.prog a ⟨#[], #[],[]⟩).heap.modify 0 λ
  |.cells _ t frozen=>.cells #[.int .u8 0,.int .u8 1,.int .u8 28,.int .u8 2,.int .u8 29,.int .u8 14,.int .u8 24,.int .u8 3,.int .u8 30,.int .u8 22,.int .u8 20,.int .u8 15,.int .u8 25,.int .u8 17,.int .u8 4,.int .u8 8,.int .u8 31,.int .u8 27,.int .u8 13,.int .u8 23,.int .u8 21,.int .u8 19,.int .u8 16,.int .u8 7,.int .u8 26,.int .u8 12,.int .u8 18,.int .u8 6,.int .u8 11,.int .u8 5,.int .u8 10,.int .u8 9] t frozen
  |o=>o}
end
abbrev vI:Id:=.int .i64 0
abbrev vB:Id:=.bool false
abbrev vS:Id:=.slice none 0 0
abbrev sI:Sc:=.i .i64
abbrev xO:At (In×Nat):=some (false,1)
def tS:a_:=[9,10,11]
def tN:a_:=[20]
def tL:Do (a_×bz):=[
 ([2,3,37,294],{ty:=xO,ze:=some [vI],ik:=some .i64}),
 ([4],{ty:=xO,bo:=true,ze:=some [vB]}),
 ([5,6,411,412],{ty:=xO,ze:=some [.int .u8 0],ik:=some .u8}),
 ([7,8],{ty:=some (true,4),fd:=[(0,false,1),(1,false,1),(2,false,1),(3,false,1)],pl:=some ([vI,vI,vB,.int .u8 0],[(0,1),(1,1),(2,1),(3,1)]),ze:=some [vI,vI,vB,.int .u8 0],eq:=some ((sI).pr ((sI).pr (Sc.b.pr (Sc.i .u8))))}),
 ([12,164,301,338],{ty:=xO,ze:=some [.int .u64 0],ik:=some .u64}),
 ([15,16,17,123,148,215,245,250,268,308,342,346,365,397,414,419],{ty:=xO,ze:=some [.pointer none]}),
 ([18,19],{ty:=some (true,1),fd:=[(0,false,1)],pl:=some ([.pointer none],[(0,1)]),ze:=some [.pointer none],zv:=some (.agg {toList:=[.pointer none]})}),
 ([21,415,416],{ty:=xO,ze:=some [.int .i32 0],ik:=some .i32}),
 ([22],{ty:=xO,el:=some (131,4,32,[vI,vI,vI,vB]),k7:=true,ze:=some [vS],co:=some ((sI).pr ((sI).pr ((sI).pr Sc.b)))}),
 ([23,24,82,83],{ty:=some (true,2),fd:=[(0,false,1),(1,false,1)],pl:=some ([vI,vS],[(0,1),(1,1)]),ze:=some [vI,vS],zv:=some (.agg {toList:=[vI,vS]})}),
 ([25,26],{ty:=some (true,4),fd:=[(0,true,2),(2,false,1),(3,false,1)],pl:=some ([vI,vS,vI,vI],[(0,2),(2,1),(3,1)]),ze:=some [vI,vS,vI,vI]}),
 ([27],{ty:=xO,el:=some (51,2,16,[vI,vI]),k7:=true,ze:=some [vS],co:=some ((sI).pr (sI))}),
 ([28],{ty:=xO,el:=some (53,3,24,[vI,vI,vI]),k7:=true,ze:=some [vS],co:=some ((sI).pr ((sI).pr (sI)))}),
 ([29,30,100,101],{ty:=some (true,3),fd:=[(0,false,1),(1,false,1),(2,false,1)],pl:=some ([vI,vS,vS],[(0,1),(1,1),(2,1)]),ze:=some [vI,vS,vS]}),
 ([31],{ty:=xO,el:=some (138,2,16,[vI,vI]),k7:=true,ze:=some [vS],co:=some ((sI).pr (sI))}),
 ([32,33,39,40],{ty:=some (true,3),fd:=[(0,false,1),(1,false,1),(2,false,1)],pl:=some ([vI,vI,vS],[(0,1),(1,1),(2,1)]),ze:=some [vI,vI,vS]}),
 ([34,35],{ty:=some (true,5),fd:=[(0,false,1),(1,false,1),(2,true,3)],pl:=some ([vI,vI,vI,vI,vS],[(0,1),(1,1),(2,3)]),ze:=some [vI,vI,vI,vI,vS]}),
 ([38,158,273],{ty:=xO,el:=some (3,1,8,[vI]),k7:=true,ze:=some [vS],co:=some (sI)}),
 ([50,51,190,191,212,213],{ty:=some (true,2),fd:=[(0,false,1),(1,false,1)],pl:=some ([vI,vI],[(0,1),(1,1)]),ze:=some [vI,vI],eq:=some ((sI).pr (sI)),zv:=some (.agg {toList:=[vI,vI]})}),
 ([52,53],{ty:=some (true,3),fd:=[(0,false,1),(1,false,1),(2,false,1)],pl:=some ([vI,vI,vI],[(0,1),(1,1),(2,1)]),ze:=some [vI,vI,vI],eq:=some ((sI).pr ((sI).pr (sI)))}),
 ([54],{ty:=xO,el:=some (5,1,1,[.int .u8 0]),k7:=true,ze:=some [vS],co:=some (Sc.i .u8)}),
 ([59],{ty:=xO,el:=some (40,3,40,[vI,vI,vS]),k7:=true,ze:=some [vS],co:=some ((sI).pr ((sI).pr (sI).sl))}),
 ([66],{ty:=xO,el:=some (75,3,72,[vS,vS,vS]),k7:=true,ze:=some [vS],co:=some ((sI).sl.pr ((sI).sl.pr (sI).sl.sl))}),
 ([69],{ty:=xO,ze:=some [.int .u32 0],ik:=some .u32}),
 ([70],{ty:=xO,el:=some (69,1,4,[.int .u32 0]),k7:=true,ze:=some [vS],co:=some (Sc.i .u32)}),
 ([71],{ty:=xO,el:=some (38,1,24,[vS]),k7:=true,ze:=some [vS],co:=some (sI).sl}),
 ([74,75],{ty:=some (true,3),fd:=[(0,false,1),(1,false,1),(2,false,1)],pl:=some ([vS,vS,vS],[(0,1),(1,1),(2,1)]),ze:=some [vS,vS,vS]}),
 ([77],{ty:=xO,el:=some (4,1,1,[vB]),k7:=true,ze:=some [vS],co:=some Sc.b}),
 ([89,90],{ty:=some (true,2),fd:=[(0,false,1),(1,false,1)],pl:=some ([vS,vS],[(0,1),(1,1)]),ze:=some [vS,vS],zv:=some (.agg {toList:=[vS,vS]})}),
 ([93],{ty:=xO,el:=some (197,4,32,[vI,vI,vI,vI]),k7:=true,ze:=some [vS],co:=some ((sI).pr ((sI).pr ((sI).pr (sI))))}),
 ([94,95],{ty:=some (true,3),fd:=[(0,false,1),(1,false,1),(2,false,1)],pl:=some ([vS,vI,vS],[(0,1),(1,1),(2,1)]),ze:=some [vS,vI,vS]}),
 ([96,97],{ty:=some (true,7),fd:=[(0,true,3),(3,false,1),(4,false,1),(5,false,1),(6,false,1)],pl:=some ([vS,vI,vS,vS,vB,vI,vI],[(0,3),(3,1),(4,1),(5,1),(6,1)]),ze:=some [vS,vI,vS,vS,vB,vI,vI]}),
 ([108],{ty:=xO,el:=some (181,5,32,[vB,vB,vI,vI,vI]),k7:=true,ze:=some [vS],co:=some (Sc.b.pr (Sc.b.pr (((sI).pr (sI)).pr (sI))))}),
 ([120,121],{ty:=some (true,1),fd:=[(0,false,1)],pl:=some ([vI],[(0,1)]),ze:=some [vI],eq:=some (sI),zv:=some (.agg {toList:=[vI]})}),
 ([124,125],{ty:=some (true,7),fd:=[(0,true,4),(4,true,3)],pl:=some ([vI,vS,vI,vI,vI,vI,vS],[(0,4),(4,3)]),ze:=some [vI,vS,vI,vI,vI,vI,vS]}),
 ([130,131,255,256],{ty:=some (true,4),fd:=[(0,false,1),(1,false,1),(2,false,1),(3,false,1)],pl:=some ([vI,vI,vI,vB],[(0,1),(1,1),(2,1),(3,1)]),ze:=some [vI,vI,vI,vB],eq:=some ((sI).pr ((sI).pr ((sI).pr Sc.b)))}),
 ([135],{ty:=xO,el:=some (30,3,56,[vI,vS,vS]),k7:=true,ze:=some [vS],co:=some ((sI).pr (((sI).pr (sI)).sl.pr ((sI).pr ((sI).pr (sI))).sl))}),
 ([138],{ty:=some (true,2),ar:=some (2,3,1),pl:=some ([vI,vI],[(0,1),(1,1)]),ze:=some [vI,vI],co:=some (sI)}),
 ([152,153],{ty:=some (true,6),fd:=[(0,true,3),(3,false,1),(4,false,1),(5,false,1)],pl:=some ([vS,vS,vS,vS,vI,vI],[(0,3),(3,1),(4,1),(5,1)]),ze:=some [vS,vS,vS,vS,vI,vI]}),
 ([180,181],{ty:=some (true,5),fd:=[(0,false,1),(1,false,1),(2,true,2),(4,false,1)],pl:=some ([vB,vB,vI,vI,vI],[(0,1),(1,1),(2,2),(4,1)]),ze:=some [vB,vB,vI,vI,vI]}),
 ([185],{ty:=xO,el:=some (256,4,32,[vI,vI,vI,vB]),k7:=true,ze:=some [vS],co:=some ((sI).pr ((sI).pr ((sI).pr Sc.b)))}),
 ([188],{ty:=xO,el:=some (191,2,16,[vI,vI]),k7:=true,ze:=some [vS],co:=some ((sI).pr (sI))}),
 ([196,197],{ty:=some (true,4),fd:=[(0,false,1),(1,false,1),(2,false,1),(3,false,1)],pl:=some ([vI,vI,vI,vI],[(0,1),(1,1),(2,1),(3,1)]),ze:=some [vI,vI,vI,vI],eq:=some ((sI).pr ((sI).pr ((sI).pr (sI))))}),
 ([199],{ty:=xO,ze:=some [.map none],mp:=some (TypeDesc.int .i64,vI),kv:=some (sI,sI)}),
 ([216,217],{ty:=some (true,2),fd:=[(0,false,1),(1,false,1)],pl:=some ([vS,vI],[(0,1),(1,1)]),ze:=some [vS,vI],zv:=some (.agg {toList:=[vS,vI]})}),
 ([221],{ty:=some (true,8),ar:=some (8,3,1),pl:=some ([vI,vI,vI,vI,vI,vI,vI,vI],[(0,1),(1,1),(2,1),(3,1),(4,1),(5,1),(6,1),(7,1)]),ze:=some [vI,vI,vI,vI,vI,vI,vI,vI],co:=some (sI)}),
 ([235],{ty:=xO,ze:=some [.int .u16 0],ik:=some .u16}),
 ([236],{ty:=xO,ze:=some [.map none],mp:=some (TypeDesc.tuple {toList:=[]},vI),kv:=some ((sI).pr (sI),sI)}),
 ([247,248],{ty:=some (true,8),fd:=[(0,true,2),(2,true,5),(7,false,1)],pl:=some ([vI,vS,vB,vB,vI,vI,vI,vI],[(0,2),(2,5),(7,1)]),ze:=some [vI,vS,vB,vB,vI,vI,vI,vI]}),
 ([251,252],{ty:=some (true,8),fd:=[(0,true,7),(7,false,1)],pl:=some ([vS,vI,vS,vS,vB,vI,vI,vS],[(0,7),(7,1)]),ze:=some [vS,vI,vS,vS,vB,vI,vI,vS]}),
 ([262],{ty:=xO,el:=some (83,2,32,[vI,vS]),k7:=true,ze:=some [vS],co:=some ((sI).pr (sI).sl.sl)}),
 ([269,270],{ty:=some (true,3),fd:=[(0,false,1),(1,false,1),(2,false,1)],pl:=some ([vS,.map none,.map none],[(0,1),(1,1),(2,1)]),ze:=some [vS,.map none,.map none]}),
 ([303],{ty:=xO,el:=some (22,1,24,[vS]),k7:=true,ze:=some [vS],co:=some ((sI).pr ((sI).pr ((sI).pr Sc.b))).sl}),
 ([307],{ty:=xO,el:=some (308,1,8,[.pointer none]),k7:=true,ze:=some [vS]}),
 ([317],{ty:=some (true,32),ar:=some (32,5,1),pl:=some ([.int .u8 0,.int .u8 0,.int .u8 0,.int .u8 0,.int .u8 0,.int .u8 0,.int .u8 0,.int .u8 0,.int .u8 0,.int .u8 0,.int .u8 0,.int .u8 0,.int .u8 0,.int .u8 0,.int .u8 0,.int .u8 0,.int .u8 0,.int .u8 0,.int .u8 0,.int .u8 0,.int .u8 0,.int .u8 0,.int .u8 0,.int .u8 0,.int .u8 0,.int .u8 0,.int .u8 0,.int .u8 0,.int .u8 0,.int .u8 0,.int .u8 0,.int .u8 0],[(0,1),(1,1),(2,1),(3,1),(4,1),(5,1),(6,1),(7,1),(8,1),(9,1),(10,1),(11,1),(12,1),(13,1),(14,1),(15,1),(16,1),(17,1),(18,1),(19,1),(20,1),(21,1),(22,1),(23,1),(24,1),(25,1),(26,1),(27,1),(28,1),(29,1),(30,1),(31,1)]),ze:=some [.int .u8 0,.int .u8 0,.int .u8 0,.int .u8 0,.int .u8 0,.int .u8 0,.int .u8 0,.int .u8 0,.int .u8 0,.int .u8 0,.int .u8 0,.int .u8 0,.int .u8 0,.int .u8 0,.int .u8 0,.int .u8 0,.int .u8 0,.int .u8 0,.int .u8 0,.int .u8 0,.int .u8 0,.int .u8 0,.int .u8 0,.int .u8 0,.int .u8 0,.int .u8 0,.int .u8 0,.int .u8 0,.int .u8 0,.int .u8 0,.int .u8 0,.int .u8 0],co:=some (Sc.i .u8)}),
 ([347,348],{ty:=some (true,11),fd:=[(0,true,7),(7,true,4)],pl:=some ([vS,vI,vS,vS,vB,vI,vI,vI,vI,vI,vB],[(0,7),(7,4)]),ze:=some [vS,vI,vS,vS,vB,vI,vI,vI,vI,vI,vB]}),
 ([408],{ty:=some (true,0),ar:=some (0,16,1),pl:=some ([],[]),ze:=some []}),
 ([409,410],{ty:=some (true,0),fd:=[(0,true,0)],pl:=some ([],[(0,0)]),ze:=some []}),
 ([417,418],{ty:=some (true,11),fd:=[(0,false,1),(1,false,1),(2,false,1),(3,false,1),(4,false,1),(5,false,1),(6,false,1),(7,false,1),(8,false,1),(9,false,1),(10,false,1)],pl:=some ([.int .u64 0,.int .u64 0,.int .u32 0,.int .u8 0,.int .u8 0,.int .u8 0,.int .u8 0,.nilFunc,.pointer none,.int .i32 0,.int .i32 0],[(0,1),(1,1),(2,1),(3,1),(4,1),(5,1),(6,1),(7,1),(8,1),(9,1),(10,1)]),ze:=some [.int .u64 0,.int .u64 0,.int .u32 0,.int .u8 0,.int .u8 0,.int .u8 0,.int .u8 0,.nilFunc,.pointer none,.int .i32 0,.int .i32 0]}),
 ([1,36,42,43,44,45,46,47,48,49,56,58,61,62,63,65,68,73,76,79,81,85,86,87,88,92,99,103,105,107,110,112,114,115,116,117,118,119,126,127,129,132,133,134,137,139,141,143,144,145,146,147,150,151,154,155,156,157,159,160,161,163,165,167,169,170,172,173,175,176,177,178,179,183,184,187,189,192,193,194,195,198,200,201,202,203,204,205,207,208,209,210,211,214,218,219,220,222,223,224,225,226,227,228,230,231,232,233,234,237,238,239,240,241,242,243,244,246,249,253,254,257,258,259,260,261,263,264,266,267,272,275,276,277,278,279,280,281,282,283,284,285,286,287,288,290,291,292,293,296,297,298,299,300,302,304,305,306,309,311,312,313,314,316,318,319,321,322,323,324,325,326,327,328,329,330,331,332,333,334,335,336,337,339,340,341,343,344,345,349,350,351,352,353,354,355,356,357,358,359,360,361,362,363,364,366,367,368,369,371,373,374,375,376,378,379,380,381,382,383,384,385,386,387,388,389,390,391,392,393,394,395,396,398,399,400,401,402,403,404,405,413],{ty:=xO,ze:=some [.nilFunc]})]
def T(t:EQ):bz:=tgF tS tN tL t
def Bl:gJ Tryz.prog T:=amn (Sh (S:=tS) (N:=tN) (L:=tL) ci ci ci)
def Jr:∀q∈anX,ar0 Tryz.prog q:=λq h=>by cases h
def mixed:Tryz.prog.follows .mixedOrders=true:=ci
section
set_option maxHeartbeats 400000
def oE(e:Int):Id:=.iface 121 (.agg #[.int .i64 e])
def agZ(e:Int)(w:GE)(b:e≠0):Calls Tryz.prog 107 #[.int .i64 e] w λx a=>x=.panicked [{v:=oE e,recovered:=false}]/\w=a:=by
 go_enter aBA,Tryz.ntmps107
 go_wp2
 exact⟨rfl,rfl,rfl⟩
end
variable{y:Bs}{s:Code}{j:Env}{o:Func}{v:Hp}{u:Do AV}{h:Do PanicEntry}{A:yu}{k:bs}
section
variable{P:Fd}{st:St}{dC:IR->St->Prop}
def TC(P:Fd)(c:Code)(st:St)(dC:IR->St->Prop):Prop:=
 ∀h b e a w Q,Ga h b e st a w->(∀x f,dC x f->∀i d g,Ga h b i f d g->Q x d g)->c.wp P Q a w
def TC.ac(h:AC false P s st dC):TC P s st dC:=λn b e a w Q i j=>
 wpIn_wide.1 (h none n b e a w Q (λh=>by cases h) i λx l k p o f d c m g _=>by
  obtain⟨rfl,rfl⟩:=f.ne rfl;exact j x l k d c m g)
def TC.mono{c:IR->St->Prop}(h:TC P s st dC)(j:∀x b,dC x b->c x b):TC P s st c:=λl f e a w Q g i=>h l f e a w Q g λx d k=>i x d (j x d k)
def TC.seq{x y:Code}(h:TC P x st (Q8 (λb=>TC P y b dC) dC)):TC P (.seq x y) st dC:=λm k e a w Q o g=>by
 refine azo (h m k e a w _ o λn b i d c j f=>?_);cases n with
 |normal=>exact i m k d c j Q f g
 |_=>exact g _ b i d c j f
def TC.ex{T:EQ->bz}{c:Do kq}{N:Nat}(e:Place P T c)(d:FZ s=true){pl:Pl}{E:cT}{R:Type}{k:IR->cT->At R}{r:R}(h:yB T c N s pl E R k=some r):TC P s (bu E) λx a=>∃b,a=bu b/\b.n=E.n/\k x b=some r:=
 .ac (agO e s false (λ_=>d) pl E R k r h)
def TL(P:Fd)(i:yu)(l:bs)(st:St)(dC:IR->St->Prop):Prop:=
 ∀g b e a w Q,Ga g b e st a w->(∀x d,dC x d->∀h c f,Ga g b h d c f->Q x c f)->wpList P i Q l a w
def TL.cons{o:Oper}(h:∀c:St->Prop,(∀b,TL P A k b dC->c b)->GS P A o st c):TL P A (o::k) st dC:=by
 intro i d e a w Q n q;refine aAh λj m=>?_;exact h (λb=>TL P A k b dC) (λ_ h=>h) i d e a w j Q n λb r l f g p=>m f g (r i d l f g Q p q)
def TL.of(h:AL P A k st (dC .normal)):TL P A k st dC:=λi b e a w Q c d=>h i b e a w Q c λg f=>d .normal g f
def TC.region{id:Nat}(h:TL P k.toArray k st dC):TC P (.region id k.toArray false) st dC:=λf b e a w Q c d=>
 wp_region_lit (h f b e a w Q c d)
def SP(P:Fd)(o:Oper)(st:St)(dC:IR->St->Prop):Prop:=
 ∀g b e a w next Q,Ga g b e st a w->(∀x d,dC x d->∀h c f,Ga g b h d c f->Q x c f)->o.wp P a w next Q
def TL.last{o:Oper}(d:o.guard=none)(h:SP P o st dC):TL P A (o::k) st dC:=by
 intro i c e a w Q f g;refine aAh λb j=>?_;rw[axn (by simp[Region.wanted,d])];exact h i c e a w b Q f g
def PCX(P:Fd)(f:FuncId)(a:Hp)(c:Do AV)(d:Do PanicEntry):Prop:=
 Enters P f/\∀B Rd e w b,SR B Rd e a w->LR (VR (bS B Rd e a w) (some e)) c b->Calls P f b.toArray w λx h=>x=.panicked d/\∃g,SR B Rd g [] h
def SR.nil{Rd:bI}(d:SR y Rd j v b):SR y Rd j [] b:=
 ⟨d.ext,d.kW,(λk ob c=>by cases c),(λk ob a c=>by cases c),(λk e ob f a c=>by cases c),d.yv⟩
def PCX.intro{c:Code}(y:P.funcs[e]? =some o)(J:(o.name== "runtime.NumGoroutine")=false)(r:o.body=some c)(Q:u.length<=o.ntmps)(G:o.ntmps<=1000000)
 (b:TC P c ⟨o.ntmps,vf 0 u,v⟩ λx _=>x=.panic h):PCX P e v u h:=by
 refine⟨⟨o,y,J,by rw[r];rfl⟩,λB Rd a w k g M=>aBB y r ?_⟩;obtain⟨j,l⟩:∃j:Bs,j=⟨B.w,B.own,B.bX,B.sv,[]⟩:=⟨_,rfl⟩;have L:SR j Rd a v w:=by
  subst l;exact⟨⟨g.ext.os,g.ext.tape,g.ext.output,g.ext.size,g.ext.block,g.ext.drawn⟩,g.kW,g.ob,g.base,g.inj,g.yv⟩
 have F:∀a b w,SR j Rd a b w->SR B Rd a b w:=by
  subst l;exactλa b w f=>⟨⟨f.ext.os,f.ext.tape,f.ext.output,f.ext.size,f.ext.block,f.ext.drawn⟩,f.kW,f.ob,f.base,f.inj,f.yv⟩
 have q:LR (VR (bS j Rd a v w) (some a)) u k:=by subst l;exact M
 have t:j.df=[]:=by subst l;rfl
 have I:Ga j Rd a ⟨o.ntmps,vf 0 u,v⟩ {tmps:=k.toArray++Array.replicate (o.ntmps - k.toArray.size) undef,defers:=[]} w:=by
  refine⟨⟨by simp[q.1];omega,G⟩,by rw[t],L,λi=>?_⟩;rw[AX];simp only[axT,ax0,aAj];by_cases p:i<u.length
  .have s:u[i]? =some u[i]:=axz p
   obtain⟨d,C,K⟩:=q.get s;have n:u.getD i .un=u[i]:=by simp[List.getD,s]
   have E:(k.toArray++Array.replicate (o.ntmps - k.toArray.size) undef).getD i undef=d:=by
    have A:i<k.length:=by rw[q.1];exact p
    simp[ayH,aAk,A];rw[axz A]at C;simpa using C
   rw[n,E];exact K
  .have n:u.getD i .un=.un:=by simp[List.getD,ax4 (azW p)]
   rw[n];exact .un
 refine b j Rd _ _ w _ I λx R N D m O z=>?_;subst N;have H:m.defers=[]:=z.d.trans t;show Leaves P o m.tmps _ m.defers (.panicking h) O;rw[H];exact⟨rfl,D,F _ _ _ z.sr.nil⟩
end
section
variable{P:Fd}{st:St}{dC:IR->St->Prop}{d:Nat}{ty:EQ}{pos:String}{af:dM}{gd:fJ}
def SP.Yp{op:Op}{D:bw}{h' r:Hp}{t:Do AV}(A:PCX P e r t h)(H:QV P ⟨some d,op,ty,pos,af,gd⟩ st e u)(I:Yo st D (1000*(d+1)) h' r t u)(v:QU (1000*(d+1)) D=true)
 (F:dC (.panic h) ⟨st.n,sY (ox (1000*(d+1))) st.t,pJ D++iu (ox (1000*(d+1))) h'⟩):SP P ⟨some d,op,ty,pos,af,gd⟩ st dC:=by
 intro B s g a w next Q f K
 obtain⟨W,R,M⟩:=H A.1 B s g a w f;obtain⟨C,l,q,z,S⟩:=I B s g w _ f.sr R;have m:=f.cS l;have N:=m.sr.pK q v z;have G:=A.2 _ _ _ w W N (S.qv λb o k J=>J.pK q λp ob L=>by
  obtain⟨c,V,x,y,_⟩:=z p ob L;exact⟨c,x,V,y⟩)
 unfold Oper.wp;rw[M w];show Calls P e _ w _;refine G.mono λx X U=>?_;obtain⟨rfl,E,O⟩:=U;obtain⟨j1,j2,j3,j4⟩:=SR.eJ m.sr q v O rfl;refine K _ _ F (C.eJ D (1000*(d+1)) E) a X ⟨m.n,m.d,j1,λi=>?_⟩;rw[nh];exact((((m.tr i).mono j2).kX _).LO rfl (ox (1000*(d+1))) (qu _ _) (λj n=>by simp[Env.eJ,n]) (λj n=>by simp[Env.eJ,n]))
end
def ag0(c:kq)(d:Nat)(a:Nat->At eh)(b:Do EV):At (lW c.cs×a_×bw):=
 let D:=RJ a c.hs (rQ c.ps b [])
 cond (b.all agh) (match mH a c.pu (oO (fW D (1000*(d+1))) c.ps) b with
 |some (e,gs)=>match I7 a D (1000*(d+1)) c.hs with
  |some ws=>match yy c.cs (e++ws)with
   |some x=>cond (QU (1000*(d+1)) D && gs.all (λk=>(V3 D k).isNone) && D.all (λq=>c.hs.any λr=>Nat.beq r.1 q.1) && (c.pu||gs.all (RN a)) && !c.pu) (some (x,gs,D)) none
   |none=>none
  |none=>none
 |none=>none) none
section
variable{P:Fd}{st:St}{dC:IR->St->Prop}{d:Nat}{ty:EQ}{pos:String}{af:dM}{gd:fJ}
def SP.ctr{c:kq}{b:Nat->At eh}{e:Do EV}{x:lW c.cs}{gs:a_}{D:bw}{j:Op}(a:ag0 c d b e=some (x,gs,D))(q:PCX P c.f (bE (c.H0 x)) (cg (c.as x)) h)
 (p:QV P ⟨some d,j,ty,pos,af,gd⟩ st c.f (cg e)) (l:Hk b (gs++D.map (·.2)) st)
 (m:dC (.panic h) ⟨st.n,sY (ox (1000*(d+1))) st.t,pJ D++iu (ox (1000*(d+1))) (bE (gQ b gs)++st.h)⟩):SP P ⟨some d,j,ty,pos,af,gd⟩ st dC:=by
 unfold ag0 at a;obtain⟨_,a⟩:=aY a;generalize RJ b c.hs (rQ c.ps e [])=k at a;split at a
 next y w n=>
  split at a
  next z r=>
   split at a
   next A f=>
    have f:=Be f;obtain⟨i,a⟩:=aY a;simp only[axo,ayC]at i;obtain⟨⟨⟨⟨g,s⟩,t⟩,u⟩,v⟩:=i;have o:G2 (k.map (·.2))=true:=by simp only[QU,axo]at g;exact g.1.2
    cases a;exact SP.Yp q p (vx n r f s t u v o l) g m
   .cases a
  .cases a
 .cases a
end
noncomputable def qO(N:Nat):Do kq:=[]
def sZ:Pl:=.z
def lc:Do (Nat×PV):=[(2,.h .b)]
def gX:PS:=⟨lc,[],[.b]⟩
noncomputable def gY(N:Nat):Int->dj:=exF T qO N (iB f211) 6 sZ [.h (.i .i64)] [] [(.i .i64)] gX
noncomputable def s0(N:Nat):kq:=⟨211,[.h (.i .i64)],[],[(.i .i64)],lW gX.c,gY N,λy _ k=>k (Bj T (fo 6 gX y) f211.results.toList) (fY [] (fo 6 gX y).h),false,true⟩
def Ai N x:gY (N+1) x=some (!(x=x)):=ci
def Aj(N:Nat):(s0 N).ok Tryz.prog:=Ah (T:=T) (CT:=qO) (N:=N) (λM=>⟨Bl,nt,mixed,Jr⟩) func211 ci ci sZ [.h (.i .i64)] [] [(.i .i64)] gX false true [] ci (λy=>by kernel_rfl) (λ_=>⟨rfl,rfl⟩) (λy=>by kernel_rfl) (gY N) (λx=>by kernel_rfl)
noncomputable def nM(N:Nat):Do kq:=[s0 N]
def oP:Pl:=.z
def at3:Do (Nat×PV):=[(4,.h (.i .i64))]
def fN:PS:=⟨at3,[],[(.i .i64)]⟩
noncomputable def cO(N:Nat):Int×Int->eF:=exF T nM N (iB f156) 20 oP [.h (.i .i64),.h (.i .i64)] [] [(.i .i64),(.i .i64)] fN
noncomputable def fO(N:Nat):kq:=⟨156,[.h (.i .i64),.h (.i .i64)],[],[(.i .i64),(.i .i64)],lW fN.c,cO N,λy _ k=>k (Bj T (fo 20 fN y) f156.results.toList) (fY [] (fo 20 fN y).h),false,true⟩
def vC N x y:cO (N+1) (x,y)=aW (gY N x) λb=>
 aW (gY N y) λa=>
 cond b
  (cond a
   (some 0)
   (some (-1)))
  (cond a
   (some 1)
   (cond (x<y)
    (some (-1))
    (cond (y<x)
     (some 1)
     (some 0)))):=ci
def fP(N:Nat):(fO N).ok Tryz.prog:=Ah (T:=T) (CT:=nM) (N:=N) (λM=>⟨Bl,(nL (Aj M) nt),mixed,Jr⟩) func156 ci ci oP [.h (.i .i64),.h (.i .i64)] [] [(.i .i64),(.i .i64)] fN false true [] ci (λy=>by kernel_rfl) (λ_=>⟨rfl,rfl⟩) (λy=>by kernel_rfl) (cO N) (λx=>by kernel_rfl)
noncomputable def pR(N:Nat):Do kq:=[]
def vD:PS:=⟨[(3,.h (.i .i64)),(6,.h (.sl (.i .i64))),(7,.h (.i .i64)),(8,.h (.i .i64))],[],[(.i .i64),(.sl (.i .i64)),(.i .i64),(.i .i64)]⟩
def vE:Do (IR×PS):=[((.exit 0),⟨[(3,.h (.i .i64))],[],[(.i .i64)]⟩),(.ret,⟨[(2,.h (.i .i64))],[],[(.i .i64)]⟩)]
def vF:Pl:=.z
noncomputable def nO(N:Nat):Nat->Int×aX×Int×Int->At ((Int)⊕(Int)):=Jn (yB T (pR N) N (je [1,1,0,1,0,0] (iB f155))) 18 vD vE vF
def Bm:Pl:=(.n .z (.n .z (.n (.n .z (.n (.loop vD vE vF) .z)) .z)))
def kB:PS:=⟨[(2,.h (.i .i64))],[],[(.i .i64)]⟩
noncomputable def gR(N:Nat):aX->eF:=exF T pR N (iB f155) 18 Bm [.h (.sl (.i .i64))] [] [(.sl (.i .i64))] kB
noncomputable def mU(N:Nat):kq:=⟨155,[.h (.sl (.i .i64))],[],[(.sl (.i .i64))],lW kB.c,gR N,λy _ k=>k (Bj T (fo 18 kB y) f155.results.toList) (fY [] (fo 18 kB y).h),false,true⟩
def lj N m b c d a:nO N (m+1) (b,c,d,a)=cond (a<d)
 (aW (aZ c a) λe=>
  cond (!(e=b))
   (some (.inr e))
   ((nO N m (b,c,d,(wZ (a+1))))))
 (some (.inl b)):=ci
def G8 N a:gR (N+1) a=aW (nO N N (0,a,(List.length a:Int),0)) λb=>
 (match b with
 |.inl c=>some c
 |.inr d=>some d):=ci
def mv(N:Nat):(mU N).ok Tryz.prog:=Ah (T:=T) (CT:=pR) (N:=N) (λM=>⟨Bl,nt,mixed,Jr⟩) func155 ci ci Bm [.h (.sl (.i .i64))] [] [(.sl (.i .i64))] kB false true [] ci (λy=>by kernel_rfl) (λ_=>⟨rfl,rfl⟩) (λy=>by kernel_rfl) (gR N) (λx=>by kernel_rfl)
noncomputable def s_(N:Nat):Do kq:=[fO N,mU N]
def vG:Pl:=.z
def iC:PS:=⟨at3,[],[(.i .i64)]⟩
noncomputable def iD(N:Nat):Int×Int×Int×Int->eF:=exF T s_ N (iB f86) 17 vG [.ag [.h (.i .i64),.h (.i .i64)],.ag [.h (.i .i64),.h (.i .i64)]] [] [(.i .i64),(.i .i64),(.i .i64),(.i .i64)] iC
noncomputable def nP(N:Nat):kq:=⟨86,[.ag [.h (.i .i64),.h (.i .i64)],.ag [.h (.i .i64),.h (.i .i64)]],[],[(.i .i64),(.i .i64),(.i .i64),(.i .i64)],lW iC.c,iD N,λy _ k=>k (Bj T (fo 17 iC y) f86.results.toList) (fY [] (fo 17 iC y).h),false,true⟩
def Bn N a c b d:iD (N+1) (a,c,b,d)=aW (cO N (a,b)) λe=>
 aW (cO N (c,d)) λf=>
 aW (gR N [e,f]) λg=>
 some g:=ci
def oQ(N:Nat):(nP N).ok Tryz.prog:=Ah (T:=T) (CT:=s_) (N:=N) (λM=>⟨Bl,(nL (fP M) (nL (mv M) nt)),mixed,Jr⟩) func86 ci ci vG [.ag [.h (.i .i64),.h (.i .i64)],.ag [.h (.i .i64),.h (.i .i64)]] [] [(.i .i64),(.i .i64),(.i .i64),(.i .i64)] iC false true [] ci (λy=>by kernel_rfl) (λ_=>⟨rfl,rfl⟩) (λy=>by kernel_rfl) (iD N) (λx=>by kernel_rfl)
noncomputable def yC(N:Nat):Do kq:=[nP N]
def Bo:Pl:=.z
def kC:PS:=⟨at3,[],[(.i .i64)]⟩
noncomputable def mV(N:Nat):Int×Int×Int×In×Int×Int×Int×In->eF:=exF T yC N (iB f85) 16 Bo [.ag [.h (.i .i64),.h (.i .i64),.h (.i .i64),.h .b],.ag [.h (.i .i64),.h (.i .i64),.h (.i .i64),.h .b]] [] [(.i .i64),(.i .i64),(.i .i64),.b,(.i .i64),(.i .i64),(.i .i64),.b] kC
noncomputable def Bp(N:Nat):kq:=⟨85,[.ag [.h (.i .i64),.h (.i .i64),.h (.i .i64),.h .b],.ag [.h (.i .i64),.h (.i .i64),.h (.i .i64),.h .b]],[],[(.i .i64),(.i .i64),(.i .i64),.b,(.i .i64),(.i .i64),(.i .i64),.b],lW kC.c,mV N,λy _ k=>k (Bj T (fo 16 kC y) f85.results.toList) (fY [] (fo 16 kC y).h),false,true⟩
def G9 N a c e f b d g h:mV (N+1) (a,c,e,f,b,d,g,h)=aW (iD N (a,c,b,d)) λi=>
 some i:=ci
def G_(N:Nat):(Bp N).ok Tryz.prog:=Ah (T:=T) (CT:=yC) (N:=N) (λM=>⟨Bl,(nL (oQ M) nt),mixed,Jr⟩) func85 ci ci Bo [.ag [.h (.i .i64),.h (.i .i64),.h (.i .i64),.h .b],.ag [.h (.i .i64),.h (.i .i64),.h (.i .i64),.h .b]] [] [(.i .i64),(.i .i64),(.i .i64),.b,(.i .i64),(.i .i64),(.i .i64),.b] kC false true [] ci (λy=>by kernel_rfl) (λ_=>⟨rfl,rfl⟩) (λy=>by kernel_rfl) (mV N) (λx=>by kernel_rfl)
noncomputable def vH(N:Nat):Do kq:=[fO N]
def yD:Pl:=.z
def jm:PS:=⟨at3,[],[(.i .i64)]⟩
noncomputable def lA(N:Nat):aX×aX->eF:=exF T vH N (iB f279) 12 yD [.h (.sl (.i .i64)),.h (.sl (.i .i64))] [] [(.sl (.i .i64)),(.sl (.i .i64))] jm
noncomputable def yE(N:Nat):kq:=⟨279,[.h (.sl (.i .i64)),.h (.sl (.i .i64))],[],[(.sl (.i .i64)),(.sl (.i .i64))],lW jm.c,lA N,λy _ k=>k (Bj T (fo 12 jm y) f279.results.toList) (fY [] (fo 12 jm y).h),false,true⟩
def EG N a b:lA (N+1) (a,b)=aW (aZ a 0) λc=>
 aW (aZ b 0) λd=>
 aW (cO N (c,d)) λe=>
 some e:=ci
def EH(N:Nat):(yE N).ok Tryz.prog:=Ah (T:=T) (CT:=vH) (N:=N) (λM=>⟨Bl,(nL (fP M) nt),mixed,Jr⟩) func279 ci ci yD [.h (.sl (.i .i64)),.h (.sl (.i .i64))] [] [(.sl (.i .i64)),(.sl (.i .i64))] jm false true [] ci (λy=>by kernel_rfl) (λ_=>⟨rfl,rfl⟩) (λy=>by kernel_rfl) (lA N) (λx=>by kernel_rfl)
variable{n:GE}{B:ea}{m:bH}
section
open Go Go.RowKit Go.Shelf Go.Sort
section
def lk(b:a->a->In)(l:Do a):Prop:=l.Pairwise λx y=>b x y=true\/b y x=true
open Classical in
def O1{α:Type}(lt:α->α->In)(l:Do α):At (Do α):=if lk lt l/\l.length<1099511627776 then some (l.mergeSort λx y=> !lt y x)else none
def MN{b:a->a->In}{l r:Do a}(h:O1 b l=some r):lk b l/\l.length<1099511627776/\r=l.mergeSort λx y=> !b y x:=by
 unfold O1 at h;split at h
 next c=>exact⟨c.1,c.2,(axt h).symm⟩
 .cases h
def lk.perm{b:a->a->In}{l r:Do a}(h:lk b l)(c:l.Perm r):lk b r:=c.pairwise h λ{x y} h=>h.symm
def Bq{α:Type}{b:α->α->In}(m:∀x y,b x y=true->b y x=true->False):∀{l r:Do α},l.Perm r->lk b l->l.Pairwise (λx y=>b y x=false)->r.Pairwise (λx y=>b y x=false)->l=r
 |[],r,a,_,_,_=>by rw[List.nil_perm.1 a]
 |x::l,[],a,_,_,_=>by simp at a
 |x::l,y::r,a,f,g,i=>by
  have n:x=y:=by
   have d:x∈y::r:=a.subset d5;have c:y∈x::l:=a.symm.subset d5;rcases axP.1 d with e|d
   .exact e
   rcases axP.1 c with e|c
   .exact e.symm
   have j:=(azb.1 g).1 y c;have k:=(azb.1 i).1 x d;rcases(azb.1 f).1 y c with h|h
   .rw[k]at h;cases h
   .rw[j]at h;cases h
  subst n;rw[Bq m ((List.perm_cons x).1 a) (azb.1 f).2 (azb.1 g).2 (azb.1 i).2]
def Ak{e:a->a->In}(g:SWO e){l r:Do a}(j:r.Perm l)(k:lk e l)(n:r.Pairwise λx y=>e y x=false):r=l.mergeSort λx y=> !e y x:=by
 have m:=aBC l λx y=> !e y x;refine Bq (λx y i f=>by have:=g.trans _ _ _ i f;rw[g.irrefl]at this;cases this) (j.trans m.symm) (k.perm j.symm) n ?_;have:=aCe (le:=λx y=> !e y x) (λd b c i f=>by
  simp only[ayC]at i f⊢;exact g.ntrans _ _ _ f i) (λd b=>by
  cases h:e b d with
  |false=>rfl
  |true=>
   cases f:e d b with
   |false=>rfl
   |true=>have:=g.trans _ _ _ h f;rw[g.irrefl]at this;cases this) l
 exact this.imp λh=>by simpa using h
def YZ [Inhabited a]{d b:Array a}(h:PermIn 0 d.size d b):b.toList.Perm d.toList:=by
 have f:=h.2.2;have c:d.extract 0 d.size=d:=d5
 have e:b.extract 0 d.size=b:=by rw[<-h.1];simp
 rwa[c,e]at f
def MO [Inhabited a]{c:a->a->In}{d b:Array a}(m:b.size=d.size)(h:SortedIn c 0 d.size b):b.toList.Pairwise λx y=>c y x=false:=by
 rw[aAo];intro i j e k g;have f:i<b.size:=by simpa using e
 have l:j<b.size:=by simpa using k
 have:=h i j (axT _) g bv;rw[az3 b i f,az3 b j l]at this;simpa using this
structure apD(w W:World)(b:Nat)(cur:ea)(t:TypeId)(us:bH):Prop where
 os:W.os=w.os
 tape:W.tape=w.tape
 output:W.output=w.output
 size:w.heap.size<=W.heap.size
 drawn:w.drawn<=W.drawn
 other:∀k,k≠b->k<w.heap.size->W.heap[k]? =w.heap[k]?
 row:∃apE,W.heap[b]? =some (.cells apE t (0,0))/\apE.size=cur.size/\apE.toList.take us.length=us
def ag1 [Inhabited a](g:b.heap[c]? =some (.cells B d (0,0)))(enc:a->Id)(m:Nat)(e:Array a)(o:Array Obj)(p:e.size<=B.size):apD b (grow (putRow enc (Sort.ahead b m) c 0 e) o) c B d (e.toList.map enc):=by
 have h:c<b.heap.size:=(ax7.1 g).1;refine⟨rfl,rfl,rfl,d5,by show b.drawn<=b.drawn+m;omega,λk l n=>?_,putCells enc 0 e B,?_,by simp[putCells],?_⟩
 .simp only[grow,putRow,mapBlock,heap_ahead]
  rw[azO (by simpa using n),ay9,axm (Ne.symm l)]
 .simp only[grow,putRow,mapBlock,heap_ahead]
  rw[azO (by simpa using h),ay9,axn rfl,g];rfl
 .refine ayR λj=>?_
  rw[ax5,axx,azH];by_cases f:j<e.size
  .have i:j<B.size:=bv
   rw[axn f,ayK,axM,ayK,putCells,Array.getElem?_mapIdx,ax_ i,ax_ f];simp[f]
  .rw[axm f,axM,ayK,Array.getElem?_eq_none bv]
   rfl
def O2(h:Ext b n):∃q c,n=grow (b.drewN q) c:=by
 obtain⟨p,a⟩:=regrown_of_below h.LN;have d:b.drawn<=p.d:=by
  have:=h.drawn;rw[a]at this;exact this
 refine⟨p.d - b.drawn,p.os,a.trans ?_⟩;congr 1;unfold redrawn World.drewN;congr 1;omega
variable{P:Fd}{ρ:Ren}
def ag2{Rd:bI}(D:SR y Rd j v b)(K:y.iq c)(s:apD b n c B d m)(w:∀o a,¬bS y Rd j v b c o a)
 {vs:bH} {e:Int} (t:G3 P i [] u [] (.v (.int .i64 e))) (F:LR (VR (bS y Rd j v b) none) u vs):Calls P i vs.toArray n λx p=>x=.returned (.int .i64 e)/\∃q I,p=grow (n.drewN q) I:=by
 have l:∀g o a,bS y Rd j v b g o a->n.cell? ⟨g,o,none⟩=some a:=λg o a k=>by
  have C:g≠c:=λj=>w o a (j▸k);have A:=azp b _ k.1;have:=s.other g C A;rw[<-k.1];unfold World.cell?;rw[this]
 have r:amo n:=λg o a z=>l g o a (D.IA z);refine(t.2 (b0 n) (Rw n) e0 n vs (sr0 n r) (F.imp λ_ _ h=>(h.mono λg o a k=>ash (l g o a k)).cW)).mono λx p H=>?_;obtain⟨f,J,rfl,E,G⟩:=H;exact⟨by rw[G.bR],O2 (E.ext.ext λ_ h=>h)⟩
def W5{Rd:bI}{k p:Nat}{t l:Do (Do AV)}(s:SR y Rd j [(k,some (.arr d p t true))] b)(C:j.bX k=some c)(Z:b.heap[c]? =some (.cells B d (0,0)))
 (X:j.sv k=.slice (some ⟨c,0,none⟩) t.length i) (R:t.length<=i) (V:i<=maxLen) (S:B.size=i*p) (g:apD b n c B d m) (G:l.length=t.length) (Y:∀r∈l,r.length=p) (A:∀e∈l.flatten,e.one=true)
 (H:LR (VR (bS y Rd j [(k,some (.arr d p t true))] b) none) l.flatten m):SR y Rd j [(k,some (.arr d p l true))] n:=by
 have Q:=s.base k _ c bf C;have F:j.cS k=0:=(s.ob k _ bf).2.2.1 rfl;have v:∀a x,bc [(k,some (Ob.arr d p l true))] a=some x->a=k/\x=.arr d p l true:=λa x h=>by
  by_cases q:a=k
  .subst q;rw[bf]at h;exact⟨rfl,(axt h).symm⟩
  .rw[bd q]at h;cases h
 have N:∀f o u,bS y Rd j [(k,some (.arr d p t true))] b f o u->bS y Rd j [(k,some (.arr d p l true))] n f o u:=λf o u w=>by
  have W:f≠c:=λz=>by
   subst z;have:=w.2.2 k _ bf C;omega
  have E:=azp b _ w.1;refine⟨?_,w.2.1,λa ob q D=>?_⟩
  .rw[<-w.1]
   unfold World.cell?;rw[g.other f W E]
  .obtain⟨rfl,_⟩:=v a ob q
   exact w.2.2 a _ bf D
 have U:Bx y n:=s.ext.step g.os g.tape g.output g.size (λf O E=>g.other f (λz=>O (by rw[z];exact Q.1)) E) g.drawn;refine⟨U,s.kW,λa ob q=>?_,λa ob f q D=>?_,λa j' ob x f A M _ _=>by rw[(v _ _ A).1,(v _ _ M).1],s.yv⟩
 .obtain⟨rfl,rfl⟩:=v a ob q
  obtain⟨L,I,J,K⟩:=g.row;refine⟨Y,A,λ_=>F,.inr ⟨c,i,L,C,by rw[X,G],by rw[G];exact R,V,I,by rw[J,S],?_,by rw[F];exact axT _⟩⟩;have:l.flatten.length=m.length:=H.1.symm;rw[this,K];exact H.imp λ_ _ h=>h.mono N
 .obtain⟨rfl,_⟩:=v a ob q
  have:=s.base a _ f bf D;exact⟨this.1,azr this.2 g.size⟩
def rZ(h:Bears P e o)(c:o.body.isNone=false):Enters P e:=by
 obtain⟨d,a,b⟩:=h;exact⟨_,b,a,c⟩
def nu:∀(r:Sc) (x:r.c9),r.key=true->bJ r x=(db r x).map AV.v
 |.i k,x,_=>rfl
 |.b,x,_=>rfl
 |.sl r,x,h=>by simp[Sc.key]at h
 |.pr a c,x,h=>by
  simp only[Sc.key,axo]at h;show bJ a x.1++bJ c x.2=(db a x.1++db c x.2).map AV.v;rw[nu a x.1 h.1,nu c x.2 h.2,aya]
 |.u,x,_=>rfl
def amq(r:Sc)(x:r.c9)(h:r.key=true):(db r x).length=r.w:=by
 have:=e6 r x;rw[nu r x h,axx]at this;exact this
def adA(r:Sc)(x:r.c9)(h:r.key=true):∀v∈db r x,v.oneCell'=true:=λv a=>by
 have:=qA r x (.v v) (by rw[nu r x h];exact axC.2 ⟨v,a,rfl⟩);exact this
def flat_get{α:Type} [Inhabited α]{enc:α->bH}{k:Nat}(a:∀x,(enc x).length=k):∀(l:Do α) (j:Nat),j<l.length*k->(l.map enc).flatten[j]? =some ((enc l[j/k]!)[j % k]!)
 |[],j,h=>by simp at h
 |x::l,j,h=>by
  rw[axJ,ax1];have f:0<k:=by
   rcases az4 k with e|e
   .subst e;simp at h
   .exact e
  by_cases b:j<k
  .rw[aye (by rw[a];exact b),aBD b,azL b]
   rw[axz (by rw[a];exact b)];simp[a,b]
  .rw[ayG (by rw[a];omega),a,flat_get a l (j - k) (by rw[axN,ax2,azt]at h;omega)]
   have c:j/k=(j - k)/k+1:=by
    have:j=(j - k)+k:=bv
    conv=>lhs;rw[this]
    exact Nat.add_div_right _ f
   have d:j % k=(j - k) % k:=by
    have:j=(j - k)+k:=bv
    conv=>lhs;rw[this]
    exact Nat.add_mod_right _ _
   rw[c,d];simp
def Js [Inhabited a]{enc:a->bH}(e:∀x,(enc x).length=c)(d:Array a):(flatK enc c d).toList=(d.toList.map enc).flatten:=by
 refine ayR λj=>?_;have g:(d.toList.map enc).flatten.length=d.size*c:=by
  have:∀l:Do a,(l.map enc).flatten.length=l.length*c:=λl=>by
   induction l with
   |nil=>simp
   |cons x l f=>rw[axJ,ax1,axG,f,e,axN,ax2];omega
  rw[this,azH]
 by_cases b:j<d.size*c
 .rw[flat_get e d.toList j (by simpa using b),ayK,ax_ (by simpa using b)]
  have:=get_flatK enc c d j b;rw[az3 (flatK enc c d) j (by simpa using b)]at this;rw[this,show d.toList[j/c]! =d[j/c]! from Array.getElem!_toList]
 .rw[ax4 d7,ax4 bv]
def Jt(r:Sc)(h:r.key=true)(l:Do r.c9):(List.map (bJ r) l).flatten=(l.map (db r)).flatten.map AV.v:=by
 induction l with
 |nil=>rfl
 |cons x l a=>rw[axJ,axJ,ax1,ax1,aya,a,nu r x h]
def Y0{Rd:bI}{a:bH}(h:LR (VR Rd none) (m.map AV.v) a):a=m:=by
 refine ayR λj=>?_;have d:=h.1;rw[axx]at d;by_cases b:j<m.length
 .have c:=h.2 j (.v m[j]) a[j] (by simp[b]) (axz bv)
  rw[axz bv,axz b,c.bR]
 .rw[ax4 bv,ax4 bv]
abbrev G0:Nat:=4294967296
def aoa{e:AV}{Rd:bI}(d:LR (VR Rd (some j)) [.ow c,e] m):∃u,m=[j.sv c,u]/\VR Rd (some j) e u:=by
 match m,d.1 with
 |[a,b],_=>
  have f:=d.2 0 _ a rfl rfl;have g:=d.2 1 _ b rfl rfl;cases f with
  |ow=>exact⟨b,rfl,g⟩
def asi{r:Sc}(p:r.key=true)(L:SlLaysF0.n6 P ρ)(aE:∀w,(isAgg (ρ.t 24)).run P w=.ok true w)(zE:∀w,(Go.sizeOf (ρ.t 24)).run P w=.ok r.w w)(s:r.c9->r.c9->Int)(W:SWO (ltOf s)){g:Nat}
 (Y:∀x y,G3 P g [] [.ag (bJ r x),.ag (bJ r y)] [] (.v (.int .i64 (s x y)))) {U:AV} (h0:∀Rd E u,VR Rd E U u->u=.func (.func g) #[] #[]) {i ys:Do r.c9} (af:O1 (ltOf s) i=some ys):
 G3 P (ρ.f 6) [(G0,some (.arr d r.w (List.map (bJ r) i) true))] [.ow G0,U] [(G0,some (.arr d r.w (List.map (bJ r) ys) true))] (.tu []):=by
 obtain⟨hd,aj,rfl⟩:=MN af;refine⟨rZ L.f6 rfl,λB Rd e w vs D hv=>?_⟩;obtain⟨u,rfl,hu⟩:=aoa hv;obtain rfl:=h0 _ _ _ hu;obtain⟨ae,ak,a9,ac⟩:=D.ob G0 _ bf;rcases ac with⟨aa,K,a,F⟩|⟨b,a3,k,K,F,M,hm,t,Z,a0,ai⟩
 .have G:i=[]:=by simpa using aa
  subst G;rw[F];refine(aBE L a 0 _ w).mono λx w' G=>?_;obtain⟨rfl,rfl⟩:=G;exact⟨_,e,rfl,by simpa using D,.tu [] rfl λj c u h=>by simp at h⟩
 haveI:Inhabited r.c9:=⟨zeroV r⟩
 have R:=λx=>amq r x p;obtain⟨f,N⟩:∃f:Array r.c9,f.toList=i:=⟨i.toArray,rfl⟩;have v:f.size=i.length:=by rw[<-N,azH]
 rw[axx]at F M;have a5:k.toList.take (List.map (bJ r) i).flatten.length=(i.map (db r)).flatten:=by
  rw[Jt r p]at a0;have:=Y0 a0;rw[Jt r p];exact this
 have a6:(List.map (bJ r) i).flatten.length=i.length*r.w:=by
  rw[ey ae,axx]
 have X:=D.base G0 _ b bf K;have a7:∀o u,¬bS B Rd e [(G0,some (.arr d r.w (List.map (bJ r) i) true))] w b o u:=λo u ab=>by
  have h1:=ab.2.2 G0 _ bf K;have h2:=a9 rfl;omega
 have O:∀dk:Array r.c9,dk.size=f.size->(flatK (db r) r.w dk).size<=k.size:=λdk Q=>by
  rw[size_flatK,Q,v,Z];exact azs _ M
 have hH:HoldsK (db r) r.w w b 0 f:=λj A=>by
  have a8:j<i.length*r.w:=by rw[size_flatK,v]at A;exact A
  have ah:j<k.size:=azr A (O f rfl);rw[axY];refine⟨?_,azU w b j k d t⟩;rw[ays w b j k d (0,0) t,az3 _ j A];have e1:(flatK (db r) r.w f).toList=(i.map (db r)).flatten:=by rw[Js R,N]
  have V:k.toList[j]? =(flatK (db r) r.w f).toList[j]? :=by
   rw[e1,<-a5,ax5,axn (by rw[a6];exact a8)]
  rw[ayK,ayK,ax_ A]at V;exact V
 have a4:CmpLays P g #[] (db r) r.w s b 0 f.size w:=λm S dk Q x y=>by
  have J:=ag1 t id m (flatK (db r) r.w dk) S (O dk Q);have:=ag2 D X.1 J a7 (Y x y) (vs:=[.agg (db r x).toArray,.agg (db r y).toArray]) ?_
  .exact this
  .have one:∀z:r.c9,VR (bS B Rd e [(G0,some (.arr d r.w (List.map (bJ r) i) true))] w) none (.ag (bJ r z)) (.agg (db r z).toArray):=λz=>by
    have l:=LR.YH (Rd:=bS B Rd e [(G0,some (.arr d r.w (List.map (bJ r) i) true))] w) (E:=none) (db r z);rw[<-nu r z p]at l;exact .ag _ l.1 l.2
   exact LR.cons (one x) (LR.cons (one y) LR.nil)
 have eg:∀H w,(callFunc g H).run P w=.ok (.enter g H) w:=λH w=>gN (Y (zeroV r) (zeroV r)).1 H w;have a1:=AnyQ.slices_SortFunc L r.w aE zE (db r) R (λx=>adA r x p) s W g #[] b 0 a3 f w eg a4 hH X.2 bv;rw[v]at a1;rw[F];refine a1.mono λx w' G=>?_;obtain⟨rfl,I,n,S,C,a2,rfl⟩:=G;rw[<-v]at C a2;have ag:=Ak W (N▸YZ C) hd (MO C.1 a2);have J:=ag1 t id n (flatK (db r) r.w I) S (O I C.1);refine⟨_,e,rfl,?_,.tu [] rfl λj c u h=>by simp at h⟩;have ad:(flatK (db r) r.w I).toList.map id=(I.toList.map (db r)).flatten:=by rw[azv,Js R]
 rw[ad]at J;rw[<-ag];refine W5 D K t (by rw[axx];exact F) (by rw[axx];exact M) hm Z J ?_ (λq hq=>?_) (eU r _) ?_
 .rw[axx,axx,azH,C.1,v]
 .obtain⟨z,_,rfl⟩:=axC.1 hq
  exact e6 r z
 .rw[Jt r p]
  exact LR.YH _
def qP(b:a->AV)(l:Do a):(l.map λx=>[b x]).flatten=l.map b:=by
 induction l with
 |nil=>rfl
 |cons x l c=>rw[axJ,ax1,c];rfl
abbrev El(b:a->AV)(Good:a->Prop)(R:bI):Type:={p:a×Id//Good p.1/\VR R none (b p.1) p.2}
def els{β:Type}{a:β->AV}{Good:β->Prop}{R:bI}:∀{l:Do β} {us:bH},(∀x∈l,Good x)->LR (VR R none) (l.map a) us->∃d:Do (El a Good R),d.map (λp=>p.1.1)=l/\d.map (λp=>p.1.2)=us
 |[],us,_,h=>by
  have:us=[]:=aCf.1 h.1;exact⟨[],rfl,this.symm⟩
 |x::l,[],_,h=>by have:=h.1;simp at this
 |x::l,u::us,b,h=>by
  have g:=h.2 0 (a x) u rfl rfl;obtain⟨d,e,f⟩:=els (l:=l) (us:=us) (λy m=>b y (ayr _ m)) ⟨by have:=h.1;simpa using this,λj c v i k=>h.2 (j+1) c v (by simpa using i) (by simpa using k)⟩;exact⟨⟨(x,u),b x aAg,g⟩::d,by rw[axJ,e],by rw[axJ,f]⟩
def ag3{β:Type}{a:β->AV}{Good:β->Prop}{R:bI}:∀d:Do (El a Good R),LR (VR R none) (d.map λp=>a p.1.1) (d.map λp=>p.1.2)
 |[]=>LR.nil
 |x::d=>LR.cons x.2.2 (ag3 d)
def avC{av:a->AV}(O:∀x,(av x).one=true)(an:∀x k,av x≠.ow k)(Good:a->Prop)(L:SlLaysF.n6 P ρ)(Y:SlLaysF0.n6 P ρ)(s:a->a->Int)(J:SWO (ltOf s)){g:Nat}
 (hc:∀x y,Good x->Good y->G3 P g [] [av x,av y] [] (.v (.int .i64 (s x y)))) {Z:AV} (h0:∀Rd E u,VR Rd E Z u->u=.func (.func g) #[] #[]) {l ys:Do a} (hG:∀x∈l,Good x) (aj:O1 (ltOf s) l=some ys):
 G3 P (ρ.f 6) [(G0,some (.arr d 1 (l.map λx=>[av x]) true))] [.ow G0,Z] [(G0,some (.arr d 1 (ys.map λx=>[av x]) true))] (.tu []):=by
 obtain⟨hd,am,rfl⟩:=MN aj;refine⟨rZ L.f6 rfl,λB Rd e w vs v hv=>?_⟩;obtain⟨u,rfl,hu⟩:=aoa hv;obtain rfl:=h0 _ _ _ hu;obtain⟨ap,ao,ae,ai⟩:=v.ob G0 _ bf;rcases ai with⟨ag,K,i,A⟩|⟨b,a8,C,K,A,S,hm,G,U,a4,al⟩
 .have r:l=[]:=by simpa using ag
  subst r;rw[A];refine(aBE Y i 0 _ w).mono λx w' r=>?_;obtain⟨rfl,rfl⟩:=r;exact⟨_,e,rfl,by simpa using v,.tu [] rfl λj c u h=>by simp at h⟩
 have ac:∀o u,¬bS B Rd e [(G0,some (.arr d 1 (l.map λx=>[av x]) true))] w b o u:=λo u ah=>by
  have O:=ah.2.2 G0 _ bf K;have h2:=ae rfl;omega
 obtain⟨R,Q⟩:∃R,bS B Rd e [(G0,some (.arr d 1 (l.map λx=>[av x]) true))] w=R:=⟨_,rfl⟩;rw[qP,Q]at a4;obtain⟨f,M,a3⟩:=els hG a4;have a2:f.length=l.length:=by rw[<-M,axx]
 rcases f with _|⟨t,d0⟩
 .have r:l=[]:=by rw[<-M];rfl
  subst r;rw[A];refine(aBE Y _ _ _ w).mono λx w' r=>?_;obtain⟨rfl,rfl⟩:=r;exact⟨_,e,rfl,by simpa using v,.tu [] rfl λj c u h=>by simp at h⟩
 haveI:Inhabited (El av Good R):=⟨t⟩
 obtain⟨D,a9⟩:∃D:Array (El av Good R),D.toList=t::d0:=⟨(t::d0).toArray,rfl⟩;rw[<-a9]at M a3 a2;have F:D.size=l.length:=by rw[<-a2,azH]
 rw[axx]at A S;rw[ayQ]at U;have a0:=v.base G0 _ b bf K;have a7:∀dk:Array (El av Good R),dk.size=D.size->dk.size<=C.size:=λdk W=>by rw[W,F,U];exact S
 have hH:Holds (λp:El av Good R=>p.1.2) w b 0 D:=λj V=>by
  have ad:j<l.length:=by rw[<-F];exact V
  have ak:j<C.size:=bv
  rw[axY];refine⟨?_,azU w b j C d G⟩;rw[ays w b j C d (0,0) G,az3 D j V];have e2:C.toList[j]? =(D.toList.map λp=>p.1.2)[j]? :=by
   rw[a3,ax5,axn (by rw[axx];exact ad)]
  rw[ayK,axM,ayK,ax_ V]at e2;exact e2
 have ab:CmpLays1 P g #[] (λp:El av Good R=>p.1.2) (λp q=>s p.1.1 q.1.1) b 0 D.size w:=λm X dk W x y=>ag2 v a0.1 (ag1 G _ m dk X (a7 dk W)) ac (hc x.1.1 y.1.1 x.2.1 y.2.1) (by rw[Q];exact LR.cons x.2.2 (LR.cons y.2.2 LR.nil));have eg:∀I w,(callFunc g I).run P w=.ok (.enter g I) w:=λI w=>gN (hc t.1.1 t.1.1 t.2.1 t.2.1).1 I w;have aa:SWO (ltOf λ(p q:El av Good R)=>s p.1.1 q.1.1):=⟨λx=>J.irrefl _,λx y z=>J.trans _ _ _,λx y z=>J.ntrans _ _ _⟩;have a5:=Any.slices_SortFunc L (λp:El av Good R=>p.1.2) (λp=>p.2.2.ks (O _) λ_ k h=>nomatch h) (λp q=>s p.1.1 q.1.1) aa g #[] b 0 a8 D w eg ab hH a0.2 bv;rw[F]at a5;rw[A];refine a5.mono λx w' r=>?_;obtain⟨rfl,N,n,X,H,a6,rfl⟩:=r;rw[<-F]at H a6;have af:(N.toList.map λp=>p.1.1)=l.mergeSort λx y=> !(ltOf s) y x:=by
  refine Ak J ?_ hd ?_
  .rw[<-M];exact(YZ H).map _
  .rw[az5];exact MO H.1 a6
 have hW:=ag1 G (λp:El av Good R=>p.1.2) n N X (a7 N H.1);refine⟨_,e,rfl,?_,.tu [] rfl λj c u h=>by simp at h⟩;rw[<-af];refine W5 v K G (by rw[axx];exact A) (by rw[axx];exact S) hm (by rw[ayQ];exact U) hW ?_ (λq hq=>?_) (λc a1=>?_) ?_
 .rw[axx,axx,axx,azH,H.1,F]
 .obtain⟨z,_,rfl⟩:=axC.1 hq
  rfl
 .rw[qP]at a1
  obtain⟨z,_,rfl⟩:=axC.1 a1;exact O z
 .rw[qP,ayz,Q]
  exact ag3 _
def apF{ρ:Ren}(L:SlLaysM.n5 P ρ){f:aX}(a0:f.length<1099511627776):
 G3 P (ρ.f 5) [(G0,some (.arr d 1 (f.map λx=>[AV.v (.int .i64 x)]) true))] [.ow G0] [(G0,some (.arr d 1 ((f.mergeSort λx y=>decide (x<=y)).map λx=>[AV.v (.int .i64 x)]) true))] (.tu []):=by
 refine⟨rZ L.f5 rfl,λB Rd e w G m F=>?_⟩;obtain rfl:G=[e.sv G0]:=by
  match G,F.1 with
  |[a],_=>
   have I:=F.2 0 _ a rfl rfl;cases I with
   |ow=>rfl
 obtain⟨a2,a1,Y,U⟩:=m.ob G0 _ bf;rcases U with⟨R,p,a,i⟩|⟨b,H,g,p,i,r,O,l,s,t,Z⟩
 .have k:f=[]:=by simpa using R
  subst k;rw[i];refine(AnyM.slices_Sort_int_none L a 0 w).mono λx W k=>?_;obtain⟨rfl,rfl⟩:=k;exact⟨_,e,rfl,by simpa using m,.tu [] rfl λj c u h=>by simp at h⟩
 rw[qP]at t;have N:g.toList.take f.length=f.map (Value.int .i64):=by
  have o:(f.map λx=>AV.v (.int .i64 x))=(f.map (Value.int .i64)).map AV.v:=by rw[ayz];rfl
  rw[o]at t;have:=Y0 t;simpa using this
 rw[axx]at i r;rw[ayQ]at s;have M:=m.base G0 _ b bf p;have J:Holds (Value.int .i64) w b 0 f.toArray:=λj C=>by
  have D:j<f.length:=by simpa using C
  have X:j<g.size:=bv
  rw[axY];refine⟨?_,azU w b j g d l⟩;rw[ays w b j g d (0,0) l,az3 _ j C];have v:g.toList[j]? =(f.map (Value.int .i64))[j]? :=by
   rw[<-N,ax5,axn D]
  rw[ayK,axM,axz D]at v;exact v
 have Q:=AnyM.slices_Sort_int L b 0 H f w J M.2 bv;rw[i];refine Q.mono λx W k=>?_;obtain⟨rfl,n,V,rfl⟩:=k;have E:(f.mergeSort λx y=>decide (x<=y)).length=f.length:=aCg _;have K:=ag1 l (Value.int .i64) n (f.mergeSort λx y=>decide (x<=y)).toArray V (by rw[azc,E,s];exact r);refine⟨_,e,rfl,?_,.tu [] rfl λj c u h=>by simp at h⟩;refine W5 m p l (by rw[axx];exact i) (by rw[axx];exact r) O (by rw[ayQ];exact s) K ?_ (λq S=>?_) (λc A=>?_) ?_
 .rw[axx,axx,E]
 .obtain⟨z,_,rfl⟩:=axC.1 S
  rfl
 .rw[qP]at A
  obtain⟨z,_,rfl⟩:=axC.1 A;rfl
 .rw[qP]
  have o:((f.mergeSort λx y=>decide (x<=y)).map λx=>AV.v (.int .i64 x))=((f.mergeSort λx y=>decide (x<=y)).map (Value.int .i64)).map AV.v:=by rw[ayz];rfl
  rw[o];exact LR.YH _
end
end
section
open Go Go.RowKit Go.Lib Go.Shelf
section
def ag4{Rd:bI}(i:SR y Rd j v b)(p:Bx y n)(f:ca)(s:Id)(ob:Ob)(o:∀a,f=some a->y.iq a/\a<n.heap.size)
 (q:∀l,OR l (j.cK 0 f s 0) n 0 ob):SR y Rd (j.cK 0 f s 0) [(0,some ob)] n:=by
 have d:∀k c,bc [(0,some ob)] k=some c->k=0/\c=ob:=λk c h=>by
  by_cases e:k=0
  .subst e;rw[bf]at h;exact⟨rfl,(axt h).symm⟩
  .rw[bd e]at h;cases h
 refine⟨p,i.kW,λk c h=>?_,λk c a h g=>?_,λk r t u a h m _ _=>?_,λk e=>?_⟩
 .obtain⟨rfl,rfl⟩:=d k c h;exact q _
 .obtain⟨rfl,rfl⟩:=d k c h
  exact o a (by rw[Env.bY]at g;exact g)
 .rw[(d _ _ h).1,(d _ _ m).1]
 .rw[Env.bD bv,Env.de bv];exact i.yv k e
def ag5(w:GE)(o:Obj):(w.alloc o).heap[w.heap.size]? =some o:=by
 unfold World.alloc;exact Array.getElem?_push_size
variable{P:Fd}{ρ:Ren}
def Sm(L:Lays8.n4 P ρ)(d:TypeInfo)(z:Id)(G:P.info? (ρ.t 25)=some d)(Q:d.zero=some z)(K:0<d.size)(O:z.cells.size=d.size)(E:d.bytes<=64)(n:Nat)(U:n<=1099511627776):
 G3 P (ρ.f 4) [] [.sl true 0 [],.v (.int .i64 n)] [(0,some (.arr (ρ.t 25) d.size [] true))] (.ow 0):=by
 refine⟨by obtain⟨X,i,q⟩:=L.f4;exact⟨_,q,i,rfl⟩,λB Rd e w t f m=>?_⟩;obtain⟨o,p,rfl⟩:∃o p,t=[o,p]:=by
  match t,m.1 with
  |[a,b],_=>exact⟨a,b,rfl⟩
 obtain⟨a,S,Y,rfl,_,_,_,_,_,N,_⟩:=(m.2 0 _ o rfl rfl).nC;obtain rfl:=(m.2 1 _ p rfl rfl).bR;obtain rfl:=N rfl;by_cases C:n=0
 .subst C
  refine(Any8.slices_Grow_room L a 0 0 0 w bv bv bv bv).mono λx y g=>?_;obtain⟨rfl,rfl⟩:=g;refine⟨_,e.cK 0 none (.slice a 0 0) 0,rfl,ag4 f f.ext _ _ _ (λb h=>by cases h) (λA=>⟨(λr l=>by cases l),(λc k=>by cases k),(λ_=>Env.cc),.inl ⟨rfl,Env.bY,a,Env.dN⟩⟩),?_⟩;have:= @VR.ow (bS B Rd (e.cK 0 none (.slice a 0 0) 0) [(0,some (.arr (ρ.t 25) d.size [] true))] y) (e.cK 0 none (.slice a 0 0) 0) 0;rwa[Env.dN]at this
 .have D:(0+n)*d.bytes<=140737488355328:=by
   have:(0+n)*d.bytes<=1099511627776*64:=ay1 bv E;omega
  refine(Any8.slices_Grow_grow L d z G Q K a 0 0 n [] w bv bv D bv d5 (λ_=>rfl) (λ_ _ j v H=>by simp at H)).mono λx y g=>?_;obtain⟨rfl,rfl⟩:=g;have V:=ayN w (0+n) 0 (ρ.t 25);have J:B.iq w.heap.size:=f.ext.iq (axp _);have g:=f.ext.drew.alloc (.cells ([].toArray++Builtin.zeroCells z.cells (0+n - 0)++Builtin.zeroCells z.cells (grownCap w (0+n) 0 (ρ.t 25) - (0+n))) (ρ.t 25));have s:=ag5 w.drew (.cells ([].toArray++Builtin.zeroCells z.cells (0+n - 0)++Builtin.zeroCells z.cells (grownCap w (0+n) 0 (ρ.t 25) - (0+n))) (ρ.t 25));have M:(Array.mk ([]:bH)++Builtin.zeroCells z.cells (0+n - 0)++Builtin.zeroCells z.cells (grownCap w (0+n) 0 (ρ.t 25) - (0+n))).size=grownCap w (0+n) 0 (ρ.t 25)*d.size:=by
   simp only[azE,ay4,azc,ayq,O];rw[axY,<-ax2];congr 1;omega
  have F:=aBb w (0+n) 0 (ρ.t 25) (by unfold maxLen;omega);generalize grownCap w (0+n) 0 (ρ.t 25)=c at*;generalize w.drew.alloc _=W at*;have I:w.heap.size<W.heap.size:=(ax7.1 s).1;refine⟨_,e.cK 0 (some w.heap.size) (.slice (some ⟨w.heap.size,0,none⟩) 0 c) 0,rfl,ag4 f g _ _ _ (λR h=>by cases h;exact⟨J,I⟩) (λA=>⟨(λr l=>by cases l),(λc k=>by cases k),(λ_=>Env.cc),.inr ⟨_,_,_,Env.bY,by rw[Env.dN];rfl,axT _,F,s,M,⟨rfl,λj c u i q=>by simp at i⟩,by rw[Env.cc];exact axT _⟩⟩),?_⟩;have:= @VR.ow (bS B Rd (e.cK 0 (some w.heap.size) (.slice (some ⟨w.heap.size,0,none⟩) 0 c) 0) [(0,some (.arr (ρ.t 25) d.size [] true))] W) (e.cK 0 (some w.heap.size) (.slice (some ⟨w.heap.size,0,none⟩) 0 c) 0) 0;rwa[Env.dN]at this
def Sq(x:Int)(y:Unit)(h:cond (decide (0<=x/\x<=1099511627776)) (some ()) none=some y):∃n:Nat,x=(n:Int)/\n<=1099511627776:=by
 by_cases a:0<=x/\x<=1099511627776
 .exact⟨x.toNat,bv,bv⟩
 .rw[axU a]at h;cases h
end
end
variable{t:Fd}
section
open Go Go.RowKit Go.Lib Go.Shelf Go.Sort
def apG:Ren:=⟨λ|6=>84|14=>153|20=>201|21=>202|22=>203|23=>204|24=>205|25=>206|26=>207|27=>208|46=>257|49=>260|50=>261|57=>290|15=>154|28=>209|29=>210|47=>258|48=>259|x=>x,λ|0=>0|3=>3|4=>4|5=>5|9=>9|22=>22|24=>131|25=>179|39=>164|45=>294|46=>295|50=>140|53=>69|55=>301|66=>338|70=>342|76=>365|77=>166|x=>x,λx=>x⟩
def amr:Ren:=⟨λ|6=>151|14=>199|20=>249|21=>250|22=>251|23=>252|24=>253|25=>254|26=>255|27=>256|46=>287|49=>288|50=>289|57=>309|15=>154|28=>209|29=>210|47=>258|48=>259|x=>x,λ|0=>0|3=>3|4=>4|5=>5|9=>9|22=>27|24=>51|25=>178|39=>164|45=>294|46=>295|50=>140|53=>69|55=>301|66=>338|70=>342|76=>365|77=>166|x=>x,λx=>x⟩
def apH:Ren:=⟨λ|6=>278|14=>302|20=>324|21=>325|22=>326|23=>327|24=>328|25=>329|26=>330|27=>331|46=>344|49=>345|50=>346|57=>350|15=>154|28=>209|29=>210|47=>258|48=>259|x=>x,λ|0=>0|3=>3|4=>4|5=>5|9=>9|22=>71|24=>38|25=>356|39=>164|45=>294|46=>295|50=>140|53=>69|55=>301|66=>338|70=>342|76=>365|77=>166|x=>x,λx=>x⟩
def apI:Ren:=⟨λ|5=>294|7=>310|10=>332|11=>333|12=>334|13=>335|14=>336|15=>337|17=>339|18=>340|30=>347|33=>348|34=>349|40=>351|8=>154|16=>338|19=>209|20=>210|31=>258|32=>259|35=>211|x=>x,λ|0=>0|3=>3|4=>4|5=>5|9=>9|22=>38|23=>38|25=>3|32=>164|35=>294|36=>295|41=>140|44=>69|46=>301|53=>338|57=>342|63=>365|64=>166|x=>x,λx=>x⟩
def asj:Ren:=⟨λ|4=>187|x=>x,λ|0=>0|3=>3|4=>4|9=>9|20=>20|22=>38|25=>3|x=>x,λx=>x⟩
def asl:Ren:=⟨λ|4=>213|x=>x,λ|0=>0|3=>3|4=>4|9=>9|20=>20|22=>22|25=>131|x=>x,λx=>x⟩
def bears(a:(((t.funcs[e]?).getD default).name== "runtime.NumGoroutine")=false)(b:t.funcs[e]? =some {o with name:=((t.funcs[e]?).getD default).name}):Bears t e o:=⟨_,a,b⟩
def apJ:SlLaysF0.n6 Tryz.prog apG:=by
 constructor<;>first|exact mixed|exact bears ci ci|exact ci|exactλw=>by kernel_rfl
def ams:SlLaysF0.n6 Tryz.prog amr:=by
 constructor<;>first|exact mixed|exact bears ci ci|exact ci|exactλw=>by kernel_rfl
def ag6:SlLaysF.n6 Tryz.prog apH:=by
 constructor<;>first|exact mixed|exact bears ci ci|exact ci|exactλw=>by kernel_rfl
def apK:SlLaysM.n5 Tryz.prog apI:=by
 constructor<;>first|exact mixed|exact bears ci ci|exact ci|exactλw=>by kernel_rfl
def asm:Lays8.n4 Tryz.prog asj:=by
 constructor<;>first|exact mixed|exact bears ci ci|exact ci|exactλw=>by kernel_rfl
def asn:Lays8.n4 Tryz.prog asl:=by
 constructor<;>first|exact mixed|exact bears ci ci|exact ci|exactλw=>by kernel_rfl
def W6(c:kq)(x:lW c.cs)(y:c.α)(e:EV)(H:eW){Q:Prop}(h:c.ok t)(g:c.M x=some y)(a:c.el y (EV×eW) (λe H=>some (e,H))=some (e,H))(f:G3 t c.f (bE (c.H0 x)) (cg (c.as x)) (bE H) (enc e)=Q):Q:=by
 obtain⟨j,i,b,_,_,d⟩:=h.2 x y g;rw[b]at a;cases a;exact f▸d
def EI(a b:Int):Int:=if a<b then -1 else if b<a then 1 else 0
def qQ(x y:Int×Int):Int:=if EI x.1 y.1=0 then EI x.2 y.2 else EI x.1 y.1
abbrev bq:Type:=Int×Int×Int×In
def u5(x y:bq):Int:=qQ (x.1,x.2.1) (y.1,y.2.1)
def O3(x y:aX):Int:=EI (x.headD 0) (y.headD 0)
def Br{a b:Int}:EI a b<0↔a<b:=by
 unfold EI
 repeat' split
 all_goals omega
def qR{a b:Int}:EI a b=0↔a=b:=by
 unfold EI
 repeat' split
 all_goals omega
def ny{x y:Int×Int}:qQ x y<0↔x.1<y.1\/x.1=y.1/\x.2<y.2:=by
 unfold qQ;split
 next h=>have:=qR.1 h;rw[Br];omega
 next h=>have:=mt qR.2 h;rw[Br];omega
def W7{d:a->a->Int}{r:a->a->Prop}(h:∀x y,d x y<0↔r x y)(e:∀x,¬r x x)(i:∀x y z,r x y->r y z->r x z)(f:∀x y z,¬r x y->¬r y z->¬r x z):SWO (ltOf d):=
 ⟨λx=>axU (λg=>e x ((h _ _).1 g)),λx y z c b=>axQ ((h _ _).2 (i x y z ((h _ _).1 (ayh c)) ((h _ _).1 (ayh b)))),λx y z c b=>axU λg=>f x y z (λr=>ay_ c ((h _ _).2 r)) (λr=>ay_ b ((h _ _).2 r)) ((h _ _).1 g)⟩
def aob:SWO (ltOf qQ):=W7 (λ_ _=>ny) (λx=>by omega) (λx y z=>by omega) (λx y z=>by omega)
def aso:SWO (ltOf u5):=W7 (λ_ _=>ny) (λx=>by omega) (λx y z=>by omega) (λx y z=>by omega)
def asp:SWO (ltOf O3):=W7 (λ_ _=>Br) (λx=>by omega) (λx y z=>by omega) (λx y z=>by omega)
def r4(N:Nat)(a b:Int):cO (N+3) (a,b)=some (EI a b):=by
 rw[vC];simp only[Ai,ayD,axA,aW,cond];unfold EI;by_cases c:a<b
 .simp[c]
 .by_cases d:b<a
  .have e:a>b:=d;simp[c,d]
  .simp[c,d]
def W8(N:Nat)(a b:Int):gR (N+5) [a,b]=some (if a=0 then b else a):=by
 have d:wZ ((0:Int)+1)=1:=d6
 have e:wZ ((1:Int)+1)=2:=d6
 rw[G8,show N+4=(N+3)+1 from rfl,lj,d,show N+3=(N+2)+1 from rfl,lj,e,show N+2=(N+1)+1 from rfl,lj];by_cases h:a=0
 .subst h
  by_cases c:b=0
  .subst c;simp[aW,aZ]
  .simp[aW,aZ,c]
 .simp[aW,aZ,h]
def Sr(N:Nat)(x y:Int×Int):iD (N+6) (x.1,x.2,y.1,y.2)=some (qQ x y):=by
 rw[Bn,show N+5=(N+2)+3 from rfl,r4,r4,show N+2+3=N+5 from rfl];simp only[aW,W8];rfl
def amt(N:Nat)(x y:bq):mV (N+7) (x.1,x.2.1,x.2.2.1,x.2.2.2,y.1,y.2.1,y.2.2.1,y.2.2.2)=some (u5 x y):=by
 rw[G9];have:=Sr N (x.1,x.2.1) (y.1,y.2.1);simp only[this,aW];rfl
def amu(N:Nat)(x y:aX)(d:x≠[])(e:y≠[]):lA (N+4) (x,y)=some (O3 x y):=by
 obtain⟨a,x,rfl⟩:=aAS d;obtain⟨b,y,rfl⟩:=aAS e;rw[show N+4=(N+3)+1 from rfl,EG];have c:∀(a:Int) x,aZ (a::x) 0=some a:=λ_ _=>rfl;rw[c,c];simp only[aW];rw[r4];rfl
def ag7(x y:Int×Int):G3 Tryz.prog 86 [] [.ag (bJ (.pr (.i .i64) (.i .i64)) x),.ag (bJ (.pr (.i .i64) (.i .i64)) y)] [] (.v (.int .i64 (qQ x y))):=by
 refine W6 (nP 6) (x.1,x.2,y.1,y.2) (qQ x y) (.sc (.i .i64) (qQ x y)) [] (oQ 6) ?_ ci ci;exact Eq.mp ci (Sr 0 x y)
def amv(x y:bq):G3 Tryz.prog 85 [] [.ag (bJ (.pr (.i .i64) (.pr (.i .i64) (.pr (.i .i64) .b))) x),.ag (bJ (.pr (.i .i64) (.pr (.i .i64) (.pr (.i .i64) .b))) y)] [] (.v (.int .i64 (u5 x y))):=by
 refine W6 (Bp 7) (x.1,x.2.1,x.2.2.1,x.2.2.2,y.1,y.2.1,y.2.2.1,y.2.2.2) (u5 x y) (.sc (.i .i64) (u5 x y)) [] (G_ 7) ?_ ci ci;exact Eq.mp ci (amt 0 x y)
def amw(x y:aX)(a:x≠[])(b:y≠[]):G3 Tryz.prog 279 [] [.sl false 1 (x.map (bJ (.i .i64))),.sl false 1 (y.map (bJ (.i .i64)))] [] (.v (.int .i64 (O3 x y))):=by
 refine W6 (yE 4) (x,y) (O3 x y) (.sc (.i .i64) (O3 x y)) [] (EH 4) ?_ ci ci;exact Eq.mp ci (amu 0 x y a b)
def cy(N:Nat):bj->At bj:=O1 (ltOf qQ)
noncomputable def dH(N:Nat):kq:=⟨151,[.k (.ow 4294967296),.k (.v (.func (.func 86) #[] #[]))],[(4294967296,.arr 51 (.pr (.i .i64) (.i .i64)) true)],[.sl (.pr (.i .i64) (.i .i64))],bj,cy N,λy _ k=>k (.tu []) [(4294967296,some (.arr 51 (.pr (.i .i64) (.i .i64)) y true))],true,true⟩
def eY(N:Nat):(dH N).ok Tryz.prog:=
 ⟨λh=>(by cases h),λx y a=>⟨.tu [],_,λR k=>rfl,λh=>(by cases h),λ_=>⟨rfl,rfl⟩,
  asi (r:=.pr (.i .i64) (.i .i64)) rfl ams (λw=>by kernel_rfl) (λw=>by kernel_rfl) qQ aob (g:=86) ag7 (λ_ _ _ h=>h.bR) a⟩⟩
def cP(N:Nat):Do bq->At (Do bq):=O1 (ltOf u5)
noncomputable def eb(N:Nat):kq:=⟨84,[.k (.ow 4294967296),.k (.v (.func (.func 85) #[] #[]))],[(4294967296,.arr 131 (.pr (.i .i64) (.pr (.i .i64) (.pr (.i .i64) .b))) true)],[.sl (.pr (.i .i64) (.pr (.i .i64) (.pr (.i .i64) .b)))],Do bq,cP N,λy _ k=>k (.tu []) [(4294967296,some (.arr 131 (.pr (.i .i64) (.pr (.i .i64) (.pr (.i .i64) .b))) y true))],true,true⟩
def fq(N:Nat):(eb N).ok Tryz.prog:=
 ⟨λh=>(by cases h),λx y a=>⟨.tu [],_,λR k=>rfl,λh=>(by cases h),λ_=>⟨rfl,rfl⟩,
  asi (r:=.pr (.i .i64) (.pr (.i .i64) (.pr (.i .i64) .b))) rfl apJ (λw=>by kernel_rfl) (λw=>by kernel_rfl) u5 aso (g:=85) amv (λ_ _ _ h=>h.bR) a⟩⟩
open Classical in
def bC(N:Nat)(l:bO):At bO:=if∀x∈l,x≠[]then O1 (ltOf O3) l else none
noncomputable def eK(N:Nat):kq:=⟨278,[.k (.ow 4294967296),.k (.v (.func (.func 279) #[] #[]))],[(4294967296,.arr 38 (.sl (.i .i64)) true)],[.sl (.sl (.i .i64))],bO,bC N,λy _ k=>k (.tu []) [(4294967296,some (.arr 38 (.sl (.i .i64)) y true))],true,false⟩
def gn(N:Nat):(eK N).ok Tryz.prog:=by
 refine⟨λh=>(by cases h),λx y a=>⟨.tu [],_,λR k=>rfl,λh=>(by cases h),λh=>(by cases h),?_⟩⟩;have a:bC N x=some y:=a;unfold bC at a;split at a
 next b=>exact avC (av:=λl:aX=>AV.sl false 1 (l.map (bJ (.i .i64)))) (λ_=>rfl) (λ_ _ h=>nomatch h) (λx=>x≠[]) ag6 {ag6 with} O3 asp (g:=279) amw (λ_ _ _ h=>h.bR) b a
 .cases a
def ei(N:Nat)(l:aX):At aX:=cond (decide (l.length<1099511627776)) (some (l.mergeSort λx y=>decide (x<=y))) none
noncomputable def jo(N:Nat):kq:=⟨294,[.k (.ow 4294967296)],[(4294967296,.arr 3 (.i .i64) true)],[.sl (.i .i64)],aX,ei N,λy _ k=>k (.tu []) [(4294967296,some (.arr 3 (.i .i64) y true))],true,true⟩
def mW(N:Nat):(jo N).ok Tryz.prog:=by
 refine⟨λh=>(by cases h),λx y a=>⟨.tu [],_,λR k=>rfl,λh=>(by cases h),λ_=>⟨rfl,rfl⟩,?_⟩⟩;have a:ei N x=some y:=a;unfold ei at a;by_cases b:List.length (α:=Int) x<1099511627776
 .rw[axQ b]at a
  cases a;exact apF apK b
 .rw[axU b]at a;cases a
def e9(N:Nat)(n:Int):At Unit:=cond (decide (0<=n/\n<=1099511627776)) (some ()) none
noncomputable def kD(N:Nat):kq:=⟨187,[.k .nil,.h (.i .i64)],[],[.i .i64],Unit,e9 N,λ_ _ k=>k (.ow 0) [(0,some (.arr 3 (.i .i64) [] true))],true,true⟩
def oG(N:Nat):(kD N).ok Tryz.prog:=by
 refine⟨λ_=>rfl,λx y c=>⟨.ow 0,_,λR k=>rfl,(λh=>by cases h),λ_=>⟨rfl,rfl⟩,?_⟩⟩;obtain⟨n,b,a⟩:=Sq x y c;subst b;exact Sm asm ((Tryz.prog.info? 3).getD default) (.int .i64 0) ci ci d6 ci d6 n a
def eS(N:Nat)(n:Int):At Unit:=cond (decide (0<=n/\n<=1099511627776)) (some ()) none
noncomputable def gv(N:Nat):kq:=⟨213,[.k .nil,.h (.i .i64)],[],[.i .i64],Unit,eS N,λ_ _ k=>k (.ow 0) [(0,some (.arr 131 (.pr (.i .i64) (.pr (.i .i64) (.pr (.i .i64) .b))) [] true))],true,true⟩
def ke(N:Nat):(gv N).ok Tryz.prog:=by
 refine⟨λ_=>rfl,λx y c=>⟨.ow 0,_,λR k=>rfl,(λh=>by cases h),λ_=>⟨rfl,rfl⟩,?_⟩⟩;obtain⟨n,b,a⟩:=Sq x y c;subst b;exact Sm asn ((Tryz.prog.info? 131).getD default) (.agg #[.int .i64 0,.int .i64 0,.int .i64 0,.bool false]) ci ci d6 ci d6 n a
end
section
section
noncomputable abbrev PG:Fd:=Tryz.prog
structure CO where
 c:Nat->kq
 ok:∀N,(c N).ok PG
def Y1(l:Do CO)(N:Nat):Do kq:=l.map λc=>c.c N
def EJ(l:Do CO)(N:Nat):Place PG T (Y1 l N):=
 ⟨Bl,λc a=>by
  obtain⟨d,_,rfl⟩:=axC.1 a;exact d.ok N,mixed,Jr⟩
structure FD where
 f:FuncId
 fn:Func
 pl:Pl
 ps:List PV
 hs:List (Nat×PO)
 cs:List Sc
 rs:PS
 own:Bool
 pu:Bool
 nm:a_
mutual
def hoP:PV->Do Sc
 |.h s=>[s]
 |.t r=>[.sl r]
 |.k _=>[]
 |.ag l=>hoL l
 |.tu l=>hoL l
 |.fp l=>hoL l
 |.cl _ b a=>hoL b++hoL a
 |.pe _ _ _=>[.i .i64]
def hoL:Do PV->Do Sc
 |[]=>[]
 |p::l=>hoP p++hoL l
end
def hoO:PO->Do Sc
 |.box _ l=>hoL l
 |.arr _ r _=>[.sl r]
 |.mp _ k v=>[.sl (.pr k v)]
 |.nr _ r _=>[.sl (.sl r)]
 |.qr _ _ _=>[.sl (.i .i64)]
def hoH:Do (Nat×PO)->Do Sc
 |[]=>[]
 |q::h=>hoO q.2++hoH h
def hoT:Do (Nat×PV)->Do Sc
 |[]=>[]
 |q::t=>hoP q.2++hoT t
abbrev bg(t:Do (Nat×PV))(h:Do (Nat×PO)):PS:=⟨t,h,hoT t++hoH h⟩
noncomputable abbrev cw(f:FuncId)(c:Func)(e:Pl)(b:Do PV)(a:Do (Nat×PO))(h:PS)(own g:In)(d:a_):FD:=⟨f,c,e,b,a,hoL b++hoH a,h,own,g,d⟩
def okB(a:Func)(d:Do PV)(b:Do (Nat×PO))(own:In)(c:a_):In:= !(a.name== "runtime.NumGoroutine") && (a.body.isSome && ((Nat.ble d.length a.ntmps && Nat.ble a.ntmps 1000000) && (own||(b.isEmpty && c.isEmpty))))
def okY(a:Func)(b:PS)(d:In)(c:a_)(y:lW b.c):In:=(ED T (fo a.ntmps b y) a.results.toList).isSome && (!d||((Bj T (fo a.ntmps b y) a.results.toList).pu && puH (fY c (fo a.ntmps b y).h)))
noncomputable def mF(l:Do CO)(d:FD)(N:Nat):lW d.cs->At (lW d.rs.c):=exF T (Y1 l) N (iB d.fn) d.fn.ntmps d.pl d.ps d.hs d.cs d.rs
def xP{c:Do PV}{a:Do (Nat×PO)}{own:In}{b:a_}(h:okB o c a own b=true):(o.name== "runtime.NumGoroutine")=false/\o.body.isSome=true/\(Nat.ble c.length o.ntmps && Nat.ble o.ntmps 1000000)=true/\(own=false->a=[]/\b=[]):=by
 unfold okB at h;rw[axo,axo,axo (Nat.ble _ _ && _)]at h;obtain⟨d,e,f,g⟩:=h;refine⟨by simpa using d,e,f,λi=>?_⟩;subst i;simpa using g
noncomputable def cF(l:Do CO)(d:FD)(M:Nat->lW d.cs->At (lW d.rs.c))(e:PG.funcs[d.f]? =some d.fn)(a:okB d.fn d.ps d.hs d.own d.nm=true:=by kernel_rfl)(b:∀y,okY d.fn d.rs d.pu d.nm y=true:=by intro y;kernel_rfl)(c:∀N x,M N x=mF l d N x:=by intro N x;kernel_rfl):CO:=
 ⟨λN=>kq.mk d.f d.ps d.hs d.cs (lW d.rs.c) (M N) (λy _ k=>k (Bj T (fo d.fn.ntmps d.rs y) d.fn.results.toList) (fY d.nm (fo d.fn.ntmps d.rs y).h)) d.own d.pu,
  λN=>Ah (T:=T) (CT:=Y1 l) (N:=N) (λM=>EJ l M) e (xP a).1 (xP a).2.1 d.pl d.ps d.hs d.cs d.rs d.own d.pu d.nm (xP a).2.2.1 (λy=>((axo _ _).mp (b y)).1) (xP a).2.2.2 (λy=>((axo _ _).mp (b y)).2) (M N) (c N)⟩
structure FE extends FD where
 r2:PS
 n2:a_
noncomputable def eZ(l:Do CO)(a:Func)(b:a_)(i:PS)(o:Do (IR×PS))(p:Pl)(N:Nat):Nat->lW i.c->At (LX o):=Jn (yB T (Y1 l N) N (je b (iB a))) a.ntmps i o p
noncomputable def jnF(l:Do CO)(a:Func)(b:a_)(i:PS)(o:Do (IR×PS))(p:Pl)(N:Nat):Nat->lW i.c->At (LX o):=an9 (avz T (Y1 l N) N (je b (iB a))) a.ntmps i o p
