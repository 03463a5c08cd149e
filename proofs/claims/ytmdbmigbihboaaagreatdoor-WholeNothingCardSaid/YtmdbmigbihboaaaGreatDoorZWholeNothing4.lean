/- part 4 -/
import Derived.Test.YtmdbmigbihboaaaGreatDoorZWholeNothing3
set_option linter.all false
noncomputable section
open Go Go.RowKit
set_option maxRecDepth 100000
namespace Go.Proofs.YtmdbmigbihboaaaGreatDoor
variable{h:FuncId}{A:Int}{d k:Nat}{b:Type}{e:TypeId}{D:Value}
section
open Go Go.ChangeShapes Go.WideShapes Go.ChangeAt Go.RowKit
def Fits:(s:Sc)->s.cQ->Prop
 |.i k,x=>k.min<=x/\x<=k.max
 |.b,_=>True
 |.sl r,xs=>xs.length<=maxLen/\∀x∈xs,Fits r x
 |.pr a c,p=>Fits a p.1/\Fits c p.2
 |.u,_=>True
def Siz:(s:Sc)->s.cQ->Prop
 |.sl r,xs=>xs.length<=reachBytes/\∀x∈xs,Siz r x
 |.pr a c,p=>Siz a p.1/\Siz c p.2
 |_,_=>True
def o9(P:Program)(Bq:TypeId->Sc->Bool):List Field->Nat->Sc->Bool
 |[],_,_=>false
 |[f],o,s=>Bq f.type s && Nat.beq f.offset o && Nat.beq (P.cellsOf f.type) s.w
 |f::g::r,o,.pr s t=>Bq f.type s && Nat.beq f.offset o && Nat.beq (P.cellsOf f.type) s.w && o9 P Bq (g::r) (o+s.w) t
 |_::_::_,_,_=>false
def P_(w:Nat)(Bq:Sc->Bool):Nat->Sc->Bool
 |0,_=>false
 |1,s=>Bq s && Nat.beq w s.w
 |n+2,.pr s t=>Bq s && Nat.beq w s.w && P_ w Bq (n+1) t
 |_+2,_=>false
def YX(P:Program):Nat->TypeId->Sc->Bool
 |0,_,_=>false
 |d+1,t,s=>match P.underlying t with
  |some (.int k)=>(match s with
   |.i l=>decide (k=l)
   |_=>false)
  |some .bool=>(match s with
   |.b=>true
   |_=>false)
  |some (.slice e)=>(match s with
   |.sl r=>YX P d e r && Nat.beq (P.cellsOf e) r.w && Nat.blt 0 r.w && Nat.blt 0 (P.bytesOf e)
   |_=>false)
  |some (.struct fs)=>o9 P (YX P d) fs.toList 0 s && Nat.beq (P.cellsOf t) s.w
  |some (.array n e)=>P_ (P.cellsOf e) (YX P d e) n s && Nat.beq (P.cellsOf t) s.w
  |_=>false
def Rw(w:World)(b o:Nat)(u:Value):Prop:=w.cell? ⟨b,o,none⟩=some u
def b0(w:World):Bs:=⟨w,λ_=>False,λ_=>none,λ_=>undef,[]⟩
def e0:Env:=⟨λ_=>none,λ_=>undef,λ_=>0⟩
def afL(w:World):Prop:=∀b o u,GT b o u->w.cell? ⟨b,o,none⟩=some u
def sr0(w:World)(c:afL w):SR (b0 w) (Rw w) e0 [] w:=
 ⟨⟨rfl,rfl,rfl,aqf _,λ_ _=>rfl,aqf _⟩,⟨λb o u h=>⟨h,λa=>by
  have:=asg w _ h;rcases a with a|a
  ·simp only[b0]at a;simp only at this;omega
  ·exact a⟩,c⟩,λ_ _ h=>by simp[aY]at h,λ_ _ _ h=>by simp[aY]at h,λ_ _ _ _ _ h=>by simp[aY]at h,λ_ _=>⟨rfl,rfl⟩⟩
def alc{w:World}(h:Rw w d k D):bF (b0 w) (Rw w) e0 [] w d k D:=⟨h,λ_=>h,λ_ _ h=>by simp[aY]at h⟩
def o_(h:Nat.beq d k=true):d=k:=aqj h
def aap(h:Nat.blt d k=true):d<k:=aqk h
section
variable{H:Type}{enc:TypeId×Value->H}{P:Program}{w:World}{base:Nat}{spare:Nat->Bool}{held:Bool}
def Lu(P:Program)(t:TypeId)(x:DataW H):Prop:=∀n∈x.weights P t,n<=reachBytes
def IA{e:TypeId}:∀{l:List (DataW H×List MemPlace)},(∀n∈DataW.weightsAll P e (l.map (·.1)),n<=reachBytes)->∀(i:Nat) x,l[i]? =some x->Lu P e x.1
 |[],_,i,x,h=>by simp at h
 |y::l,b,i,x,h=>by
  simp only[aqz,DataW.weightsAll,aqp]at b;cases i with
  |zero=>simp at h;subst h;exactλn a=>b n (.inl a)
  |succ i=>exact IA (λn a=>b n (.inr a)) i x (by simpa using h)
def Lv:∀{a:List Field} {l:List (DataW H×List MemPlace)},(∀n∈DataW.weightsEach P (a.map (·.type)) (l.map (·.1)),n<=reachBytes)->∀(i:Nat) f x,a[i]? =some f->l[i]? =some x->Lu P f.type x.1
 |[],_,_,i,f,x,h,_=>by simp at h
 |_::_,[],_,i,f,x,_,h=>by simp at h
 |g::a,y::l,d,i,f,x,b,h=>by
  simp only[aqz,DataW.weightsEach,aqp]at d;cases i with
  |zero=>simp at h b;subst h;subst b;exactλn c=>d n (.inl c)
  |succ i=>exact Lv (λn c=>d n (.inr c)) i f x (by simpa using b) (by simpa using h)
def BS(enc:TypeId×Value->H)(P:Program)(w:World)(base:Nat)(spare:Nat->Bool)(held:Bool)(n:Nat)(t:TypeId)(s:Sc):Prop:=
 ∀cs x,DataW.trod enc P w base spare held n t cs=some x->∃y:s.cQ,LR (VR (Rw w) none) (bx s y) cs/\Fits s y/\(Lu P t x.1->Siz s y)
def Ao{WA:Prop}{C:TypeId->Sc->Bool}{n:Nat}(A:∀t s,C t s=true->BS enc P w base spare held n t s)(p:List Value):
 ∀(j:List Field) (o:Nat) (s:Sc) (b:List (DataW H×List MemPlace)),o9 P C j o s=true->b.length=j.length->
  (∀(i:Nat) (f:Field),j[i]? =some f->DataW.trod enc P w base spare held n f.type ((p.drop f.offset).take (P.cellsOf f.type))=b[i]?)->(WA->∀(i:Nat) f x,j[i]? =some f->b[i]? =some x->Lu P f.type x.1)->
  ∃y:s.cQ,LR (VR (Rw w) none) (bx s y) ((p.drop o).take s.w)/\Fits s y/\(WA->Siz s y)
 |[],o,s,b,h,_,_,_=>by simp[o9]at h
 |[f],o,s,b,h,k,m,l=>by
  simp only[o9,aqe]at h;obtain⟨⟨u,v⟩,z⟩:=h;have:=m 0 f rfl;rw[o_ v,o_ z]at this;have e:0<b.length:=by rw[k];simp
  rw[aqm e]at this;obtain⟨y,J,G,O⟩:=A _ _ u _ _ this;exact⟨y,J,G,λd=>O (l d 0 f _ rfl (aqm e))⟩
 |f::g::r,o,s,b,h,k,m,l=>by
  cases s with
  |pr a c=>
   simp only[o9,aqe]at h;obtain⟨⟨⟨u,v⟩,z⟩,I⟩:=h;have:=m 0 f rfl;rw[o_ v,o_ z]at this;have e:0<b.length:=by rw[k];simp
   rw[aqm e]at this;obtain⟨Q,K,E,M⟩:=A _ _ u _ _ this;obtain⟨R,L,F,N⟩:=Ao A p (g::r) (o+a.w) c b.tail I (by simp[k]) (λi q B=>by
    have:=m (i+1) q (by simpa using B);rw[this];cases b<;>simp) (λd i q x B D=>l d (i+1) q x (by simpa using B) (by cases b with|nil=>simp at D|cons y S=>simpa using D))
   refine⟨(Q,R),?_,⟨E,F⟩,λd=>⟨M (l d 0 f _ rfl (aqm e)),N d⟩⟩;rw[bx,Sc.w,List.take_add];rw[asl];exact K.append L
  |_=>simp[o9]at h
def Lw{WA:Prop}{p:Sc->Bool}{n:Nat}{e:TypeId}{ew:Nat}(k:∀s,p s=true->BS enc P w base spare held n e s)(f:List Value):
 ∀(m:Nat) (o:Nat) (s:Sc),P_ ew p m s=true->
  (∀i,i<m->∃x,DataW.trod enc P w base spare held n e ((f.drop (o+i*ew)).take ew)=some x/\(WA->Lu P e x.1))->
  ∃y:s.cQ,LR (VR (Rw w) none) (bx s y) ((f.drop o).take s.w)/\Fits s y/\(WA->Siz s y)
 |0,o,s,h,_=>by simp[P_]at h
 |1,o,s,h,d=>by
  simp only[P_,aqe]at h;obtain⟨g,j⟩:=h;obtain⟨x,this,l⟩:=d 0 (by omega);rw[asM,arG,o_ j]at this;obtain⟨y,B,u,G⟩:=k _ g _ _ this;exact⟨y,B,u,λb=>G (l b)⟩
 |m+2,o,s,h,d=>by
  cases s with
  |pr a c=>
   simp only[P_,aqe]at h;obtain⟨⟨g,j⟩,v⟩:=h;obtain⟨x,this,l⟩:=d 0 (by omega);have q:=o_ j;rw[asM,arG,q]at this;obtain⟨I,C,r,E⟩:=k _ g _ _ this;obtain⟨J,D,t,F⟩:=Lw k f (m+1) (o+a.w) c v (λi K=>by
    obtain⟨x,A,z⟩:=d (i+1) (by omega);refine⟨x,?_,z⟩;rw[<-A,q];congr 3;rw[aqS];omega)
   refine⟨(I,J),?_,⟨r,t⟩,λb=>⟨E (l b),F b⟩⟩;rw[bx,Sc.w,List.take_add];rw[asl];exact C.append D
  |_=>simp[P_]at h
def Gq{WA:Prop}{n:Nat}{e:TypeId}{r:Sc}(J:BS enc P w base spare held n e r)(B:P.cellsOf e=r.w)(l:0<r.w){a:Addr}{v:Nat}{k:List (DataW H×List MemPlace)}(S:k.length=v)
 (C:∀i,i<v->(w.cells? base (a.add (i*P.cellsOf e)) (P.cellsOf e)).bind (DataW.trod enc P w base spare held n e)=k[i]?) (L:WA->∀(i:Nat) x,k[i]? =some x->Lu P e x.1):
 ∀m,m<=v->∃f:List r.cQ,f.length=m/\((∀y∈f,Fits r y)/\(WA->∀y∈f,Siz r y))/\∃d,LR (VR (Rw w) none) (f.map (bx r)).flatten d/\∀j u,d[j]? =some u->a.spot=none/\w.cell? ⟨a.block,a.off+j,none⟩=some u
 |0,_=>⟨[],rfl,by simp,[],LR.nil,by simp⟩
 |m+1,hm=>by
  obtain⟨f,E,⟨U,Y⟩,d,G,K⟩:=Gq J B l S C L m (by omega);have h:=C m (by omega);have I:m<k.length:=by omega
  rw[aqm I]at h;obtain⟨cs,R,Z⟩:=asx.1 h;obtain⟨y,hy,O,sy⟩:=J _ _ Z;obtain⟨hb,Q,p⟩:=World.cells?_some R;rw[B]at Q p;have F:d.length=m*r.w:=by
   rw[G.1,dX (sz:=r.w)]
   ·simp[E]
   ·intro q W
    obtain⟨z,_,rfl⟩:=aqq.1 W;exact eH r z
  have s:a.spot=none:=by
   have:=p 0 l;rw[aqm (by omega)]at this;by_cases c:m=0
   ·subst c
    have a0:(a.add (0*r.w)).add 0=a:=by simp[Addr.add]
    rw[a0]at this;unfold World.cell? at this;split at this
    ·split at this
     ·cases this
     ·rename_i X;simpa using X
    ·cases this
   ·have t:∃u,d[0]? =some u:=⟨d[0]'(by rw[F];exact asK (by omega) l),aqm _⟩
    obtain⟨u,t⟩:=t;exact(K 0 u t).1
  refine⟨f++[y],by simp[E],⟨λz c=>?_,λA z c=>?_⟩,d++cs,?_,λj u g=>⟨s,?_⟩⟩
  ·rcases aqp.1 c with c|c
   ·exact U z c
   ·simp only[aqB]at c;subst c;exact O
  ·rcases aqp.1 c with c|c
   ·exact Y A z c
   ·simp only[aqB]at c;subst c;exact sy (L A m _ (aqm I))
  ·rw[aq4,arQ]
   simpa using G.append hy
  ·by_cases V:j<d.length
   ·rw[aq2 V]at g
    exact(K j u g).2
   ·rw[arx (by omega)]at g
    have a1:j - d.length<cs.length:=(aqh.1 g).1;have:=p (j - d.length) (by omega);rw[g]at this;have N:(a.add (m*r.w)).add (j - d.length)=⟨a.block,a.off+j,none⟩:=by
     obtain⟨b,o,sp⟩:=a;simp only at s;subst s;rw[add_plain,add_plain];have D:d.length<=j:=by omega
     rw[F]at D⊢;generalize m*r.w=q at D;have M:o+q+(j - q)=o+j:=by omega
     rw[M]
    rw[N]at this;exact this
def sY:∀(d:Nat) (t:TypeId) (s:Sc),YX P d t s=true->∀n,BS enc P w base spare held n t s
 |0,t,s,h,n=>by simp[YX]at h
 |d+1,t,s,h,n=>by
  intro U x F;unfold YX at h;split at h
  ·rename_i k p
   cases s with
   |i l=>
    obtain rfl:k=l:=aq7 h;obtain⟨z,rfl,-,hw⟩:=DataW.trod_int p F;simp only[Lit.wf,aqe,ard]at hw;exact⟨z,LR.cons .v LR.nil,hw,λ_=>trivial⟩
   |_=>simp at h
  ·rename_i p
   cases s with
   |b=>
    obtain⟨z,rfl,-⟩:=DataW.trod_bool p F;exact⟨z,LR.cons .v LR.nil,trivial,λ_=>trivial⟩
   |_=>simp at h
  ·rename_i e p
   cases s with
   |sl r=>
    simp only[aqe]at h;obtain⟨⟨⟨C,D⟩,h3⟩,h4⟩:=h;rcases DataW.trod_slice p F with⟨rfl,-⟩|⟨a,a3,a4,A,rest,m,rfl,rfl,rfl,hb,aa,a5,W,he,-,-⟩
    ·refine⟨([]:List r.cQ),LR.cons ?_ LR.nil,?_,λ_=>⟨aqI _,by simp⟩⟩
     ·exact .sl (rows:=[]) [] (by simp) (by simp) rfl (by simp) (aqf _) (aqI _) (by simp) (by simp)
     ·exact⟨aqI _,by simp⟩
    ·have I:Lu P t (.slice (A.map (·.1)) (rest.map (·.1)):DataW H)->((A.length+rest.length)*P.bytesOf e<=reachBytes)/\∀(i:Nat) x,A[i]? =some x->Lu P e x.1:=λg=>by
      have B:DataW.weights P t (.slice (A.map (·.1)) (rest.map (·.1)):DataW H)=(A.length+rest.length)*P.bytesOf e::(DataW.weightsAll P e (A.map (·.1))++DataW.weightsAll P e (rest.map (·.1))):=by
       simp[DataW.weights,p]
      unfold Lu at g;rw[B]at g;exact⟨g _ (by simp),IA λn hn=>g n (by simp[hn])⟩
     obtain⟨S,Y,⟨L,a9⟩,R,Z,a1⟩:=Gq (WA:=Lu P t (.slice (A.map (·.1)) (rest.map (·.1)):DataW H)) (sY d e r C m) (o_ D) (aap h3) W he (λg=>(I g).2) a3 (aqf _);refine⟨S,LR.cons ?_ LR.nil,?_,λg=>⟨?_,a9 g⟩⟩
     ·have a7:(List.map (bx r) S).length=a3:=by simp[Y]
      have:=VR.sl (Rd:=Rw w) (E:=none) (tight:=false) (sz:=r.w) (rows:=List.map (bx r) S) (a:=some a) (cap:=a4) R
       (λq M=>by obtain⟨z,_,rfl⟩:=aqq.1 M;exact eH r z)
       (λc hc=>by
        obtain⟨q,M,a6⟩:=ase.1 hc;obtain⟨z,_,rfl⟩:=aqq.1 M;exact nS r z c a6)
       Z.1 Z.2 (by omega) a5 (by simp) (λa8=>by
        have hp:0<R.length:=ar0.2 a8;have a0:=(a1 0 R[0] (aqm hp)).1;obtain⟨b,o,sp⟩:=a;simp only at a0;subst a0;exact⟨b,o,rfl,λj u hj=>(a1 j u hj).2⟩)
      rw[a7]at this;exact this
     ·exact⟨by omega,L⟩
     ·have h5:=(I g).1
      have h6:A.length*1<=(A.length+rest.length)*P.bytesOf e:=arO (Nat.le_add_right _ _) (aap h4);rw[Y,<-W];omega
   |_=>simp at h
  ·rename_i V p
   simp only[aqe]at h;obtain⟨C,D⟩:=h;obtain⟨v,m,rfl,rfl,K,a2,O⟩:=DataW.trod_struct p F;obtain⟨y,G,J,Q⟩:=Ao (WA:=Lu P t (.agg (v.map (·.1)):DataW H)) (λt s N=>sY d t s N m) U V.toList 0 s v C (by simpa using a2) (λi f L=>O i f (by simpa using L)) (λg=>by
    have B:DataW.weights P t (.agg (v.map (·.1)):DataW H)=DataW.weightsEach P (V.toList.map (·.type)) (v.map (·.1)):=by simp[DataW.weights,p]
    unfold Lu at g;rw[B]at g;exact Lv g)
   refine⟨y,?_,J,Q⟩;rw[aq3,aqQ (by rw[K,o_ D];exact aqf _)]at G;exact G
  ·rename_i m e p
   simp only[aqe]at h;obtain⟨C,D⟩:=h;obtain⟨v,m',rfl,rfl,K,a2,O⟩:=DataW.trod_array p F;have I:Lu P t (.agg (v.map (·.1)):DataW H)->∀(i:Nat) x,v[i]? =some x->Lu P e x.1:=λg=>by
    have B:DataW.weights P t (.agg (v.map (·.1)):DataW H)=DataW.weightsAll P e (v.map (·.1)):=by simp[DataW.weights,p]
    unfold Lu at g;rw[B]at g;exact IA g
   obtain⟨y,G,J,Q⟩:=Lw (WA:=Lu P t (.agg (v.map (·.1)):DataW H)) (ew:=P.cellsOf e) (λs N=>sY d e s N m') U m 0 s C (λi hi=>by
    have:=O i hi;have X:i<v.length:=by omega
    rw[aqm X]at this;exact⟨_,by rw[aqN];exact this,λg=>I g i _ (aqm X)⟩)
   refine⟨y,?_,J,Q⟩;rw[aq3,aqQ (by rw[K,o_ D];exact aqf _)]at G;exact G
  ·cases h
def Qa(P:Program)(t:TypeId):Bool:=match P.underlying t with
 |some (.struct _)=>true
 |some (.array _ _)=>true
 |_=>false
def zo{r:Reach}{b0 d:Nat}{s:Sc}{x:DataW H}{A:List MemPlace}(j:YX P d e s=true)(o:Value.okWide P w r b0 e D)(h:DataW.Trod enc P w base spare held e D x A):
 ∃y:s.cQ,Fits s y/\(Lu P e x->Siz s y)/\(Qa P e=true->VR (Rw w) none (.ag (bx s y)) D)/\(Qa P e=false->VR (Rw w) none (encS s y) D):=by
 obtain⟨n,h⟩:=h;obtain⟨y,t,u,B⟩:=sY d e s j n _ _ h;refine⟨y,u,B,λg=>?_,λg=>?_⟩
 ·unfold Qa at g
  unfold Value.okWide at o;have v:∃p,D=.agg p:=by
   split at g
   ·rename_i f;rw[f]at o;obtain⟨p,h,-⟩:=o;exact⟨p,h⟩
   ·rename_i f;rw[f]at o;obtain⟨p,h,-⟩:=o;exact⟨p,h⟩
   ·cases g
  obtain⟨p,rfl⟩:=v;have:=VR.ag (E:=none) (Rd:=Rw w) p.toList t.1 t.2;simpa using this
 ·cases d with
  |zero=>simp[YX]at j
  |succ d=>
   unfold YX at j;unfold Qa at g;split at j
   ·rename_i k f
    cases s with
    |i l=>
     obtain⟨z,rfl⟩:=okWide_int f o;have q:=t.2 0 _ _ rfl rfl;exact q
    |_=>simp at j
   ·rename_i f
    cases s with
    |b=>
     obtain⟨z,rfl⟩:=okWide_bool f o;have q:=t.2 0 _ _ rfl rfl;exact q
    |_=>simp at j
   ·rename_i c f
    cases s with
    |sl r=>
     obtain⟨a,G,C,rfl⟩:=okWide_slice f o;have q:=t.2 0 _ _ rfl rfl;exact q
    |_=>simp at j
   ·rename_i F f;rw[f]at g;cases g
   ·rename_i m c f;rw[f]at g;cases g
   ·cases j
end
def Se(h:Fits (.i .u8) A):0<=A/\A<=255:=by
 simpa[Fits,IntKind.min,IntKind.max,IntKind.signed,IntKind.bits]using h
def IB{P:Program}{j:List PV}{d:List Sc}{M:kf d->Option b}{g:b->(R:Type)->(EV->eF->Option R)->Option R}{own t:Bool}(p:iS.ok P ⟨h,j,[],d,b,M,g,own,t⟩){x:kf d}{y:b}(q:M x=some y)
 {w:World} (n:afL w) {vs:List Value} (s:LR (VR (Rw w) none) (bO (cT j (gZ d x)).1) vs) (f:g y EV (λe _=>some e)=some (.sc .b true)) (o:D=.bool true):Calls P h vs.toArray w λe k=>e=.returned D/\Ext w k:=by
 obtain⟨c,H,l,_,_,m⟩:=p.2 x y q;have f:(some c:Option EV)=some (.sc .b true):=(l EV λe _=>some e).symm.trans f;obtain rfl:=aql f;refine(m.2 (b0 w) (Rw w) e0 w vs (sr0 w n) (s.imp λ_ _ a=>(a.mono λ_ _ _ a=>alc a).cJ)).mono λe k a=>?_;obtain⟨v,u,rfl,r,i⟩:=a;change VR _ _ (enc (.sc .b true)) v at i;refine⟨?_,r.ext.ext λ_ a=>a⟩;subst o;cases i;rfl
end
variable{c:World}
section
open Go Go.ChangeShapes Go.WideShapes Go.ChangeAt Go.RowKit
def aaq:(Tryz.prog.globals[0]?).map (·.type)=some 313:=by kernel_rfl
def aar:Tryz.prog.cellsOf 313=32:=by kernel_rfl
def W6:Tryz.prog.cellsOf 5=1:=by kernel_rfl
def aiM:List Int:=[0,1,28,2,29,14,24,3,30,22,20,15,25,17,4,8,31,27,13,23,21,19,16,7,26,12,18,6,11,5,10,9]
def afM:Y2=[(0,.u8,aiM)]:=rfl
def IC(h:laidMetH Tryz.prog Rows.wholeNothingRow.laid c):afL c:=by
 have j:=Lib.tabIs_of_head (rest:=[]) (g:=0) (by kernel_rfl) aaq Tryz.underlying313 Tryz.underlying5 W6 aar (k:=.u8)
  (zs:=aiM) h
 rintro b o u ⟨k,l,x,a,e,rfl⟩;rw[afM,Ws]at a;cases d:Nat.beq b 0 with
 |false=>rw[d]at a;cases a
 |true=>
  rw[d]at a;have d:=aqj d;subst d;cases a;have i:o<aiM.length:=(aqh.1 e).1;have f:=j.cell (g:=0) (by kernel_rfl) o (by simpa using i);rw[f];rw[arI,e];rfl
noncomputable def zp(os:Os):World:=
 {World.holding Tryz.prog os ⟨#[], #[],[]⟩with heap:=(World.holding Tryz.prog os ⟨#[], #[],[]⟩).heap.modify 0 λ
  |.cells _ t frozen=>.cells #[.int .u8 0,.int .u8 1,.int .u8 28,.int .u8 2,.int .u8 29,.int .u8 14,.int .u8 24,.int .u8 3,.int .u8 30,.int .u8 22,.int .u8 20,.int .u8 15,.int .u8 25,.int .u8 17,.int .u8 4,.int .u8 8,.int .u8 31,.int .u8 27,.int .u8 13,.int .u8 23,.int .u8 21,.int .u8 19,.int .u8 16,.int .u8 7,.int .u8 26,.int .u8 12,.int .u8 18,.int .u8 6,.int .u8 11,.int .u8 5,.int .u8 10,.int .u8 9] t frozen
  |o=>o}
end
abbrev vI:Value:=.int .i64 0
abbrev vB:Value:=.bool false
abbrev vS:Value:=.slice none 0 0
abbrev sI:Sc:=.i .i64
abbrev xO:Option (Bool×Nat):=some (false,1)
def tS:List Nat:=[9,10,11]
def tN:List Nat:=[20]
def tL:List (List Nat×bj):=[
 ([2,3,32,292],{ty:=xO,ze:=some [vI],ik:=some .i64}),
 ([4],{ty:=xO,bo:=true,ze:=some [vB]}),
 ([5,6,404,405],{ty:=xO,ze:=some [.int .u8 0],ik:=some .u8}),
 ([7,8],{ty:=some (true,4),fd:=[(0,false,1),(1,false,1),(2,false,1),(3,false,1)],pl:=some ([vI,vI,vB,.int .u8 0],[(0,1),(1,1),(2,1),(3,1)]),ze:=some [vI,vI,vB,.int .u8 0],eq:=some ((sI).pr ((sI).pr (Sc.b.pr (Sc.i .u8))))}),
 ([12,160,299,336],{ty:=xO,ze:=some [.int .u64 0],ik:=some .u64}),
 ([15,16,17,121,143,211,243,248,266,306,340,344,362,391,407,412],{ty:=xO,ze:=some [.pointer none]}),
 ([18,19],{ty:=some (true,1),fd:=[(0,false,1)],pl:=some ([.pointer none],[(0,1)]),ze:=some [.pointer none],zv:=some (.agg {toList:=[.pointer none]})}),
 ([21,408,409],{ty:=xO,ze:=some [.int .i32 0],ik:=some .i32}),
 ([22],{ty:=xO,el:=some (127,4,32,[vI,vI,vI,vB]),jO:=true,ze:=some [vS],co:=some ((sI).pr ((sI).pr ((sI).pr Sc.b)))}),
 ([23,24,79,80],{ty:=some (true,2),fd:=[(0,false,1),(1,false,1)],pl:=some ([vI,vS],[(0,1),(1,1)]),ze:=some [vI,vS],zv:=some (.agg {toList:=[vI,vS]})}),
 ([25,26],{ty:=some (true,4),fd:=[(0,true,2),(2,false,1),(3,false,1)],pl:=some ([vI,vS,vI,vI],[(0,2),(2,1),(3,1)]),ze:=some [vI,vS,vI,vI]}),
 ([27],{ty:=xO,el:=some (46,2,16,[vI,vI]),jO:=true,ze:=some [vS],co:=some ((sI).pr (sI))}),
 ([28],{ty:=xO,el:=some (51,3,24,[vI,vI,vI]),jO:=true,ze:=some [vS],co:=some ((sI).pr ((sI).pr (sI)))}),
 ([29,30,97,98],{ty:=some (true,3),fd:=[(0,false,1),(1,false,1),(2,false,1)],pl:=some ([vI,vS,vS],[(0,1),(1,1),(2,1)]),ze:=some [vI,vS,vS]}),
 ([33,154,271],{ty:=xO,el:=some (3,1,8,[vI]),jO:=true,ze:=some [vS],co:=some (sI)}),
 ([34,35,39,40],{ty:=some (true,3),fd:=[(0,false,1),(1,false,1),(2,false,1)],pl:=some ([vI,vI,vS],[(0,1),(1,1),(2,1)]),ze:=some [vI,vI,vS]}),
 ([38],{ty:=xO,el:=some (125,2,16,[vI,vI]),jO:=true,ze:=some [vS],co:=some ((sI).pr (sI))}),
 ([41,42],{ty:=some (true,5),fd:=[(0,false,1),(1,false,1),(2,true,3)],pl:=some ([vI,vI,vI,vI,vS],[(0,1),(1,1),(2,3)]),ze:=some [vI,vI,vI,vI,vS]}),
 ([45,46,188,189,208,209],{ty:=some (true,2),fd:=[(0,false,1),(1,false,1)],pl:=some ([vI,vI],[(0,1),(1,1)]),ze:=some [vI,vI],eq:=some ((sI).pr (sI)),zv:=some (.agg {toList:=[vI,vI]})}),
 ([50,51],{ty:=some (true,3),fd:=[(0,false,1),(1,false,1),(2,false,1)],pl:=some ([vI,vI,vI],[(0,1),(1,1),(2,1)]),ze:=some [vI,vI,vI],eq:=some ((sI).pr ((sI).pr (sI)))}),
 ([52],{ty:=xO,el:=some (5,1,1,[.int .u8 0]),jO:=true,ze:=some [vS],co:=some (Sc.i .u8)}),
 ([57],{ty:=xO,el:=some (35,3,40,[vI,vI,vS]),jO:=true,ze:=some [vS],co:=some ((sI).pr ((sI).pr (sI).sl))}),
 ([63],{ty:=xO,el:=some (72,3,72,[vS,vS,vS]),jO:=true,ze:=some [vS],co:=some ((sI).sl.pr ((sI).sl.pr (sI).sl.sl))}),
 ([66],{ty:=xO,ze:=some [.int .u32 0],ik:=some .u32}),
 ([67],{ty:=xO,el:=some (66,1,4,[.int .u32 0]),jO:=true,ze:=some [vS],co:=some (Sc.i .u32)}),
 ([68],{ty:=xO,el:=some (33,1,24,[vS]),jO:=true,ze:=some [vS],co:=some (sI).sl}),
 ([71,72],{ty:=some (true,3),fd:=[(0,false,1),(1,false,1),(2,false,1)],pl:=some ([vS,vS,vS],[(0,1),(1,1),(2,1)]),ze:=some [vS,vS,vS]}),
 ([74],{ty:=xO,el:=some (4,1,1,[vB]),jO:=true,ze:=some [vS],co:=some Sc.b}),
 ([86,87],{ty:=some (true,2),fd:=[(0,false,1),(1,false,1)],pl:=some ([vS,vS],[(0,1),(1,1)]),ze:=some [vS,vS],zv:=some (.agg {toList:=[vS,vS]})}),
 ([90],{ty:=xO,el:=some (195,4,32,[vI,vI,vI,vI]),jO:=true,ze:=some [vS],co:=some ((sI).pr ((sI).pr ((sI).pr (sI))))}),
 ([91,92],{ty:=some (true,3),fd:=[(0,false,1),(1,false,1),(2,false,1)],pl:=some ([vS,vI,vS],[(0,1),(1,1),(2,1)]),ze:=some [vS,vI,vS]}),
 ([93,94],{ty:=some (true,7),fd:=[(0,true,3),(3,false,1),(4,false,1),(5,false,1),(6,false,1)],pl:=some ([vS,vI,vS,vS,vB,vI,vI],[(0,3),(3,1),(4,1),(5,1),(6,1)]),ze:=some [vS,vI,vS,vS,vB,vI,vI]}),
 ([105],{ty:=xO,el:=some (179,5,32,[vB,vB,vI,vI,vI]),jO:=true,ze:=some [vS],co:=some (Sc.b.pr (Sc.b.pr (((sI).pr (sI)).pr (sI))))}),
 ([118,119],{ty:=some (true,1),fd:=[(0,false,1)],pl:=some ([vI],[(0,1)]),ze:=some [vI],eq:=some (sI),zv:=some (.agg {toList:=[vI]})}),
 ([122,123],{ty:=some (true,7),fd:=[(0,true,4),(4,true,3)],pl:=some ([vI,vS,vI,vI,vI,vI,vS],[(0,4),(4,3)]),ze:=some [vI,vS,vI,vI,vI,vI,vS]}),
 ([125],{ty:=some (true,2),ar:=some (2,3,1),pl:=some ([vI,vI],[(0,1),(1,1)]),ze:=some [vI,vI],co:=some (sI)}),
 ([126,127,253,254],{ty:=some (true,4),fd:=[(0,false,1),(1,false,1),(2,false,1),(3,false,1)],pl:=some ([vI,vI,vI,vB],[(0,1),(1,1),(2,1),(3,1)]),ze:=some [vI,vI,vI,vB],eq:=some ((sI).pr ((sI).pr ((sI).pr Sc.b)))}),
 ([130],{ty:=xO,el:=some (30,3,56,[vI,vS,vS]),jO:=true,ze:=some [vS],co:=some ((sI).pr (((sI).pr (sI)).sl.pr ((sI).pr ((sI).pr (sI))).sl))}),
 ([147,148],{ty:=some (true,6),fd:=[(0,true,3),(3,false,1),(4,false,1),(5,false,1)],pl:=some ([vS,vS,vS,vS,vI,vI],[(0,3),(3,1),(4,1),(5,1)]),ze:=some [vS,vS,vS,vS,vI,vI]}),
 ([178,179],{ty:=some (true,5),fd:=[(0,false,1),(1,false,1),(2,true,2),(4,false,1)],pl:=some ([vB,vB,vI,vI,vI],[(0,1),(1,1),(2,2),(4,1)]),ze:=some [vB,vB,vI,vI,vI]}),
 ([183],{ty:=xO,el:=some (254,4,32,[vI,vI,vI,vB]),jO:=true,ze:=some [vS],co:=some ((sI).pr ((sI).pr ((sI).pr Sc.b)))}),
 ([186],{ty:=xO,el:=some (189,2,16,[vI,vI]),jO:=true,ze:=some [vS],co:=some ((sI).pr (sI))}),
 ([194,195],{ty:=some (true,4),fd:=[(0,false,1),(1,false,1),(2,false,1),(3,false,1)],pl:=some ([vI,vI,vI,vI],[(0,1),(1,1),(2,1),(3,1)]),ze:=some [vI,vI,vI,vI],eq:=some ((sI).pr ((sI).pr ((sI).pr (sI))))}),
 ([197],{ty:=xO,ze:=some [.map none],mp:=some (TypeDesc.int .i64,vI),kv:=some (sI,sI)}),
 ([212,213],{ty:=some (true,2),fd:=[(0,false,1),(1,false,1)],pl:=some ([vS,vI],[(0,1),(1,1)]),ze:=some [vS,vI],zv:=some (.agg {toList:=[vS,vI]})}),
 ([217],{ty:=some (true,8),ar:=some (8,3,1),pl:=some ([vI,vI,vI,vI,vI,vI,vI,vI],[(0,1),(1,1),(2,1),(3,1),(4,1),(5,1),(6,1),(7,1)]),ze:=some [vI,vI,vI,vI,vI,vI,vI,vI],co:=some (sI)}),
 ([233],{ty:=xO,ze:=some [.int .u16 0],ik:=some .u16}),
 ([234],{ty:=xO,ze:=some [.map none],mp:=some (TypeDesc.tuple {toList:=[]},vI),kv:=some ((sI).pr (sI),sI)}),
 ([245,246],{ty:=some (true,8),fd:=[(0,true,2),(2,true,5),(7,false,1)],pl:=some ([vI,vS,vB,vB,vI,vI,vI,vI],[(0,2),(2,5),(7,1)]),ze:=some [vI,vS,vB,vB,vI,vI,vI,vI]}),
 ([249,250],{ty:=some (true,8),fd:=[(0,true,7),(7,false,1)],pl:=some ([vS,vI,vS,vS,vB,vI,vI,vS],[(0,7),(7,1)]),ze:=some [vS,vI,vS,vS,vB,vI,vI,vS]}),
 ([260],{ty:=xO,el:=some (80,2,32,[vI,vS]),jO:=true,ze:=some [vS],co:=some ((sI).pr (sI).sl.sl)}),
 ([267,268],{ty:=some (true,3),fd:=[(0,false,1),(1,false,1),(2,false,1)],pl:=some ([vS,.map none,.map none],[(0,1),(1,1),(2,1)]),ze:=some [vS,.map none,.map none]}),
 ([301],{ty:=xO,el:=some (22,1,24,[vS]),jO:=true,ze:=some [vS],co:=some ((sI).pr ((sI).pr ((sI).pr Sc.b))).sl}),
 ([305],{ty:=xO,el:=some (306,1,8,[.pointer none]),jO:=true,ze:=some [vS]}),
 ([313],{ty:=some (true,32),ar:=some (32,5,1),pl:=some ([.int .u8 0,.int .u8 0,.int .u8 0,.int .u8 0,.int .u8 0,.int .u8 0,.int .u8 0,.int .u8 0,.int .u8 0,.int .u8 0,.int .u8 0,.int .u8 0,.int .u8 0,.int .u8 0,.int .u8 0,.int .u8 0,.int .u8 0,.int .u8 0,.int .u8 0,.int .u8 0,.int .u8 0,.int .u8 0,.int .u8 0,.int .u8 0,.int .u8 0,.int .u8 0,.int .u8 0,.int .u8 0,.int .u8 0,.int .u8 0,.int .u8 0,.int .u8 0],[(0,1),(1,1),(2,1),(3,1),(4,1),(5,1),(6,1),(7,1),(8,1),(9,1),(10,1),(11,1),(12,1),(13,1),(14,1),(15,1),(16,1),(17,1),(18,1),(19,1),(20,1),(21,1),(22,1),(23,1),(24,1),(25,1),(26,1),(27,1),(28,1),(29,1),(30,1),(31,1)]),ze:=some [.int .u8 0,.int .u8 0,.int .u8 0,.int .u8 0,.int .u8 0,.int .u8 0,.int .u8 0,.int .u8 0,.int .u8 0,.int .u8 0,.int .u8 0,.int .u8 0,.int .u8 0,.int .u8 0,.int .u8 0,.int .u8 0,.int .u8 0,.int .u8 0,.int .u8 0,.int .u8 0,.int .u8 0,.int .u8 0,.int .u8 0,.int .u8 0,.int .u8 0,.int .u8 0,.int .u8 0,.int .u8 0,.int .u8 0,.int .u8 0,.int .u8 0,.int .u8 0],co:=some (Sc.i .u8)}),
 ([345,346],{ty:=some (true,11),fd:=[(0,true,7),(7,true,4)],pl:=some ([vS,vI,vS,vS,vB,vI,vI,vI,vI,vI,vB],[(0,7),(7,4)]),ze:=some [vS,vI,vS,vS,vB,vI,vI,vI,vI,vI,vB]}),
 ([401],{ty:=some (true,0),ar:=some (0,16,1),pl:=some ([],[]),ze:=some []}),
 ([402,403],{ty:=some (true,0),fd:=[(0,true,0)],pl:=some ([],[(0,0)]),ze:=some []}),
 ([410,411],{ty:=some (true,11),fd:=[(0,false,1),(1,false,1),(2,false,1),(3,false,1),(4,false,1),(5,false,1),(6,false,1),(7,false,1),(8,false,1),(9,false,1),(10,false,1)],pl:=some ([.int .u64 0,.int .u64 0,.int .u32 0,.int .u8 0,.int .u8 0,.int .u8 0,.int .u8 0,.nilFunc,.pointer none,.int .i32 0,.int .i32 0],[(0,1),(1,1),(2,1),(3,1),(4,1),(5,1),(6,1),(7,1),(8,1),(9,1),(10,1)]),ze:=some [.int .u64 0,.int .u64 0,.int .u32 0,.int .u8 0,.int .u8 0,.int .u8 0,.int .u8 0,.nilFunc,.pointer none,.int .i32 0,.int .i32 0]}),
 ([1,31,37,43,44,47,48,49,54,56,59,60,62,65,70,73,76,78,82,83,84,85,89,96,100,102,104,107,109,111,112,113,114,115,116,117,124,128,129,132,133,135,137,138,139,140,141,142,145,146,149,150,151,152,153,155,156,157,159,161,163,165,167,168,170,171,173,174,175,176,177,181,182,185,187,190,191,192,193,196,198,199,200,201,202,203,204,205,206,207,210,214,215,216,218,219,220,221,222,223,224,226,227,228,229,230,232,235,236,237,238,239,240,241,242,244,247,251,252,255,256,257,258,259,261,262,264,265,270,273,274,275,276,277,278,279,280,281,282,283,284,285,287,288,289,290,291,294,295,296,297,298,300,302,303,304,307,309,310,311,312,314,315,317,318,319,320,321,322,323,324,325,327,328,329,330,331,332,333,334,335,337,338,339,341,342,343,347,348,349,350,351,352,353,354,355,356,357,358,359,360,361,363,364,365,366,368,370,371,372,374,375,376,377,378,379,380,381,382,383,384,385,386,387,388,389,390,392,393,394,395,396,397,398,406],{ty:=xO,ze:=some [.nilFunc]})]
def T(t:TypeId):bj:=tgF tS tN tL t
def vK:f_ Tryz.prog T:=afK (Lt (S:=tS) (N:=tN) (L:=tL) (by kernel_rfl) (by kernel_rfl) (by kernel_rfl))
def Ap:∀q∈aha,akW Tryz.prog q:=λq h=>by cases h
def mixed:Tryz.prog.follows .mixedOrders=true:=by kernel_rfl
section
set_option maxHeartbeats 400000
def mA(e:Int):Value:=.iface 119 (.agg #[.int .i64 e])
def aas(e:Int)(w:World)(b:e≠0):Calls Tryz.prog 97 #[.int .i64 e] w λx a=>x=.panicked [{v:=mA e,recovered:=false}]/\w=a:=by
 go_enter auD,Tryz.ntmps97
 go_wp2
 exact⟨rfl,rfl,rfl⟩
end
variable{s:Array Oper}{C:Bs}{u:Code}{n:Env}{t:Func}{B:Hp}{y:List AV}{i:List Oper}{j:List PanicEntry}
section
variable{P:Program}{st:St}{dm:Exit->St->Prop}
def TC(P:Program)(c:Code)(st:St)(dm:Exit->St->Prop):Prop:=
 ∀w0 Rd0 e a w Q,Ga w0 Rd0 e st a w->(∀x FY,dm x FY->∀e' a' w',Ga w0 Rd0 e' FY a' w'->Q x a' w')->c.wp P Q a w
def TC.ac(h:AC false P u st dm):TC P u st dm:=λn b e a w Q i j=>
 wpIn_wide.1 (h none n b e a w Q (λh=>by cases h) i λx l k p o f d c m g _=>by
  obtain⟨rfl,rfl⟩:=f.ne rfl;exact j x l k d c m g)
def TC.mono{b:Exit->St->Prop}(h:TC P u st dm)(i:∀x s,dm x s->b x s):TC P u st b:=λk d e a w Q f g=>h k d e a w Q f λx c j=>g x c (i x c j)
def TC.seq{x y:Code}(h:TC P x st (Kq (λb=>TC P y b dm) dm)):TC P (.seq x y) st dm:=λm k e a w Q o g=>by
 refine asf (h m k e a w _ o λn b i d c j f=>?_);cases n with
 |normal=>exact i m k d c j Q f g
 |exit id=>exact g _ b i d c j f
 |goto l=>exact g _ b i d c j f
 |ret=>exact g _ b i d c j f
 |panic p=>exact g _ b i d c j f
 |outgrown=>exact g _ b i d c j f
def TC.ex{T:TypeId->bj}{b:List iS}{N:Nat}(d:Place P T b)(c:Am u=true){pl:Pl}{E:cC}{R:Type}{k:Exit->cC->Option R}{r:R}(h:ua T b N u pl E R k=some r):TC P u (bg E) λx s=>∃a,s=bg a/\a.n=E.n/\k x a=some r:=
 .ac (aah d u false (λ_=>c) pl E R k r h)
def TL(P:Program)(ops:Array Oper)(l:List Oper)(st:St)(dm:Exit->St->Prop):Prop:=
 ∀w0 Rd0 e a w Q,Ga w0 Rd0 e st a w->(∀x FY,dm x FY->∀e' a' w',Ga w0 Rd0 e' FY a' w'->Q x a' w')->wpList P ops Q l a w
def TL.cons{o:Oper}(h:∀c:St->Prop,(∀b,TL P s i b dm->c b)->GS P s o st c):TL P s (o::i) st dm:=by
 intro j d e a w Q n q;refine atb λk m=>?_;exact h (λb=>TL P s i b dm) (λ_ h=>h) j d e a w k Q n λb r l f g p=>m f g (r j d l f g Q p q)
def TL.of(h:AL P s i st (dm .normal)):TL P s i st dm:=λj b e a w Q c d=>h j b e a w Q c λg f=>d .normal g f
def TC.region{id:Nat}(h:TL P i.toArray i st dm):TC P (.region id i.toArray false) st dm:=λf b e a w Q c d=>
 wp_region_lit (h f b e a w Q c d)
def SP(P:Program)(o:Oper)(st:St)(dm:Exit->St->Prop):Prop:=
 ∀w0 Rd0 e a w next Q,Ga w0 Rd0 e st a w->(∀x FY,dm x FY->∀e' a' w',Ga w0 Rd0 e' FY a' w'->Q x a' w')->o.wp P a w next Q
def TL.last{o:Oper}(d:o.guard=none)(h:SP P o st dm):TL P s (o::i) st dm:=by
 intro j c e a w Q f g;refine atb λb k=>?_;rw[aqd (by simp[Region.wanted,d])];exact h j c e a w b Q f g
def PCX(P:Program)(f:FuncId)(H0:Hp)(av:List AV)(ch:List PanicEntry):Prop:=
 Enters P f/\∀B Rd e w vs,SR B Rd e H0 w->LR (VR (bF B Rd e H0 w) (some e)) av vs->Calls P f vs.toArray w λx w'=>x=.panicked ch/\∃e',SR B Rd e' [] w'
def SR.nil{Rd:Nat->Nat->Value->Prop}(d:SR C Rd n B c):SR C Rd n [] c:=
 ⟨d.ext,d.jG,(λk ob a=>by cases a),(λk ob b a=>by cases a),(λk e ob f b a=>by cases a),d.tV⟩
def PCX.intro{c:Code}(v:P.funcs[h]? =some t)(J:(t.name== "runtime.NumGoroutine")=false)(q:t.body=some c)(Q:y.length<=t.ntmps)(G:t.ntmps<=1000000)
 (b:TC P c ⟨t.ntmps,qP 0 y,B⟩ λx _=>x=.panic j):PCX P h B y j:=by
 refine⟨⟨t,v,J,by rw[q];rfl⟩,λa Rd e w k f M=>auE v q ?_⟩;obtain⟨g,l⟩:∃g:Bs,g=⟨a.w,a.own,a.bJ,a.sv,[]⟩:=⟨_,rfl⟩;have L:SR g Rd e B w:=by
  subst l;exact⟨⟨f.ext.os,f.ext.tape,f.ext.output,f.ext.size,f.ext.block,f.ext.drawn⟩,f.jG,f.ob,f.base,f.inj,f.tV⟩
 have F:∀e b w,SR g Rd e b w->SR a Rd e b w:=by
  subst l;exactλe b w d=>⟨⟨d.ext.os,d.ext.tape,d.ext.output,d.ext.size,d.ext.block,d.ext.drawn⟩,d.jG,d.ob,d.base,d.inj,d.tV⟩
 have p:LR (VR (bF g Rd e B w) (some e)) y k:=by subst l;exact M
 have s:g.df=[]:=by subst l;rfl
 have I:Ga g Rd e ⟨t.ntmps,qP 0 y,B⟩ {tmps:=k.toArray++Array.replicate (t.ntmps - k.toArray.size) undef,defers:=[]} w:=by
  refine⟨⟨by simp[p.1];omega,G⟩,by rw[s],L,λi=>?_⟩;rw[vV];simp only[aqI,aqP,ate];by_cases o:i<y.length
  ·have r:y[i]? =some y[i]:=aqm o
   obtain⟨u,C,K⟩:=p.get r;have n:y.getD i .un=y[i]:=by simp[List.getD,r]
   have E:(k.toArray++Array.replicate (t.ntmps - k.toArray.size) undef).getD i undef=u:=by
    have A:i<k.length:=by rw[p.1];exact o
    simp[ary,atf,A];rw[aqm A]at C;simpa using C
   rw[n,E];exact K
  ·have n:y.getD i .un=.un:=by simp[List.getD,aq1 (asT o)]
   rw[n];exact .un
 refine b g Rd _ _ w _ I λx R N D m O z=>?_;subst N;have H:m.defers=[]:=z.d.trans s;show Leaves P t m.tmps _ m.defers (.panicking j) O;rw[H];exact⟨rfl,D,F _ _ _ z.sr.nil⟩
end
section
variable{P:Program}{st:St}{dm:Exit->St->Prop}{d:Nat}{ty:TypeId}{pos:String}{af:Array Edge}{gd:Option (Nat×Bool)}
def SP.Ry{op:Op}{D:List (Nat×Nat)}{h' r:Hp}{t:List AV}(A:PCX P h r t j)(H:Kb P ⟨some d,op,ty,pos,af,gd⟩ st h y)(I:Rx st D (1000*(d+1)) h' r t y)(v:Ka (1000*(d+1)) D=true)
 (F:dm (.panic j) ⟨st.n,qb (mv (1000*(d+1))) st.t,na D++gW (mv (1000*(d+1))) h'⟩):SP P ⟨some d,op,ty,pos,af,gd⟩ st dm:=by
 intro B s e a w next Q f K
 obtain⟨W,R,M⟩:=H A.1 B s e a w f;obtain⟨C,l,q,z,S⟩:=I B s e w _ f.sr R;have m:=f.cA l;have N:=m.sr.nc q v z;have G:=A.2 _ _ _ w W N (S.nO λb o u J=>J.nc q λp ob L=>by
  obtain⟨c,V,x,k,_⟩:=z p ob L;exact⟨c,x,V,k⟩)
 unfold Oper.wp;rw[M w];show Calls P h _ w _;refine G.mono λx X U=>?_;obtain⟨rfl,E,O⟩:=U;obtain⟨j1,j2,j3,j4⟩:=SR.eh m.sr q v O rfl;refine K _ _ F (C.eh D (1000*(d+1)) E) a X ⟨m.n,m.d,j1,λi=>?_⟩;rw[lL];exact((((m.tr i).mono j2).jH _).FG rfl (mv (1000*(d+1))) (nN _ _) (λg n=>by simp[Env.eh,n]) (λg n=>by simp[Env.eh,n]))
end
def aat(c:iS)(d:Nat)(hg:Nat->Option dR)(av:List EV):Option (kf c.cs×List Nat×List (Nat×Nat)):=
 let D:=K0 hg c.hs (o0 c.ps av [])
 cond (av.all ZM) (match lk hg c.pu (mI (fG D (1000*(d+1))) c.ps) av with
 |some (vs,gs)=>match Db hg D (1000*(d+1)) c.hs with
  |some ws=>match tY c.cs (vs++ws)with
   |some x=>cond (Ka (1000*(d+1)) D && gs.all (λk=>(O4 D k).isNone) && D.all (λq=>c.hs.any λr=>Nat.beq r.1 q.1) && (c.pu||gs.all (K4 hg)) && !c.pu) (some (x,gs,D)) none
   |none=>none
  |none=>none
 |none=>none) none
section
variable{P:Program}{st:St}{dm:Exit->St->Prop}{d:Nat}{ty:TypeId}{pos:String}{af:Array Edge}{gd:Option (Nat×Bool)}
def SP.ctr{c:iS}{ev:Nat->EV}{a:Nat->Option dR}{b:List EV}{x:kf c.cs}{gs:List Nat}{D:List (Nat×Nat)}{i:Op}(h:aat c d a b=some (x,gs,D))(r:PCX P c.f (bs (c.H0 x)) (bO (c.as x)) j)
 (q:Kb P ⟨some d,i,ty,pos,af,gd⟩ st c.f (bO b)) (m:∀k,aY st.h k=(a k).map bS)
 (n:dm (.panic j) ⟨st.n,qb (mv (1000*(d+1))) st.t,na D++gW (mv (1000*(d+1))) (bs (gk a gs)++st.h)⟩):SP P ⟨some d,i,ty,pos,af,gd⟩ st dm:=by
 unfold aat at h;obtain⟨_,h⟩:=aX h;generalize K0 a c.hs (o0 c.ps b [])=l at h;split at h
 ·rename_i z y o
  split at h
  ·rename_i A s
   split at h
   ·rename_i B e
    have e:=wc e;obtain⟨g,h⟩:=aX h;simp only[aqe,arq]at g;obtain⟨⟨⟨⟨f,t⟩,u⟩,v⟩,w⟩:=g;have p:Bm (l.map (·.2))=true:=by simp only[Ka,aqe]at f;exact f.1.2
    cases h;exact SP.Ry r q (ra o s e t u v w p (λk _=>m k)) f n
   ·cases h
  ·cases h
 ·cases h
end
noncomputable def oa(N:Nat):List iS:=[]
def qc:Pl:=.z
def gy:PS:=⟨[(2,.h .b)],[],[.b]⟩
noncomputable def gz(N:Nat):Int->Option (Bool):=exF T oa N (gJ Tryz.f197) 6 qc [.h (.i .i64)] [] [(.i .i64)] gy
noncomputable def qd(N:Nat):iS:=⟨197,[.h (.i .i64)],[],[(.i .i64)],kf gy.c,gz N,λy _ k=>k (vf T (eL 6 gy y) Tryz.f197.results.toList) (fo [] (eL 6 gy y).h),false,true⟩
def vh N x:gz (N+1) x=some (!(x=x)):=by kernel_rfl
def vj(N:Nat):(qd N).ok Tryz.prog:=rh (T:=T) (CT:=oa) (N:=N) (λM=>⟨vK,jV,mixed,Ap⟩) Tryz.func197 (by kernel_rfl) (by kernel_rfl) qc [.h (.i .i64)] [] [(.i .i64)] gy false true [] (by kernel_rfl) (λy=>by kernel_rfl) (λ_=>⟨rfl,rfl⟩) (λy=>by kernel_rfl) (gz N) (λx=>by kernel_rfl)
noncomputable def l4(N:Nat):List iS:=[qd N]
def mJ:Pl:=.z
def fx:PS:=⟨[(4,.h (.i .i64))],[],[(.i .i64)]⟩
noncomputable def cx(N:Nat):Int×Int->Option (Int):=exF T l4 N (gJ Tryz.f144) 20 mJ [.h (.i .i64),.h (.i .i64)] [] [(.i .i64),(.i .i64)] fx
noncomputable def fy(N:Nat):iS:=⟨144,[.h (.i .i64),.h (.i .i64)],[],[(.i .i64),(.i .i64)],kf fx.c,cx N,λy _ k=>k (vf T (eL 20 fx y) Tryz.f144.results.toList) (fo [] (eL 20 fx y).h),false,true⟩
def ri N x y:cx (N+1) (x,y)=aW (gz N x) λb=>
 aW (gz N y) λa=>
 cond b
  (cond a
   (some 0)
   (some (-1)))
  (cond a
   (some 1)
   (cond (x<y)
    (some (-1))
    (cond (y<x)
     (some 1)
     (some 0)))):=by kernel_rfl
def fA(N:Nat):(fy N).ok Tryz.prog:=rh (T:=T) (CT:=l4) (N:=N) (λM=>⟨vK,(eX (vj M) jV),mixed,Ap⟩) Tryz.func144 (by kernel_rfl) (by kernel_rfl) mJ [.h (.i .i64),.h (.i .i64)] [] [(.i .i64),(.i .i64)] fx false true [] (by kernel_rfl) (λy=>by kernel_rfl) (λ_=>⟨rfl,rfl⟩) (λy=>by kernel_rfl) (cx N) (λx=>by kernel_rfl)
noncomputable def nt(N:Nat):List iS:=[]
def rj:PS:=⟨[(3,.h (.i .i64)),(6,.h (.sl (.i .i64))),(7,.h (.i .i64)),(8,.h (.i .i64))],[],[(.i .i64),(.sl (.i .i64)),(.i .i64),(.i .i64)]⟩
def rk:List (Exit×PS):=[((.exit 0),⟨[(3,.h (.i .i64))],[],[(.i .i64)]⟩),(.ret,⟨[(2,.h (.i .i64))],[],[(.i .i64)]⟩)]
def rl:Pl:=.z
noncomputable def l5(N:Nat):Nat->Int×(List Int)×Int×Int->Option ((Int)⊕(Int)):=Dv (ua T (nt N) N (iD [1,1,0,1,0,0] (gJ Tryz.f143))) 18 rj rk rl
def wj:Pl:=(.n .z (.n .z (.n (.n .z (.n (.loop rj rk rl) .z)) .z)))
def jt:PS:=⟨[(2,.h (.i .i64))],[],[(.i .i64)]⟩
noncomputable def gn(N:Nat):(List Int)->Option (Int):=exF T nt N (gJ Tryz.f143) 18 wj [.h (.sl (.i .i64))] [] [(.sl (.i .i64))] jt
noncomputable def lC(N:Nat):iS:=⟨143,[.h (.sl (.i .i64))],[],[(.sl (.i .i64))],kf jt.c,gn N,λy _ k=>k (vf T (eL 18 jt y) Tryz.f143.results.toList) (fo [] (eL 18 jt y).h),false,true⟩
def jW N m b c d a:l5 N (m+1) (b,c,d,a)=cond (a<d)
 (aW (aZ c a) λe=>
  cond (!(e=b))
   (some (.inr e))
   ((l5 N m (b,c,d,(IntKind.wrap .i64 (a+1))))))
 (some (.inl b)):=by kernel_rfl
def Bv N a:gn (N+1) a=aW (l5 N N (0,a,(List.length a:Int),0)) λb=>
 (match b with
 |.inl c=>some c
 |.inr d=>some d):=by kernel_rfl
def k8(N:Nat):(lC N).ok Tryz.prog:=rh (T:=T) (CT:=nt) (N:=N) (λM=>⟨vK,jV,mixed,Ap⟩) Tryz.func143 (by kernel_rfl) (by kernel_rfl) wj [.h (.sl (.i .i64))] [] [(.sl (.i .i64))] jt false true [] (by kernel_rfl) (λy=>by kernel_rfl) (λ_=>⟨rfl,rfl⟩) (λy=>by kernel_rfl) (gn N) (λx=>by kernel_rfl)
noncomputable def qe(N:Nat):List iS:=[fy N,lC N]
def rm:Pl:=.z
def hB:PS:=⟨[(4,.h (.i .i64))],[],[(.i .i64)]⟩
noncomputable def hC(N:Nat):Int×Int×Int×Int->Option (Int):=exF T qe N (gJ Tryz.f76) 17 rm [.ag [.h (.i .i64),.h (.i .i64)],.ag [.h (.i .i64),.h (.i .i64)]] [] [(.i .i64),(.i .i64),(.i .i64),(.i .i64)] hB
noncomputable def l6(N:Nat):iS:=⟨76,[.ag [.h (.i .i64),.h (.i .i64)],.ag [.h (.i .i64),.h (.i .i64)]],[],[(.i .i64),(.i .i64),(.i .i64),(.i .i64)],kf hB.c,hC N,λy _ k=>k (vf T (eL 17 hB y) Tryz.f76.results.toList) (fo [] (eL 17 hB y).h),false,true⟩
def wm N a c b d:hC (N+1) (a,c,b,d)=aW (cx N (a,b)) λe=>
 aW (cx N (c,d)) λf=>
 aW (gn N [e,f]) λg=>
 some g:=by kernel_rfl
def mK(N:Nat):(l6 N).ok Tryz.prog:=rh (T:=T) (CT:=qe) (N:=N) (λM=>⟨vK,(eX (fA M) (eX (k8 M) jV)),mixed,Ap⟩) Tryz.func76 (by kernel_rfl) (by kernel_rfl) rm [.ag [.h (.i .i64),.h (.i .i64)],.ag [.h (.i .i64),.h (.i .i64)]] [] [(.i .i64),(.i .i64),(.i .i64),(.i .i64)] hB false true [] (by kernel_rfl) (λy=>by kernel_rfl) (λ_=>⟨rfl,rfl⟩) (λy=>by kernel_rfl) (hC N) (λx=>by kernel_rfl)
noncomputable def ub(N:Nat):List iS:=[l6 N]
def wq:Pl:=.z
def ju:PS:=⟨[(4,.h (.i .i64))],[],[(.i .i64)]⟩
noncomputable def lD(N:Nat):Int×Int×Int×Bool×Int×Int×Int×Bool->Option (Int):=exF T ub N (gJ Tryz.f75) 16 wq [.ag [.h (.i .i64),.h (.i .i64),.h (.i .i64),.h .b],.ag [.h (.i .i64),.h (.i .i64),.h (.i .i64),.h .b]] [] [(.i .i64),(.i .i64),(.i .i64),.b,(.i .i64),(.i .i64),(.i .i64),.b] ju
noncomputable def wu(N:Nat):iS:=⟨75,[.ag [.h (.i .i64),.h (.i .i64),.h (.i .i64),.h .b],.ag [.h (.i .i64),.h (.i .i64),.h (.i .i64),.h .b]],[],[(.i .i64),(.i .i64),(.i .i64),.b,(.i .i64),(.i .i64),(.i .i64),.b],kf ju.c,lD N,λy _ k=>k (vf T (eL 16 ju y) Tryz.f75.results.toList) (fo [] (eL 16 ju y).h),false,true⟩
def Bw N a c e f b d g h:lD (N+1) (a,c,e,f,b,d,g,h)=aW (hC N (a,c,b,d)) λi=>
 some i:=by kernel_rfl
def By(N:Nat):(wu N).ok Tryz.prog:=rh (T:=T) (CT:=ub) (N:=N) (λM=>⟨vK,(eX (mK M) jV),mixed,Ap⟩) Tryz.func75 (by kernel_rfl) (by kernel_rfl) wq [.ag [.h (.i .i64),.h (.i .i64),.h (.i .i64),.h .b],.ag [.h (.i .i64),.h (.i .i64),.h (.i .i64),.h .b]] [] [(.i .i64),(.i .i64),(.i .i64),.b,(.i .i64),(.i .i64),(.i .i64),.b] ju false true [] (by kernel_rfl) (λy=>by kernel_rfl) (λ_=>⟨rfl,rfl⟩) (λy=>by kernel_rfl) (lD N) (λx=>by kernel_rfl)
noncomputable def rn(N:Nat):List iS:=[fy N]
def uc:Pl:=.z
def iH:PS:=⟨[(4,.h (.i .i64))],[],[(.i .i64)]⟩
noncomputable def kg(N:Nat):(List Int)×(List Int)->Option (Int):=exF T rn N (gJ Tryz.f258) 12 uc [.h (.sl (.i .i64)),.h (.sl (.i .i64))] [] [(.sl (.i .i64)),(.sl (.i .i64))] iH
noncomputable def ud(N:Nat):iS:=⟨258,[.h (.sl (.i .i64)),.h (.sl (.i .i64))],[],[(.sl (.i .i64)),(.sl (.i .i64))],kf iH.c,kg N,λy _ k=>k (vf T (eL 12 iH y) Tryz.f258.results.toList) (fo [] (eL 12 iH y).h),false,true⟩
def zq N a b:kg (N+1) (a,b)=aW (aZ a 0) λc=>
 aW (aZ b 0) λd=>
 aW (cx N (c,d)) λe=>
 some e:=by kernel_rfl
def zr(N:Nat):(ud N).ok Tryz.prog:=rh (T:=T) (CT:=rn) (N:=N) (λM=>⟨vK,(eX (fA M) jV),mixed,Ap⟩) Tryz.func258 (by kernel_rfl) (by kernel_rfl) uc [.h (.sl (.i .i64)),.h (.sl (.i .i64))] [] [(.sl (.i .i64)),(.sl (.i .i64))] iH false true [] (by kernel_rfl) (λy=>by kernel_rfl) (λ_=>⟨rfl,rfl⟩) (λy=>by kernel_rfl) (kg N) (λx=>by kernel_rfl)
variable{m:Array Value}{g:List Value}{o:World}
section
open Go Go.RowKit Go.Shelf Go.Sort
section
def jv{α:Type}(lt:α->α->Bool)(l:List α):Prop:=l.Pairwise λx y=>lt x y=true\/lt y x=true
open Classical in
def IE{α:Type}(lt:α->α->Bool)(l:List α):Option (List α):=if jv lt l/\l.length<1099511627776 then some (l.mergeSort λx y=> !lt y x)else none
def Gr{a:b->b->Bool}{l r:List b}(h:IE a l=some r):jv a l/\l.length<1099511627776/\r=l.mergeSort λx y=> !a y x:=by
 unfold IE at h;split at h
 ·rename_i c
  exact⟨c.1,c.2,(aql h).symm⟩
 ·cases h
def jv.perm{a:b->b->Bool}{l r:List b}(h:jv a l)(c:l.Perm r):jv a r:=c.pairwise h λ{x y} h=>h.symm
def pa{α:Type}{b:α->α->Bool}(m:∀x y,b x y=true->b y x=true->False):∀{l r:List α},l.Perm r->jv b l->l.Pairwise (λx y=>b y x=false)->r.Pairwise (λx y=>b y x=false)->l=r
 |[],r,a,_,_,_=>by rw[List.nil_perm.1 a]
 |x::l,[],a,_,_,_=>by simp at a
 |x::l,y::r,a,f,g,i=>by
  have n:x=y:=by
   have d:x∈y::r:=a.subset (by simp);have c:y∈x::l:=a.symm.subset (by simp);rcases aqG.1 d with e|d
   ·exact e
   rcases aqG.1 c with e|c
   ·exact e.symm
   have j:=(ar1.1 g).1 y c;have k:=(ar1.1 i).1 x d;rcases(ar1.1 f).1 y c with h|h
   ·rw[k]at h;cases h
   ·rw[j]at h;cases h
  subst n;rw[pa m ((List.perm_cons x).1 a) (ar1.1 f).2 (ar1.1 g).2 (ar1.1 i).2]
def vk{e:b->b->Bool}(g:SWO e){l r:List b}(j:r.Perm l)(k:jv e l)(n:r.Pairwise λx y=>e y x=false):r=l.mergeSort λx y=> !e y x:=by
 have m:=auF l λx y=> !e y x;refine pa (λx y i f=>by have:=g.trans _ _ _ i f;rw[g.irrefl]at this;cases this) (j.trans m.symm) (k.perm j.symm) n ?_;have:=ave (le:=λx y=> !e y x) (λa d c i f=>by
  simp only[arq]at i f⊢;exact g.ntrans _ _ _ f i) (λa d=>by
  cases h:e d a with
  |false=>rfl
  |true=>
   cases f:e a d with
   |false=>rfl
   |true=>have:=g.trans _ _ _ h f;rw[g.irrefl]at this;cases this) l
 exact this.imp λh=>by simpa using h
def Sf [Inhabited b]{d a:Array b}(h:PermIn 0 d.size d a):a.toList.Perm d.toList:=by
 have f:=h.2.2;have c:d.extract 0 d.size=d:=by simp
 have e:a.extract 0 d.size=a:=by rw[<-h.1];simp
 rwa[c,e]at f
def Gs [Inhabited b]{c:b->b->Bool}{d a:Array b}(m:a.size=d.size)(h:SortedIn c 0 d.size a):a.toList.Pairwise λx y=>c y x=false:=by
 rw[atH];intro i j e k g;have f:i<a.size:=by simpa using e
 have l:j<a.size:=by simpa using k
 have:=h i j (aqI _) g (by omega);rw[as0 a i f,as0 a j l]at this;simpa using this
structure aiN(w W:World)(b:Nat)(cur:Array Value)(t:TypeId)(us:List Value):Prop where
 os:W.os=w.os
 tape:W.tape=w.tape
 output:W.output=w.output
 size:w.heap.size<=W.heap.size
 drawn:w.drawn<=W.drawn
 other:∀k,k≠b->k<w.heap.size->W.heap[k]? =w.heap[k]?
 row:∃aiO,W.heap[b]? =some (.cells aiO t (0,0))/\aiO.size=cur.size/\aiO.toList.take us.length=us
def aau [Inhabited b]{f:Array Value}(h:c.heap[d]? =some (.cells f e (0,0)))(enc:b->Value)(m:Nat)(a:Array b)(p:Array Obj)(q:a.size<=f.size):aiN c (grow (putRow enc (Sort.ahead c m) d 0 a) p) d f e (a.toList.map enc):=by
 have i:d<c.heap.size:=(aqU.1 h).1;refine⟨rfl,rfl,rfl,by simp,by show c.drawn<=c.drawn+m;omega,λk n o=>?_,putCells enc 0 a f,?_,by simp[putCells],?_⟩
 ·simp only[grow,putRow,mapBlock,heap_ahead]
  rw[asE (by simpa using o),arY,aqc (Ne.symm n)]
 ·simp only[grow,putRow,mapBlock,heap_ahead]
  rw[asE (by simpa using i),arY,aqd rfl,h];rfl
 ·refine arZ λj=>?_
  rw[aqT,aqn,asv];by_cases g:j<a.size
  ·have l:j<f.size:=by omega
   rw[aqd g,arC,aqA,arC,putCells,Array.getElem?_mapIdx,aqX l,aqX g];simp[g]
  ·rw[aqc g,aqA,arC,Array.getElem?_eq_none (by omega)]
   rfl
def IF(h:Ext c o):∃q b,o=grow (c.drewN q) b:=by
 obtain⟨p,a⟩:=regrown_of_below h.FF;have d:c.drawn<=p.d:=by
  have:=h.drawn;rw[a]at this;exact this
 refine⟨p.d - c.drawn,p.os,a.trans ?_⟩;congr 1;unfold redrawn World.drewN;congr 1;omega
variable{P:Program}{ρ:Ren}
def aav{Rd:Nat->Nat->Value->Prop}(D:SR C Rd n B c)(K:C.gU d)(p:aiN c o d m e g)(s:∀a u,¬bF C Rd n B c d a u)
 {vs:List Value} (r:Bn P k [] y [] (.v (.int .i64 A))) (F:LR (VR (bF C Rd n B c) none) y vs):Calls P k vs.toArray o λx j=>x=.returned (.int .i64 A)/\∃q I,j=grow (o.drewN q) I:=by
 have i:∀b a u,bF C Rd n B c b a u->o.cell? ⟨b,a,none⟩=some u:=λb a u f=>by
  have z:b≠d:=λn=>s a u (n▸f);have w:=asg c _ f.1;have:=p.other b z w;rw[<-f.1];unfold World.cell?;rw[this]
 have l:afL o:=λb a u t=>i b a u (D.CD t);refine(r.2 (b0 o) (Rw o) e0 o vs (sr0 o l) (F.imp λ_ _ h=>(h.mono λb a u f=>alc (i b a u f)).cJ)).mono λx j H=>?_;obtain⟨v,J,rfl,E,G⟩:=H;exact⟨by rw[G.bE],IF (E.ext.ext λ_ h=>h)⟩
def Qb{Rd:Nat->Nat->Value->Prop}{a q:Nat}{v p:List (List AV)}(t:SR C Rd n [(a,some (.arr e q v true))] c)(B:n.bJ a=some d)(Z:c.heap[d]? =some (.cells m e (0,0)))
 (X:n.sv a=.slice (some ⟨d,0,none⟩) v.length k) (R:v.length<=k) (V:k<=maxLen) (S:m.size=k*q) (l:aiN c o d m e g) (G:p.length=v.length) (Y:∀r∈p,r.length=q) (A:∀f∈p.flatten,f.one=true)
 (H:LR (VR (bF C Rd n [(a,some (.arr e q v true))] c) none) p.flatten g):SR C Rd n [(a,some (.arr e q p true))] o:=by
 have Q:=t.base a _ d bc B;have F:n.cA a=0:=(t.ob a _ bc).2.2.1 rfl;have w:∀j y,aY [(a,some (Ob.arr e q p true))] j=some y->j=a/\y=.arr e q p true:=λj y h=>by
  by_cases s:j=a
  ·subst s;rw[bc]at h;exact⟨rfl,(aql h).symm⟩
  ·rw[a_ s]at h;cases h
 have N:∀i b u,bF C Rd n [(a,some (.arr e q v true))] c i b u->bF C Rd n [(a,some (.arr e q p true))] o i b u:=λi b u x=>by
  have W:i≠d:=λz=>by
   subst z;have:=x.2.2 a _ bc B;omega
  have E:=asg c _ x.1;refine⟨?_,x.2.1,λj ob s D=>?_⟩
  ·rw[<-x.1]
   unfold World.cell?;rw[l.other i W E]
  ·obtain⟨rfl,_⟩:=w j ob s
   exact x.2.2 j _ bc D
 have U:Bx C o:=t.ext.step l.os l.tape l.output l.size (λi O E=>l.other i (λz=>O (by rw[z];exact Q.1)) E) l.drawn;refine⟨U,t.jG,λj ob s=>?_,λj ob i s D=>?_,λj j' ob y i A M _ _=>by rw[(w _ _ A).1,(w _ _ M).1],t.tV⟩
 ·obtain⟨rfl,rfl⟩:=w j ob s
  obtain⟨L,I,J,K⟩:=l.row;refine⟨Y,A,λ_=>F,.inr ⟨d,k,L,B,by rw[X,G],by rw[G];exact R,V,I,by rw[J,S],?_,by rw[F];exact aqI _⟩⟩;have:p.flatten.length=g.length:=H.1.symm;rw[this,K];exact H.imp λ_ _ h=>h.mono N
 ·obtain⟨rfl,_⟩:=w j ob s
  have:=t.base j _ i bc D;exact⟨this.1,asi this.2 l.size⟩
def pc(a:Bears P h t)(d:t.body.isNone=false):Enters P h:=by
 obtain⟨e,b,c⟩:=a;exact⟨_,c,b,d⟩
def lP:∀(r:Sc) (x:r.cQ),r.key=true->bx r x=(cU r x).map AV.v
 |.i k,x,_=>rfl
 |.b,x,_=>rfl
 |.sl r,x,h=>by simp[Sc.key]at h
 |.pr a c,x,h=>by
  simp only[Sc.key,aqe]at h;show bx a x.1++bx c x.2=(cU a x.1++cU c x.2).map AV.v;rw[lP a x.1 h.1,lP c x.2 h.2,aq4]
 |.u,x,_=>rfl
def afN(r:Sc)(x:r.cQ)(h:r.key=true):(cU r x).length=r.w:=by
 have:=eH r x;rw[lP r x h,aqn]at this;exact this
def W7(r:Sc)(x:r.cQ)(h:r.key=true):∀v∈cU r x,v.oneCell'=true:=λv a=>by
 have:=nS r x (.v v) (by rw[lP r x h];exact aqq.2 ⟨v,a,rfl⟩);exact this
def flat_get{α:Type} [Inhabited α]{enc:α->List Value}{k:Nat}(a:∀x,(enc x).length=k):∀(l:List α) (j:Nat),j<l.length*k->(l.map enc).flatten[j]? =some ((enc l[j/k]!)[j % k]!)
 |[],j,h=>by simp at h
 |x::l,j,h=>by
  rw[aqz,aqR];have f:0<k:=by
   rcases atp k with e|e
   ·subst e;simp at h
   ·exact e
  by_cases b:j<k
  ·rw[aq2 (by rw[a];exact b),auG b,asz b]
   rw[aqm (by rw[a];exact b)];simp[a,b]
  ·rw[arx (by rw[a];omega),a,flat_get a l (j - k) (by rw[aqC,aqS,asj]at h;omega)]
   have c:j/k=(j - k)/k+1:=by
    have:j=(j - k)+k:=by omega
    conv=>lhs;rw[this]
    exact Nat.add_div_right _ f
   have d:j % k=(j - k) % k:=by
    have:j=(j - k)+k:=by omega
    conv=>lhs;rw[this]
    exact Nat.add_mod_right _ _
   rw[c,d];simp
def Dz [Inhabited b]{enc:b->List Value}(c:∀x,(enc x).length=k)(d:Array b):(flatK enc k d).toList=(d.toList.map enc).flatten:=by
 refine arZ λj=>?_;have f:(d.toList.map enc).flatten.length=d.size*k:=by
  have:∀l:List b,(l.map enc).flatten.length=l.length*k:=λl=>by
   induction l with
   |nil=>simp
   |cons x l e=>rw[aqz,aqR,aqy,e,c,aqC,aqS];omega
  rw[this,asv]
 by_cases a:j<d.size*k
 ·rw[flat_get c d.toList j (by simpa using a),arC,aqX (by simpa using a)]
  have:=get_flatK enc k d j a;rw[as0 (flatK enc k d) j (by simpa using a)]at this;rw[this,show d.toList[j/k]! =d[j/k]! from Array.getElem!_toList]
 ·rw[aq1 (by simp;omega),aq1 (by omega)]
def DA(r:Sc)(h:r.key=true)(l:List r.cQ):(List.map (bx r) l).flatten=(l.map (cU r)).flatten.map AV.v:=by
 induction l with
 |nil=>rfl
 |cons x l a=>rw[aqz,aqz,aqR,aqR,aq4,a,lP r x h]
def Sg{Rd:Nat->Nat->Value->Prop}{a:List Value}(h:LR (VR Rd none) (g.map AV.v) a):a=g:=by
 refine arZ λj=>?_;have d:=h.1;rw[aqn]at d;by_cases b:j<g.length
 ·have c:=h.2 j (.v g[j]) a[j] (by simp[b]) (aqm (by omega))
  rw[aqm (by omega),aqm b,c.bE]
 ·rw[aq1 (by omega),aq1 (by omega)]
abbrev G0:Nat:=4294967296
def aho{d:AV}{Rd:Nat->Nat->Value->Prop}(c:LR (VR Rd (some n)) [.ow k,d] g):∃u,g=[n.sv k,u]/\VR Rd (some n) d u:=by
 match g,c.1 with
 |[a,b],_=>
  have e:=c.2 0 _ a rfl rfl;have f:=c.2 1 _ b rfl rfl;cases e with
  |ow=>exact⟨b,rfl,f⟩
def ald{r:Sc}(p:r.key=true)(L:SlLaysF0.n6 P ρ)(aE:∀w,(isAgg (ρ.t 24)).run P w=.ok true w)(zE:∀w,(Go.sizeOf (ρ.t 24)).run P w=.ok r.w w)(s:r.cQ->r.cQ->Int)(W:SWO (ltOf s)){g:Nat}
 (Y:∀x y,Bn P g [] [.ag (bx r x),.ag (bx r y)] [] (.v (.int .i64 (s x y)))) {U:AV} (h0:∀Rd E u,VR Rd E U u->u=.func (.func g) #[] #[]) {i ys:List r.cQ} (af:IE (ltOf s) i=some ys):
 Bn P (ρ.f 6) [(G0,some (.arr e r.w (List.map (bx r) i) true))] [.ow G0,U] [(G0,some (.arr e r.w (List.map (bx r) ys) true))] (.tu []):=by
 obtain⟨hd,aj,rfl⟩:=Gr af;refine⟨pc L.f6 rfl,λB Rd f w vs D hv=>?_⟩;obtain⟨u,rfl,hu⟩:=aho hv;obtain rfl:=h0 _ _ _ hu;obtain⟨ae,ak,a9,ac⟩:=D.ob G0 _ bc;rcases ac with⟨aa,K,a,F⟩|⟨b,a3,k,K,F,M,hm,t,Z,a0,ai⟩
 ·have G:i=[]:=by simpa using aa
  subst G;rw[F];refine(auH L a 0 _ w).mono λx w' G=>?_;obtain⟨rfl,rfl⟩:=G;exact⟨_,f,rfl,by simpa using D,.tu [] rfl λj c u h=>by simp at h⟩
 haveI:Inhabited r.cQ:=⟨zeroV r⟩
 have R:=λx=>afN r x p;obtain⟨d,N⟩:∃d:Array r.cQ,d.toList=i:=⟨i.toArray,rfl⟩;have v:d.size=i.length:=by rw[<-N,asv]
 rw[aqn]at F M;have a5:k.toList.take (List.map (bx r) i).flatten.length=(i.map (cU r)).flatten:=by
  rw[DA r p]at a0;have:=Sg a0;rw[DA r p];exact this
 have a6:(List.map (bx r) i).flatten.length=i.length*r.w:=by
  rw[dX ae,aqn]
 have X:=D.base G0 _ b bc K;have a7:∀o u,¬bF B Rd f [(G0,some (.arr e r.w (List.map (bx r) i) true))] w b o u:=λo u ab=>by
  have h1:=ab.2.2 G0 _ bc K;have h2:=a9 rfl;omega
 have O:∀dk:Array r.cQ,dk.size=d.size->(flatK (cU r) r.w dk).size<=k.size:=λdk Q=>by
  rw[size_flatK,Q,v,Z];exact asu _ M
 have hH:HoldsK (cU r) r.w w b 0 d:=λj A=>by
  have a8:j<i.length*r.w:=by rw[size_flatK,v]at A;exact A
  have ah:j<k.size:=asi A (O d rfl);rw[aqN];refine⟨?_,asN w b j k e t⟩;rw[arj w b j k e (0,0) t,as0 _ j A];have e1:(flatK (cU r) r.w d).toList=(i.map (cU r)).flatten:=by rw[Dz R,N]
  have V:k.toList[j]? =(flatK (cU r) r.w d).toList[j]? :=by
   rw[e1,<-a5,aqT,aqd (by rw[a6];exact a8)]
  rw[arC,arC,aqX A]at V;exact V
 have a4:CmpLays P g #[] (cU r) r.w s b 0 d.size w:=λm S dk Q x y=>by
  have J:=aau t id m (flatK (cU r) r.w dk) S (O dk Q);have:=aav D X.1 J a7 (Y x y) (vs:=[.agg (cU r x).toArray,.agg (cU r y).toArray]) ?_
  ·exact this
  ·have one:∀z:r.cQ,VR (bF B Rd f [(G0,some (.arr e r.w (List.map (bx r) i) true))] w) none (.ag (bx r z)) (.agg (cU r z).toArray):=λz=>by
    have l:=LR.RT (Rd:=bF B Rd f [(G0,some (.arr e r.w (List.map (bx r) i) true))] w) (E:=none) (cU r z);rw[<-lP r z p]at l;exact .ag _ l.1 l.2
   exact LR.cons (one x) (LR.cons (one y) LR.nil)
 have eg:∀H w,(callFunc g H).run P w=.ok (.enter g H) w:=λH w=>gh (Y (zeroV r) (zeroV r)).1 H w;have a1:=AnyQ.slices_SortFunc L r.w aE zE (cU r) R (λx=>W7 r x p) s W g #[] b 0 a3 d w eg a4 hH X.2 (by omega);rw[v]at a1;rw[F];refine a1.mono λx w' G=>?_;obtain⟨rfl,I,n,S,C,a2,rfl⟩:=G;rw[<-v]at C a2;have ag:=vk W (N▸Sf C) hd (Gs C.1 a2);have J:=aau t id n (flatK (cU r) r.w I) S (O I C.1);refine⟨_,f,rfl,?_,.tu [] rfl λj c u h=>by simp at h⟩;have ad:(flatK (cU r) r.w I).toList.map id=(I.toList.map (cU r)).flatten:=by rw[ar6,Dz R]
 rw[ad]at J;rw[<-ag];refine Qb D K t (by rw[aqn];exact F) (by rw[aqn];exact M) hm Z J ?_ (λq hq=>?_) (eD r _) ?_
 ·rw[aqn,aqn,asv,C.1,v]
 ·obtain⟨z,_,rfl⟩:=aqq.1 hq
  exact eH r z
 ·rw[DA r p]
  exact LR.RT _
def od(a:b->AV)(l:List b):(l.map λx=>[a x]).flatten=l.map a:=by
 induction l with
 |nil=>rfl
 |cons x l c=>rw[aqz,aqR,c];rfl
abbrev El{β:Type}(av:β->AV)(Good:β->Prop)(R:Nat->Nat->Value->Prop):Type:={p:β×Value//Good p.1/\VR R none (av p.1) p.2}
def els{β:Type}{a:β->AV}{Good:β->Prop}{R:Nat->Nat->Value->Prop}:∀{l:List β} {us:List Value},(∀x∈l,Good x)->LR (VR R none) (l.map a) us->∃d:List (El a Good R),d.map (λp=>p.1.1)=l/\d.map (λp=>p.1.2)=us
 |[],us,_,h=>by
  have:us=[]:=auI.1 h.1;exact⟨[],rfl,this.symm⟩
 |x::l,[],_,h=>by have:=h.1;simp at this
 |x::l,u::us,b,h=>by
  have g:=h.2 0 (a x) u rfl rfl;obtain⟨d,e,f⟩:=els (l:=l) (us:=us) (λy m=>b y (ari _ m)) ⟨by have:=h.1;simpa using this,λj c v i k=>h.2 (j+1) c v (by simpa using i) (by simpa using k)⟩;exact⟨⟨(x,u),b x ata,g⟩::d,by rw[aqz,e],by rw[aqz,f]⟩
def aaw{β:Type}{a:β->AV}{Good:β->Prop}{R:Nat->Nat->Value->Prop}:∀d:List (El a Good R),LR (VR R none) (d.map λp=>a p.1.1) (d.map λp=>p.1.2)
 |[]=>LR.nil
 |x::d=>LR.cons x.2.2 (aaw d)
def aou{av:b->AV}(O:∀x,(av x).one=true)(an:∀x k,av x≠.ow k)(Good:b->Prop)(L:SlLaysF.n6 P ρ)(Y:SlLaysF0.n6 P ρ)(s:b->b->Int)(J:SWO (ltOf s)){g:Nat}
 (hc:∀x y,Good x->Good y->Bn P g [] [av x,av y] [] (.v (.int .i64 (s x y)))) {Z:AV} (h0:∀Rd E u,VR Rd E Z u->u=.func (.func g) #[] #[]) {l ys:List b} (hG:∀x∈l,Good x) (aj:IE (ltOf s) l=some ys):
 Bn P (ρ.f 6) [(G0,some (.arr e 1 (l.map λx=>[av x]) true))] [.ow G0,Z] [(G0,some (.arr e 1 (ys.map λx=>[av x]) true))] (.tu []):=by
 obtain⟨hd,am,rfl⟩:=Gr aj;refine⟨pc L.f6 rfl,λB Rd i w vs v hv=>?_⟩;obtain⟨u,rfl,hu⟩:=aho hv;obtain rfl:=h0 _ _ _ hu;obtain⟨ap,ao,ae,ai⟩:=v.ob G0 _ bc;rcases ai with⟨ag,K,a,A⟩|⟨f,a8,C,K,A,S,hm,G,U,a4,al⟩
 ·have r:l=[]:=by simpa using ag
  subst r;rw[A];refine(auH Y a 0 _ w).mono λx w' r=>?_;obtain⟨rfl,rfl⟩:=r;exact⟨_,i,rfl,by simpa using v,.tu [] rfl λj c u h=>by simp at h⟩
 have ac:∀o u,¬bF B Rd i [(G0,some (.arr e 1 (l.map λx=>[av x]) true))] w f o u:=λo u ah=>by
  have O:=ah.2.2 G0 _ bc K;have h2:=ae rfl;omega
 obtain⟨R,Q⟩:∃R,bF B Rd i [(G0,some (.arr e 1 (l.map λx=>[av x]) true))] w=R:=⟨_,rfl⟩;rw[od,Q]at a4;obtain⟨d,M,a3⟩:=els hG a4;have a2:d.length=l.length:=by rw[<-M,aqn]
 rcases d with _|⟨t,d0⟩
 ·have r:l=[]:=by rw[<-M];rfl
  subst r;rw[A];refine(auH Y _ _ _ w).mono λx w' r=>?_;obtain⟨rfl,rfl⟩:=r;exact⟨_,i,rfl,by simpa using v,.tu [] rfl λj c u h=>by simp at h⟩
 haveI:Inhabited (El av Good R):=⟨t⟩
 obtain⟨D,a9⟩:∃D:Array (El av Good R),D.toList=t::d0:=⟨(t::d0).toArray,rfl⟩;rw[<-a9]at M a3 a2;have F:D.size=l.length:=by rw[<-a2,asv]
 rw[aqn]at A S;rw[arH]at U;have a0:=v.base G0 _ f bc K;have a7:∀dk:Array (El av Good R),dk.size=D.size->dk.size<=C.size:=λdk W=>by rw[W,F,U];exact S
 have hH:Holds (λp:El av Good R=>p.1.2) w f 0 D:=λj V=>by
  have ad:j<l.length:=by rw[<-F];exact V
  have ak:j<C.size:=by omega
  rw[aqN];refine⟨?_,asN w f j C e G⟩;rw[arj w f j C e (0,0) G,as0 D j V];have e2:C.toList[j]? =(D.toList.map λp=>p.1.2)[j]? :=by
   rw[a3,aqT,aqd (by rw[aqn];exact ad)]
  rw[arC,aqA,arC,aqX V]at e2;exact e2
 have ab:CmpLays1 P g #[] (λp:El av Good R=>p.1.2) (λp q=>s p.1.1 q.1.1) f 0 D.size w:=λm X dk W x y=>aav v a0.1 (aau G _ m dk X (a7 dk W)) ac (hc x.1.1 y.1.1 x.2.1 y.2.1) (by rw[Q];exact LR.cons x.2.2 (LR.cons y.2.2 LR.nil));have eg:∀I w,(callFunc g I).run P w=.ok (.enter g I) w:=λI w=>gh (hc t.1.1 t.1.1 t.2.1 t.2.1).1 I w;have aa:SWO (ltOf λ(p q:El av Good R)=>s p.1.1 q.1.1):=⟨λx=>J.irrefl _,λx y z=>J.trans _ _ _,λx y z=>J.ntrans _ _ _⟩;have a5:=Any.slices_SortFunc L (λp:El av Good R=>p.1.2) (λp=>p.2.2.jk (O _) λ_ k h=>nomatch h) (λp q=>s p.1.1 q.1.1) aa g #[] f 0 a8 D w eg ab hH a0.2 (by omega);rw[F]at a5;rw[A];refine a5.mono λx w' r=>?_;obtain⟨rfl,N,n,X,H,a6,rfl⟩:=r;rw[<-F]at H a6;have af:(N.toList.map λp=>p.1.1)=l.mergeSort λx y=> !(ltOf s) y x:=by
  refine vk J ?_ hd ?_
  ·rw[<-M];exact(Sf H).map _
  ·rw[atq];exact Gs H.1 a6
 have hW:=aau G (λp:El av Good R=>p.1.2) n N X (a7 N H.1);refine⟨_,i,rfl,?_,.tu [] rfl λj c u h=>by simp at h⟩;rw[<-af];refine Qb v K G (by rw[aqn];exact A) (by rw[aqn];exact S) hm (by rw[arH];exact U) hW ?_ (λq hq=>?_) (λc a1=>?_) ?_
 ·rw[aqn,aqn,aqn,asv,H.1,F]
 ·obtain⟨z,_,rfl⟩:=aqq.1 hq
  rfl
 ·rw[od]at a1
  obtain⟨z,_,rfl⟩:=aqq.1 a1;exact O z
 ·rw[od,aru,Q]
  exact aaw _
def aiP{ρ:Ren}(L:SlLaysM.n5 P ρ){f:List Int}(a0:f.length<1099511627776):
 Bn P (ρ.f 5) [(G0,some (.arr e 1 (f.map λx=>[AV.v (.int .i64 x)]) true))] [.ow G0] [(G0,some (.arr e 1 ((f.mergeSort λx y=>decide (x<=y)).map λx=>[AV.v (.int .i64 x)]) true))] (.tu []):=by
 refine⟨pc L.f5 rfl,λB Rd d w G m F=>?_⟩;obtain rfl:G=[d.sv G0]:=by
  match G,F.1 with
  |[a],_=>
   have I:=F.2 0 _ a rfl rfl;cases I with
   |ow=>rfl
 obtain⟨a2,a1,Y,U⟩:=m.ob G0 _ bc;rcases U with⟨R,p,a,i⟩|⟨b,H,g,p,i,r,O,l,s,t,Z⟩
 ·have k:f=[]:=by simpa using R
  subst k;rw[i];refine(AnyM.slices_Sort_int_none L a 0 w).mono λx W k=>?_;obtain⟨rfl,rfl⟩:=k;exact⟨_,d,rfl,by simpa using m,.tu [] rfl λj c u h=>by simp at h⟩
 rw[od]at t;have N:g.toList.take f.length=f.map (Value.int .i64):=by
  have o:(f.map λx=>AV.v (.int .i64 x))=(f.map (Value.int .i64)).map AV.v:=by rw[aru];rfl
  rw[o]at t;have:=Sg t;simpa using this
 rw[aqn]at i r;rw[arH]at s;have M:=m.base G0 _ b bc p;have J:Holds (Value.int .i64) w b 0 f.toArray:=λj C=>by
  have D:j<f.length:=by simpa using C
  have X:j<g.size:=by omega
  rw[aqN];refine⟨?_,asN w b j g e l⟩;rw[arj w b j g e (0,0) l,as0 _ j C];have v:g.toList[j]? =(f.map (Value.int .i64))[j]? :=by
   rw[<-N,aqT,aqd D]
  rw[arC,aqA,aqm D]at v;exact v
 have Q:=AnyM.slices_Sort_int L b 0 H f w J M.2 (by omega);rw[i];refine Q.mono λx W k=>?_;obtain⟨rfl,n,V,rfl⟩:=k;have E:(f.mergeSort λx y=>decide (x<=y)).length=f.length:=avf _;have K:=aau l (Value.int .i64) n (f.mergeSort λx y=>decide (x<=y)).toArray V (by rw[ar3,E,s];exact r);refine⟨_,d,rfl,?_,.tu [] rfl λj c u h=>by simp at h⟩;refine Qb m p l (by rw[aqn];exact i) (by rw[aqn];exact r) O (by rw[arH];exact s) K ?_ (λq S=>?_) (λc A=>?_) ?_
 ·rw[aqn,aqn,E]
 ·obtain⟨z,_,rfl⟩:=aqq.1 S
  rfl
 ·rw[od]at A
  obtain⟨z,_,rfl⟩:=aqq.1 A;rfl
 ·rw[od]
  have o:((f.mergeSort λx y=>decide (x<=y)).map λx=>AV.v (.int .i64 x))=((f.mergeSort λx y=>decide (x<=y)).map (Value.int .i64)).map AV.v:=by rw[aru];rfl
  rw[o];exact LR.RT _
end
end
section
open Go Go.RowKit Go.Lib Go.Shelf
section
def aax{Rd:Nat->Nat->Value->Prop}(i:SR C Rd n B c)(p:Bx C o)(f:Option Nat)(s:Value)(ob:Ob)(m:∀b,f=some b->C.gU b/\b<o.heap.size)
 (q:∀j,OR j (n.cz 0 f s 0) o 0 ob):SR C Rd (n.cz 0 f s 0) [(0,some ob)] o:=by
 have d:∀k a,aY [(0,some ob)] k=some a->k=0/\a=ob:=λk a h=>by
  by_cases e:k=0
  ·subst e;rw[bc]at h;exact⟨rfl,(aql h).symm⟩
  ·rw[a_ e]at h;cases h
 refine⟨p,i.jG,λk a h=>?_,λk a b h g=>?_,λk r t u b h l _ _=>?_,λk e=>?_⟩
 ·obtain⟨rfl,rfl⟩:=d k a h;exact q _
 ·obtain⟨rfl,rfl⟩:=d k a h
  exact m b (by rw[Env.bL]at g;exact g)
 ·rw[(d _ _ h).1,(d _ _ l).1]
 ·rw[Env.br (by omega),Env.cW (by omega)];exact i.tV k e
def aay(w:World)(o:Obj):(w.alloc o).heap[w.heap.size]? =some o:=by
 unfold World.alloc;exact Array.getElem?_push_size
variable{P:Program}{ρ:Ren}
def Lx(L:Lays8.n4 P ρ)(d:TypeInfo)(z:Value)(G:P.info? (ρ.t 25)=some d)(Q:d.zero=some z)(K:0<d.size)(O:z.cells.size=d.size)(E:d.bytes<=64)(n:Nat)(U:n<=1099511627776):
 Bn P (ρ.f 4) [] [.sl true 0 [],.v (.int .i64 n)] [(0,some (.arr (ρ.t 25) d.size [] true))] (.ow 0):=by
 refine⟨by obtain⟨X,i,q⟩:=L.f4;exact⟨_,q,i,rfl⟩,λB Rd e w t f m=>?_⟩;obtain⟨o,p,rfl⟩:∃o p,t=[o,p]:=by
  match t,m.1 with
  |[a,b],_=>exact⟨a,b,rfl⟩
 obtain⟨a,S,Y,rfl,_,_,_,_,_,N,_⟩:=(m.2 0 _ o rfl rfl).lS;obtain rfl:=(m.2 1 _ p rfl rfl).bE;obtain rfl:=N rfl;by_cases C:n=0
 ·subst C
  refine(Any8.slices_Grow_room L a 0 0 0 w (by omega) (by omega) (by omega) (by omega)).mono λx y g=>?_;obtain⟨rfl,rfl⟩:=g;refine⟨_,e.cz 0 none (.slice a 0 0) 0,rfl,aax f f.ext _ _ _ (λb h=>by cases h) (λA=>⟨(λr l=>by cases l),(λc k=>by cases k),(λ_=>Env.bN),.inl ⟨rfl,Env.bL,a,Env.dz⟩⟩),?_⟩;have:= @VR.ow (bF B Rd (e.cz 0 none (.slice a 0 0) 0) [(0,some (.arr (ρ.t 25) d.size [] true))] y) (e.cz 0 none (.slice a 0 0) 0) 0;rwa[Env.dz]at this
 ·have D:(0+n)*d.bytes<=140737488355328:=by
   have:(0+n)*d.bytes<=1099511627776*64:=arO (by omega) E;omega
  refine(Any8.slices_Grow_grow L d z G Q K a 0 0 n [] w (by omega) (by omega) D (by omega) (by simp) (λ_=>rfl) (λ_ _ j v H=>by simp at H)).mono λx y g=>?_;obtain⟨rfl,rfl⟩:=g;have V:=arF w (0+n) 0 (ρ.t 25);have J:B.gU w.heap.size:=f.ext.gU (aqf _);have g:=f.ext.drew.alloc (.cells ([].toArray++Builtin.zeroCells z.cells (0+n - 0)++Builtin.zeroCells z.cells (grownCap w (0+n) 0 (ρ.t 25) - (0+n))) (ρ.t 25));have s:=aay w.drew (.cells ([].toArray++Builtin.zeroCells z.cells (0+n - 0)++Builtin.zeroCells z.cells (grownCap w (0+n) 0 (ρ.t 25) - (0+n))) (ρ.t 25));have M:(Array.mk ([]:List Value)++Builtin.zeroCells z.cells (0+n - 0)++Builtin.zeroCells z.cells (grownCap w (0+n) 0 (ρ.t 25) - (0+n))).size=grownCap w (0+n) 0 (ρ.t 25)*d.size:=by
   simp only[asr,arR,ar3,aq5,O];rw[aqN,<-aqS];congr 1;omega
  have F:=aud w (0+n) 0 (ρ.t 25) (by unfold maxLen;omega);generalize grownCap w (0+n) 0 (ρ.t 25)=c at*;generalize w.drew.alloc _=W at*;have I:w.heap.size<W.heap.size:=(aqU.1 s).1;refine⟨_,e.cz 0 (some w.heap.size) (.slice (some ⟨w.heap.size,0,none⟩) 0 c) 0,rfl,aax f g _ _ _ (λR h=>by cases h;exact⟨J,I⟩) (λA=>⟨(λr l=>by cases l),(λc k=>by cases k),(λ_=>Env.bN),.inr ⟨_,_,_,Env.bL,by rw[Env.dz];rfl,aqI _,F,s,M,⟨rfl,λj c u i q=>by simp at i⟩,by rw[Env.bN];exact aqI _⟩⟩),?_⟩;have:= @VR.ow (bF B Rd (e.cz 0 (some w.heap.size) (.slice (some ⟨w.heap.size,0,none⟩) 0 c) 0) [(0,some (.arr (ρ.t 25) d.size [] true))] W) (e.cz 0 (some w.heap.size) (.slice (some ⟨w.heap.size,0,none⟩) 0 c) 0) 0;rwa[Env.dz]at this
def Ly(x:Int)(y:Unit)(h:cond (decide (0<=x/\x<=1099511627776)) (some ()) none=some y):∃n:Nat,x=(n:Int)/\n<=1099511627776:=by
 by_cases a:0<=x/\x<=1099511627776
 ·exact⟨x.toNat,by omega,by omega⟩
 ·rw[aqK a]at h;cases h
end
end
variable{v:Program}
section
open Go Go.RowKit Go.Lib Go.Shelf Go.Sort
def aiQ:Ren:=⟨λ|6=>74|14=>141|20=>187|21=>188|22=>189|23=>190|24=>191|25=>192|26=>193|27=>194|46=>240|49=>243|50=>244|57=>269|15=>142|28=>195|29=>196|47=>241|48=>242|x=>x,λ|0=>0|3=>3|4=>4|5=>5|9=>9|22=>22|24=>127|25=>177|39=>160|45=>292|46=>293|50=>134|53=>66|55=>299|66=>336|70=>340|76=>362|77=>162|x=>x,λx=>x⟩
def afO:Ren:=⟨λ|6=>139|14=>185|20=>232|21=>233|22=>234|23=>235|24=>236|25=>237|26=>238|27=>239|46=>266|49=>267|50=>268|57=>284|15=>142|28=>195|29=>196|47=>241|48=>242|x=>x,λ|0=>0|3=>3|4=>4|5=>5|9=>9|22=>27|24=>46|25=>176|39=>160|45=>292|46=>293|50=>134|53=>66|55=>299|66=>336|70=>340|76=>362|77=>162|x=>x,λx=>x⟩
def aiR:Ren:=⟨λ|6=>257|14=>277|20=>289|21=>290|22=>291|23=>292|24=>293|25=>294|26=>295|27=>296|46=>306|49=>307|50=>308|57=>312|15=>142|28=>195|29=>196|47=>241|48=>242|x=>x,λ|0=>0|3=>3|4=>4|5=>5|9=>9|22=>68|24=>33|25=>353|39=>160|45=>292|46=>293|50=>134|53=>66|55=>299|66=>336|70=>340|76=>362|77=>162|x=>x,λx=>x⟩
def aiS:Ren:=⟨λ|5=>273|7=>285|10=>297|11=>298|12=>299|13=>300|14=>301|15=>302|17=>304|18=>305|30=>309|33=>310|34=>311|40=>313|8=>142|16=>303|19=>195|20=>196|31=>241|32=>242|35=>197|x=>x,λ|0=>0|3=>3|4=>4|5=>5|9=>9|22=>33|23=>33|25=>3|32=>160|35=>292|36=>293|41=>134|44=>66|46=>299|53=>336|57=>340|63=>362|64=>162|x=>x,λx=>x⟩
def ale:Ren:=⟨λ|4=>173|x=>x,λ|0=>0|3=>3|4=>4|9=>9|20=>20|22=>33|25=>3|x=>x,λx=>x⟩
def alf:Ren:=⟨λ|4=>199|x=>x,λ|0=>0|3=>3|4=>4|9=>9|20=>20|22=>22|25=>127|x=>x,λx=>x⟩
def bears(a:(((v.funcs[h]?).getD default).name== "runtime.NumGoroutine")=false)(b:v.funcs[h]? =some {t with name:=((v.funcs[h]?).getD default).name}):Bears v h t:=⟨_,a,b⟩
def aiT:SlLaysF0.n6 Tryz.prog aiQ:=by
 constructor<;>first|exact mixed|exact bears (by kernel_rfl) (by kernel_rfl)|exact(by kernel_rfl)|exactλw=>by kernel_rfl
def afP:SlLaysF0.n6 Tryz.prog afO:=by
 constructor<;>first|exact mixed|exact bears (by kernel_rfl) (by kernel_rfl)|exact(by kernel_rfl)|exactλw=>by kernel_rfl
def aaz:SlLaysF.n6 Tryz.prog aiR:=by
 constructor<;>first|exact mixed|exact bears (by kernel_rfl) (by kernel_rfl)|exact(by kernel_rfl)|exactλw=>by kernel_rfl
def aiU:SlLaysM.n5 Tryz.prog aiS:=by
 constructor<;>first|exact mixed|exact bears (by kernel_rfl) (by kernel_rfl)|exact(by kernel_rfl)|exactλw=>by kernel_rfl
def alg:Lays8.n4 Tryz.prog ale:=by
 constructor<;>first|exact mixed|exact bears (by kernel_rfl) (by kernel_rfl)|exact(by kernel_rfl)|exactλw=>by kernel_rfl
def alh:Lays8.n4 Tryz.prog alf:=by
 constructor<;>first|exact mixed|exact bears (by kernel_rfl) (by kernel_rfl)|exact(by kernel_rfl)|exactλw=>by kernel_rfl
def Qc(c:iS)(x:kf c.cs)(y:c.α)(e:EV)(H:eF){Q:Prop}(h:c.ok v)(g:c.M x=some y)(a:c.el y (EV×eF) (λe H=>some (e,H))=some (e,H))(f:Bn v c.f (bs (c.H0 x)) (bO (c.as x)) (bs H) (enc e)=Q):Q:=by
 obtain⟨j,i,b,_,_,d⟩:=h.2 x y g;rw[b]at a;cases a;exact f▸d
def zt(a b:Int):Int:=if a<b then -1 else if b<a then 1 else 0
def oe(x y:Int×Int):Int:=if zt x.1 y.1=0 then zt x.2 y.2 else zt x.1 y.1
abbrev bT:Type:=Int×Int×Int×Bool
def rp(x y:bT):Int:=oe (x.1,x.2.1) (y.1,y.2.1)
def IG(x y:List Int):Int:=zt (x.headD 0) (y.headD 0)
def wx{a b:Int}:zt a b<0↔a<b:=by
 unfold zt
 repeat' split
 all_goals omega
def og{a b:Int}:zt a b=0↔a=b:=by
 unfold zt
 repeat' split
 all_goals omega
def lQ{x y:Int×Int}:oe x y<0↔x.1<y.1\/x.1=y.1/\x.2<y.2:=by
 unfold oe;split
 ·rename_i h;have:=og.1 h;rw[wx];omega
 ·rename_i h;have:=mt og.2 h;rw[wx];omega
def Qd{d:b->b->Int}{r:b->b->Prop}(h:∀x y,d x y<0↔r x y)(e:∀x,¬r x x)(i:∀x y z,r x y->r y z->r x z)(f:∀x y z,¬r x y->¬r y z->¬r x z):SWO (ltOf d):=
 ⟨λx=>aqK (λg=>e x ((h _ _).1 g)),λx y z a c=>aqH ((h _ _).2 (i x y z ((h _ _).1 (aq7 a)) ((h _ _).1 (aq7 c)))),λx y z a c=>aqK λg=>f x y z (λr=>asn a ((h _ _).2 r)) (λr=>asn c ((h _ _).2 r)) ((h _ _).1 g)⟩
def ahp:SWO (ltOf oe):=Qd (λ_ _=>lQ) (λx=>by omega) (λx y z=>by omega) (λx y z=>by omega)
def ali:SWO (ltOf rp):=Qd (λ_ _=>lQ) (λx=>by omega) (λx y z=>by omega) (λx y z=>by omega)
def alj:SWO (ltOf IG):=Qd (λ_ _=>wx) (λx=>by omega) (λx y z=>by omega) (λx y z=>by omega)
def pd(N:Nat)(a b:Int):cx (N+3) (a,b)=some (zt a b):=by
 rw[ri];simp only[vh,arp,aqv,aW,cond];unfold zt;by_cases c:a<b
 ·simp[c]
 ·by_cases d:b<a
  ·have e:a>b:=d;simp[c,d]
  ·simp[c,d]
def Qe(N:Nat)(a b:Int):gn (N+5) [a,b]=some (if a=0 then b else a):=by
 have d:IntKind.wrap .i64 ((0:Int)+1)=1:=by decide
 have e:IntKind.wrap .i64 ((1:Int)+1)=2:=by decide
 rw[Bv,show N+4=(N+3)+1 from rfl,jW,d,show N+3=(N+2)+1 from rfl,jW,e,show N+2=(N+1)+1 from rfl,jW];by_cases h:a=0
 ·subst h
  by_cases c:b=0
  ·subst c;simp[aW,aZ]
  ·simp[aW,aZ,c]
 ·simp[aW,aZ,h]
def Lz(N:Nat)(x y:Int×Int):hC (N+6) (x.1,x.2,y.1,y.2)=some (oe x y):=by
 rw[wm,show N+5=(N+2)+3 from rfl,pd,pd,show N+2+3=N+5 from rfl];simp only[aW,Qe];rfl
def afQ(N:Nat)(x y:bT):lD (N+7) (x.1,x.2.1,x.2.2.1,x.2.2.2,y.1,y.2.1,y.2.2.1,y.2.2.2)=some (rp x y):=by
 rw[Bw];have:=Lz N (x.1,x.2.1) (y.1,y.2.1);simp only[this,aW];rfl
def afR(N:Nat)(x y:List Int)(d:x≠[])(e:y≠[]):kg (N+4) (x,y)=some (IG x y):=by
 obtain⟨a,x,rfl⟩:=atQ d;obtain⟨b,y,rfl⟩:=atQ e;rw[show N+4=(N+3)+1 from rfl,zq];have c:∀(a:Int) x,aZ (a::x) 0=some a:=λ_ _=>rfl;rw[c,c];simp only[aW];rw[pd];rfl
def aaA(x y:Int×Int):Bn Tryz.prog 76 [] [.ag (bx (.pr (.i .i64) (.i .i64)) x),.ag (bx (.pr (.i .i64) (.i .i64)) y)] [] (.v (.int .i64 (oe x y))):=by
 refine Qc (l6 6) (x.1,x.2,y.1,y.2) (oe x y) (.sc (.i .i64) (oe x y)) [] (mK 6) ?_ (by kernel_rfl) (by kernel_rfl);exact Eq.mp (by kernel_rfl) (Lz 0 x y)
def afS(x y:bT):Bn Tryz.prog 75 [] [.ag (bx (.pr (.i .i64) (.pr (.i .i64) (.pr (.i .i64) .b))) x),.ag (bx (.pr (.i .i64) (.pr (.i .i64) (.pr (.i .i64) .b))) y)] [] (.v (.int .i64 (rp x y))):=by
 refine Qc (wu 7) (x.1,x.2.1,x.2.2.1,x.2.2.2,y.1,y.2.1,y.2.2.1,y.2.2.2) (rp x y) (.sc (.i .i64) (rp x y)) [] (By 7) ?_ (by kernel_rfl) (by kernel_rfl);exact Eq.mp (by kernel_rfl) (afQ 0 x y)
def afT(x y:List Int)(a:x≠[])(b:y≠[]):Bn Tryz.prog 258 [] [.sl false 1 (x.map (bx (.i .i64))),.sl false 1 (y.map (bx (.i .i64)))] [] (.v (.int .i64 (IG x y))):=by
 refine Qc (ud 4) (x,y) (IG x y) (.sc (.i .i64) (IG x y)) [] (zr 4) ?_ (by kernel_rfl) (by kernel_rfl);exact Eq.mp (by kernel_rfl) (afR 0 x y a b)
def bU(N:Nat):List (Int×Int)->Option (List (Int×Int)):=IE (ltOf oe)
noncomputable def du(N:Nat):iS:=⟨139,[.k (.ow 4294967296),.k (.v (.func (.func 76) #[] #[]))],[(4294967296,.arr 46 (.pr (.i .i64) (.i .i64)) true)],[.sl (.pr (.i .i64) (.i .i64))],List (Int×Int),bU N,λy _ k=>k (.tu []) [(4294967296,some (.arr 46 (.pr (.i .i64) (.i .i64)) y true))],true,true⟩
def eG(N:Nat):(du N).ok Tryz.prog:=
 ⟨λh=>(by cases h),λx y a=>⟨.tu [],_,λR k=>rfl,λh=>(by cases h),λ_=>⟨rfl,rfl⟩,
  ald (r:=.pr (.i .i64) (.i .i64)) rfl afP (λw=>by kernel_rfl) (λw=>by kernel_rfl) oe ahp (g:=76) aaA (λ_ _ _ h=>h.bE) a⟩⟩
def cy(N:Nat):List bT->Option (List bT):=IE (ltOf rp)
noncomputable def dO(N:Nat):iS:=⟨74,[.k (.ow 4294967296),.k (.v (.func (.func 75) #[] #[]))],[(4294967296,.arr 127 (.pr (.i .i64) (.pr (.i .i64) (.pr (.i .i64) .b))) true)],[.sl (.pr (.i .i64) (.pr (.i .i64) (.pr (.i .i64) .b)))],List bT,cy N,λy _ k=>k (.tu []) [(4294967296,some (.arr 127 (.pr (.i .i64) (.pr (.i .i64) (.pr (.i .i64) .b))) y true))],true,true⟩
def eY(N:Nat):(dO N).ok Tryz.prog:=
 ⟨λh=>(by cases h),λx y a=>⟨.tu [],_,λR k=>rfl,λh=>(by cases h),λ_=>⟨rfl,rfl⟩,
  ald (r:=.pr (.i .i64) (.pr (.i .i64) (.pr (.i .i64) .b))) rfl aiT (λw=>by kernel_rfl) (λw=>by kernel_rfl) rp ali (g:=75) afS (λ_ _ _ h=>h.bE) a⟩⟩
open Classical in
def bq(N:Nat)(l:List (List Int)):Option (List (List Int)):=if∀x∈l,x≠[]then IE (ltOf IG) l else none
noncomputable def ei(N:Nat):iS:=⟨257,[.k (.ow 4294967296),.k (.v (.func (.func 258) #[] #[]))],[(4294967296,.arr 33 (.sl (.i .i64)) true)],[.sl (.sl (.i .i64))],List (List Int),bq N,λy _ k=>k (.tu []) [(4294967296,some (.arr 33 (.sl (.i .i64)) y true))],true,false⟩
def fO(N:Nat):(ei N).ok Tryz.prog:=by
 refine⟨λh=>(by cases h),λx y a=>⟨.tu [],_,λR k=>rfl,λh=>(by cases h),λh=>(by cases h),?_⟩⟩;have a:bq N x=some y:=a;unfold bq at a;split at a
 ·rename_i b
  exact aou (av:=λl:List Int=>AV.sl false 1 (l.map (bx (.i .i64)))) (λ_=>rfl) (λ_ _ h=>nomatch h) (λx=>x≠[]) aaz {aaz with} IG alj (g:=258) afT (λ_ _ _ h=>h.bE) b a
 ·cases a
def dS(N:Nat)(l:List Int):Option (List Int):=cond (decide (l.length<1099511627776)) (some (l.mergeSort λx y=>decide (x<=y))) none
noncomputable def iI(N:Nat):iS:=⟨273,[.k (.ow 4294967296)],[(4294967296,.arr 3 (.i .i64) true)],[.sl (.i .i64)],List Int,dS N,λy _ k=>k (.tu []) [(4294967296,some (.arr 3 (.i .i64) y true))],true,true⟩
def lE(N:Nat):(iI N).ok Tryz.prog:=by
 refine⟨λh=>(by cases h),λx y a=>⟨.tu [],_,λR k=>rfl,λh=>(by cases h),λ_=>⟨rfl,rfl⟩,?_⟩⟩;have a:dS N x=some y:=a;unfold dS at a;by_cases b:List.length (α:=Int) x<1099511627776
 ·rw[aqH b]at a
  cases a;exact aiP aiU b
 ·rw[aqK b]at a;cases a
def eM(N:Nat)(n:Int):Option Unit:=cond (decide (0<=n/\n<=1099511627776)) (some ()) none
noncomputable def jw(N:Nat):iS:=⟨173,[.k .nil,.h (.i .i64)],[],[.i .i64],Unit,eM N,λ_ _ k=>k (.ow 0) [(0,some (.arr 3 (.i .i64) [] true))],true,true⟩
def mB(N:Nat):(jw N).ok Tryz.prog:=by
 refine⟨λ_=>rfl,λx y c=>⟨.ow 0,_,λR k=>rfl,(λh=>by cases h),λ_=>⟨rfl,rfl⟩,?_⟩⟩;obtain⟨n,b,a⟩:=Ly x y c;subst b;exact Lx alg ((Tryz.prog.info? 3).getD default) (.int .i64 0) (by kernel_rfl) (by kernel_rfl) (by decide) (by kernel_rfl) (by decide) n a
def eB(N:Nat)(n:Int):Option Unit:=cond (decide (0<=n/\n<=1099511627776)) (some ()) none
noncomputable def fR(N:Nat):iS:=⟨199,[.k .nil,.h (.i .i64)],[],[.i .i64],Unit,eB N,λ_ _ k=>k (.ow 0) [(0,some (.arr 127 (.pr (.i .i64) (.pr (.i .i64) (.pr (.i .i64) .b))) [] true))],true,true⟩
def jh(N:Nat):(fR N).ok Tryz.prog:=by
 refine⟨λ_=>rfl,λx y c=>⟨.ow 0,_,λR k=>rfl,(λh=>by cases h),λ_=>⟨rfl,rfl⟩,?_⟩⟩;obtain⟨n,b,a⟩:=Ly x y c;subst b;exact Lx alh ((Tryz.prog.info? 127).getD default) (.agg #[.int .i64 0,.int .i64 0,.int .i64 0,.bool false]) (by kernel_rfl) (by kernel_rfl) (by decide) (by kernel_rfl) (by decide) n a
end
section
section
noncomputable abbrev PG:Program:=Tryz.prog
structure CO where
 c:Nat->iS
 ok:∀N,(c N).ok PG
def Sh(l:List CO)(N:Nat):List iS:=l.map λc=>c.c N
def zu(l:List CO)(N:Nat):Place PG T (Sh l N):=
 ⟨vK,λc a=>by
  obtain⟨d,_,rfl⟩:=aqq.1 a;exact d.ok N,mixed,Ap⟩
structure FD where
 f:FuncId
 fn:Func
 pl:Pl
 ps:List PV
 hs:List (Nat×PO)
 cs:List Sc
 rs:PS
 own:Bool
 pu:Bool
 nm:List Nat
def okB(fn:Func)(ps:List PV)(hs:List (Nat×PO))(own:Bool)(nm:List Nat):Bool:= !(fn.name== "runtime.NumGoroutine") && (fn.body.isSome && ((Nat.ble ps.length fn.ntmps && Nat.ble fn.ntmps 1000000) && (own||(hs.isEmpty && nm.isEmpty))))
def okY(fn:Func)(rs:PS)(pu:Bool)(nm:List Nat)(y:kf rs.c):Bool:=(zn T (eL fn.ntmps rs y) fn.results.toList).isSome && (!pu||((vf T (eL fn.ntmps rs y) fn.results.toList).pu && puH (fo nm (eL fn.ntmps rs y).h)))
def mF(l:List CO)(d:FD)(N:Nat):kf d.cs->Option (kf d.rs.c):=exF T (Sh l) N (gJ d.fn) d.fn.ntmps d.pl d.ps d.hs d.cs d.rs
def sZ{c:List PV}{a:List (Nat×PO)}{own:Bool}{b:List Nat}(h:okB t c a own b=true):(t.name== "runtime.NumGoroutine")=false/\t.body.isSome=true/\(Nat.ble c.length t.ntmps && Nat.ble t.ntmps 1000000)=true/\(own=false->a=[]/\b=[]):=by
 unfold okB at h;rw[aqe,aqe,aqe (Nat.ble _ _ && _)]at h;obtain⟨d,e,f,g⟩:=h;refine⟨by simpa using d,e,f,λi=>?_⟩;subst i;simpa using g
def cF(l:List CO)(d:FD)(M:Nat->kf d.cs->Option (kf d.rs.c))(hf:PG.funcs[d.f]? =some d.fn)(h1:okB d.fn d.ps d.hs d.own d.nm=true:=by kernel_rfl)(h2:∀y,okY d.fn d.rs d.pu d.nm y=true:=by intro y;kernel_rfl)(hM:∀N x,M N x=mF l d N x:=by intro N x;kernel_rfl):CO:=
 ⟨λN=>iS.mk d.f d.ps d.hs d.cs (kf d.rs.c) (M N) (λy _ k=>k (vf T (eL d.fn.ntmps d.rs y) d.fn.results.toList) (fo d.nm (eL d.fn.ntmps d.rs y).h)) d.own d.pu,
  λN=>rh (T:=T) (CT:=Sh l) (N:=N) (λM=>zu l M) hf (sZ h1).1 (sZ h1).2.1 d.pl d.ps d.hs d.cs d.rs d.own d.pu d.nm (sZ h1).2.2.1 (λy=>((aqe _ _).mp (h2 y)).1) (sZ h1).2.2.2 (λy=>((aqe _ _).mp (h2 y)).2) (M N) (hM N)⟩
structure FE extends FD where
 r2:PS
 n2:List Nat
def fS(l:List CO)(fn:Func)(at':List Nat)(i:PS)(o:List (Exit×PS))(p:Pl)(N:Nat):Nat->kf i.c->Option (FO o):=Dv (ua T (Sh l N) N (iD at' (gJ fn))) fn.ntmps i o p
def jnF(l:List CO)(fn:Func)(at':List Nat)(i:PS)(o:List (Exit×PS))(p:Pl)(N:Nat):Nat->kf i.c->Option (FO o):=ahm (aor T (Sh l N) N (iD at' (gJ fn))) fn.ntmps i o p
