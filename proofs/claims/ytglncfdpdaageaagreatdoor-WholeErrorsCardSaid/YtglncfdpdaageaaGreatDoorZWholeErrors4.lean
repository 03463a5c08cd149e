/- part 4 -/
import Derived.Test.YtglncfdpdaageaaGreatDoorZWholeErrors3
set_option linter.all false
noncomputable section
open Go Go.RowKit
set_option maxRecDepth 100000
open Go.Proofs.Tryz
namespace Go.Proofs.YtglncfdpdaageaaGreatDoor
theorem ci{p:Prop}(h:p:=by kernel_rfl):p:=h
variable{e:FuncId}{y:Int}{c i:Nat}{a:Type}{d:EQ}{E:Id}
section
open Go Go.ChangeShapes Go.WideShapes Go.ChangeAt Go.RowKit
def Fits:(s:Sc)->s.c9->Prop
 |.i k,x=>k.min<=x/\x<=k.max
 |.b,_=>True
 |.sl r,b=>b.length<=maxLen/\∀x∈b,Fits r x
 |.pr a c,p=>Fits a p.1/\Fits c p.2
 |.u,_=>True
def Siz:(s:Sc)->s.c9->Prop
 |.sl r,b=>b.length<=reachBytes/\∀x∈b,Siz r x
 |.pr a c,p=>Siz a p.1/\Siz c p.2
 |_,_=>True
def qi(P:Fd)(a:EQ->Sc->In):Do Field->Nat->Sc->In
 |[],_,_=>false
 |[f],o,s=>a f.type s && Nat.beq f.offset o && Nat.beq (P.cellsOf f.type) s.w
 |f::g::r,o,.pr s t=>a f.type s && Nat.beq f.offset o && Nat.beq (P.cellsOf f.type) s.w && qi P a (g::r) (o+s.w) t
 |_::_::_,_,_=>false
def Ss(w:Nat)(a:Sc->In):Nat->Sc->In
 |0,_=>false
 |1,s=>a s && Nat.beq w s.w
 |n+2,.pr s t=>a s && Nat.beq w s.w && Ss w a (n+1) t
 |_+2,_=>false
def tyC(P:Fd):Nat->EQ->Sc->In
 |0,_,_=>false
 |d+1,t,s=>match P.underlying t with
  |some (.int k)=>(match s with
   |.i l=>decide (k=l)
   |_=>false)
  |some .bool=>(match s with
   |.b=>true
   |_=>false)
  |some (.slice e)=>(match s with
   |.sl r=>tyC P d e r && Nat.beq (P.cellsOf e) r.w && Nat.blt 0 r.w && Nat.blt 0 (P.bytesOf e)
   |_=>false)
  |some (.struct a)=>qi P (tyC P d) a.toList 0 s && Nat.beq (P.cellsOf t) s.w
  |some (.array n e)=>Ss (P.cellsOf e) (tyC P d e) n s && Nat.beq (P.cellsOf t) s.w
  |_=>false
def Rw(w:GE)(b o:Nat)(u:Id):Prop:=w.cell? ⟨b,o,none⟩=some u
def b0(w:GE):Bs:=⟨w,λ_=>False,λ_=>none,λ_=>undef,[]⟩
def e0:Env:=⟨λ_=>none,λ_=>undef,λ_=>0⟩
def aiv(w:GE):Prop:=∀b o u,GT b o u->w.cell? ⟨b,o,none⟩=some u
def sr0(w:GE)(c:aiv w):SR (b0 w) (Rw w) e0 [] w:=
 ⟨⟨rfl,rfl,rfl,auq _,λ_ _=>rfl,auq _⟩,⟨λb o u h=>⟨h,λa=>by
  have:=awo w _ h;rcases a with a|a
  ·simp only[b0]at a;simp only at this;omega
  ·exact a⟩,c⟩,λ_ _ h=>by simp[aZ]at h,λ_ _ _ h=>by simp[aZ]at h,λ_ _ _ _ _ h=>by simp[aZ]at h,λ_ _=>⟨rfl,rfl⟩⟩
def aoP{w:GE}(h:Rw w c i E):bN (b0 w) (Rw w) e0 [] w c i E:=⟨h,λ_=>h,λ_ _ h=>by simp[aZ]at h⟩
def qj(h:Nat.beq c i=true):c=i:=auu h
def acJ(h:Nat.blt c i=true):c<i:=auw h
section
variable{H:Type}{enc:EQ×Id->H}{P:Fd}{w:GE}{base:Nat}{spare:Nat->In}{held:In}
def Ny(P:Fd)(t:EQ)(x:DataW H):Prop:=∀n∈x.weights P t,n<=reachBytes
def Ks{e:EQ}:∀{l:Do (DataW H×Do MemPlace)},(∀n∈DataW.weightsAll P e (l.map (·.1)),n<=reachBytes)->∀(i:Nat) x,l[i]? =some x->Ny P e x.1
 |[],_,i,x,h=>by simp at h
 |y::l,b,i,x,h=>by
  simp only[auL,DataW.weightsAll,auC]at b;cases i with
  |zero=>simp at h;subst h;exactλn a=>b n (.inl a)
  |succ i=>exact Ks (λn a=>b n (.inr a)) i x (by simpa using h)
def Nz:∀{a:Do Field} {l:Do (DataW H×Do MemPlace)},(∀n∈DataW.weightsEach P (a.map (·.type)) (l.map (·.1)),n<=reachBytes)->∀(i:Nat) f x,a[i]? =some f->l[i]? =some x->Ny P f.type x.1
 |[],_,_,i,f,x,h,_=>by simp at h
 |_::_,[],_,i,f,x,_,h=>by simp at h
 |g::a,y::l,d,i,f,x,b,h=>by
  simp only[auL,DataW.weightsEach,auC]at d;cases i with
  |zero=>simp at h b;subst h;subst b;exactλn c=>d n (.inl c)
  |succ i=>exact Nz (λn c=>d n (.inr c)) i f x (by simpa using b) (by simpa using h)
def Di(enc:EQ×Id->H)(P:Fd)(w:GE)(base:Nat)(spare:Nat->In)(held:In)(n:Nat)(t:EQ)(s:Sc):Prop:=
 ∀a x,DataW.trod enc P w base spare held n t a=some x->∃y:s.c9,LR (VR (Rw w) none) (bJ s y) a/\Fits s y/\(Ny P t x.1->Siz s y)
def BS{WA:Prop}{C:EQ->Sc->In}{n:Nat}(A:∀t s,C t s=true->Di enc P w base spare held n t s)(p:bC):
 ∀(j:Do Field) (o:Nat) (s:Sc) (b:Do (DataW H×Do MemPlace)),qi P C j o s=true->b.length=j.length->
  (∀(i:Nat) (f:Field),j[i]? =some f->DataW.trod enc P w base spare held n f.type ((p.drop f.offset).take (P.cellsOf f.type))=b[i]?)->(WA->∀(i:Nat) f x,j[i]? =some f->b[i]? =some x->Ny P f.type x.1)->
  ∃y:s.c9,LR (VR (Rw w) none) (bJ s y) ((p.drop o).take s.w)/\Fits s y/\(WA->Siz s y)
 |[],o,s,b,h,_,_,_=>by simp[qi]at h
 |[f],o,s,b,h,k,m,l=>by
  simp only[qi,aup]at h;obtain⟨⟨u,v⟩,z⟩:=h;have:=m 0 f rfl;rw[qj v,qj z]at this;have e:0<b.length:=by rw[k];simp
  rw[auy e]at this;obtain⟨y,J,G,O⟩:=A _ _ u _ _ this;exact⟨y,J,G,λd=>O (l d 0 f _ rfl (auy e))⟩
 |f::g::r,o,s,b,h,k,m,l=>by
  cases s with
  |pr a c=>
   simp only[qi,aup]at h;obtain⟨⟨⟨u,v⟩,z⟩,I⟩:=h;have:=m 0 f rfl;rw[qj v,qj z]at this;have e:0<b.length:=by rw[k];simp
   rw[auy e]at this;obtain⟨Q,K,E,M⟩:=A _ _ u _ _ this;obtain⟨R,L,F,N⟩:=BS A p (g::r) (o+a.w) c b.tail I (by simp[k]) (λi q B=>by
    have:=m (i+1) q (by simpa using B);rw[this];cases b<;>simp) (λd i q x B D=>l d (i+1) q x (by simpa using B) (by cases b with|nil=>simp at D|cons y S=>simpa using D))
   refine⟨(Q,R),?_,⟨E,F⟩,λd=>⟨M (l d 0 f _ rfl (auy e)),N d⟩⟩;rw[bJ,Sc.w,List.take_add];rw[awc];exact K.append L
  |_=>simp[qi]at h
def NA{WA:Prop}{p:Sc->In}{n:Nat}{e:EQ}{ew:Nat}(k:∀s,p s=true->Di enc P w base spare held n e s)(f:bC):
 ∀(m:Nat) (o:Nat) (s:Sc),Ss ew p m s=true->
  (∀i,i<m->∃x,DataW.trod enc P w base spare held n e ((f.drop (o+i*ew)).take ew)=some x/\(WA->Ny P e x.1))->
  ∃y:s.c9,LR (VR (Rw w) none) (bJ s y) ((f.drop o).take s.w)/\Fits s y/\(WA->Siz s y)
 |0,o,s,h,_=>by simp[Ss]at h
 |1,o,s,h,d=>by
  simp only[Ss,aup]at h;obtain⟨g,j⟩:=h;obtain⟨x,this,l⟩:=d 0 bv;rw[awQ,avO,qj j]at this;obtain⟨y,B,u,G⟩:=k _ g _ _ this;exact⟨y,B,u,λb=>G (l b)⟩
 |m+2,o,s,h,d=>by
  cases s with
  |pr a c=>
   simp only[Ss,aup]at h;obtain⟨⟨g,j⟩,v⟩:=h;obtain⟨x,this,l⟩:=d 0 bv;have q:=qj j;rw[awQ,avO,q]at this;obtain⟨I,C,r,E⟩:=k _ g _ _ this;obtain⟨J,D,t,F⟩:=NA k f (m+1) (o+a.w) c v (λi K=>by
    obtain⟨x,A,z⟩:=d (i+1) bv;refine⟨x,?_,z⟩;rw[<-A,q];congr 3;rw[au6];omega)
   refine⟨(I,J),?_,⟨r,t⟩,λb=>⟨E (l b),F b⟩⟩;rw[bJ,Sc.w,List.take_add];rw[awc];exact C.append D
  |_=>simp[Ss]at h
def Ij{WA:Prop}{n:Nat}{e:EQ}{r:Sc}(J:Di enc P w base spare held n e r)(B:P.cellsOf e=r.w)(l:0<r.w){a:Addr}{v:Nat}{k:Do (DataW H×Do MemPlace)}(S:k.length=v)
 (C:∀i,i<v->(w.cells? base (a.add (i*P.cellsOf e)) (P.cellsOf e)).bind (DataW.trod enc P w base spare held n e)=k[i]?) (L:WA->∀(i:Nat) x,k[i]? =some x->Ny P e x.1):
 ∀m,m<=v->∃f:Do r.c9,f.length=m/\((∀y∈f,Fits r y)/\(WA->∀y∈f,Siz r y))/\∃d,LR (VR (Rw w) none) (f.map (bJ r)).flatten d/\∀j u,d[j]? =some u->a.spot=none/\w.cell? ⟨a.block,a.off+j,none⟩=some u
 |0,_=>⟨[],rfl,d5,[],LR.nil,d5⟩
 |m+1,hm=>by
  obtain⟨f,E,⟨U,Y⟩,d,G,K⟩:=Ij J B l S C L m bv;have h:=C m bv;have I:m<k.length:=bv
  rw[auy I]at h;obtain⟨cs,R,Z⟩:=awF.1 h;obtain⟨y,hy,O,sy⟩:=J _ _ Z;obtain⟨hb,Q,p⟩:=World.cells?_some R;rw[B]at Q p;have F:d.length=m*r.w:=by
   rw[G.1,er (sz:=r.w)]
   ·simp[E]
   ·intro q W
    obtain⟨z,_,rfl⟩:=auD.1 W;exact eW r z
  have s:a.spot=none:=by
   have:=p 0 l;rw[auy bv]at this;by_cases c:m=0
   ·subst c
    have a0:(a.add (0*r.w)).add 0=a:=by simp[Addr.add]
    rw[a0]at this;unfold World.cell? at this;split at this
    ·split at this
     ·cases this
     ·rename_i X;simpa using X
    ·cases this
   ·have t:∃u,d[0]? =some u:=⟨d[0]'(by rw[F];exact awP bv l),auy _⟩
    obtain⟨u,t⟩:=t;exact(K 0 u t).1
  refine⟨f++[y],by simp[E],⟨λz c=>?_,λA z c=>?_⟩,d++cs,?_,λj u g=>⟨s,?_⟩⟩
  ·rcases auC.1 c with c|c
   ·exact U z c
   ·simp only[auN]at c;subst c;exact O
  ·rcases auC.1 c with c|c
   ·exact Y A z c
   ·simp only[auN]at c;subst c;exact sy (L A m _ (auy I))
  ·rw[avh,av2]
   simpa using G.append hy
  ·by_cases V:j<d.length
   ·rw[au7 V]at g
    exact(K j u g).2
   ·rw[avG bv]at g
    have a1:j - d.length<cs.length:=(aus.1 g).1;have:=p (j - d.length) bv;rw[g]at this;have N:(a.add (m*r.w)).add (j - d.length)=⟨a.block,a.off+j,none⟩:=by
     obtain⟨b,o,sp⟩:=a;simp only at s;subst s;rw[add_plain,add_plain];have D:d.length<=j:=bv
     rw[F]at D⊢;generalize m*r.w=q at D;have M:o+q+(j - q)=o+j:=bv
     rw[M]
    rw[N]at this;exact this
def ux:∀(d:Nat) (t:EQ) (s:Sc),tyC P d t s=true->∀n,Di enc P w base spare held n t s
 |0,t,s,h,n=>by simp[tyC]at h
 |d+1,t,s,h,n=>by
  intro U x F;unfold tyC at h;split at h
  ·rename_i k p
   cases s with
   |i l=>
    obtain rfl:k=l:=avo h;obtain⟨z,rfl,-,hw⟩:=DataW.trod_int p F;simp only[Lit.wf,aup,avn]at hw;exact⟨z,LR.cons .v LR.nil,hw,λ_=>trivial⟩
   |_=>simp at h
  ·rename_i p
   cases s with
   |b=>
    obtain⟨z,rfl,-⟩:=DataW.trod_bool p F;exact⟨z,LR.cons .v LR.nil,trivial,λ_=>trivial⟩
   |_=>simp at h
  ·rename_i e p
   cases s with
   |sl r=>
    simp only[aup]at h;obtain⟨⟨⟨C,D⟩,h3⟩,h4⟩:=h;rcases DataW.trod_slice p F with⟨rfl,-⟩|⟨a,a3,a4,A,rest,m,rfl,rfl,rfl,hb,aa,a5,W,he,-,-⟩
    ·refine⟨([]:Do r.c9),LR.cons ?_ LR.nil,?_,λ_=>⟨auS _,d5⟩⟩
     ·exact .sl (rows:=[]) [] d5 d5 rfl d5 (auq _) (auS _) d5 d5
     ·exact⟨auS _,d5⟩
    ·have I:Ny P t (.slice (A.map (·.1)) (rest.map (·.1)):DataW H)->((A.length+rest.length)*P.bytesOf e<=reachBytes)/\∀(i:Nat) x,A[i]? =some x->Ny P e x.1:=λg=>by
      have B:DataW.weights P t (.slice (A.map (·.1)) (rest.map (·.1)):DataW H)=(A.length+rest.length)*P.bytesOf e::(DataW.weightsAll P e (A.map (·.1))++DataW.weightsAll P e (rest.map (·.1))):=by
       simp[DataW.weights,p]
      unfold Ny at g;rw[B]at g;exact⟨g _ d5,Ks λn hn=>g n (by simp[hn])⟩
     obtain⟨S,Y,⟨L,a9⟩,R,Z,a1⟩:=Ij (WA:=Ny P t (.slice (A.map (·.1)) (rest.map (·.1)):DataW H)) (ux d e r C m) (qj D) (acJ h3) W he (λg=>(I g).2) a3 (auq _);refine⟨S,LR.cons ?_ LR.nil,?_,λg=>⟨?_,a9 g⟩⟩
     ·have a7:(List.map (bJ r) S).length=a3:=by simp[Y]
      have:=VR.sl (Rd:=Rw w) (E:=none) (tight:=false) (sz:=r.w) (rows:=List.map (bJ r) S) (a:=some a) (cap:=a4) R
       (λq M=>by obtain⟨z,_,rfl⟩:=auD.1 M;exact eW r z)
       (λc hc=>by
        obtain⟨q,M,a6⟩:=awn.1 hc;obtain⟨z,_,rfl⟩:=auD.1 M;exact oY r z c a6)
       Z.1 Z.2 bv a5 d5 (λa8=>by
        have hp:0<R.length:=av8.2 a8;have a0:=(a1 0 R[0] (auy hp)).1;obtain⟨b,o,sp⟩:=a;simp only at a0;subst a0;exact⟨b,o,rfl,λj u hj=>(a1 j u hj).2⟩)
      rw[a7]at this;exact this
     ·exact⟨bv,L⟩
     ·have h5:=(I g).1
      have h6:A.length*1<=(A.length+rest.length)*P.bytesOf e:=avZ (Nat.le_add_right _ _) (acJ h4);rw[Y,<-W];omega
   |_=>simp at h
  ·rename_i V p
   simp only[aup]at h;obtain⟨C,D⟩:=h;obtain⟨v,m,rfl,rfl,K,a2,O⟩:=DataW.trod_struct p F;obtain⟨y,G,J,Q⟩:=BS (WA:=Ny P t (.agg (v.map (·.1)):DataW H)) (λt s N=>ux d t s N m) U V.toList 0 s v C (by simpa using a2) (λi f L=>O i f (by simpa using L)) (λg=>by
    have B:DataW.weights P t (.agg (v.map (·.1)):DataW H)=DataW.weightsEach P (V.toList.map (·.type)) (v.map (·.1)):=by simp[DataW.weights,p]
    unfold Ny at g;rw[B]at g;exact Nz g)
   refine⟨y,?_,J,Q⟩;rw[ave,au0 (by rw[K,qj D];exact auq _)]at G;exact G
  ·rename_i m e p
   simp only[aup]at h;obtain⟨C,D⟩:=h;obtain⟨v,m',rfl,rfl,K,a2,O⟩:=DataW.trod_array p F;have I:Ny P t (.agg (v.map (·.1)):DataW H)->∀(i:Nat) x,v[i]? =some x->Ny P e x.1:=λg=>by
    have B:DataW.weights P t (.agg (v.map (·.1)):DataW H)=DataW.weightsAll P e (v.map (·.1)):=by simp[DataW.weights,p]
    unfold Ny at g;rw[B]at g;exact Ks g
   obtain⟨y,G,J,Q⟩:=NA (WA:=Ny P t (.agg (v.map (·.1)):DataW H)) (ew:=P.cellsOf e) (λs N=>ux d e s N m') U m 0 s C (λi hi=>by
    have:=O i hi;have X:i<v.length:=bv
    rw[auy X]at this;exact⟨_,by rw[auZ];exact this,λg=>I g i _ (auy X)⟩)
   refine⟨y,?_,J,Q⟩;rw[ave,au0 (by rw[K,qj D];exact auq _)]at G;exact G
  ·cases h
def Zl(P:Fd)(t:EQ):In:=match P.underlying t with
 |some (.struct _)=>true
 |some (.array _ _)=>true
 |_=>false
def Ik{r:Reach}{b0 c:Nat}{s:Sc}{v:Id}{x:DataW H}{B:Do MemPlace}(j:tyC P c d s=true)(o:Value.okWide P w r b0 d v)(h:DataW.Trod enc P w base spare held d v x B):
 ∃y:s.c9,Fits s y/\(Ny P d x->Siz s y)/\(Zl P d=true->VR (Rw w) none (.ag (bJ s y)) v)/\(Zl P d=false->VR (Rw w) none (encS s y) v):=by
 obtain⟨n,h⟩:=h;obtain⟨y,t,u,C⟩:=ux c d s j n _ _ h;refine⟨y,u,C,λg=>?_,λg=>?_⟩
 ·unfold Zl at g
  unfold Value.okWide at o;have A:∃p,v=.agg p:=by
   split at g
   ·rename_i f;rw[f]at o;obtain⟨p,h,-⟩:=o;exact⟨p,h⟩
   ·rename_i f;rw[f]at o;obtain⟨p,h,-⟩:=o;exact⟨p,h⟩
   ·cases g
  obtain⟨p,rfl⟩:=A;have:=VR.ag (E:=none) (Rd:=Rw w) p.toList t.1 t.2;simpa using this
 ·cases c with
  |zero=>simp[tyC]at j
  |succ c=>
   unfold tyC at j;unfold Zl at g;split at j
   ·rename_i k f
    cases s with
    |i l=>
     obtain⟨z,rfl⟩:=okWide_int f o;have q:=t.2 0 _ _ rfl rfl;exact q
    |_=>simp at j
   ·rename_i f
    cases s with
    |b=>
     obtain⟨z,rfl⟩:=okWide_bool f o;have q:=t.2 0 _ _ rfl rfl;exact q
    |_=>simp at j
   ·rename_i e f
    cases s with
    |sl r=>
     obtain⟨a,G,D,rfl⟩:=okWide_slice f o;have q:=t.2 0 _ _ rfl rfl;exact q
    |_=>simp at j
   ·rename_i F f;rw[f]at g;cases g
   ·rename_i m e f;rw[f]at g;cases g
   ·cases j
end
def UG(h:Fits (.i .u8) y):0<=y/\y<=255:=by
 simpa[Fits,IntKind.min,IntKind.max,IntKind.signed,IntKind.bits]using h
def Kt{P:Fd}{j:Do PV}{d:Do Sc}{M:kf d->At a}{g:a->(R:Type)->(EV->eS->At R)->At R}{own t:In}(p:iS.ok P ⟨e,j,[],d,a,M,g,own,t⟩){x:kf d}{y:a}(q:M x=some y)
 {w:GE} (n:aiv w) {vs:bC} (s:LR (VR (Rw w) none) (bS (da j (h_ d x)).1) vs) (f:g y EV (λb _=>some b)=some (.sc .b true)) (o:E=.bool true):Calls P e vs.toArray w λb k=>b=.returned E/\Ext w k:=by
 obtain⟨c,H,l,_,_,m⟩:=p.2 x y q;have f:(some c:At EV)=some (.sc .b true):=(l EV λb _=>some b).symm.trans f;obtain rfl:=aut f;refine(m.2 (b0 w) (Rw w) e0 w vs (sr0 w n) (s.imp λ_ _ h=>(h.mono λ_ _ _ h=>aoP h).cV)).mono λb k h=>?_;obtain⟨v,u,rfl,r,i⟩:=h;change VR _ _ (enc (.sc .b true)) v at i;refine⟨?_,r.ext.ext λ_ h=>h⟩;subst o;cases i;rfl
end
variable{b:GE}
section
open Go Go.ChangeShapes Go.WideShapes Go.ChangeAt Go.RowKit
def acK:(Tryz.prog.globals[0]?).map (·.type)=some 315:=ci
def acL:Tryz.prog.cellsOf 315=32:=ci
def Zm:Tryz.prog.cellsOf 5=1:=ci
def alZ:aX:=[0,1,28,2,29,14,24,3,30,22,20,15,25,17,4,8,31,27,13,23,21,19,16,7,26,12,18,6,11,5,10,9]
def aiw:abm=[(0,.u8,alZ)]:=rfl
def Ku(h:laidMetH Tryz.prog Rows.wholeErrorsRow.laid b):aiv b:=by
 have j:=Lib.tabIs_of_head (rest:=[]) (g:=0) ci acK Tryz.underlying315 Tryz.underlying5 Zm acL (k:=.u8)
  (zs:=alZ) h
 rintro a o u ⟨k,l,x,c,e,rfl⟩;rw[aiw,YQ]at c;cases d:Nat.beq a 0 with
 |false=>rw[d]at c;cases c
 |true=>
  rw[d]at c;have d:=auu d;subst d;cases c;have i:o<alZ.length:=(aus.1 e).1;have f:=j.cell (g:=0) ci o (by simpa using i);rw[f];rw[avQ,e];rfl
noncomputable def AM(a:Os):GE:=
 {World.holding Tryz.prog a ⟨#[], #[],[]⟩with heap:=(World.holding Tryz.prog a ⟨#[], #[],[]⟩).heap.modify 0 λ
  |.cells _ t frozen=>.cells #[.int .u8 0,.int .u8 1,.int .u8 28,.int .u8 2,.int .u8 29,.int .u8 14,.int .u8 24,.int .u8 3,.int .u8 30,.int .u8 22,.int .u8 20,.int .u8 15,.int .u8 25,.int .u8 17,.int .u8 4,.int .u8 8,.int .u8 31,.int .u8 27,.int .u8 13,.int .u8 23,.int .u8 21,.int .u8 19,.int .u8 16,.int .u8 7,.int .u8 26,.int .u8 12,.int .u8 18,.int .u8 6,.int .u8 11,.int .u8 5,.int .u8 10,.int .u8 9] t frozen
  |o=>o}
end
abbrev vI:Id:=.int .i64 0
abbrev vB:Id:=.bool false
abbrev vS:Id:=.slice none 0 0
abbrev sI:Sc:=.i .i64
abbrev xO:At (In×Nat):=some (false,1)
def tS:a_:=[9,10,11]
def tN:a_:=[20]
def tL:Do (a_×bu):=[
 ([2,3,30,292],{ty:=xO,ze:=some [vI],ik:=some .i64}),
 ([4],{ty:=xO,bo:=true,ze:=some [vB]}),
 ([5,6,408,409],{ty:=xO,ze:=some [.int .u8 0],ik:=some .u8}),
 ([7,8],{ty:=some (true,4),fd:=[(0,false,1),(1,false,1),(2,false,1),(3,false,1)],pl:=some ([vI,vI,vB,.int .u8 0],[(0,1),(1,1),(2,1),(3,1)]),ze:=some [vI,vI,vB,.int .u8 0],eq:=some ((sI).pr ((sI).pr (Sc.b.pr (Sc.i .u8))))}),
 ([12,164,299,338],{ty:=xO,ze:=some [.int .u64 0],ik:=some .u64}),
 ([15,16,17,129,145,209,247,252,270,306,342,346,366,395,411,416],{ty:=xO,ze:=some [.pointer none]}),
 ([18,19],{ty:=some (true,1),fd:=[(0,false,1)],pl:=some ([.pointer none],[(0,1)]),ze:=some [.pointer none],zv:=some (.agg {toList:=[.pointer none]})}),
 ([21,412,413],{ty:=xO,ze:=some [.int .i32 0],ik:=some .i32}),
 ([22],{ty:=xO,el:=some (5,1,1,[.int .u8 0]),kz:=true,ze:=some [vS],co:=some (Sc.i .u8)}),
 ([24],{ty:=xO,el:=some (161,4,32,[vI,vI,vI,vB]),kz:=true,ze:=some [vS],co:=some ((sI).pr ((sI).pr ((sI).pr Sc.b)))}),
 ([25,26,82,83],{ty:=some (true,2),fd:=[(0,false,1),(1,false,1)],pl:=some ([vI,vS],[(0,1),(1,1)]),ze:=some [vI,vS],zv:=some (.agg {toList:=[vI,vS]})}),
 ([27,28],{ty:=some (true,4),fd:=[(0,true,2),(2,false,1),(3,false,1)],pl:=some ([vI,vS,vI,vI],[(0,2),(2,1),(3,1)]),ze:=some [vI,vS,vI,vI]}),
 ([29],{ty:=xO,el:=some (49,3,40,[vI,vI,vS]),kz:=true,ze:=some [vS],co:=some ((sI).pr ((sI).pr (sI).sl))}),
 ([34],{ty:=xO,el:=some (125,2,16,[vI,vI]),kz:=true,ze:=some [vS],co:=some ((sI).pr (sI))}),
 ([35,36,48,49],{ty:=some (true,3),fd:=[(0,false,1),(1,false,1),(2,false,1)],pl:=some ([vI,vI,vS],[(0,1),(1,1),(2,1)]),ze:=some [vI,vI,vS]}),
 ([37,38],{ty:=some (true,5),fd:=[(0,false,1),(1,false,1),(2,true,3)],pl:=some ([vI,vI,vI,vI,vS],[(0,1),(1,1),(2,3)]),ze:=some [vI,vI,vI,vI,vS]}),
 ([40],{ty:=xO,el:=some (56,3,56,[vI,vS,vS]),kz:=true,ze:=some [vS],co:=some ((sI).pr (((sI).pr (sI)).sl.pr ((sI).pr ((sI).pr (sI))).sl))}),
 ([47,156,311],{ty:=xO,el:=some (3,1,8,[vI]),kz:=true,ze:=some [vS],co:=some (sI)}),
 ([51,52,126,127,192,193],{ty:=some (true,2),fd:=[(0,false,1),(1,false,1)],pl:=some ([vI,vI],[(0,1),(1,1)]),ze:=some [vI,vI],eq:=some ((sI).pr (sI)),zv:=some (.agg {toList:=[vI,vI]})}),
 ([53],{ty:=xO,el:=some (52,2,16,[vI,vI]),kz:=true,ze:=some [vS],co:=some ((sI).pr (sI))}),
 ([54],{ty:=xO,el:=some (58,3,24,[vI,vI,vI]),kz:=true,ze:=some [vS],co:=some ((sI).pr ((sI).pr (sI)))}),
 ([55,56,100,101],{ty:=some (true,3),fd:=[(0,false,1),(1,false,1),(2,false,1)],pl:=some ([vI,vS,vS],[(0,1),(1,1),(2,1)]),ze:=some [vI,vS,vS]}),
 ([57,58],{ty:=some (true,3),fd:=[(0,false,1),(1,false,1),(2,false,1)],pl:=some ([vI,vI,vI],[(0,1),(1,1),(2,1)]),ze:=some [vI,vI,vI],eq:=some ((sI).pr ((sI).pr (sI)))}),
 ([66],{ty:=xO,el:=some (75,3,72,[vS,vS,vS]),kz:=true,ze:=some [vS],co:=some ((sI).sl.pr ((sI).sl.pr (sI).sl.sl))}),
 ([69],{ty:=xO,ze:=some [.int .u32 0],ik:=some .u32}),
 ([70],{ty:=xO,el:=some (69,1,4,[.int .u32 0]),kz:=true,ze:=some [vS],co:=some (Sc.i .u32)}),
 ([71],{ty:=xO,el:=some (47,1,24,[vS]),kz:=true,ze:=some [vS],co:=some (sI).sl}),
 ([74,75],{ty:=some (true,3),fd:=[(0,false,1),(1,false,1),(2,false,1)],pl:=some ([vS,vS,vS],[(0,1),(1,1),(2,1)]),ze:=some [vS,vS,vS]}),
 ([77],{ty:=xO,el:=some (4,1,1,[vB]),kz:=true,ze:=some [vS],co:=some Sc.b}),
 ([89,90],{ty:=some (true,2),fd:=[(0,false,1),(1,false,1)],pl:=some ([vS,vS],[(0,1),(1,1)]),ze:=some [vS,vS],zv:=some (.agg {toList:=[vS,vS]})}),
 ([93],{ty:=xO,el:=some (199,4,32,[vI,vI,vI,vI]),kz:=true,ze:=some [vS],co:=some ((sI).pr ((sI).pr ((sI).pr (sI))))}),
 ([94,95],{ty:=some (true,3),fd:=[(0,false,1),(1,false,1),(2,false,1)],pl:=some ([vS,vI,vS],[(0,1),(1,1),(2,1)]),ze:=some [vS,vI,vS]}),
 ([96,97],{ty:=some (true,7),fd:=[(0,true,3),(3,false,1),(4,false,1),(5,false,1),(6,false,1)],pl:=some ([vS,vI,vS,vS,vB,vI,vI],[(0,3),(3,1),(4,1),(5,1),(6,1)]),ze:=some [vS,vI,vS,vS,vB,vI,vI]}),
 ([108],{ty:=xO,el:=some (183,5,32,[vB,vB,vI,vI,vI]),kz:=true,ze:=some [vS],co:=some (Sc.b.pr (Sc.b.pr (((sI).pr (sI)).pr (sI))))}),
 ([125],{ty:=some (true,2),ar:=some (2,3,1),pl:=some ([vI,vI],[(0,1),(1,1)]),ze:=some [vI,vI],co:=some (sI)}),
 ([130,131],{ty:=some (true,2),fd:=[(0,false,1),(1,false,1)],pl:=some ([vS,vI],[(0,1),(1,1)]),ze:=some [vS,vI],zv:=some (.agg {toList:=[vS,vI]})}),
 ([149,150],{ty:=some (true,6),fd:=[(0,true,3),(3,false,1),(4,false,1),(5,false,1)],pl:=some ([vS,vS,vS,vS,vI,vI],[(0,3),(3,1),(4,1),(5,1)]),ze:=some [vS,vS,vS,vS,vI,vI]}),
 ([160,161,257,258],{ty:=some (true,4),fd:=[(0,false,1),(1,false,1),(2,false,1),(3,false,1)],pl:=some ([vI,vI,vI,vB],[(0,1),(1,1),(2,1),(3,1)]),ze:=some [vI,vI,vI,vB],eq:=some ((sI).pr ((sI).pr ((sI).pr Sc.b)))}),
 ([182,183],{ty:=some (true,5),fd:=[(0,false,1),(1,false,1),(2,true,2),(4,false,1)],pl:=some ([vB,vB,vI,vI,vI],[(0,1),(1,1),(2,2),(4,1)]),ze:=some [vB,vB,vI,vI,vI]}),
 ([187],{ty:=xO,el:=some (258,4,32,[vI,vI,vI,vB]),kz:=true,ze:=some [vS],co:=some ((sI).pr ((sI).pr ((sI).pr Sc.b)))}),
 ([190],{ty:=xO,el:=some (193,2,16,[vI,vI]),kz:=true,ze:=some [vS],co:=some ((sI).pr (sI))}),
 ([198,199],{ty:=some (true,4),fd:=[(0,false,1),(1,false,1),(2,false,1),(3,false,1)],pl:=some ([vI,vI,vI,vI],[(0,1),(1,1),(2,1),(3,1)]),ze:=some [vI,vI,vI,vI],eq:=some ((sI).pr ((sI).pr ((sI).pr (sI))))}),
 ([201],{ty:=xO,ze:=some [.map none],mp:=some (TypeDesc.int .i64,vI),kv:=some (sI,sI)}),
 ([206,207],{ty:=some (true,1),fd:=[(0,false,1)],pl:=some ([vI],[(0,1)]),ze:=some [vI],eq:=some (sI),zv:=some (.agg {toList:=[vI]})}),
 ([210,211],{ty:=some (true,7),fd:=[(0,true,4),(4,true,3)],pl:=some ([vI,vS,vI,vI,vI,vI,vS],[(0,4),(4,3)]),ze:=some [vI,vS,vI,vI,vI,vI,vS]}),
 ([221],{ty:=some (true,8),ar:=some (8,3,1),pl:=some ([vI,vI,vI,vI,vI,vI,vI,vI],[(0,1),(1,1),(2,1),(3,1),(4,1),(5,1),(6,1),(7,1)]),ze:=some [vI,vI,vI,vI,vI,vI,vI,vI],co:=some (sI)}),
 ([237],{ty:=xO,ze:=some [.int .u16 0],ik:=some .u16}),
 ([238],{ty:=xO,ze:=some [.map none],mp:=some (TypeDesc.tuple {toList:=[]},vI),kv:=some ((sI).pr (sI),sI)}),
 ([249,250],{ty:=some (true,8),fd:=[(0,true,2),(2,true,5),(7,false,1)],pl:=some ([vI,vS,vB,vB,vI,vI,vI,vI],[(0,2),(2,5),(7,1)]),ze:=some [vI,vS,vB,vB,vI,vI,vI,vI]}),
 ([253,254],{ty:=some (true,8),fd:=[(0,true,7),(7,false,1)],pl:=some ([vS,vI,vS,vS,vB,vI,vI,vS],[(0,7),(7,1)]),ze:=some [vS,vI,vS,vS,vB,vI,vI,vS]}),
 ([264],{ty:=xO,el:=some (83,2,32,[vI,vS]),kz:=true,ze:=some [vS],co:=some ((sI).pr (sI).sl.sl)}),
 ([271,272],{ty:=some (true,3),fd:=[(0,false,1),(1,false,1),(2,false,1)],pl:=some ([vS,.map none,.map none],[(0,1),(1,1),(2,1)]),ze:=some [vS,.map none,.map none]}),
 ([301],{ty:=xO,el:=some (24,1,24,[vS]),kz:=true,ze:=some [vS],co:=some ((sI).pr ((sI).pr ((sI).pr Sc.b))).sl}),
 ([305],{ty:=xO,el:=some (306,1,8,[.pointer none]),kz:=true,ze:=some [vS]}),
 ([315],{ty:=some (true,32),ar:=some (32,5,1),pl:=some ([.int .u8 0,.int .u8 0,.int .u8 0,.int .u8 0,.int .u8 0,.int .u8 0,.int .u8 0,.int .u8 0,.int .u8 0,.int .u8 0,.int .u8 0,.int .u8 0,.int .u8 0,.int .u8 0,.int .u8 0,.int .u8 0,.int .u8 0,.int .u8 0,.int .u8 0,.int .u8 0,.int .u8 0,.int .u8 0,.int .u8 0,.int .u8 0,.int .u8 0,.int .u8 0,.int .u8 0,.int .u8 0,.int .u8 0,.int .u8 0,.int .u8 0,.int .u8 0],[(0,1),(1,1),(2,1),(3,1),(4,1),(5,1),(6,1),(7,1),(8,1),(9,1),(10,1),(11,1),(12,1),(13,1),(14,1),(15,1),(16,1),(17,1),(18,1),(19,1),(20,1),(21,1),(22,1),(23,1),(24,1),(25,1),(26,1),(27,1),(28,1),(29,1),(30,1),(31,1)]),ze:=some [.int .u8 0,.int .u8 0,.int .u8 0,.int .u8 0,.int .u8 0,.int .u8 0,.int .u8 0,.int .u8 0,.int .u8 0,.int .u8 0,.int .u8 0,.int .u8 0,.int .u8 0,.int .u8 0,.int .u8 0,.int .u8 0,.int .u8 0,.int .u8 0,.int .u8 0,.int .u8 0,.int .u8 0,.int .u8 0,.int .u8 0,.int .u8 0,.int .u8 0,.int .u8 0,.int .u8 0,.int .u8 0,.int .u8 0,.int .u8 0,.int .u8 0,.int .u8 0],co:=some (Sc.i .u8)}),
 ([347,348],{ty:=some (true,11),fd:=[(0,true,7),(7,true,4)],pl:=some ([vS,vI,vS,vS,vB,vI,vI,vI,vI,vI,vB],[(0,7),(7,4)]),ze:=some [vS,vI,vS,vS,vB,vI,vI,vI,vI,vI,vB]}),
 ([405],{ty:=some (true,0),ar:=some (0,16,1),pl:=some ([],[]),ze:=some []}),
 ([406,407],{ty:=some (true,0),fd:=[(0,true,0)],pl:=some ([],[(0,0)]),ze:=some []}),
 ([414,415],{ty:=some (true,11),fd:=[(0,false,1),(1,false,1),(2,false,1),(3,false,1),(4,false,1),(5,false,1),(6,false,1),(7,false,1),(8,false,1),(9,false,1),(10,false,1)],pl:=some ([.int .u64 0,.int .u64 0,.int .u32 0,.int .u8 0,.int .u8 0,.int .u8 0,.int .u8 0,.nilFunc,.pointer none,.int .i32 0,.int .i32 0],[(0,1),(1,1),(2,1),(3,1),(4,1),(5,1),(6,1),(7,1),(8,1),(9,1),(10,1)]),ze:=some [.int .u64 0,.int .u64 0,.int .u32 0,.int .u8 0,.int .u8 0,.int .u8 0,.int .u8 0,.nilFunc,.pointer none,.int .i32 0,.int .i32 0]}),
 ([1,23,32,33,39,42,43,44,45,46,50,60,62,63,65,68,73,76,79,81,85,86,87,88,92,99,103,105,107,110,112,114,115,116,117,118,119,120,121,122,124,128,132,133,134,135,137,139,140,141,142,143,144,147,148,151,152,153,154,155,157,158,159,163,165,167,169,171,172,174,175,177,178,179,180,181,185,186,189,191,194,195,196,197,200,202,203,204,205,212,213,214,215,216,217,218,219,220,222,223,224,225,226,227,228,230,231,232,233,234,236,239,240,241,242,243,244,245,246,248,251,255,256,259,260,261,262,263,265,266,268,269,274,275,276,277,278,279,280,281,282,283,284,285,287,288,289,290,291,294,295,296,297,298,300,302,303,304,307,309,310,313,314,316,317,319,320,321,322,323,324,325,326,327,329,330,331,332,333,334,335,336,337,339,340,341,343,344,345,349,350,351,352,353,354,355,356,357,358,359,360,361,362,363,364,365,367,368,369,370,372,374,375,376,378,379,380,381,382,383,384,385,386,387,388,389,390,391,392,393,394,396,397,398,399,400,401,402,410],{ty:=xO,ze:=some [.nilFunc]})]
def T(t:EQ):bu:=tgF tS tN tL t
def xg:gG Tryz.prog T:=aiu (Nx (S:=tS) (N:=tN) (L:=tL) ci ci ci)
def Fa:∀q∈akm,aoy Tryz.prog q:=λq h=>by cases h
def mixed:Tryz.prog.follows .mixedOrders=true:=ci
section
set_option maxHeartbeats 400000
def nq(e:Int):Id:=.iface 207 (.agg #[.int .i64 e])
def acM(e:Int)(w:GE)(b:e≠0):Calls Tryz.prog 171 #[.int .i64 e] w λx a=>x=.panicked [{v:=nq e,recovered:=false}]/\w=a:=by
 go_enter ayG,Tryz.ntmps171
 go_wp2
 exact⟨rfl,rfl,rfl⟩
end
variable{B:Bs}{h:Code}{j:Env}{t:Func}{A:Hp}{v:Do AV}{D:jH}{m:qZ}{k:bp}
section
variable{P:Fd}{st:St}{ca:IO->St->Prop}
def TC(P:Fd)(c:Code)(st:St)(ca:IO->St->Prop):Prop:=
 ∀h b e a w Q,Ga h b e st a w->(∀x f,ca x f->∀i d g,Ga h b i f d g->Q x d g)->c.wp P Q a w
def TC.ac(b:AC false P h st ca):TC P h st ca:=λo c e a w Q j k=>
 wpIn_wide.1 (b none o c e a w Q (λb=>by cases b) j λx m l q p g f d n i _=>by
  obtain⟨rfl,rfl⟩:=g.ne rfl;exact k x m l f d n i)
def TC.mono{c:IO->St->Prop}(b:TC P h st ca)(j:∀x s,ca x s->c x s):TC P h st c:=λl f e a w Q g i=>b l f e a w Q g λx d k=>i x d (j x d k)
def TC.seq{x y:Code}(h:TC P x st (rQ (λb=>TC P y b ca) ca)):TC P (.seq x y) st ca:=λm k e a w Q o g=>by
 refine av0 (h m k e a w _ o λn b i d c j f=>?_);cases n with
 |normal=>exact i m k d c j Q f g
 |_=>exact g _ b i d c j f
def TC.Mu{c:If}{x y:Code}(g:st.ev c=.v (.bool true))(h:TC P x st ca):TC P (.cond c x y) st ca:=λj f e a w Q b i=>by
 have d:=b.ev c;rw[g]at d;exact wp_cond_true d.bL (h j f e a w Q b i)
def TC.Mw{c:If}{x y:Code}(g:st.ev c=.v (.bool false))(h:TC P y st ca):TC P (.cond c x y) st ca:=λj f e a w Q b i=>by
 have d:=b.ev c;rw[g]at d;exact wp_cond_false d.bL (h j f e a w Q b i)
def TC.ex{T:EQ->bu}{c:Do iS}{N:Nat}(e:Place P T c)(d:uY h=true){pl:Pl}{E:b_}{R:Type}{k:IO->b_->At R}{r:R}(a:ra T c N h pl E R k=some r):TC P h (bg E) λx s=>∃b,s=bg b/\b.n=E.n/\k x b=some r:=
 .ac (acA e h false (λ_=>d) pl E R k r a)
def TL(P:Fd)(i:qZ)(l:bp)(st:St)(ca:IO->St->Prop):Prop:=
 ∀g b e a w Q,Ga g b e st a w->(∀x d,ca x d->∀h c f,Ga g b h d c f->Q x c f)->wpList P i Q l a w
def TL.nil(h:ca .normal st):TL P m [] st ca:=λf d e a w Q b c=>c _ _ h e a w b
def TL.cons{o:Oper}(h:∀c:St->Prop,(∀b,TL P m k b ca->c b)->GS P m o st c):TL P m (o::k) st ca:=by
 intro i d e a w Q p r;refine axa λj n=>?_;exact h (λb=>TL P m k b ca) (λ_ h=>h) i d e a w j Q p λb s l f g q=>n f g (s i d l f g Q q r)
def TL.of(h:AL P m k st (ca .normal)):TL P m k st ca:=λi b e a w Q c d=>h i b e a w Q c λg f=>d .normal g f
def TC.region{id:Nat}(h:TL P k.toArray k st ca):TC P (.region id k.toArray false) st ca:=λf b e a w Q c d=>
 wp_region_lit (h f b e a w Q c d)
def SP(P:Fd)(o:Oper)(st:St)(ca:IO->St->Prop):Prop:=
 ∀g b e a w next Q,Ga g b e st a w->(∀x d,ca x d->∀h c f,Ga g b h d c f->Q x c f)->o.wp P a w next Q
def TL.last{o:Oper}(d:o.guard=none)(h:SP P o st ca):TL P m (o::k) st ca:=by
 intro i c e a w Q f g;refine axa λb j=>?_;rw[auo (by simp[Region.wanted,d])];exact h i c e a w b Q f g
def Zn(P:Fd)(f:FuncId)(a:Hp)(c:Do AV)(d:jH):Prop:=
 Enters P f/\∀B Rd e w b,SR B Rd e a w->LR (VR (bN B Rd e a w) (some e)) c b->Calls P f b.toArray w λx h=>x=.panicked d/\∃g,SR B Rd g [] h
def SR.nil{Rd:bF}(d:SR B Rd j A b):SR B Rd j [] b:=
 ⟨d.ext,d.kg,(λk ob c=>by cases c),(λk ob a c=>by cases c),(λk e ob f a c=>by cases c),d.rL⟩
def Zn.intro{c:Code}(r:P.funcs[e]? =some t)(J:(t.name== "runtime.NumGoroutine")=false)(o:t.body=some c)(Q:v.length<=t.ntmps)(G:t.ntmps<=1000000)
 (h:TC P c ⟨t.ntmps,oU 0 v,A⟩ λx _=>x=.panic D):Zn P e A v D:=by
 refine⟨⟨t,r,J,by rw[o];rfl⟩,λB Rd a w g d M=>axS r o ?_⟩;obtain⟨f,j⟩:∃f:Bs,f=⟨B.w,B.own,B.bW,B.sv,[]⟩:=⟨_,rfl⟩;have L:SR f Rd a A w:=by
  subst j;exact⟨⟨d.ext.os,d.ext.tape,d.ext.output,d.ext.size,d.ext.block,d.ext.drawn⟩,d.kg,d.ob,d.base,d.inj,d.rL⟩
 have F:∀a h w,SR f Rd a h w->SR B Rd a h w:=by
  subst j;exactλa h w b=>⟨⟨b.ext.os,b.ext.tape,b.ext.output,b.ext.size,b.ext.block,b.ext.drawn⟩,b.kg,b.ob,b.base,b.inj,b.rL⟩
 have n:LR (VR (bN f Rd a A w) (some a)) v g:=by subst j;exact M
 have q:f.df=[]:=by subst j;rfl
 have I:Ga f Rd a ⟨t.ntmps,oU 0 v,A⟩ {tmps:=g.toArray++Array.replicate (t.ntmps - g.toArray.size) undef,defers:=[]} w:=by
  refine⟨⟨by simp[n.1];omega,G⟩,by rw[q],L,λi=>?_⟩;rw[xu];simp only[auS,au2,axd];by_cases m:i<v.length
  ·have p:v[i]? =some v[i]:=auy m
   obtain⟨u,z,K⟩:=n.get p;have l:v.getD i .un=v[i]:=by simp[List.getD,p]
   have E:(g.toArray++Array.replicate (t.ntmps - g.toArray.size) undef).getD i undef=u:=by
    have y:i<g.length:=by rw[n.1];exact m
    simp[avA,axe,y];rw[auy y]at z;simpa using z
   rw[l,E];exact K
  ·have l:v.getD i .un=.un:=by simp[List.getD,au5 (awt m)]
   rw[l];exact .un
 refine h f Rd _ _ w _ I λx R N C k O s=>?_;subst N;have H:k.defers=[]:=s.d.trans q;show Leaves P t k.tmps _ k.defers (.panicking D) O;rw[H];exact⟨rfl,C,F _ _ _ s.sr.nil⟩
end
section
variable{P:Fd}{st:St}{ca:IO->St->Prop}{d:Nat}{ty:EQ}{pos:String}{af:dm}{gd:fH}
def SP.T9{op:Op}{D:bI}{h' n:Hp}{r:Do AV}{s:jH}(A:Zn P e n r s)(H:JV P ⟨some d,op,ty,pos,af,gd⟩ st e v)(I:T8 st D (1000*(d+1)) h' n r v)(t:Hi (1000*(d+1)) D=true)
 (F:ca (.panic s) ⟨st.n,nB (mg (1000*(d+1))) st.t,my D++gv (mg (1000*(d+1))) h'⟩):SP P ⟨some d,op,ty,pos,af,gd⟩ st ca:=by
 intro B q f a w next Q h K
 obtain⟨W,R,M⟩:=H A.1 B q f a w h;obtain⟨C,l,m,z,S⟩:=I B q f w _ h.sr R;have g:=h.cP l;have N:=g.sr.kJ m t z;have G:=A.2 _ _ _ w W N (S.nC λb o u J=>J.kJ m λp ob L=>by
  obtain⟨c,V,x,y,_⟩:=z p ob L;exact⟨c,x,V,y⟩)
 unfold Oper.wp;rw[M w];show Calls P e _ w _;refine G.mono λx X U=>?_;obtain⟨rfl,E,O⟩:=U;obtain⟨j1,j2,j3,j4⟩:=SR.eb g.sr m t O rfl;refine K _ _ F (C.eb D (1000*(d+1)) E) a X ⟨g.n,g.d,j1,λi=>?_⟩;rw[kG];exact((((g.tr i).mono j2).kj _).CN rfl (mg (1000*(d+1))) (mv _ _) (λj k=>by simp[Env.eb,k]) (λj k=>by simp[Env.eb,k]))
end
def Su(c:iS)(d:Nat)(a:Nat->At dO)(b:Do EV):At (kf c.cs×a_×bI):=
 let D:=M1 a c.hs (qb c.ps b [])
 cond (b.all ab5) (match lT a c.pu (nF (ff D (1000*(d+1))) c.ps) b with
 |some (e,gs)=>match EJ a D (1000*(d+1)) c.hs with
  |some ws=>match vd c.cs (e++ws)with
   |some x=>cond (Hi (1000*(d+1)) D && gs.all (λk=>(Rl D k).isNone) && D.all (λq=>c.hs.any λr=>Nat.beq r.1 q.1) && (c.pu||gs.all (M6 a)) && !c.pu) (some (x,gs,D)) none
   |none=>none
  |none=>none
 |none=>none) none
section
variable{P:Fd}{st:St}{ca:IO->St->Prop}{d:Nat}{ty:EQ}{pos:String}{af:dm}{gd:fH}
def SP.ctr{c:iS}{a:Nat->At dO}{b:Do EV}{x:kf c.cs}{gs:a_}{D:bI}{j:Op}{g:jH}(h:Su c d a b=some (x,gs,D))(q:Zn P c.f (bs (c.H0 x)) (bS (c.as x)) g)
 (p:JV P ⟨some d,j,ty,pos,af,gd⟩ st c.f (bS b)) (l:Hk a (gs++D.map (·.2)) st)
 (m:ca (.panic g) ⟨st.n,nB (mg (1000*(d+1))) st.t,my D++gv (mg (1000*(d+1))) (bs (fm a gs)++st.h)⟩):SP P ⟨some d,j,ty,pos,af,gd⟩ st ca:=by
 unfold Su at h;obtain⟨_,h⟩:=aY h;generalize M1 a c.hs (qb c.ps b [])=k at h;split at h
 ·rename_i y w n
  split at h
  ·rename_i z r
   split at h
   ·rename_i A e
    have e:=xH e;obtain⟨i,h⟩:=aY h;simp only[aup,avC]at i;obtain⟨⟨⟨⟨f,s⟩,t⟩,u⟩,v⟩:=i;have o:CP (k.map (·.2))=true:=by simp only[Hi,aup]at f;exact f.1.2
    cases h;exact SP.T9 q p (r9 n r e s t u v o l) f m
   ·cases h
  ·cases h
 ·cases h
end
noncomputable def pc(N:Nat):Do iS:=[]
def rb:Pl:=.z
def gT:PS:=⟨[(2,.h .b)],[],[.b]⟩
noncomputable def gU(N:Nat):Int->eh:=exF T pc N (eT f199) 6 rb [.h (.i .i64)] [] [(.i .i64)] gT
noncomputable def re(N:Nat):iS:=⟨199,[.h (.i .i64)],[],[(.i .i64)],kf gT.c,gU N,λy _ k=>k (xN T (eY 6 gT y) f199.results.toList) (fW [] (eY 6 gT y).h),false,true⟩
def wL N x:gU (N+1) x=some (!(x=x)):=ci
def wM(N:Nat):(re N).ok Tryz.prog:=wK (T:=T) (CT:=pc) (N:=N) (λM=>⟨xg,mj,mixed,Fa⟩) func199 ci ci rb [.h (.i .i64)] [] [(.i .i64)] gT false true [] ci (λy=>by kernel_rfl) (λ_=>⟨rfl,rfl⟩) (λy=>by kernel_rfl) (gU N) (λx=>by kernel_rfl)
noncomputable def mJ(N:Nat):Do iS:=[re N]
def nG:Pl:=.z
def fM:PS:=⟨[(4,.h (.i .i64))],[],[(.i .i64)]⟩
noncomputable def cM(N:Nat):Int×Int->eQ:=exF T mJ N (eT f149) 20 nG [.h (.i .i64),.h (.i .i64)] [] [(.i .i64),(.i .i64)] fM
noncomputable def fN(N:Nat):iS:=⟨149,[.h (.i .i64),.h (.i .i64)],[],[(.i .i64),(.i .i64)],kf fM.c,cM N,λy _ k=>k (xN T (eY 20 fM y) f149.results.toList) (fW [] (eY 20 fM y).h),false,true⟩
def sd N x y:cM (N+1) (x,y)=aW (gU N x) λb=>
 aW (gU N y) λa=>
 cond b
  (cond a
   (some 0)
   (some (-1)))
  (cond a
   (some 1)
   (cond (x<y)
    (some (-1))
    (cond (y<x)
     (some 1)
     (some 0)))):=ci
def fO(N:Nat):(fN N).ok Tryz.prog:=wK (T:=T) (CT:=mJ) (N:=N) (λM=>⟨xg,(mI (wM M) mj),mixed,Fa⟩) func149 ci ci nG [.h (.i .i64),.h (.i .i64)] [] [(.i .i64),(.i .i64)] fM false true [] ci (λy=>by kernel_rfl) (λ_=>⟨rfl,rfl⟩) (λy=>by kernel_rfl) (cM N) (λx=>by kernel_rfl)
noncomputable def oq(N:Nat):Do iS:=[]
def se:PS:=⟨[(3,.h (.i .i64)),(6,.h (.sl (.i .i64))),(7,.h (.i .i64)),(8,.h (.i .i64))],[],[(.i .i64),(.sl (.i .i64)),(.i .i64),(.i .i64)]⟩
def si:Do (IO×PS):=[((.exit 0),⟨[(3,.h (.i .i64))],[],[(.i .i64)]⟩),(.ret,⟨[(2,.h (.i .i64))],[],[(.i .i64)]⟩)]
def sj:Pl:=.z
noncomputable def mK(N:Nat):Nat->Int×aX×Int×Int->At ((Int)⊕(Int)):=E7 (ra T (oq N) N (gw [1,1,0,1,0,0] (eT f148))) 18 se si sj
def xQ:Pl:=(.n .z (.n .z (.n (.n .z (.n (.loop se si sj) .z)) .z)))
def jP:PS:=⟨[(2,.h (.i .i64))],[],[(.i .i64)]⟩
noncomputable def gN(N:Nat):aX->eQ:=exF T oq N (eT f148) 18 xQ [.h (.sl (.i .i64))] [] [(.sl (.i .i64))] jP
noncomputable def l5(N:Nat):iS:=⟨148,[.h (.sl (.i .i64))],[],[(.sl (.i .i64))],kf jP.c,gN N,λy _ k=>k (xN T (eY 18 jP y) f148.results.toList) (fW [] (eY 18 jP y).h),false,true⟩
def kK N m b c d a:mK N (m+1) (b,c,d,a)=cond (a<d)
 (aW (ba c a) λe=>
  cond (!(e=b))
   (some (.inr e))
   ((mK N m (b,c,d,(IntKind.wrap .i64 (a+1))))))
 (some (.inl b)):=ci
def CU N a:gN (N+1) a=aW (mK N N (0,a,(List.length a:Int),0)) λb=>
 (match b with
 |.inl c=>some c
 |.inr d=>some d):=ci
def lM(N:Nat):(l5 N).ok Tryz.prog:=wK (T:=T) (CT:=oq) (N:=N) (λM=>⟨xg,mj,mixed,Fa⟩) func148 ci ci xQ [.h (.sl (.i .i64))] [] [(.sl (.i .i64))] jP false true [] ci (λy=>by kernel_rfl) (λ_=>⟨rfl,rfl⟩) (λy=>by kernel_rfl) (gN N) (λx=>by kernel_rfl)
noncomputable def rf(N:Nat):Do iS:=[fN N,l5 N]
def sm:Pl:=.z
def ib:PS:=⟨[(4,.h (.i .i64))],[],[(.i .i64)]⟩
noncomputable def ic(N:Nat):Int×Int×Int×Int->eQ:=exF T rf N (eT f81) 17 sm [.ag [.h (.i .i64),.h (.i .i64)],.ag [.h (.i .i64),.h (.i .i64)]] [] [(.i .i64),(.i .i64),(.i .i64),(.i .i64)] ib
noncomputable def mL(N:Nat):iS:=⟨81,[.ag [.h (.i .i64),.h (.i .i64)],.ag [.h (.i .i64),.h (.i .i64)]],[],[(.i .i64),(.i .i64),(.i .i64),(.i .i64)],kf ib.c,ic N,λy _ k=>k (xN T (eY 17 ib y) f81.results.toList) (fW [] (eY 17 ib y).h),false,true⟩
def xR N a c b d:ic (N+1) (a,c,b,d)=aW (cM N (a,b)) λe=>
 aW (cM N (c,d)) λf=>
 aW (gN N [e,f]) λg=>
 some g:=ci
def nH(N:Nat):(mL N).ok Tryz.prog:=wK (T:=T) (CT:=rf) (N:=N) (λM=>⟨xg,(mI (fO M) (mI (lM M) mj)),mixed,Fa⟩) func81 ci ci sm [.ag [.h (.i .i64),.h (.i .i64)],.ag [.h (.i .i64),.h (.i .i64)]] [] [(.i .i64),(.i .i64),(.i .i64),(.i .i64)] ib false true [] ci (λy=>by kernel_rfl) (λ_=>⟨rfl,rfl⟩) (λy=>by kernel_rfl) (ic N) (λx=>by kernel_rfl)
noncomputable def vg(N:Nat):Do iS:=[mL N]
def xT:Pl:=.z
def jQ:PS:=⟨[(4,.h (.i .i64))],[],[(.i .i64)]⟩
noncomputable def l6(N:Nat):Int×Int×Int×In×Int×Int×Int×In->eQ:=exF T vg N (eT f80) 16 xT [.ag [.h (.i .i64),.h (.i .i64),.h (.i .i64),.h .b],.ag [.h (.i .i64),.h (.i .i64),.h (.i .i64),.h .b]] [] [(.i .i64),(.i .i64),(.i .i64),.b,(.i .i64),(.i .i64),(.i .i64),.b] jQ
noncomputable def xU(N:Nat):iS:=⟨80,[.ag [.h (.i .i64),.h (.i .i64),.h (.i .i64),.h .b],.ag [.h (.i .i64),.h (.i .i64),.h (.i .i64),.h .b]],[],[(.i .i64),(.i .i64),(.i .i64),.b,(.i .i64),(.i .i64),(.i .i64),.b],kf jQ.c,l6 N,λy _ k=>k (xN T (eY 16 jQ y) f80.results.toList) (fW [] (eY 16 jQ y).h),false,true⟩
def CW N a c e f b d g h:l6 (N+1) (a,c,e,f,b,d,g,h)=aW (ic N (a,c,b,d)) λi=>
 some i:=ci
def CX(N:Nat):(xU N).ok Tryz.prog:=wK (T:=T) (CT:=vg) (N:=N) (λM=>⟨xg,(mI (nH M) mj),mixed,Fa⟩) func80 ci ci xT [.ag [.h (.i .i64),.h (.i .i64),.h (.i .i64),.h .b],.ag [.h (.i .i64),.h (.i .i64),.h (.i .i64),.h .b]] [] [(.i .i64),(.i .i64),(.i .i64),.b,(.i .i64),(.i .i64),(.i .i64),.b] jQ false true [] ci (λy=>by kernel_rfl) (λ_=>⟨rfl,rfl⟩) (λy=>by kernel_rfl) (l6 N) (λx=>by kernel_rfl)
noncomputable def so(N:Nat):Do iS:=[fN N]
def vh:Pl:=.z
def iX:PS:=⟨[(4,.h (.i .i64))],[],[(.i .i64)]⟩
noncomputable def kT(N:Nat):aX×aX->eQ:=exF T so N (eT f261) 12 vh [.h (.sl (.i .i64)),.h (.sl (.i .i64))] [] [(.sl (.i .i64)),(.sl (.i .i64))] iX
noncomputable def vj(N:Nat):iS:=⟨261,[.h (.sl (.i .i64)),.h (.sl (.i .i64))],[],[(.sl (.i .i64)),(.sl (.i .i64))],kf iX.c,kT N,λy _ k=>k (xN T (eY 12 iX y) f261.results.toList) (fW [] (eY 12 iX y).h),false,true⟩
def AN N a b:kT (N+1) (a,b)=aW (ba a 0) λc=>
 aW (ba b 0) λd=>
 aW (cM N (c,d)) λe=>
 some e:=ci
def AO(N:Nat):(vj N).ok Tryz.prog:=wK (T:=T) (CT:=so) (N:=N) (λM=>⟨xg,(mI (fO M) mj),mixed,Fa⟩) func261 ci ci vh [.h (.sl (.i .i64)),.h (.sl (.i .i64))] [] [(.sl (.i .i64)),(.sl (.i .i64))] iX false true [] ci (λy=>by kernel_rfl) (λ_=>⟨rfl,rfl⟩) (λy=>by kernel_rfl) (kT N) (λx=>by kernel_rfl)
variable{o:GE}{C:dU}{n:bC}
section
open Go Go.RowKit Go.Shelf Go.Sort
section
def jR(b:a->a->In)(l:Do a):Prop:=l.Pairwise λx y=>b x y=true\/b y x=true
open Classical in
def Kv{α:Type}(lt:α->α->In)(l:Do α):At (Do α):=if jR lt l/\l.length<1099511627776 then some (l.mergeSort λx y=> !lt y x)else none
def Il{b:a->a->In}{l r:Do a}(h:Kv b l=some r):jR b l/\l.length<1099511627776/\r=l.mergeSort λx y=> !b y x:=by
 unfold Kv at h;split at h
 ·rename_i c
  exact⟨c.1,c.2,(aut h).symm⟩
 ·cases h
def jR.perm{b:a->a->In}{l r:Do a}(h:jR b l)(c:l.Perm r):jR b r:=c.pairwise h λ{x y} h=>h.symm
def qk{α:Type}{b:α->α->In}(m:∀x y,b x y=true->b y x=true->False):∀{l r:Do α},l.Perm r->jR b l->l.Pairwise (λx y=>b y x=false)->r.Pairwise (λx y=>b y x=false)->l=r
 |[],r,a,_,_,_=>by rw[List.nil_perm.1 a]
 |x::l,[],a,_,_,_=>by simp at a
 |x::l,y::r,a,f,g,i=>by
  have n:x=y:=by
   have d:x∈y::r:=a.subset d5;have c:y∈x::l:=a.symm.subset d5;rcases auT.1 d with e|d
   ·exact e
   rcases auT.1 c with e|c
   ·exact e.symm
   have j:=(av9.1 g).1 y c;have k:=(av9.1 i).1 x d;rcases(av9.1 f).1 y c with h|h
   ·rw[k]at h;cases h
   ·rw[j]at h;cases h
  subst n;rw[qk m ((List.perm_cons x).1 a) (av9.1 f).2 (av9.1 g).2 (av9.1 i).2]
def wN{e:a->a->In}(g:SWO e){l r:Do a}(j:r.Perm l)(k:jR e l)(n:r.Pairwise λx y=>e y x=false):r=l.mergeSort λx y=> !e y x:=by
 have m:=ayH l λx y=> !e y x;refine qk (λx y i f=>by have:=g.trans _ _ _ i f;rw[g.irrefl]at this;cases this) (j.trans m.symm) (k.perm j.symm) n ?_;have:=aza (le:=λx y=> !e y x) (λd b c i f=>by
  simp only[avC]at i f⊢;exact g.ntrans _ _ _ f i) (λd b=>by
  cases h:e b d with
  |false=>rfl
  |true=>
   cases f:e d b with
   |false=>rfl
   |true=>have:=g.trans _ _ _ h f;rw[g.irrefl]at this;cases this) l
 exact this.imp λh=>by simpa using h
def UH [Inhabited a]{d b:Array a}(h:PermIn 0 d.size d b):b.toList.Perm d.toList:=by
 have f:=h.2.2;have c:d.extract 0 d.size=d:=d5
 have e:b.extract 0 d.size=b:=by rw[<-h.1];simp
 rwa[c,e]at f
def Im [Inhabited a]{c:a->a->In}{d b:Array a}(m:b.size=d.size)(h:SortedIn c 0 d.size b):b.toList.Pairwise λx y=>c y x=false:=by
 rw[axL];intro i j e k g;have f:i<b.size:=by simpa using e
 have l:j<b.size:=by simpa using k
 have:=h i j (auS _) g bv;rw[aw1 b i f,aw1 b j l]at this;simpa using this
structure al0(w W:World)(b:Nat)(cur:dU)(t:TypeId)(us:bC):Prop where
 os:W.os=w.os
 tape:W.tape=w.tape
 output:W.output=w.output
 size:w.heap.size<=W.heap.size
 drawn:w.drawn<=W.drawn
 other:∀k,k≠b->k<w.heap.size->W.heap[k]? =w.heap[k]?
 row:∃al1,W.heap[b]? =some (.cells al1 t (0,0))/\al1.size=cur.size/\al1.toList.take us.length=us
def acN [Inhabited a](g:b.heap[c]? =some (.cells C d (0,0)))(enc:a->Id)(m:Nat)(e:Array a)(o:Array Obj)(p:e.size<=C.size):al0 b (grow (putRow enc (Sort.ahead b m) c 0 e) o) c C d (e.toList.map enc):=by
 have h:c<b.heap.size:=(au9.1 g).1;refine⟨rfl,rfl,rfl,d5,by show b.drawn<=b.drawn+m;omega,λk l n=>?_,putCells enc 0 e C,?_,by simp[putCells],?_⟩
 ·simp only[grow,putRow,mapBlock,heap_ahead]
  rw[awK (by simpa using n),av7,aun (Ne.symm l)]
 ·simp only[grow,putRow,mapBlock,heap_ahead]
  rw[awK (by simpa using h),av7,auo rfl,g];rfl
 ·refine avX λj=>?_
  rw[au3,auz,awD];by_cases f:j<e.size
  ·have i:j<C.size:=bv
   rw[auo f,avL,auM,avL,putCells,Array.getElem?_mapIdx,avb i,avb f];simp[f]
  ·rw[aun f,auM,avL,Array.getElem?_eq_none bv]
   rfl
def Kw(h:Ext b o):∃q c,o=grow (b.drewN q) c:=by
 obtain⟨p,a⟩:=regrown_of_below h.Hv;have d:b.drawn<=p.d:=by
  have:=h.drawn;rw[a]at this;exact this
 refine⟨p.d - b.drawn,p.os,a.trans ?_⟩;congr 1;unfold redrawn World.drewN;congr 1;omega
variable{P:Fd}{ρ:Ren}
def acO{Rd:bF}(D:SR B Rd j A b)(K:B.hY c)(p:al0 b o c C d n)(s:∀a u,¬bN B Rd j A b c a u)
 {vs:bC} (r:BG P i [] v [] (.v (.int .i64 y))) (F:LR (VR (bN B Rd j A b) none) v vs):Calls P i vs.toArray o λx l=>x=.returned (.int .i64 y)/\∃q I,l=grow (o.drewN q) I:=by
 have k:∀f a u,bN B Rd j A b f a u->o.cell? ⟨f,a,none⟩=some u:=λf a u g=>by
  have z:f≠c:=λj=>s a u (j▸g);have w:=awo b _ g.1;have:=p.other f z w;rw[<-g.1];unfold World.cell?;rw[this]
 have m:aiv o:=λf a u t=>k f a u (D.CM t);refine(r.2 (b0 o) (Rw o) e0 o vs (sr0 o m) (F.imp λ_ _ h=>(h.mono λf a u g=>aoP (k f a u g)).cV)).mono λx l H=>?_;obtain⟨e,J,rfl,E,G⟩:=H;exact⟨by rw[G.bL],Kw (E.ext.ext λ_ h=>h)⟩
def Sv{Rd:bF}{k p:Nat}{t m:Do (Do AV)}(s:SR B Rd j [(k,some (.arr d p t true))] b)(A:j.bW k=some c)(Z:b.heap[c]? =some (.cells C d (0,0)))
 (X:j.sv k=.slice (some ⟨c,0,none⟩) t.length i) (R:t.length<=i) (V:i<=maxLen) (S:C.size=i*p) (l:al0 b o c C d n) (G:m.length=t.length) (Y:∀r∈m,r.length=p) (z:∀f∈m.flatten,f.one=true)
 (H:LR (VR (bN B Rd j [(k,some (.arr d p t true))] b) none) m.flatten n):SR B Rd j [(k,some (.arr d p m true))] o:=by
 have Q:=s.base k _ c bf A;have F:j.cP k=0:=(s.ob k _ bf).2.2.1 rfl;have v:∀a x,aZ [(k,some (Ob.arr d p m true))] a=some x->a=k/\x=.arr d p m true:=λa x h=>by
  by_cases q:a=k
  ·subst q;rw[bf]at h;exact⟨rfl,(aut h).symm⟩
  ·rw[bc q]at h;cases h
 have N:∀g e u,bN B Rd j [(k,some (.arr d p t true))] b g e u->bN B Rd j [(k,some (.arr d p m true))] o g e u:=λg e u w=>by
  have W:g≠c:=λy=>by
   subst y;have:=w.2.2 k _ bf A;omega
  have E:=awo b _ w.1;refine⟨?_,w.2.1,λa ob q D=>?_⟩
  ·rw[<-w.1]
   unfold World.cell?;rw[l.other g W E]
  ·obtain⟨rfl,_⟩:=v a ob q
   exact w.2.2 a _ bf D
 have U:Bx B o:=s.ext.step l.os l.tape l.output l.size (λg O E=>l.other g (λy=>O (by rw[y];exact Q.1)) E) l.drawn;refine⟨U,s.kg,λa ob q=>?_,λa ob g q D=>?_,λa j' ob x g z M _ _=>by rw[(v _ _ z).1,(v _ _ M).1],s.rL⟩
 ·obtain⟨rfl,rfl⟩:=v a ob q
  obtain⟨L,I,J,K⟩:=l.row;refine⟨Y,z,λ_=>F,.inr ⟨c,i,L,A,by rw[X,G],by rw[G];exact R,V,I,by rw[J,S],?_,by rw[F];exact auS _⟩⟩;have:m.flatten.length=n.length:=H.1.symm;rw[this,K];exact H.imp λ_ _ h=>h.mono N
 ·obtain⟨rfl,_⟩:=v a ob q
  have:=s.base a _ g bf D;exact⟨this.1,awq this.2 l.size⟩
def ql(h:Bears P e t)(c:t.body.isNone=false):Enters P e:=by
 obtain⟨d,a,b⟩:=h;exact⟨_,b,a,c⟩
def mn:∀(r:Sc) (x:r.c9),r.key=true->bJ r x=(dc r x).map AV.v
 |.i k,x,_=>rfl
 |.b,x,_=>rfl
 |.sl r,x,h=>by simp[Sc.key]at h
 |.pr a c,x,h=>by
  simp only[Sc.key,aup]at h;show bJ a x.1++bJ c x.2=(dc a x.1++dc c x.2).map AV.v;rw[mn a x.1 h.1,mn c x.2 h.2,avh]
 |.u,x,_=>rfl
def aix(r:Sc)(x:r.c9)(h:r.key=true):(dc r x).length=r.w:=by
 have:=eW r x;rw[mn r x h,auz]at this;exact this
def Zo(r:Sc)(x:r.c9)(h:r.key=true):∀v∈dc r x,v.oneCell'=true:=λv a=>by
 have:=oY r x (.v v) (by rw[mn r x h];exact auD.2 ⟨v,a,rfl⟩);exact this
def flat_get{α:Type} [Inhabited α]{enc:α->bC}{k:Nat}(a:∀x,(enc x).length=k):∀(l:Do α) (j:Nat),j<l.length*k->(l.map enc).flatten[j]? =some ((enc l[j/k]!)[j % k]!)
 |[],j,h=>by simp at h
 |x::l,j,h=>by
  rw[auL,au4];have f:0<k:=by
   rcases axq k with e|e
   ·subst e;simp at h
   ·exact e
  by_cases b:j<k
  ·rw[au7 (by rw[a];exact b),ayI b,awH b]
   rw[auy (by rw[a];exact b)];simp[a,b]
  ·rw[avG (by rw[a];omega),a,flat_get a l (j - k) (by rw[auP,au6,aws]at h;omega)]
   have c:j/k=(j - k)/k+1:=by
    have:j=(j - k)+k:=bv
    conv=>lhs;rw[this]
    exact Nat.add_div_right _ f
   have d:j % k=(j - k) % k:=by
    have:j=(j - k)+k:=bv
    conv=>lhs;rw[this]
    exact Nat.add_mod_right _ _
   rw[c,d];simp
def Fb [Inhabited a]{enc:a->bC}(e:∀x,(enc x).length=c)(d:Array a):(flatK enc c d).toList=(d.toList.map enc).flatten:=by
 refine avX λj=>?_;have g:(d.toList.map enc).flatten.length=d.size*c:=by
  have:∀l:Do a,(l.map enc).flatten.length=l.length*c:=λl=>by
   induction l with
   |nil=>simp
   |cons x l f=>rw[auL,au4,auE,f,e,auP,au6];omega
  rw[this,awD]
 by_cases b:j<d.size*c
 ·rw[flat_get e d.toList j (by simpa using b),avL,avb (by simpa using b)]
  have:=get_flatK enc c d j b;rw[aw1 (flatK enc c d) j (by simpa using b)]at this;rw[this,show d.toList[j/c]! =d[j/c]! from Array.getElem!_toList]
 ·rw[au5 d7,au5 bv]
def Fc(r:Sc)(h:r.key=true)(l:Do r.c9):(List.map (bJ r) l).flatten=(l.map (dc r)).flatten.map AV.v:=by
 induction l with
 |nil=>rfl
 |cons x l a=>rw[auL,auL,au4,au4,avh,a,mn r x h]
def UI{Rd:bF}{a:bC}(h:LR (VR Rd none) (n.map AV.v) a):a=n:=by
 refine avX λj=>?_;have d:=h.1;rw[auz]at d;by_cases b:j<n.length
 ·have c:=h.2 j (.v n[j]) a[j] (by simp[b]) (auy bv)
  rw[auy bv,auy b,c.bL]
 ·rw[au5 bv,au5 bv]
abbrev G0:Nat:=4294967296
def akz{e:AV}{Rd:bF}(d:LR (VR Rd (some j)) [.ow c,e] n):∃u,n=[j.sv c,u]/\VR Rd (some j) e u:=by
 match n,d.1 with
 |[a,b],_=>
  have f:=d.2 0 _ a rfl rfl;have g:=d.2 1 _ b rfl rfl;cases f with
  |ow=>exact⟨b,rfl,g⟩
def aoQ{r:Sc}(p:r.key=true)(L:SlLaysF0.n6 P ρ)(aE:∀w,(isAgg (ρ.t 24)).run P w=.ok true w)(zE:∀w,(Go.sizeOf (ρ.t 24)).run P w=.ok r.w w)(s:r.c9->r.c9->Int)(W:SWO (ltOf s)){g:Nat}
 (Y:∀x y,BG P g [] [.ag (bJ r x),.ag (bJ r y)] [] (.v (.int .i64 (s x y)))) {U:AV} (h0:∀Rd E u,VR Rd E U u->u=.func (.func g) #[] #[]) {i ys:Do r.c9} (af:Kv (ltOf s) i=some ys):
 BG P (ρ.f 6) [(G0,some (.arr d r.w (List.map (bJ r) i) true))] [.ow G0,U] [(G0,some (.arr d r.w (List.map (bJ r) ys) true))] (.tu []):=by
 obtain⟨hd,aj,rfl⟩:=Il af;refine⟨ql L.f6 rfl,λB Rd e w vs D hv=>?_⟩;obtain⟨u,rfl,hu⟩:=akz hv;obtain rfl:=h0 _ _ _ hu;obtain⟨ae,ak,a9,ac⟩:=D.ob G0 _ bf;rcases ac with⟨aa,K,a,F⟩|⟨b,a3,k,K,F,M,hm,t,Z,a0,ai⟩
 ·have G:i=[]:=by simpa using aa
  subst G;rw[F];refine(ayJ L a 0 _ w).mono λx w' G=>?_;obtain⟨rfl,rfl⟩:=G;exact⟨_,e,rfl,by simpa using D,.tu [] rfl λj c u h=>by simp at h⟩
 haveI:Inhabited r.c9:=⟨zeroV r⟩
 have R:=λx=>aix r x p;obtain⟨f,N⟩:∃f:Array r.c9,f.toList=i:=⟨i.toArray,rfl⟩;have v:f.size=i.length:=by rw[<-N,awD]
 rw[auz]at F M;have a5:k.toList.take (List.map (bJ r) i).flatten.length=(i.map (dc r)).flatten:=by
  rw[Fc r p]at a0;have:=UI a0;rw[Fc r p];exact this
 have a6:(List.map (bJ r) i).flatten.length=i.length*r.w:=by
  rw[er ae,auz]
 have X:=D.base G0 _ b bf K;have a7:∀o u,¬bN B Rd e [(G0,some (.arr d r.w (List.map (bJ r) i) true))] w b o u:=λo u ab=>by
  have h1:=ab.2.2 G0 _ bf K;have h2:=a9 rfl;omega
 have O:∀dk:Array r.c9,dk.size=f.size->(flatK (dc r) r.w dk).size<=k.size:=λdk Q=>by
  rw[size_flatK,Q,v,Z];exact awC _ M
 have hH:HoldsK (dc r) r.w w b 0 f:=λj A=>by
  have a8:j<i.length*r.w:=by rw[size_flatK,v]at A;exact A
  have ah:j<k.size:=awq A (O f rfl);rw[auZ];refine⟨?_,awR w b j k d t⟩;rw[avu w b j k d (0,0) t,aw1 _ j A];have e1:(flatK (dc r) r.w f).toList=(i.map (dc r)).flatten:=by rw[Fb R,N]
  have V:k.toList[j]? =(flatK (dc r) r.w f).toList[j]? :=by
   rw[e1,<-a5,au3,auo (by rw[a6];exact a8)]
  rw[avL,avL,avb A]at V;exact V
 have a4:CmpLays P g #[] (dc r) r.w s b 0 f.size w:=λm S dk Q x y=>by
  have J:=acN t id m (flatK (dc r) r.w dk) S (O dk Q);have:=acO D X.1 J a7 (Y x y) (vs:=[.agg (dc r x).toArray,.agg (dc r y).toArray]) ?_
  ·exact this
  ·have one:∀z:r.c9,VR (bN B Rd e [(G0,some (.arr d r.w (List.map (bJ r) i) true))] w) none (.ag (bJ r z)) (.agg (dc r z).toArray):=λz=>by
    have l:=LR.Up (Rd:=bN B Rd e [(G0,some (.arr d r.w (List.map (bJ r) i) true))] w) (E:=none) (dc r z);rw[<-mn r z p]at l;exact .ag _ l.1 l.2
   exact LR.cons (one x) (LR.cons (one y) LR.nil)
 have eg:∀H w,(callFunc g H).run P w=.ok (.enter g H) w:=λH w=>fK (Y (zeroV r) (zeroV r)).1 H w;have a1:=AnyQ.slices_SortFunc L r.w aE zE (dc r) R (λx=>Zo r x p) s W g #[] b 0 a3 f w eg a4 hH X.2 bv;rw[v]at a1;rw[F];refine a1.mono λx w' G=>?_;obtain⟨rfl,I,n,S,C,a2,rfl⟩:=G;rw[<-v]at C a2;have ag:=wN W (N▸UH C) hd (Im C.1 a2);have J:=acN t id n (flatK (dc r) r.w I) S (O I C.1);refine⟨_,e,rfl,?_,.tu [] rfl λj c u h=>by simp at h⟩;have ad:(flatK (dc r) r.w I).toList.map id=(I.toList.map (dc r)).flatten:=by rw[awe,Fb R]
 rw[ad]at J;rw[<-ag];refine Sv D K t (by rw[auz];exact F) (by rw[auz];exact M) hm Z J ?_ (λq hq=>?_) (eO r _) ?_
 ·rw[auz,auz,awD,C.1,v]
 ·obtain⟨z,_,rfl⟩:=auD.1 hq
  exact eW r z
 ·rw[Fc r p]
  exact LR.Up _
def pd(b:a->AV)(l:Do a):(l.map λx=>[b x]).flatten=l.map b:=by
 induction l with
 |nil=>rfl
 |cons x l c=>rw[auL,au4,c];rfl
abbrev El(b:a->AV)(Good:a->Prop)(R:bF):Type:={p:a×Id//Good p.1/\VR R none (b p.1) p.2}
def els{β:Type}{a:β->AV}{Good:β->Prop}{R:bF}:∀{l:Do β} {us:bC},(∀x∈l,Good x)->LR (VR R none) (l.map a) us->∃d:Do (El a Good R),d.map (λp=>p.1.1)=l/\d.map (λp=>p.1.2)=us
 |[],us,_,h=>by
  have:us=[]:=azb.1 h.1;exact⟨[],rfl,this.symm⟩
 |x::l,[],_,h=>by have:=h.1;simp at this
 |x::l,u::us,b,h=>by
  have g:=h.2 0 (a x) u rfl rfl;obtain⟨d,e,f⟩:=els (l:=l) (us:=us) (λy m=>b y (avt _ m)) ⟨by have:=h.1;simpa using this,λj c v i k=>h.2 (j+1) c v (by simpa using i) (by simpa using k)⟩;exact⟨⟨(x,u),b x aw_,g⟩::d,by rw[auL,e],by rw[auL,f]⟩
def acP{β:Type}{a:β->AV}{Good:β->Prop}{R:bF}:∀d:Do (El a Good R),LR (VR R none) (d.map λp=>a p.1.1) (d.map λp=>p.1.2)
 |[]=>LR.nil
 |x::d=>LR.cons x.2.2 (acP d)
def ash{av:a->AV}(O:∀x,(av x).one=true)(an:∀x k,av x≠.ow k)(Good:a->Prop)(L:SlLaysF.n6 P ρ)(Y:SlLaysF0.n6 P ρ)(s:a->a->Int)(J:SWO (ltOf s)){g:Nat}
 (hc:∀x y,Good x->Good y->BG P g [] [av x,av y] [] (.v (.int .i64 (s x y)))) {Z:AV} (h0:∀Rd E u,VR Rd E Z u->u=.func (.func g) #[] #[]) {l ys:Do a} (hG:∀x∈l,Good x) (aj:Kv (ltOf s) l=some ys):
 BG P (ρ.f 6) [(G0,some (.arr d 1 (l.map λx=>[av x]) true))] [.ow G0,Z] [(G0,some (.arr d 1 (ys.map λx=>[av x]) true))] (.tu []):=by
 obtain⟨hd,am,rfl⟩:=Il aj;refine⟨ql L.f6 rfl,λB Rd e w vs v hv=>?_⟩;obtain⟨u,rfl,hu⟩:=akz hv;obtain rfl:=h0 _ _ _ hu;obtain⟨ap,ao,ae,ai⟩:=v.ob G0 _ bf;rcases ai with⟨ag,K,i,A⟩|⟨b,a8,C,K,A,S,hm,G,U,a4,al⟩
 ·have r:l=[]:=by simpa using ag
  subst r;rw[A];refine(ayJ Y i 0 _ w).mono λx w' r=>?_;obtain⟨rfl,rfl⟩:=r;exact⟨_,e,rfl,by simpa using v,.tu [] rfl λj c u h=>by simp at h⟩
 have ac:∀o u,¬bN B Rd e [(G0,some (.arr d 1 (l.map λx=>[av x]) true))] w b o u:=λo u ah=>by
  have O:=ah.2.2 G0 _ bf K;have h2:=ae rfl;omega
 obtain⟨R,Q⟩:∃R,bN B Rd e [(G0,some (.arr d 1 (l.map λx=>[av x]) true))] w=R:=⟨_,rfl⟩;rw[pd,Q]at a4;obtain⟨f,M,a3⟩:=els hG a4;have a2:f.length=l.length:=by rw[<-M,auz]
 rcases f with _|⟨t,d0⟩
 ·have r:l=[]:=by rw[<-M];rfl
  subst r;rw[A];refine(ayJ Y _ _ _ w).mono λx w' r=>?_;obtain⟨rfl,rfl⟩:=r;exact⟨_,e,rfl,by simpa using v,.tu [] rfl λj c u h=>by simp at h⟩
 haveI:Inhabited (El av Good R):=⟨t⟩
 obtain⟨D,a9⟩:∃D:Array (El av Good R),D.toList=t::d0:=⟨(t::d0).toArray,rfl⟩;rw[<-a9]at M a3 a2;have F:D.size=l.length:=by rw[<-a2,awD]
 rw[auz]at A S;rw[avP]at U;have a0:=v.base G0 _ b bf K;have a7:∀dk:Array (El av Good R),dk.size=D.size->dk.size<=C.size:=λdk W=>by rw[W,F,U];exact S
 have hH:Holds (λp:El av Good R=>p.1.2) w b 0 D:=λj V=>by
  have ad:j<l.length:=by rw[<-F];exact V
  have ak:j<C.size:=bv
  rw[auZ];refine⟨?_,awR w b j C d G⟩;rw[avu w b j C d (0,0) G,aw1 D j V];have e2:C.toList[j]? =(D.toList.map λp=>p.1.2)[j]? :=by
   rw[a3,au3,auo (by rw[auz];exact ad)]
  rw[avL,auM,avL,avb V]at e2;exact e2
 have ab:CmpLays1 P g #[] (λp:El av Good R=>p.1.2) (λp q=>s p.1.1 q.1.1) b 0 D.size w:=λm X dk W x y=>acO v a0.1 (acN G _ m dk X (a7 dk W)) ac (hc x.1.1 y.1.1 x.2.1 y.2.1) (by rw[Q];exact LR.cons x.2.2 (LR.cons y.2.2 LR.nil));have eg:∀I w,(callFunc g I).run P w=.ok (.enter g I) w:=λI w=>fK (hc t.1.1 t.1.1 t.2.1 t.2.1).1 I w;have aa:SWO (ltOf λ(p q:El av Good R)=>s p.1.1 q.1.1):=⟨λx=>J.irrefl _,λx y z=>J.trans _ _ _,λx y z=>J.ntrans _ _ _⟩;have a5:=Any.slices_SortFunc L (λp:El av Good R=>p.1.2) (λp=>p.2.2.jI (O _) λ_ k h=>nomatch h) (λp q=>s p.1.1 q.1.1) aa g #[] b 0 a8 D w eg ab hH a0.2 bv;rw[F]at a5;rw[A];refine a5.mono λx w' r=>?_;obtain⟨rfl,N,n,X,H,a6,rfl⟩:=r;rw[<-F]at H a6;have af:(N.toList.map λp=>p.1.1)=l.mergeSort λx y=> !(ltOf s) y x:=by
  refine wN J ?_ hd ?_
  ·rw[<-M];exact(UH H).map _
  ·rw[axr];exact Im H.1 a6
 have hW:=acN G (λp:El av Good R=>p.1.2) n N X (a7 N H.1);refine⟨_,e,rfl,?_,.tu [] rfl λj c u h=>by simp at h⟩;rw[<-af];refine Sv v K G (by rw[auz];exact A) (by rw[auz];exact S) hm (by rw[avP];exact U) hW ?_ (λq hq=>?_) (λc a1=>?_) ?_
 ·rw[auz,auz,auz,awD,H.1,F]
 ·obtain⟨z,_,rfl⟩:=auD.1 hq
  rfl
 ·rw[pd]at a1
  obtain⟨z,_,rfl⟩:=auD.1 a1;exact O z
 ·rw[pd,avE,Q]
  exact acP _
def al2{ρ:Ren}(L:SlLaysM.n5 P ρ){f:aX}(a0:f.length<1099511627776):
 BG P (ρ.f 5) [(G0,some (.arr d 1 (f.map λx=>[AV.v (.int .i64 x)]) true))] [.ow G0] [(G0,some (.arr d 1 ((f.mergeSort λx y=>decide (x<=y)).map λx=>[AV.v (.int .i64 x)]) true))] (.tu []):=by
 refine⟨ql L.f5 rfl,λB Rd e w G m F=>?_⟩;obtain rfl:G=[e.sv G0]:=by
  match G,F.1 with
  |[a],_=>
   have I:=F.2 0 _ a rfl rfl;cases I with
   |ow=>rfl
 obtain⟨a2,a1,Y,U⟩:=m.ob G0 _ bf;rcases U with⟨R,p,a,i⟩|⟨b,H,g,p,i,r,O,l,s,t,Z⟩
 ·have k:f=[]:=by simpa using R
  subst k;rw[i];refine(AnyM.slices_Sort_int_none L a 0 w).mono λx W k=>?_;obtain⟨rfl,rfl⟩:=k;exact⟨_,e,rfl,by simpa using m,.tu [] rfl λj c u h=>by simp at h⟩
 rw[pd]at t;have N:g.toList.take f.length=f.map (Value.int .i64):=by
  have o:(f.map λx=>AV.v (.int .i64 x))=(f.map (Value.int .i64)).map AV.v:=by rw[avE];rfl
  rw[o]at t;have:=UI t;simpa using this
 rw[auz]at i r;rw[avP]at s;have M:=m.base G0 _ b bf p;have J:Holds (Value.int .i64) w b 0 f.toArray:=λj C=>by
  have D:j<f.length:=by simpa using C
  have X:j<g.size:=bv
  rw[auZ];refine⟨?_,awR w b j g d l⟩;rw[avu w b j g d (0,0) l,aw1 _ j C];have v:g.toList[j]? =(f.map (Value.int .i64))[j]? :=by
   rw[<-N,au3,auo D]
  rw[avL,auM,auy D]at v;exact v
 have Q:=AnyM.slices_Sort_int L b 0 H f w J M.2 bv;rw[i];refine Q.mono λx W k=>?_;obtain⟨rfl,n,V,rfl⟩:=k;have E:(f.mergeSort λx y=>decide (x<=y)).length=f.length:=azc _;have K:=acN l (Value.int .i64) n (f.mergeSort λx y=>decide (x<=y)).toArray V (by rw[awa,E,s];exact r);refine⟨_,e,rfl,?_,.tu [] rfl λj c u h=>by simp at h⟩;refine Sv m p l (by rw[auz];exact i) (by rw[auz];exact r) O (by rw[avP];exact s) K ?_ (λq S=>?_) (λc A=>?_) ?_
 ·rw[auz,auz,E]
 ·obtain⟨z,_,rfl⟩:=auD.1 S
  rfl
 ·rw[pd]at A
  obtain⟨z,_,rfl⟩:=auD.1 A;rfl
 ·rw[pd]
  have o:((f.mergeSort λx y=>decide (x<=y)).map λx=>AV.v (.int .i64 x))=((f.mergeSort λx y=>decide (x<=y)).map (Value.int .i64)).map AV.v:=by rw[avE];rfl
  rw[o];exact LR.Up _
end
end
section
open Go Go.RowKit Go.Lib Go.Shelf
section
def acQ{Rd:bF}(i:SR B Rd j A b)(p:Bx B o)(f:bX)(s:Id)(ob:Ob)(n:∀a,f=some a->B.hY a/\a<o.heap.size)
 (q:∀l,OR l (j.cO 0 f s 0) o 0 ob):SR B Rd (j.cO 0 f s 0) [(0,some ob)] o:=by
 have d:∀k c,aZ [(0,some ob)] k=some c->k=0/\c=ob:=λk c h=>by
  by_cases e:k=0
  ·subst e;rw[bf]at h;exact⟨rfl,(aut h).symm⟩
  ·rw[bc e]at h;cases h
 refine⟨p,i.kg,λk c h=>?_,λk c a h g=>?_,λk r t u a h m _ _=>?_,λk e=>?_⟩
 ·obtain⟨rfl,rfl⟩:=d k c h;exact q _
 ·obtain⟨rfl,rfl⟩:=d k c h
  exact n a (by rw[Env.bY]at g;exact g)
 ·rw[(d _ _ h).1,(d _ _ m).1]
 ·rw[Env.bG bv,Env.de bv];exact i.rL k e
def acR(w:GE)(o:Obj):(w.alloc o).heap[w.heap.size]? =some o:=by
 unfold World.alloc;exact Array.getElem?_push_size
variable{P:Fd}{ρ:Ren}
def NB(L:Lays8.n4 P ρ)(d:TypeInfo)(z:Id)(G:P.info? (ρ.t 25)=some d)(Q:d.zero=some z)(K:0<d.size)(O:z.cells.size=d.size)(E:d.bytes<=64)(n:Nat)(U:n<=1099511627776):
 BG P (ρ.f 4) [] [.sl true 0 [],.v (.int .i64 n)] [(0,some (.arr (ρ.t 25) d.size [] true))] (.ow 0):=by
 refine⟨by obtain⟨X,i,q⟩:=L.f4;exact⟨_,q,i,rfl⟩,λB Rd e w t f m=>?_⟩;obtain⟨o,p,rfl⟩:∃o p,t=[o,p]:=by
  match t,m.1 with
  |[a,b],_=>exact⟨a,b,rfl⟩
 obtain⟨a,S,Y,rfl,_,_,_,_,_,N,_⟩:=(m.2 0 _ o rfl rfl).mr;obtain rfl:=(m.2 1 _ p rfl rfl).bL;obtain rfl:=N rfl;by_cases C:n=0
 ·subst C
  refine(Any8.slices_Grow_room L a 0 0 0 w bv bv bv bv).mono λx y g=>?_;obtain⟨rfl,rfl⟩:=g;refine⟨_,e.cO 0 none (.slice a 0 0) 0,rfl,acQ f f.ext _ _ _ (λb h=>by cases h) (λA=>⟨(λr l=>by cases l),(λc k=>by cases k),(λ_=>Env.b9),.inl ⟨rfl,Env.bY,a,Env.dK⟩⟩),?_⟩;have:= @VR.ow (bN B Rd (e.cO 0 none (.slice a 0 0) 0) [(0,some (.arr (ρ.t 25) d.size [] true))] y) (e.cO 0 none (.slice a 0 0) 0) 0;rwa[Env.dK]at this
 ·have D:(0+n)*d.bytes<=140737488355328:=by
   have:(0+n)*d.bytes<=1099511627776*64:=avZ bv E;omega
  refine(Any8.slices_Grow_grow L d z G Q K a 0 0 n [] w bv bv D bv d5 (λ_=>rfl) (λ_ _ j v H=>by simp at H)).mono λx y g=>?_;obtain⟨rfl,rfl⟩:=g;have V:=avN w (0+n) 0 (ρ.t 25);have J:B.hY w.heap.size:=f.ext.hY (auq _);have g:=f.ext.drew.alloc (.cells ([].toArray++Builtin.zeroCells z.cells (0+n - 0)++Builtin.zeroCells z.cells (grownCap w (0+n) 0 (ρ.t 25) - (0+n))) (ρ.t 25));have s:=acR w.drew (.cells ([].toArray++Builtin.zeroCells z.cells (0+n - 0)++Builtin.zeroCells z.cells (grownCap w (0+n) 0 (ρ.t 25) - (0+n))) (ρ.t 25));have M:(Array.mk ([]:bC)++Builtin.zeroCells z.cells (0+n - 0)++Builtin.zeroCells z.cells (grownCap w (0+n) 0 (ρ.t 25) - (0+n))).size=grownCap w (0+n) 0 (ρ.t 25)*d.size:=by
   simp only[awz,av3,awa,avg,O];rw[auZ,<-au6];congr 1;omega
  have F:=aye w (0+n) 0 (ρ.t 25) (by unfold maxLen;omega);generalize grownCap w (0+n) 0 (ρ.t 25)=c at*;generalize w.drew.alloc _=W at*;have I:w.heap.size<W.heap.size:=(au9.1 s).1;refine⟨_,e.cO 0 (some w.heap.size) (.slice (some ⟨w.heap.size,0,none⟩) 0 c) 0,rfl,acQ f g _ _ _ (λR h=>by cases h;exact⟨J,I⟩) (λA=>⟨(λr l=>by cases l),(λc k=>by cases k),(λ_=>Env.b9),.inr ⟨_,_,_,Env.bY,by rw[Env.dK];rfl,auS _,F,s,M,⟨rfl,λj c u i q=>by simp at i⟩,by rw[Env.b9];exact auS _⟩⟩),?_⟩;have:= @VR.ow (bN B Rd (e.cO 0 (some w.heap.size) (.slice (some ⟨w.heap.size,0,none⟩) 0 c) 0) [(0,some (.arr (ρ.t 25) d.size [] true))] W) (e.cO 0 (some w.heap.size) (.slice (some ⟨w.heap.size,0,none⟩) 0 c) 0) 0;rwa[Env.dK]at this
def NC(x:Int)(y:Unit)(h:cond (decide (0<=x/\x<=1099511627776)) (some ()) none=some y):∃n:Nat,x=(n:Int)/\n<=1099511627776:=by
 by_cases a:0<=x/\x<=1099511627776
 ·exact⟨x.toNat,bv,bv⟩
 ·rw[auW a]at h;cases h
end
end
variable{u:Fd}
section
open Go Go.RowKit Go.Lib Go.Shelf Go.Sort
def al3:Ren:=⟨λ|6=>79|14=>146|20=>189|21=>190|22=>191|23=>192|24=>193|25=>194|26=>195|27=>196|46=>240|49=>243|50=>244|57=>272|15=>147|28=>197|29=>198|47=>241|48=>242|x=>x,λ|0=>0|3=>3|4=>4|5=>5|9=>9|22=>24|24=>161|25=>181|39=>164|45=>292|46=>293|50=>136|53=>69|55=>299|66=>338|70=>342|76=>366|77=>166|x=>x,λx=>x⟩
def aiy:Ren:=⟨λ|6=>144|14=>187|20=>232|21=>233|22=>234|23=>235|24=>236|25=>237|26=>238|27=>239|46=>269|49=>270|50=>271|57=>288|15=>147|28=>197|29=>198|47=>241|48=>242|x=>x,λ|0=>0|3=>3|4=>4|5=>5|9=>9|22=>53|24=>52|25=>180|39=>164|45=>292|46=>293|50=>136|53=>69|55=>299|66=>338|70=>342|76=>366|77=>166|x=>x,λx=>x⟩
def al4:Ren:=⟨λ|6=>260|14=>281|20=>293|21=>294|22=>295|23=>296|24=>297|25=>298|26=>299|27=>300|46=>310|49=>311|50=>312|57=>316|15=>147|28=>197|29=>198|47=>241|48=>242|x=>x,λ|0=>0|3=>3|4=>4|5=>5|9=>9|22=>71|24=>47|25=>357|39=>164|45=>292|46=>293|50=>136|53=>69|55=>299|66=>338|70=>342|76=>366|77=>166|x=>x,λx=>x⟩
def al5:Ren:=⟨λ|5=>276|7=>289|10=>301|11=>302|12=>303|13=>304|14=>305|15=>306|17=>308|18=>309|30=>313|33=>314|34=>315|40=>317|8=>147|16=>307|19=>197|20=>198|31=>241|32=>242|35=>199|x=>x,λ|0=>0|3=>3|4=>4|5=>5|9=>9|22=>47|23=>47|25=>3|32=>164|35=>292|36=>293|41=>136|44=>69|46=>299|53=>338|57=>342|63=>366|64=>166|x=>x,λx=>x⟩
def aoR:Ren:=⟨λ|4=>175|x=>x,λ|0=>0|3=>3|4=>4|9=>9|20=>20|22=>47|25=>3|x=>x,λx=>x⟩
def aoS:Ren:=⟨λ|4=>201|x=>x,λ|0=>0|3=>3|4=>4|9=>9|20=>20|22=>24|25=>161|x=>x,λx=>x⟩
def bears(a:(((u.funcs[e]?).getD default).name== "runtime.NumGoroutine")=false)(b:u.funcs[e]? =some {t with name:=((u.funcs[e]?).getD default).name}):Bears u e t:=⟨_,a,b⟩
def al6:SlLaysF0.n6 Tryz.prog al3:=by
 constructor<;>first|exact mixed|exact bears ci ci|exact ci|exactλw=>by kernel_rfl
def aiz:SlLaysF0.n6 Tryz.prog aiy:=by
 constructor<;>first|exact mixed|exact bears ci ci|exact ci|exactλw=>by kernel_rfl
def acS:SlLaysF.n6 Tryz.prog al4:=by
 constructor<;>first|exact mixed|exact bears ci ci|exact ci|exactλw=>by kernel_rfl
def al7:SlLaysM.n5 Tryz.prog al5:=by
 constructor<;>first|exact mixed|exact bears ci ci|exact ci|exactλw=>by kernel_rfl
def aoT:Lays8.n4 Tryz.prog aoR:=by
 constructor<;>first|exact mixed|exact bears ci ci|exact ci|exactλw=>by kernel_rfl
def aoU:Lays8.n4 Tryz.prog aoS:=by
 constructor<;>first|exact mixed|exact bears ci ci|exact ci|exactλw=>by kernel_rfl
def Sw(c:iS)(x:kf c.cs)(y:c.α)(e:EV)(H:eS){Q:Prop}(h:c.ok u)(g:c.M x=some y)(a:c.el y (EV×eS) (λe H=>some (e,H))=some (e,H))(f:BG u c.f (bs (c.H0 x)) (bS (c.as x)) (bs H) (enc e)=Q):Q:=by
 obtain⟨j,i,b,_,_,d⟩:=h.2 x y g;rw[b]at a;cases a;exact f▸d
def AP(a b:Int):Int:=if a<b then -1 else if b<a then 1 else 0
def pf(x y:Int×Int):Int:=if AP x.1 y.1=0 then AP x.2 y.2 else AP x.1 y.1
abbrev cA:Type:=Int×Int×Int×In
def sx(x y:cA):Int:=pf (x.1,x.2.1) (y.1,y.2.1)
def Kx(x y:aX):Int:=AP (x.headD 0) (y.headD 0)
def xV{a b:Int}:AP a b<0↔a<b:=by
 unfold AP
 repeat' split
 all_goals omega
def pg{a b:Int}:AP a b=0↔a=b:=by
 unfold AP
 repeat' split
 all_goals omega
def mo{x y:Int×Int}:pf x y<0↔x.1<y.1\/x.1=y.1/\x.2<y.2:=by
 unfold pf;split
 ·rename_i h;have:=pg.1 h;rw[xV];omega
 ·rename_i h;have:=mt pg.2 h;rw[xV];omega
def Sx{d:a->a->Int}{r:a->a->Prop}(h:∀x y,d x y<0↔r x y)(e:∀x,¬r x x)(i:∀x y z,r x y->r y z->r x z)(f:∀x y z,¬r x y->¬r y z->¬r x z):SWO (ltOf d):=
 ⟨λx=>auW (λg=>e x ((h _ _).1 g)),λx y z c b=>auU ((h _ _).2 (i x y z ((h _ _).1 (avo c)) ((h _ _).1 (avo b)))),λx y z c b=>auW λg=>f x y z (λr=>aww c ((h _ _).2 r)) (λr=>aww b ((h _ _).2 r)) ((h _ _).1 g)⟩
def akA:SWO (ltOf pf):=Sx (λ_ _=>mo) (λx=>by omega) (λx y z=>by omega) (λx y z=>by omega)
def aoV:SWO (ltOf sx):=Sx (λ_ _=>mo) (λx=>by omega) (λx y z=>by omega) (λx y z=>by omega)
def aoW:SWO (ltOf Kx):=Sx (λ_ _=>xV) (λx=>by omega) (λx y z=>by omega) (λx y z=>by omega)
def qm(N:Nat)(a b:Int):cM (N+3) (a,b)=some (AP a b):=by
 rw[sd];simp only[wL,avF,auH,aW,cond];unfold AP;by_cases c:a<b
 ·simp[c]
 ·by_cases d:b<a
  ·have e:a>b:=d;simp[c,d]
  ·simp[c,d]
def Sy(N:Nat)(a b:Int):gN (N+5) [a,b]=some (if a=0 then b else a):=by
 have d:IntKind.wrap .i64 ((0:Int)+1)=1:=d6
 have e:IntKind.wrap .i64 ((1:Int)+1)=2:=d6
 rw[CU,show N+4=(N+3)+1 from rfl,kK,d,show N+3=(N+2)+1 from rfl,kK,e,show N+2=(N+1)+1 from rfl,kK];by_cases h:a=0
 ·subst h
  by_cases c:b=0
  ·subst c;simp[aW,ba]
  ·simp[aW,ba,c]
 ·simp[aW,ba,h]
def ND(N:Nat)(x y:Int×Int):ic (N+6) (x.1,x.2,y.1,y.2)=some (pf x y):=by
 rw[xR,show N+5=(N+2)+3 from rfl,qm,qm,show N+2+3=N+5 from rfl];simp only[aW,Sy];rfl
def aiA(N:Nat)(x y:cA):l6 (N+7) (x.1,x.2.1,x.2.2.1,x.2.2.2,y.1,y.2.1,y.2.2.1,y.2.2.2)=some (sx x y):=by
 rw[CW];have:=ND N (x.1,x.2.1) (y.1,y.2.1);simp only[this,aW];rfl
def aiB(N:Nat)(x y:aX)(d:x≠[])(e:y≠[]):kT (N+4) (x,y)=some (Kx x y):=by
 obtain⟨a,x,rfl⟩:=axT d;obtain⟨b,y,rfl⟩:=axT e;rw[show N+4=(N+3)+1 from rfl,AN];have c:∀(a:Int) x,ba (a::x) 0=some a:=λ_ _=>rfl;rw[c,c];simp only[aW];rw[qm];rfl
def acT(x y:Int×Int):BG Tryz.prog 81 [] [.ag (bJ (.pr (.i .i64) (.i .i64)) x),.ag (bJ (.pr (.i .i64) (.i .i64)) y)] [] (.v (.int .i64 (pf x y))):=by
 refine Sw (mL 6) (x.1,x.2,y.1,y.2) (pf x y) (.sc (.i .i64) (pf x y)) [] (nH 6) ?_ ci ci;exact Eq.mp ci (ND 0 x y)
def aiC(x y:cA):BG Tryz.prog 80 [] [.ag (bJ (.pr (.i .i64) (.pr (.i .i64) (.pr (.i .i64) .b))) x),.ag (bJ (.pr (.i .i64) (.pr (.i .i64) (.pr (.i .i64) .b))) y)] [] (.v (.int .i64 (sx x y))):=by
 refine Sw (xU 7) (x.1,x.2.1,x.2.2.1,x.2.2.2,y.1,y.2.1,y.2.2.1,y.2.2.2) (sx x y) (.sc (.i .i64) (sx x y)) [] (CX 7) ?_ ci ci;exact Eq.mp ci (aiA 0 x y)
def aiD(x y:aX)(a:x≠[])(b:y≠[]):BG Tryz.prog 261 [] [.sl false 1 (x.map (bJ (.i .i64))),.sl false 1 (y.map (bJ (.i .i64)))] [] (.v (.int .i64 (Kx x y))):=by
 refine Sw (vj 4) (x,y) (Kx x y) (.sc (.i .i64) (Kx x y)) [] (AO 4) ?_ ci ci;exact Eq.mp ci (aiB 0 x y a b)
def cq(N:Nat):bh->At bh:=Kv (ltOf pf)
noncomputable def dF(N:Nat):iS:=⟨144,[.k (.ow 4294967296),.k (.v (.func (.func 81) #[] #[]))],[(4294967296,.arr 52 (.pr (.i .i64) (.i .i64)) true)],[.sl (.pr (.i .i64) (.i .i64))],bh,cq N,λy _ k=>k (.tu []) [(4294967296,some (.arr 52 (.pr (.i .i64) (.i .i64)) y true))],true,true⟩
def eU(N:Nat):(dF N).ok Tryz.prog:=
 ⟨λh=>(by cases h),λx y a=>⟨.tu [],_,λR k=>rfl,λh=>(by cases h),λ_=>⟨rfl,rfl⟩,
  aoQ (r:=.pr (.i .i64) (.i .i64)) rfl aiz (λw=>by kernel_rfl) (λw=>by kernel_rfl) pf akA (g:=81) acT (λ_ _ _ h=>h.bL) a⟩⟩
def cN(N:Nat):Do cA->At (Do cA):=Kv (ltOf sx)
noncomputable def ec(N:Nat):iS:=⟨79,[.k (.ow 4294967296),.k (.v (.func (.func 80) #[] #[]))],[(4294967296,.arr 161 (.pr (.i .i64) (.pr (.i .i64) (.pr (.i .i64) .b))) true)],[.sl (.pr (.i .i64) (.pr (.i .i64) (.pr (.i .i64) .b)))],Do cA,cN N,λy _ k=>k (.tu []) [(4294967296,some (.arr 161 (.pr (.i .i64) (.pr (.i .i64) (.pr (.i .i64) .b))) y true))],true,true⟩
def fo(N:Nat):(ec N).ok Tryz.prog:=
 ⟨λh=>(by cases h),λx y a=>⟨.tu [],_,λR k=>rfl,λh=>(by cases h),λ_=>⟨rfl,rfl⟩,
  aoQ (r:=.pr (.i .i64) (.pr (.i .i64) (.pr (.i .i64) .b))) rfl al6 (λw=>by kernel_rfl) (λw=>by kernel_rfl) sx aoV (g:=80) aiC (λ_ _ _ h=>h.bL) a⟩⟩
open Classical in
def bE(N:Nat)(l:bP):At bP:=if∀x∈l,x≠[]then Kv (ltOf Kx) l else none
noncomputable def eH(N:Nat):iS:=⟨260,[.k (.ow 4294967296),.k (.v (.func (.func 261) #[] #[]))],[(4294967296,.arr 47 (.sl (.i .i64)) true)],[.sl (.sl (.i .i64))],bP,bE N,λy _ k=>k (.tu []) [(4294967296,some (.arr 47 (.sl (.i .i64)) y true))],true,false⟩
def gk(N:Nat):(eH N).ok Tryz.prog:=by
 refine⟨λh=>(by cases h),λx y a=>⟨.tu [],_,λR k=>rfl,λh=>(by cases h),λh=>(by cases h),?_⟩⟩;have a:bE N x=some y:=a;unfold bE at a;split at a
 ·rename_i b
  exact ash (av:=λl:aX=>AV.sl false 1 (l.map (bJ (.i .i64)))) (λ_=>rfl) (λ_ _ h=>nomatch h) (λx=>x≠[]) acS {acS with} Kx aoW (g:=261) aiD (λ_ _ _ h=>h.bL) b a
 ·cases a
def ei(N:Nat)(l:aX):At aX:=cond (decide (l.length<1099511627776)) (some (l.mergeSort λx y=>decide (x<=y))) none
noncomputable def iY(N:Nat):iS:=⟨276,[.k (.ow 4294967296)],[(4294967296,.arr 3 (.i .i64) true)],[.sl (.i .i64)],aX,ei N,λy _ k=>k (.tu []) [(4294967296,some (.arr 3 (.i .i64) y true))],true,true⟩
def l7(N:Nat):(iY N).ok Tryz.prog:=by
 refine⟨λh=>(by cases h),λx y a=>⟨.tu [],_,λR k=>rfl,λh=>(by cases h),λ_=>⟨rfl,rfl⟩,?_⟩⟩;have a:ei N x=some y:=a;unfold ei at a;by_cases b:List.length (α:=Int) x<1099511627776
 ·rw[auU b]at a
  cases a;exact al2 al7 b
 ·rw[auW b]at a;cases a
def e7(N:Nat)(n:Int):At Unit:=cond (decide (0<=n/\n<=1099511627776)) (some ()) none
noncomputable def jS(N:Nat):iS:=⟨175,[.k .nil,.h (.i .i64)],[],[.i .i64],Unit,e7 N,λ_ _ k=>k (.ow 0) [(0,some (.arr 3 (.i .i64) [] true))],true,true⟩
def nt(N:Nat):(jS N).ok Tryz.prog:=by
 refine⟨λ_=>rfl,λx y c=>⟨.ow 0,_,λR k=>rfl,(λh=>by cases h),λ_=>⟨rfl,rfl⟩,?_⟩⟩;obtain⟨n,b,a⟩:=NC x y c;subst b;exact NB aoT ((Tryz.prog.info? 3).getD default) (.int .i64 0) ci ci d6 ci d6 n a
def eN(N:Nat)(n:Int):At Unit:=cond (decide (0<=n/\n<=1099511627776)) (some ()) none
noncomputable def gx(N:Nat):iS:=⟨201,[.k .nil,.h (.i .i64)],[],[.i .i64],Unit,eN N,λ_ _ k=>k (.ow 0) [(0,some (.arr 161 (.pr (.i .i64) (.pr (.i .i64) (.pr (.i .i64) .b))) [] true))],true,true⟩
def jD(N:Nat):(gx N).ok Tryz.prog:=by
 refine⟨λ_=>rfl,λx y c=>⟨.ow 0,_,λR k=>rfl,(λh=>by cases h),λ_=>⟨rfl,rfl⟩,?_⟩⟩;obtain⟨n,b,a⟩:=NC x y c;subst b;exact NB aoU ((Tryz.prog.info? 161).getD default) (.agg #[.int .i64 0,.int .i64 0,.int .i64 0,.bool false]) ci ci d6 ci d6 n a
end
section
section
noncomputable abbrev PG:Fd:=Tryz.prog
structure CO where
 c:Nat->iS
 ok:∀N,(c N).ok PG
def Mg(l:Do CO)(N:Nat):Do iS:=l.map λc=>c.c N
def ot(l:Do CO)(N:Nat):Place PG T (Mg l N):=
 ⟨xg,λc a=>by
  obtain⟨d,_,rfl⟩:=auD.1 a;exact d.ok N,mixed,Fa⟩
structure FD where
 f:FuncId
 fn:Func
 pl:Pl
 ps:List PV
 hs:List (Nat×PO)
 cs:List Sc
 rs:PS
 own:Bool
 pu:Bool
 nm:a_
mutual
def hoP:PV->Do Sc
 |.h s=>[s]
 |.t r=>[.sl r]
 |.k _=>[]
 |.ag l=>hoL l
 |.tu l=>hoL l
 |.fp l=>hoL l
 |.cl _ b a=>hoL b++hoL a
 |.pe _ _ _=>[.i .i64]
def hoL:Do PV->Do Sc
 |[]=>[]
 |p::l=>hoP p++hoL l
end
def hoO:PO->Do Sc
 |.box _ l=>hoL l
 |.arr _ r _=>[.sl r]
 |.mp _ k v=>[.sl (.pr k v)]
 |.nr _ r _=>[.sl (.sl r)]
 |.qr _ _ _=>[.sl (.i .i64)]
def hoH:Do (Nat×PO)->Do Sc
 |[]=>[]
 |q::h=>hoO q.2++hoH h
def hoT:Do (Nat×PV)->Do Sc
 |[]=>[]
 |q::t=>hoP q.2++hoT t
abbrev bm(t:Do (Nat×PV))(h:Do (Nat×PO)):PS:=⟨t,h,hoT t++hoH h⟩
abbrev cQ(f:FuncId)(c:Func)(e:Pl)(b:Do PV)(a:Do (Nat×PO))(h:PS)(own g:In)(d:a_):FD:=⟨f,c,e,b,a,hoL b++hoH a,h,own,g,d⟩
def okB(a:Func)(d:Do PV)(b:Do (Nat×PO))(own:In)(c:a_):In:= !(a.name== "runtime.NumGoroutine") && (a.body.isSome && ((Nat.ble d.length a.ntmps && Nat.ble a.ntmps 1000000) && (own||(b.isEmpty && c.isEmpty))))
def okY(a:Func)(b:PS)(d:In)(c:a_)(y:kf b.c):In:=(xM T (eY a.ntmps b y) a.results.toList).isSome && (!d||((xN T (eY a.ntmps b y) a.results.toList).pu && puH (fW c (eY a.ntmps b y).h)))
noncomputable def mF(l:Do CO)(d:FD)(N:Nat):kf d.cs->At (kf d.rs.c):=exF T (Mg l) N (eT d.fn) d.fn.ntmps d.pl d.ps d.hs d.cs d.rs
def ph{c:Do PV}{a:Do (Nat×PO)}{own:In}{b:a_}(h:okB t c a own b=true):(t.name== "runtime.NumGoroutine")=false/\t.body.isSome=true/\(Nat.ble c.length t.ntmps && Nat.ble t.ntmps 1000000)=true/\(own=false->a=[]/\b=[]):=by
 unfold okB at h;rw[aup,aup,aup (Nat.ble _ _ && _)]at h;obtain⟨d,e,f,g⟩:=h;refine⟨by simpa using d,e,f,λi=>?_⟩;subst i;simpa using g
noncomputable def cF(l:Do CO)(d:FD)(M:Nat->kf d.cs->At (kf d.rs.c))(e:PG.funcs[d.f]? =some d.fn)(a:okB d.fn d.ps d.hs d.own d.nm=true:=by kernel_rfl)(b:∀y,okY d.fn d.rs d.pu d.nm y=true:=by intro y;kernel_rfl)(c:∀N x,M N x=mF l d N x:=by intro N x;kernel_rfl):CO:=
 ⟨λN=>iS.mk d.f d.ps d.hs d.cs (kf d.rs.c) (M N) (λy _ k=>k (xN T (eY d.fn.ntmps d.rs y) d.fn.results.toList) (fW d.nm (eY d.fn.ntmps d.rs y).h)) d.own d.pu,
  λN=>wK (T:=T) (CT:=Mg l) (N:=N) (λM=>ot l M) e (ph a).1 (ph a).2.1 d.pl d.ps d.hs d.cs d.rs d.own d.pu d.nm (ph a).2.2.1 (λy=>((aup _ _).mp (b y)).1) (ph a).2.2.2 (λy=>((aup _ _).mp (b y)).2) (M N) (c N)⟩
structure FE extends FD where
 r2:PS
 n2:a_
noncomputable def ga(l:Do CO)(a:Func)(b:a_)(i:PS)(o:Do (IO×PS))(p:Pl)(N:Nat):Nat->kf i.c->At (HD o):=E7 (ra T (Mg l N) N (gw b (eT a))) a.ntmps i o p
noncomputable def jnF(l:Do CO)(a:Func)(b:a_)(i:PS)(o:Do (IO×PS))(p:Pl)(N:Nat):Nat->kf i.c->At (HD o):=akw (ase T (Mg l N) N (gw b (eT a))) a.ntmps i o p
