/- part 4 -/
import Derived.Test.YtmdbmigbihboaaaGreatDoorZWholeNothing3
set_option linter.all false
noncomputable section
open Go Go.RowKit
set_option maxRecDepth 100000
namespace Go.Proofs.YtmdbmigbihboaaaGreatDoor
variable{e:FuncId}{v:Int}{c i:Nat}{a:Type}{d:TypeId}{D:Value}
section
open Go Go.ChangeShapes Go.WideShapes Go.ChangeAt Go.RowKit
def Fits:(s:Sc)->s.cZ->Prop
 |.i k,x=>k.min<=x/\x<=k.max
 |.b,_=>True
 |.sl r,b=>b.length<=maxLen/\∀x∈b,Fits r x
 |.pr a c,p=>Fits a p.1/\Fits c p.2
 |.u,_=>True
def Siz:(s:Sc)->s.cZ->Prop
 |.sl r,b=>b.length<=reachBytes/\∀x∈b,Siz r x
 |.pr a c,p=>Siz a p.1/\Siz c p.2
 |_,_=>True
def pg(P:Program)(a:TypeId->Sc->Bool):List Field->Nat->Sc->Bool
 |[],_,_=>false
 |[f],o,s=>a f.type s && Nat.beq f.offset o && Nat.beq (P.cellsOf f.type) s.w
 |f::g::r,o,.pr s t=>a f.type s && Nat.beq f.offset o && Nat.beq (P.cellsOf f.type) s.w && pg P a (g::r) (o+s.w) t
 |_::_::_,_,_=>false
def Ql(w:Nat)(a:Sc->Bool):Nat->Sc->Bool
 |0,_=>false
 |1,s=>a s && Nat.beq w s.w
 |n+2,.pr s t=>a s && Nat.beq w s.w && Ql w a (n+1) t
 |_+2,_=>false
def Y5(P:Program):Nat->TypeId->Sc->Bool
 |0,_,_=>false
 |d+1,t,s=>match P.underlying t with
  |some (.int k)=>(match s with
   |.i l=>decide (k=l)
   |_=>false)
  |some .bool=>(match s with
   |.b=>true
   |_=>false)
  |some (.slice e)=>(match s with
   |.sl r=>Y5 P d e r && Nat.beq (P.cellsOf e) r.w && Nat.blt 0 r.w && Nat.blt 0 (P.bytesOf e)
   |_=>false)
  |some (.struct a)=>pg P (Y5 P d) a.toList 0 s && Nat.beq (P.cellsOf t) s.w
  |some (.array n e)=>Ql (P.cellsOf e) (Y5 P d e) n s && Nat.beq (P.cellsOf t) s.w
  |_=>false
def Rw(w:World)(b o:Nat)(u:Value):Prop:=w.cell? ⟨b,o,none⟩=some u
def b0(w:World):Bs:=⟨w,λ_=>False,λ_=>none,λ_=>undef,[]⟩
def e0:Env:=⟨λ_=>none,λ_=>undef,λ_=>0⟩
def afP(w:World):Prop:=∀b o u,GT b o u->w.cell? ⟨b,o,none⟩=some u
def sr0(w:World)(c:afP w):SR (b0 w) (Rw w) e0 [] w:=
 ⟨⟨rfl,rfl,rfl,apT _,λ_ _=>rfl,apT _⟩,⟨λb o u h=>⟨h,λa=>by
  have:=arT w _ h;rcases a with a|a
  ·simp only[b0]at a;simp only at this;omega
  ·exact a⟩,c⟩,λ_ _ h=>by simp[a_]at h,λ_ _ _ h=>by simp[a_]at h,λ_ _ _ _ _ h=>by simp[a_]at h,λ_ _=>⟨rfl,rfl⟩⟩
def ak9{w:World}(h:Rw w c i D):bO (b0 w) (Rw w) e0 [] w c i D:=⟨h,λ_=>h,λ_ _ h=>by simp[a_]at h⟩
def ph(h:Nat.beq c i=true):c=i:=apX h
def aax(h:Nat.blt c i=true):c<i:=apY h
section
variable{H:Type}{enc:TypeId×Value->H}{P:Program}{w:World}{base:Nat}{spare:Nat->Bool}{held:Bool}
def LH(P:Program)(t:TypeId)(x:DataW H):Prop:=∀n∈x.weights P t,n<=reachBytes
def II{e:TypeId}:∀{l:List (DataW H×List MemPlace)},(∀n∈DataW.weightsAll P e (l.map (·.1)),n<=reachBytes)->∀(i:Nat) x,l[i]? =some x->LH P e x.1
 |[],_,i,x,h=>by simp at h
 |y::l,b,i,x,h=>by
  simp only[aqc,DataW.weightsAll,ap3]at b;cases i with
  |zero=>simp at h;subst h;exactλn a=>b n (.inl a)
  |succ i=>exact II (λn a=>b n (.inr a)) i x (by simpa using h)
def LI:∀{a:List Field} {l:List (DataW H×List MemPlace)},(∀n∈DataW.weightsEach P (a.map (·.type)) (l.map (·.1)),n<=reachBytes)->∀(i:Nat) f x,a[i]? =some f->l[i]? =some x->LH P f.type x.1
 |[],_,_,i,f,x,h,_=>by simp at h
 |_::_,[],_,i,f,x,_,h=>by simp at h
 |g::a,y::l,d,i,f,x,b,h=>by
  simp only[aqc,DataW.weightsEach,ap3]at d;cases i with
  |zero=>simp at h b;subst h;subst b;exactλn c=>d n (.inl c)
  |succ i=>exact LI (λn c=>d n (.inr c)) i f x (by simpa using b) (by simpa using h)
def BY(enc:TypeId×Value->H)(P:Program)(w:World)(base:Nat)(spare:Nat->Bool)(held:Bool)(n:Nat)(t:TypeId)(s:Sc):Prop:=
 ∀a x,DataW.trod enc P w base spare held n t a=some x->∃y:s.cZ,LR (VR (Rw w) none) (bF s y) a/\Fits s y/\(LH P t x.1->Siz s y)
def Ax{WA:Prop}{C:TypeId->Sc->Bool}{n:Nat}(A:∀t s,C t s=true->BY enc P w base spare held n t s)(p:bD):
 ∀(j:List Field) (o:Nat) (s:Sc) (b:List (DataW H×List MemPlace)),pg P C j o s=true->b.length=j.length->
  (∀(i:Nat) (f:Field),j[i]? =some f->DataW.trod enc P w base spare held n f.type ((p.drop f.offset).take (P.cellsOf f.type))=b[i]?)->(WA->∀(i:Nat) f x,j[i]? =some f->b[i]? =some x->LH P f.type x.1)->
  ∃y:s.cZ,LR (VR (Rw w) none) (bF s y) ((p.drop o).take s.w)/\Fits s y/\(WA->Siz s y)
 |[],o,s,b,h,_,_,_=>by simp[pg]at h
 |[f],o,s,b,h,k,m,l=>by
  simp only[pg,apS]at h;obtain⟨⟨u,v⟩,z⟩:=h;have:=m 0 f rfl;rw[ph v,ph z]at this;have e:0<b.length:=by rw[k];simp
  rw[ap0 e]at this;obtain⟨y,J,G,O⟩:=A _ _ u _ _ this;exact⟨y,J,G,λd=>O (l d 0 f _ rfl (ap0 e))⟩
 |f::g::r,o,s,b,h,k,m,l=>by
  cases s with
  |pr a c=>
   simp only[pg,apS]at h;obtain⟨⟨⟨u,v⟩,z⟩,I⟩:=h;have:=m 0 f rfl;rw[ph v,ph z]at this;have e:0<b.length:=by rw[k];simp
   rw[ap0 e]at this;obtain⟨Q,K,E,M⟩:=A _ _ u _ _ this;obtain⟨R,L,F,N⟩:=Ax A p (g::r) (o+a.w) c b.tail I (by simp[k]) (λi q B=>by
    have:=m (i+1) q (by simpa using B);rw[this];cases b<;>simp) (λd i q x B D=>l d (i+1) q x (by simpa using B) (by cases b with|nil=>simp at D|cons y S=>simpa using D))
   refine⟨(Q,R),?_,⟨E,F⟩,λd=>⟨M (l d 0 f _ rfl (ap0 e)),N d⟩⟩;rw[bF,Sc.w,List.take_add];rw[arX];exact K.append L
  |_=>simp[pg]at h
def LJ{WA:Prop}{p:Sc->Bool}{n:Nat}{e:TypeId}{ew:Nat}(k:∀s,p s=true->BY enc P w base spare held n e s)(f:bD):
 ∀(m:Nat) (o:Nat) (s:Sc),Ql ew p m s=true->
  (∀i,i<m->∃x,DataW.trod enc P w base spare held n e ((f.drop (o+i*ew)).take ew)=some x/\(WA->LH P e x.1))->
  ∃y:s.cZ,LR (VR (Rw w) none) (bF s y) ((f.drop o).take s.w)/\Fits s y/\(WA->Siz s y)
 |0,o,s,h,_=>by simp[Ql]at h
 |1,o,s,h,d=>by
  simp only[Ql,apS]at h;obtain⟨g,j⟩:=h;obtain⟨x,this,l⟩:=d 0 (by omega);rw[asl,arf,ph j]at this;obtain⟨y,B,u,G⟩:=k _ g _ _ this;exact⟨y,B,u,λb=>G (l b)⟩
 |m+2,o,s,h,d=>by
  cases s with
  |pr a c=>
   simp only[Ql,apS]at h;obtain⟨⟨g,j⟩,v⟩:=h;obtain⟨x,this,l⟩:=d 0 (by omega);have q:=ph j;rw[asl,arf,q]at this;obtain⟨I,C,r,E⟩:=k _ g _ _ this;obtain⟨J,D,t,F⟩:=LJ k f (m+1) (o+a.w) c v (λi K=>by
    obtain⟨x,A,z⟩:=d (i+1) (by omega);refine⟨x,?_,z⟩;rw[<-A,q];congr 3;rw[aqv];omega)
   refine⟨(I,J),?_,⟨r,t⟩,λb=>⟨E (l b),F b⟩⟩;rw[bF,Sc.w,List.take_add];rw[arX];exact C.append D
  |_=>simp[Ql]at h
def Gv{WA:Prop}{n:Nat}{e:TypeId}{r:Sc}(J:BY enc P w base spare held n e r)(B:P.cellsOf e=r.w)(l:0<r.w){a:Addr}{v:Nat}{k:List (DataW H×List MemPlace)}(S:k.length=v)
 (C:∀i,i<v->(w.cells? base (a.add (i*P.cellsOf e)) (P.cellsOf e)).bind (DataW.trod enc P w base spare held n e)=k[i]?) (L:WA->∀(i:Nat) x,k[i]? =some x->LH P e x.1):
 ∀m,m<=v->∃f:List r.cZ,f.length=m/\((∀y∈f,Fits r y)/\(WA->∀y∈f,Siz r y))/\∃d,LR (VR (Rw w) none) (f.map (bF r)).flatten d/\∀j u,d[j]? =some u->a.spot=none/\w.cell? ⟨a.block,a.off+j,none⟩=some u
 |0,_=>⟨[],rfl,by simp,[],LR.nil,by simp⟩
 |m+1,hm=>by
  obtain⟨f,E,⟨U,Y⟩,d,G,K⟩:=Gv J B l S C L m (by omega);have h:=C m (by omega);have I:m<k.length:=by omega
  rw[ap0 I]at h;obtain⟨cs,R,Z⟩:=ar9.1 h;obtain⟨y,hy,O,sy⟩:=J _ _ Z;obtain⟨hb,Q,p⟩:=World.cells?_some R;rw[B]at Q p;have F:d.length=m*r.w:=by
   rw[G.1,ej (sz:=r.w)]
   ·simp[E]
   ·intro q W
    obtain⟨z,_,rfl⟩:=ap4.1 W;exact eT r z
  have s:a.spot=none:=by
   have:=p 0 l;rw[ap0 (by omega)]at this;by_cases c:m=0
   ·subst c
    have a0:(a.add (0*r.w)).add 0=a:=by simp[Addr.add]
    rw[a0]at this;unfold World.cell? at this;split at this
    ·split at this
     ·cases this
     ·rename_i X;simpa using X
    ·cases this
   ·have t:∃u,d[0]? =some u:=⟨d[0]'(by rw[F];exact asj (by omega) l),ap0 _⟩
    obtain⟨u,t⟩:=t;exact(K 0 u t).1
  refine⟨f++[y],by simp[E],⟨λz c=>?_,λA z c=>?_⟩,d++cs,?_,λj u g=>⟨s,?_⟩⟩
  ·rcases ap3.1 c with c|c
   ·exact U z c
   ·simp only[aqe]at c;subst c;exact O
  ·rcases ap3.1 c with c|c
   ·exact Y A z c
   ·simp only[aqe]at c;subst c;exact sy (L A m _ (ap0 I))
  ·rw[aqH,ars]
   simpa using G.append hy
  ·by_cases V:j<d.length
   ·rw[aqF V]at g
    exact(K j u g).2
   ·rw[aq7 (by omega)]at g
    have a1:j - d.length<cs.length:=(apV.1 g).1;have:=p (j - d.length) (by omega);rw[g]at this;have N:(a.add (m*r.w)).add (j - d.length)=⟨a.block,a.off+j,none⟩:=by
     obtain⟨b,o,sp⟩:=a;simp only at s;subst s;rw[add_plain,add_plain];have D:d.length<=j:=by omega
     rw[F]at D⊢;generalize m*r.w=q at D;have M:o+q+(j - q)=o+j:=by omega
     rw[M]
    rw[N]at this;exact this
def ta:∀(d:Nat) (t:TypeId) (s:Sc),Y5 P d t s=true->∀n,BY enc P w base spare held n t s
 |0,t,s,h,n=>by simp[Y5]at h
 |d+1,t,s,h,n=>by
  intro U x F;unfold Y5 at h;split at h
  ·rename_i k p
   cases s with
   |i l=>
    obtain rfl:k=l:=aqK h;obtain⟨z,rfl,-,hw⟩:=DataW.trod_int p F;simp only[Lit.wf,apS,aqQ]at hw;exact⟨z,LR.cons .v LR.nil,hw,λ_=>trivial⟩
   |_=>simp at h
  ·rename_i p
   cases s with
   |b=>
    obtain⟨z,rfl,-⟩:=DataW.trod_bool p F;exact⟨z,LR.cons .v LR.nil,trivial,λ_=>trivial⟩
   |_=>simp at h
  ·rename_i e p
   cases s with
   |sl r=>
    simp only[apS]at h;obtain⟨⟨⟨C,D⟩,h3⟩,h4⟩:=h;rcases DataW.trod_slice p F with⟨rfl,-⟩|⟨a,a3,a4,A,rest,m,rfl,rfl,rfl,hb,aa,a5,W,he,-,-⟩
    ·refine⟨([]:List r.cZ),LR.cons ?_ LR.nil,?_,λ_=>⟨aql _,by simp⟩⟩
     ·exact .sl (rows:=[]) [] (by simp) (by simp) rfl (by simp) (apT _) (aql _) (by simp) (by simp)
     ·exact⟨aql _,by simp⟩
    ·have I:LH P t (.slice (A.map (·.1)) (rest.map (·.1)):DataW H)->((A.length+rest.length)*P.bytesOf e<=reachBytes)/\∀(i:Nat) x,A[i]? =some x->LH P e x.1:=λg=>by
      have B:DataW.weights P t (.slice (A.map (·.1)) (rest.map (·.1)):DataW H)=(A.length+rest.length)*P.bytesOf e::(DataW.weightsAll P e (A.map (·.1))++DataW.weightsAll P e (rest.map (·.1))):=by
       simp[DataW.weights,p]
      unfold LH at g;rw[B]at g;exact⟨g _ (by simp),II λn hn=>g n (by simp[hn])⟩
     obtain⟨S,Y,⟨L,a9⟩,R,Z,a1⟩:=Gv (WA:=LH P t (.slice (A.map (·.1)) (rest.map (·.1)):DataW H)) (ta d e r C m) (ph D) (aax h3) W he (λg=>(I g).2) a3 (apT _);refine⟨S,LR.cons ?_ LR.nil,?_,λg=>⟨?_,a9 g⟩⟩
     ·have a7:(List.map (bF r) S).length=a3:=by simp[Y]
      have:=VR.sl (Rd:=Rw w) (E:=none) (tight:=false) (sz:=r.w) (rows:=List.map (bF r) S) (a:=some a) (cap:=a4) R
       (λq M=>by obtain⟨z,_,rfl⟩:=ap4.1 M;exact eT r z)
       (λc hc=>by
        obtain⟨q,M,a6⟩:=arR.1 hc;obtain⟨z,_,rfl⟩:=ap4.1 M;exact nY r z c a6)
       Z.1 Z.2 (by omega) a5 (by simp) (λa8=>by
        have hp:0<R.length:=arD.2 a8;have a0:=(a1 0 R[0] (ap0 hp)).1;obtain⟨b,o,sp⟩:=a;simp only at a0;subst a0;exact⟨b,o,rfl,λj u hj=>(a1 j u hj).2⟩)
      rw[a7]at this;exact this
     ·exact⟨by omega,L⟩
     ·have h5:=(I g).1
      have h6:A.length*1<=(A.length+rest.length)*P.bytesOf e:=arp (Nat.le_add_right _ _) (aax h4);rw[Y,<-W];omega
   |_=>simp at h
  ·rename_i V p
   simp only[apS]at h;obtain⟨C,D⟩:=h;obtain⟨v,m,rfl,rfl,K,a2,O⟩:=DataW.trod_struct p F;obtain⟨y,G,J,Q⟩:=Ax (WA:=LH P t (.agg (v.map (·.1)):DataW H)) (λt s N=>ta d t s N m) U V.toList 0 s v C (by simpa using a2) (λi f L=>O i f (by simpa using L)) (λg=>by
    have B:DataW.weights P t (.agg (v.map (·.1)):DataW H)=DataW.weightsEach P (V.toList.map (·.type)) (v.map (·.1)):=by simp[DataW.weights,p]
    unfold LH at g;rw[B]at g;exact LI g)
   refine⟨y,?_,J,Q⟩;rw[aqG,aqt (by rw[K,ph D];exact apT _)]at G;exact G
  ·rename_i m e p
   simp only[apS]at h;obtain⟨C,D⟩:=h;obtain⟨v,m',rfl,rfl,K,a2,O⟩:=DataW.trod_array p F;have I:LH P t (.agg (v.map (·.1)):DataW H)->∀(i:Nat) x,v[i]? =some x->LH P e x.1:=λg=>by
    have B:DataW.weights P t (.agg (v.map (·.1)):DataW H)=DataW.weightsAll P e (v.map (·.1)):=by simp[DataW.weights,p]
    unfold LH at g;rw[B]at g;exact II g
   obtain⟨y,G,J,Q⟩:=LJ (WA:=LH P t (.agg (v.map (·.1)):DataW H)) (ew:=P.cellsOf e) (λs N=>ta d e s N m') U m 0 s C (λi hi=>by
    have:=O i hi;have X:i<v.length:=by omega
    rw[ap0 X]at this;exact⟨_,by rw[aqq];exact this,λg=>I g i _ (ap0 X)⟩)
   refine⟨y,?_,J,Q⟩;rw[aqG,aqt (by rw[K,ph D];exact apT _)]at G;exact G
  ·cases h
def Qm(P:Program)(t:TypeId):Bool:=match P.underlying t with
 |some (.struct _)=>true
 |some (.array _ _)=>true
 |_=>false
def zy{r:Reach}{b0 c:Nat}{s:Sc}{x:DataW H}{A:List MemPlace}(j:Y5 P c d s=true)(o:Value.okWide P w r b0 d D)(h:DataW.Trod enc P w base spare held d D x A):
 ∃y:s.cZ,Fits s y/\(LH P d x->Siz s y)/\(Qm P d=true->VR (Rw w) none (.ag (bF s y)) D)/\(Qm P d=false->VR (Rw w) none (encS s y) D):=by
 obtain⟨n,h⟩:=h;obtain⟨y,t,u,B⟩:=ta c d s j n _ _ h;refine⟨y,u,B,λg=>?_,λg=>?_⟩
 ·unfold Qm at g
  unfold Value.okWide at o;have v:∃p,D=.agg p:=by
   split at g
   ·rename_i f;rw[f]at o;obtain⟨p,h,-⟩:=o;exact⟨p,h⟩
   ·rename_i f;rw[f]at o;obtain⟨p,h,-⟩:=o;exact⟨p,h⟩
   ·cases g
  obtain⟨p,rfl⟩:=v;have:=VR.ag (E:=none) (Rd:=Rw w) p.toList t.1 t.2;simpa using this
 ·cases c with
  |zero=>simp[Y5]at j
  |succ c=>
   unfold Y5 at j;unfold Qm at g;split at j
   ·rename_i k f
    cases s with
    |i l=>
     obtain⟨z,rfl⟩:=okWide_int f o;have q:=t.2 0 _ _ rfl rfl;exact q
    |_=>simp at j
   ·rename_i f
    cases s with
    |b=>
     obtain⟨z,rfl⟩:=okWide_bool f o;have q:=t.2 0 _ _ rfl rfl;exact q
    |_=>simp at j
   ·rename_i e f
    cases s with
    |sl r=>
     obtain⟨a,G,C,rfl⟩:=okWide_slice f o;have q:=t.2 0 _ _ rfl rfl;exact q
    |_=>simp at j
   ·rename_i F f;rw[f]at g;cases g
   ·rename_i m e f;rw[f]at g;cases g
   ·cases j
end
def Ss(h:Fits (.i .u8) v):0<=v/\v<=255:=by
 simpa[Fits,IntKind.min,IntKind.max,IntKind.signed,IntKind.bits]using h
def IJ{P:Program}{j:List PV}{d:List Sc}{M:ky d->Option a}{g:a->(R:Type)->(EV->eQ->Option R)->Option R}{own t:Bool}(p:iZ.ok P ⟨e,j,[],d,a,M,g,own,t⟩){x:ky d}{y:a}(q:M x=some y)
 {w:World} (n:afP w) {vs:bD} (s:LR (VR (Rw w) none) (bX (c9 j (hS d x)).1) vs) (f:g y EV (λb _=>some b)=some (.sc .b true)) (o:D=.bool true):Calls P e vs.toArray w λb k=>b=.returned D/\Ext w k:=by
 obtain⟨c,H,l,_,_,m⟩:=p.2 x y q;have f:(some c:Option EV)=some (.sc .b true):=(l EV λb _=>some b).symm.trans f;obtain rfl:=apZ f;refine(m.2 (b0 w) (Rw w) e0 w vs (sr0 w n) (s.imp λ_ _ h=>(h.mono λ_ _ _ h=>ak9 h).cS)).mono λb k h=>?_;obtain⟨v,u,rfl,r,i⟩:=h;change VR _ _ (enc (.sc .b true)) v at i;refine⟨?_,r.ext.ext λ_ h=>h⟩;subst o;cases i;rfl
end
variable{b:World}
section
open Go Go.ChangeShapes Go.WideShapes Go.ChangeAt Go.RowKit
def aay:(Tryz.prog.globals[0]?).map (·.type)=some 313:=by kernel_rfl
def aaz:Tryz.prog.cellsOf 313=32:=by kernel_rfl
def Xd:Tryz.prog.cellsOf 5=1:=by kernel_rfl
def aiJ:aX:=[0,1,28,2,29,14,24,3,30,22,20,15,25,17,4,8,31,27,13,23,21,19,16,7,26,12,18,6,11,5,10,9]
def afQ:Y_=[(0,.u8,aiJ)]:=rfl
def IK(h:laidMetH Tryz.prog Rows.wholeNothingRow.laid b):afP b:=by
 have j:=Lib.tabIs_of_head (rest:=[]) (g:=0) (by kernel_rfl) aay Tryz.underlying313 Tryz.underlying5 Xd aaz (k:=.u8)
  (zs:=aiJ) h
 rintro a o u ⟨k,l,x,c,e,rfl⟩;rw[afQ,WD]at c;cases d:Nat.beq a 0 with
 |false=>rw[d]at c;cases c
 |true=>
  rw[d]at c;have d:=apX d;subst d;cases c;have i:o<aiJ.length:=(apV.1 e).1;have f:=j.cell (g:=0) (by kernel_rfl) o (by simpa using i);rw[f];rw[ari,e];rfl
noncomputable def zA(a:Os):World:=
 {World.holding Tryz.prog a ⟨#[], #[],[]⟩with heap:=(World.holding Tryz.prog a ⟨#[], #[],[]⟩).heap.modify 0 λ
  |.cells _ t frozen=>.cells #[.int .u8 0,.int .u8 1,.int .u8 28,.int .u8 2,.int .u8 29,.int .u8 14,.int .u8 24,.int .u8 3,.int .u8 30,.int .u8 22,.int .u8 20,.int .u8 15,.int .u8 25,.int .u8 17,.int .u8 4,.int .u8 8,.int .u8 31,.int .u8 27,.int .u8 13,.int .u8 23,.int .u8 21,.int .u8 19,.int .u8 16,.int .u8 7,.int .u8 26,.int .u8 12,.int .u8 18,.int .u8 6,.int .u8 11,.int .u8 5,.int .u8 10,.int .u8 9] t frozen
  |o=>o}
end
abbrev vI:Value:=.int .i64 0
abbrev vB:Value:=.bool false
abbrev vS:Value:=.slice none 0 0
abbrev sI:Sc:=.i .i64
abbrev xO:Option (Bool×Nat):=some (false,1)
def tS:aZ:=[9,10,11]
def tN:aZ:=[20]
def tL:List (aZ×bs):=[
 ([2,3,32,292],{ty:=xO,ze:=some [vI],ik:=some .i64}),
 ([4],{ty:=xO,bo:=true,ze:=some [vB]}),
 ([5,6,404,405],{ty:=xO,ze:=some [.int .u8 0],ik:=some .u8}),
 ([7,8],{ty:=some (true,4),fd:=[(0,false,1),(1,false,1),(2,false,1),(3,false,1)],pl:=some ([vI,vI,vB,.int .u8 0],[(0,1),(1,1),(2,1),(3,1)]),ze:=some [vI,vI,vB,.int .u8 0],eq:=some ((sI).pr ((sI).pr (Sc.b.pr (Sc.i .u8))))}),
 ([12,160,299,336],{ty:=xO,ze:=some [.int .u64 0],ik:=some .u64}),
 ([15,16,17,121,143,211,243,248,266,306,340,344,362,391,407,412],{ty:=xO,ze:=some [.pointer none]}),
 ([18,19],{ty:=some (true,1),fd:=[(0,false,1)],pl:=some ([.pointer none],[(0,1)]),ze:=some [.pointer none],zv:=some (.agg {toList:=[.pointer none]})}),
 ([21,408,409],{ty:=xO,ze:=some [.int .i32 0],ik:=some .i32}),
 ([22],{ty:=xO,el:=some (127,4,32,[vI,vI,vI,vB]),jW:=true,ze:=some [vS],co:=some ((sI).pr ((sI).pr ((sI).pr Sc.b)))}),
 ([23,24,79,80],{ty:=some (true,2),fd:=[(0,false,1),(1,false,1)],pl:=some ([vI,vS],[(0,1),(1,1)]),ze:=some [vI,vS],zv:=some (.agg {toList:=[vI,vS]})}),
 ([25,26],{ty:=some (true,4),fd:=[(0,true,2),(2,false,1),(3,false,1)],pl:=some ([vI,vS,vI,vI],[(0,2),(2,1),(3,1)]),ze:=some [vI,vS,vI,vI]}),
 ([27],{ty:=xO,el:=some (46,2,16,[vI,vI]),jW:=true,ze:=some [vS],co:=some ((sI).pr (sI))}),
 ([28],{ty:=xO,el:=some (51,3,24,[vI,vI,vI]),jW:=true,ze:=some [vS],co:=some ((sI).pr ((sI).pr (sI)))}),
 ([29,30,97,98],{ty:=some (true,3),fd:=[(0,false,1),(1,false,1),(2,false,1)],pl:=some ([vI,vS,vS],[(0,1),(1,1),(2,1)]),ze:=some [vI,vS,vS]}),
 ([33,154,271],{ty:=xO,el:=some (3,1,8,[vI]),jW:=true,ze:=some [vS],co:=some (sI)}),
 ([34,35,39,40],{ty:=some (true,3),fd:=[(0,false,1),(1,false,1),(2,false,1)],pl:=some ([vI,vI,vS],[(0,1),(1,1),(2,1)]),ze:=some [vI,vI,vS]}),
 ([38],{ty:=xO,el:=some (125,2,16,[vI,vI]),jW:=true,ze:=some [vS],co:=some ((sI).pr (sI))}),
 ([41,42],{ty:=some (true,5),fd:=[(0,false,1),(1,false,1),(2,true,3)],pl:=some ([vI,vI,vI,vI,vS],[(0,1),(1,1),(2,3)]),ze:=some [vI,vI,vI,vI,vS]}),
 ([45,46,188,189,208,209],{ty:=some (true,2),fd:=[(0,false,1),(1,false,1)],pl:=some ([vI,vI],[(0,1),(1,1)]),ze:=some [vI,vI],eq:=some ((sI).pr (sI)),zv:=some (.agg {toList:=[vI,vI]})}),
 ([50,51],{ty:=some (true,3),fd:=[(0,false,1),(1,false,1),(2,false,1)],pl:=some ([vI,vI,vI],[(0,1),(1,1),(2,1)]),ze:=some [vI,vI,vI],eq:=some ((sI).pr ((sI).pr (sI)))}),
 ([52],{ty:=xO,el:=some (5,1,1,[.int .u8 0]),jW:=true,ze:=some [vS],co:=some (Sc.i .u8)}),
 ([57],{ty:=xO,el:=some (35,3,40,[vI,vI,vS]),jW:=true,ze:=some [vS],co:=some ((sI).pr ((sI).pr (sI).sl))}),
 ([63],{ty:=xO,el:=some (72,3,72,[vS,vS,vS]),jW:=true,ze:=some [vS],co:=some ((sI).sl.pr ((sI).sl.pr (sI).sl.sl))}),
 ([66],{ty:=xO,ze:=some [.int .u32 0],ik:=some .u32}),
 ([67],{ty:=xO,el:=some (66,1,4,[.int .u32 0]),jW:=true,ze:=some [vS],co:=some (Sc.i .u32)}),
 ([68],{ty:=xO,el:=some (33,1,24,[vS]),jW:=true,ze:=some [vS],co:=some (sI).sl}),
 ([71,72],{ty:=some (true,3),fd:=[(0,false,1),(1,false,1),(2,false,1)],pl:=some ([vS,vS,vS],[(0,1),(1,1),(2,1)]),ze:=some [vS,vS,vS]}),
 ([74],{ty:=xO,el:=some (4,1,1,[vB]),jW:=true,ze:=some [vS],co:=some Sc.b}),
 ([86,87],{ty:=some (true,2),fd:=[(0,false,1),(1,false,1)],pl:=some ([vS,vS],[(0,1),(1,1)]),ze:=some [vS,vS],zv:=some (.agg {toList:=[vS,vS]})}),
 ([90],{ty:=xO,el:=some (195,4,32,[vI,vI,vI,vI]),jW:=true,ze:=some [vS],co:=some ((sI).pr ((sI).pr ((sI).pr (sI))))}),
 ([91,92],{ty:=some (true,3),fd:=[(0,false,1),(1,false,1),(2,false,1)],pl:=some ([vS,vI,vS],[(0,1),(1,1),(2,1)]),ze:=some [vS,vI,vS]}),
 ([93,94],{ty:=some (true,7),fd:=[(0,true,3),(3,false,1),(4,false,1),(5,false,1),(6,false,1)],pl:=some ([vS,vI,vS,vS,vB,vI,vI],[(0,3),(3,1),(4,1),(5,1),(6,1)]),ze:=some [vS,vI,vS,vS,vB,vI,vI]}),
 ([105],{ty:=xO,el:=some (179,5,32,[vB,vB,vI,vI,vI]),jW:=true,ze:=some [vS],co:=some (Sc.b.pr (Sc.b.pr (((sI).pr (sI)).pr (sI))))}),
 ([118,119],{ty:=some (true,1),fd:=[(0,false,1)],pl:=some ([vI],[(0,1)]),ze:=some [vI],eq:=some (sI),zv:=some (.agg {toList:=[vI]})}),
 ([122,123],{ty:=some (true,7),fd:=[(0,true,4),(4,true,3)],pl:=some ([vI,vS,vI,vI,vI,vI,vS],[(0,4),(4,3)]),ze:=some [vI,vS,vI,vI,vI,vI,vS]}),
 ([125],{ty:=some (true,2),ar:=some (2,3,1),pl:=some ([vI,vI],[(0,1),(1,1)]),ze:=some [vI,vI],co:=some (sI)}),
 ([126,127,253,254],{ty:=some (true,4),fd:=[(0,false,1),(1,false,1),(2,false,1),(3,false,1)],pl:=some ([vI,vI,vI,vB],[(0,1),(1,1),(2,1),(3,1)]),ze:=some [vI,vI,vI,vB],eq:=some ((sI).pr ((sI).pr ((sI).pr Sc.b)))}),
 ([130],{ty:=xO,el:=some (30,3,56,[vI,vS,vS]),jW:=true,ze:=some [vS],co:=some ((sI).pr (((sI).pr (sI)).sl.pr ((sI).pr ((sI).pr (sI))).sl))}),
 ([147,148],{ty:=some (true,6),fd:=[(0,true,3),(3,false,1),(4,false,1),(5,false,1)],pl:=some ([vS,vS,vS,vS,vI,vI],[(0,3),(3,1),(4,1),(5,1)]),ze:=some [vS,vS,vS,vS,vI,vI]}),
 ([178,179],{ty:=some (true,5),fd:=[(0,false,1),(1,false,1),(2,true,2),(4,false,1)],pl:=some ([vB,vB,vI,vI,vI],[(0,1),(1,1),(2,2),(4,1)]),ze:=some [vB,vB,vI,vI,vI]}),
 ([183],{ty:=xO,el:=some (254,4,32,[vI,vI,vI,vB]),jW:=true,ze:=some [vS],co:=some ((sI).pr ((sI).pr ((sI).pr Sc.b)))}),
 ([186],{ty:=xO,el:=some (189,2,16,[vI,vI]),jW:=true,ze:=some [vS],co:=some ((sI).pr (sI))}),
 ([194,195],{ty:=some (true,4),fd:=[(0,false,1),(1,false,1),(2,false,1),(3,false,1)],pl:=some ([vI,vI,vI,vI],[(0,1),(1,1),(2,1),(3,1)]),ze:=some [vI,vI,vI,vI],eq:=some ((sI).pr ((sI).pr ((sI).pr (sI))))}),
 ([197],{ty:=xO,ze:=some [.map none],mp:=some (TypeDesc.int .i64,vI),kv:=some (sI,sI)}),
 ([212,213],{ty:=some (true,2),fd:=[(0,false,1),(1,false,1)],pl:=some ([vS,vI],[(0,1),(1,1)]),ze:=some [vS,vI],zv:=some (.agg {toList:=[vS,vI]})}),
 ([217],{ty:=some (true,8),ar:=some (8,3,1),pl:=some ([vI,vI,vI,vI,vI,vI,vI,vI],[(0,1),(1,1),(2,1),(3,1),(4,1),(5,1),(6,1),(7,1)]),ze:=some [vI,vI,vI,vI,vI,vI,vI,vI],co:=some (sI)}),
 ([233],{ty:=xO,ze:=some [.int .u16 0],ik:=some .u16}),
 ([234],{ty:=xO,ze:=some [.map none],mp:=some (TypeDesc.tuple {toList:=[]},vI),kv:=some ((sI).pr (sI),sI)}),
 ([245,246],{ty:=some (true,8),fd:=[(0,true,2),(2,true,5),(7,false,1)],pl:=some ([vI,vS,vB,vB,vI,vI,vI,vI],[(0,2),(2,5),(7,1)]),ze:=some [vI,vS,vB,vB,vI,vI,vI,vI]}),
 ([249,250],{ty:=some (true,8),fd:=[(0,true,7),(7,false,1)],pl:=some ([vS,vI,vS,vS,vB,vI,vI,vS],[(0,7),(7,1)]),ze:=some [vS,vI,vS,vS,vB,vI,vI,vS]}),
 ([260],{ty:=xO,el:=some (80,2,32,[vI,vS]),jW:=true,ze:=some [vS],co:=some ((sI).pr (sI).sl.sl)}),
 ([267,268],{ty:=some (true,3),fd:=[(0,false,1),(1,false,1),(2,false,1)],pl:=some ([vS,.map none,.map none],[(0,1),(1,1),(2,1)]),ze:=some [vS,.map none,.map none]}),
 ([301],{ty:=xO,el:=some (22,1,24,[vS]),jW:=true,ze:=some [vS],co:=some ((sI).pr ((sI).pr ((sI).pr Sc.b))).sl}),
 ([305],{ty:=xO,el:=some (306,1,8,[.pointer none]),jW:=true,ze:=some [vS]}),
 ([313],{ty:=some (true,32),ar:=some (32,5,1),pl:=some ([.int .u8 0,.int .u8 0,.int .u8 0,.int .u8 0,.int .u8 0,.int .u8 0,.int .u8 0,.int .u8 0,.int .u8 0,.int .u8 0,.int .u8 0,.int .u8 0,.int .u8 0,.int .u8 0,.int .u8 0,.int .u8 0,.int .u8 0,.int .u8 0,.int .u8 0,.int .u8 0,.int .u8 0,.int .u8 0,.int .u8 0,.int .u8 0,.int .u8 0,.int .u8 0,.int .u8 0,.int .u8 0,.int .u8 0,.int .u8 0,.int .u8 0,.int .u8 0],[(0,1),(1,1),(2,1),(3,1),(4,1),(5,1),(6,1),(7,1),(8,1),(9,1),(10,1),(11,1),(12,1),(13,1),(14,1),(15,1),(16,1),(17,1),(18,1),(19,1),(20,1),(21,1),(22,1),(23,1),(24,1),(25,1),(26,1),(27,1),(28,1),(29,1),(30,1),(31,1)]),ze:=some [.int .u8 0,.int .u8 0,.int .u8 0,.int .u8 0,.int .u8 0,.int .u8 0,.int .u8 0,.int .u8 0,.int .u8 0,.int .u8 0,.int .u8 0,.int .u8 0,.int .u8 0,.int .u8 0,.int .u8 0,.int .u8 0,.int .u8 0,.int .u8 0,.int .u8 0,.int .u8 0,.int .u8 0,.int .u8 0,.int .u8 0,.int .u8 0,.int .u8 0,.int .u8 0,.int .u8 0,.int .u8 0,.int .u8 0,.int .u8 0,.int .u8 0,.int .u8 0],co:=some (Sc.i .u8)}),
 ([345,346],{ty:=some (true,11),fd:=[(0,true,7),(7,true,4)],pl:=some ([vS,vI,vS,vS,vB,vI,vI,vI,vI,vI,vB],[(0,7),(7,4)]),ze:=some [vS,vI,vS,vS,vB,vI,vI,vI,vI,vI,vB]}),
 ([401],{ty:=some (true,0),ar:=some (0,16,1),pl:=some ([],[]),ze:=some []}),
 ([402,403],{ty:=some (true,0),fd:=[(0,true,0)],pl:=some ([],[(0,0)]),ze:=some []}),
 ([410,411],{ty:=some (true,11),fd:=[(0,false,1),(1,false,1),(2,false,1),(3,false,1),(4,false,1),(5,false,1),(6,false,1),(7,false,1),(8,false,1),(9,false,1),(10,false,1)],pl:=some ([.int .u64 0,.int .u64 0,.int .u32 0,.int .u8 0,.int .u8 0,.int .u8 0,.int .u8 0,.nilFunc,.pointer none,.int .i32 0,.int .i32 0],[(0,1),(1,1),(2,1),(3,1),(4,1),(5,1),(6,1),(7,1),(8,1),(9,1),(10,1)]),ze:=some [.int .u64 0,.int .u64 0,.int .u32 0,.int .u8 0,.int .u8 0,.int .u8 0,.int .u8 0,.nilFunc,.pointer none,.int .i32 0,.int .i32 0]}),
 ([1,31,37,43,44,47,48,49,54,56,59,60,62,65,70,73,76,78,82,83,84,85,89,96,100,102,104,107,109,111,112,113,114,115,116,117,124,128,129,132,133,135,137,138,139,140,141,142,145,146,149,150,151,152,153,155,156,157,159,161,163,165,167,168,170,171,173,174,175,176,177,181,182,185,187,190,191,192,193,196,198,199,200,201,202,203,204,205,206,207,210,214,215,216,218,219,220,221,222,223,224,226,227,228,229,230,232,235,236,237,238,239,240,241,242,244,247,251,252,255,256,257,258,259,261,262,264,265,270,273,274,275,276,277,278,279,280,281,282,283,284,285,287,288,289,290,291,294,295,296,297,298,300,302,303,304,307,309,310,311,312,314,315,317,318,319,320,321,322,323,324,325,327,328,329,330,331,332,333,334,335,337,338,339,341,342,343,347,348,349,350,351,352,353,354,355,356,357,358,359,360,361,363,364,365,366,368,370,371,372,374,375,376,377,378,379,380,381,382,383,384,385,386,387,388,389,390,392,393,394,395,396,397,398,406],{ty:=xO,ze:=some [.nilFunc]})]
def T(t:TypeId):bs:=tgF tS tN tL t
def vP:gw Tryz.prog T:=afO (LG (S:=tS) (N:=tN) (L:=tL) (by kernel_rfl) (by kernel_rfl) (by kernel_rfl))
def Ay:∀q∈ahc,akS Tryz.prog q:=λq h=>by cases h
def mixed:Tryz.prog.follows .mixedOrders=true:=by kernel_rfl
section
set_option maxHeartbeats 400000
def mG(e:Int):Value:=.iface 119 (.agg #[.int .i64 e])
def aaA(e:Int)(w:World)(b:e≠0):Calls Tryz.prog 97 #[.int .i64 e] w λx a=>x=.panicked [{v:=mG e,recovered:=false}]/\w=a:=by
 go_enter auf,Tryz.ntmps97
 go_wp2
 exact⟨rfl,rfl,rfl⟩
end
variable{A:Bs}{s:Code}{j:Env}{o:Func}{y:Hp}{u:List AV}{h:List PanicEntry}{B:tZ}{k:bp}
section
variable{P:Program}{st:St}{dA:Exit->St->Prop}
def TC(P:Program)(c:Code)(st:St)(dA:Exit->St->Prop):Prop:=
 ∀h b e a w Q,Ga h b e st a w->(∀x f,dA x f->∀i d g,Ga h b i f d g->Q x d g)->c.wp P Q a w
def TC.ac(h:AC false P s st dA):TC P s st dA:=λn b e a w Q i j=>
 wpIn_wide.1 (h none n b e a w Q (λh=>by cases h) i λx l k p o f d c m g _=>by
  obtain⟨rfl,rfl⟩:=f.ne rfl;exact j x l k d c m g)
def TC.mono{c:Exit->St->Prop}(h:TC P s st dA)(j:∀x b,dA x b->c x b):TC P s st c:=λl f e a w Q g i=>h l f e a w Q g λx d k=>i x d (j x d k)
def TC.seq{x y:Code}(h:TC P x st (Ky (λb=>TC P y b dA) dA)):TC P (.seq x y) st dA:=λm k e a w Q o g=>by
 refine arS (h m k e a w _ o λn b i d c j f=>?_);cases n with
 |normal=>exact i m k d c j Q f g
 |exit id=>exact g _ b i d c j f
 |goto l=>exact g _ b i d c j f
 |ret=>exact g _ b i d c j f
 |panic p=>exact g _ b i d c j f
 |outgrown=>exact g _ b i d c j f
def TC.ex{T:TypeId->bs}{c:List iZ}{N:Nat}(e:Place P T c)(d:Av s=true){pl:Pl}{E:cL}{R:Type}{k:Exit->cL->Option R}{r:R}(h:uf T c N s pl E R k=some r):TC P s (bm E) λx a=>∃b,a=bm b/\b.n=E.n/\k x b=some r:=
 .ac (aap e s false (λ_=>d) pl E R k r h)
def TL(P:Program)(i:tZ)(l:bp)(st:St)(dA:Exit->St->Prop):Prop:=
 ∀g b e a w Q,Ga g b e st a w->(∀x d,dA x d->∀h c f,Ga g b h d c f->Q x c f)->wpList P i Q l a w
def TL.cons{o:Oper}(h:∀c:St->Prop,(∀b,TL P B k b dA->c b)->GS P B o st c):TL P B (o::k) st dA:=by
 intro i d e a w Q n q;refine asM λj m=>?_;exact h (λb=>TL P B k b dA) (λ_ h=>h) i d e a w j Q n λb r l f g p=>m f g (r i d l f g Q p q)
def TL.of(h:AL P B k st (dA .normal)):TL P B k st dA:=λi b e a w Q c d=>h i b e a w Q c λg f=>d .normal g f
def TC.region{id:Nat}(h:TL P k.toArray k st dA):TC P (.region id k.toArray false) st dA:=λf b e a w Q c d=>
 wp_region_lit (h f b e a w Q c d)
def SP(P:Program)(o:Oper)(st:St)(dA:Exit->St->Prop):Prop:=
 ∀g b e a w next Q,Ga g b e st a w->(∀x d,dA x d->∀h c f,Ga g b h d c f->Q x c f)->o.wp P a w next Q
def TL.last{o:Oper}(d:o.guard=none)(h:SP P o st dA):TL P B (o::k) st dA:=by
 intro i c e a w Q f g;refine asM λb j=>?_;rw[apR (by simp[Region.wanted,d])];exact h i c e a w b Q f g
def PCX(P:Program)(f:FuncId)(a:Hp)(c:List AV)(d:List PanicEntry):Prop:=
 Enters P f/\∀B Rd e w b,SR B Rd e a w->LR (VR (bO B Rd e a w) (some e)) c b->Calls P f b.toArray w λx h=>x=.panicked d/\∃g,SR B Rd g [] h
def SR.nil{Rd:bE}(d:SR A Rd j y b):SR A Rd j [] b:=
 ⟨d.ext,d.jO,(λk ob c=>by cases c),(λk ob a c=>by cases c),(λk e ob f a c=>by cases c),d.t_⟩
def PCX.intro{c:Code}(v:P.funcs[e]? =some o)(J:(o.name== "runtime.NumGoroutine")=false)(r:o.body=some c)(Q:u.length<=o.ntmps)(G:o.ntmps<=1000000)
 (b:TC P c ⟨o.ntmps,qU 0 u,y⟩ λx _=>x=.panic h):PCX P e y u h:=by
 refine⟨⟨o,v,J,by rw[r];rfl⟩,λB Rd a w k g M=>aug v r ?_⟩;obtain⟨j,l⟩:∃j:Bs,j=⟨B.w,B.own,B.bS,B.sv,[]⟩:=⟨_,rfl⟩;have L:SR j Rd a y w:=by
  subst l;exact⟨⟨g.ext.os,g.ext.tape,g.ext.output,g.ext.size,g.ext.block,g.ext.drawn⟩,g.jO,g.ob,g.base,g.inj,g.t_⟩
 have F:∀a b w,SR j Rd a b w->SR B Rd a b w:=by
  subst l;exactλa b w f=>⟨⟨f.ext.os,f.ext.tape,f.ext.output,f.ext.size,f.ext.block,f.ext.drawn⟩,f.jO,f.ob,f.base,f.inj,f.t_⟩
 have q:LR (VR (bO j Rd a y w) (some a)) u k:=by subst l;exact M
 have t:j.df=[]:=by subst l;rfl
 have I:Ga j Rd a ⟨o.ntmps,qU 0 u,y⟩ {tmps:=k.toArray++Array.replicate (o.ntmps - k.toArray.size) undef,defers:=[]} w:=by
  refine⟨⟨by simp[q.1];omega,G⟩,by rw[t],L,λi=>?_⟩;rw[wb];simp only[aql,aqs,asQ];by_cases p:i<u.length
  ·have s:u[i]? =some u[i]:=ap0 p
   obtain⟨d,C,K⟩:=q.get s;have n:u.getD i .un=u[i]:=by simp[List.getD,s]
   have E:(k.toArray++Array.replicate (o.ntmps - k.toArray.size) undef).getD i undef=d:=by
    have A:i<k.length:=by rw[q.1];exact p
    simp[aq8,asR,A];rw[ap0 A]at C;simpa using C
   rw[n,E];exact K
  ·have n:u.getD i .un=.un:=by simp[List.getD,aqE (asq p)]
   rw[n];exact .un
 refine b j Rd _ _ w _ I λx R N D m O z=>?_;subst N;have H:m.defers=[]:=z.d.trans t;show Leaves P o m.tmps _ m.defers (.panicking h) O;rw[H];exact⟨rfl,D,F _ _ _ z.sr.nil⟩
end
section
variable{P:Program}{st:St}{dA:Exit->St->Prop}{d:Nat}{ty:TypeId}{pos:String}{af:dI}{gd:fE}
def SP.RK{op:Op}{D:bH}{h' r:Hp}{t:List AV}(A:PCX P e r t h)(H:Ki P ⟨some d,op,ty,pos,af,gd⟩ st e u)(I:RJ st D (1000*(d+1)) h' r t u)(v:Kh (1000*(d+1)) D=true)
 (F:dA (.panic h) ⟨st.n,qf (mA (1000*(d+1))) st.t,nq D++hL (mA (1000*(d+1))) h'⟩):SP P ⟨some d,op,ty,pos,af,gd⟩ st dA:=by
 intro B s g a w next Q f K
 obtain⟨W,R,M⟩:=H A.1 B s g a w f;obtain⟨C,l,q,z,S⟩:=I B s g w _ f.sr R;have m:=f.cM l;have N:=m.sr.nt q v z;have G:=A.2 _ _ _ w W N (S.nU λb o k J=>J.nt q λp ob L=>by
  obtain⟨c,V,x,y,_⟩:=z p ob L;exact⟨c,x,V,y⟩)
 unfold Oper.wp;rw[M w];show Calls P e _ w _;refine G.mono λx X U=>?_;obtain⟨rfl,E,O⟩:=U;obtain⟨j1,j2,j3,j4⟩:=SR.eE m.sr q v O rfl;refine K _ _ F (C.eE D (1000*(d+1)) E) a X ⟨m.n,m.d,j1,λi=>?_⟩;rw[lP];exact((((m.tr i).mono j2).jP _).FN rfl (mA (1000*(d+1))) (nT _ _) (λj n=>by simp[Env.eE,n]) (λj n=>by simp[Env.eE,n]))
end
def aaB(c:iZ)(d:Nat)(a:Nat->Option ea)(b:List EV):Option (ky c.cs×aZ×bH):=
 let D:=Lb a c.hs (o8 c.ps b [])
 cond (b.all ZU) (match lu a c.pu (mO (fQ D (1000*(d+1))) c.ps) b with
 |some (e,gs)=>match Dj a D (1000*(d+1)) c.hs with
  |some ws=>match uc c.cs (e++ws)with
   |some x=>cond (Kh (1000*(d+1)) D && gs.all (λk=>(Pf D k).isNone) && D.all (λq=>c.hs.any λr=>Nat.beq r.1 q.1) && (c.pu||gs.all (Lf a)) && !c.pu) (some (x,gs,D)) none
   |none=>none
  |none=>none
 |none=>none) none
section
variable{P:Program}{st:St}{dA:Exit->St->Prop}{d:Nat}{ty:TypeId}{pos:String}{af:dI}{gd:fE}
def SP.ctr{c:iZ}{b:Nat->Option ea}{e:List EV}{x:ky c.cs}{gs:aZ}{D:bH}{j:Op}(a:aaB c d b e=some (x,gs,D))(q:PCX P c.f (bz (c.H0 x)) (bX (c.as x)) h)
 (p:Ki P ⟨some d,j,ty,pos,af,gd⟩ st c.f (bX e)) (l:Hk b (gs++D.map (·.2)) st)
 (m:dA (.panic h) ⟨st.n,qf (mA (1000*(d+1))) st.t,nq D++hL (mA (1000*(d+1))) (bz (gD b gs)++st.h)⟩):SP P ⟨some d,j,ty,pos,af,gd⟩ st dA:=by
 unfold aaB at a;obtain⟨_,a⟩:=aY a;generalize Lb b c.hs (o8 c.ps e [])=k at a;split at a
 ·rename_i y w n
  split at a
  ·rename_i z r
   split at a
   ·rename_i A f
    have f:=wu f;obtain⟨i,a⟩:=aY a;simp only[apS,aq1]at i;obtain⟨⟨⟨⟨g,s⟩,t⟩,u⟩,v⟩:=i;have o:Bv (k.map (·.2))=true:=by simp only[Kh,apS]at g;exact g.1.2
    cases a;exact SP.RK q p (rh n r f s t u v o l) g m
   ·cases a
  ·cases a
 ·cases a
end
noncomputable def om(N:Nat):List iZ:=[]
def qg:Pl:=.z
def gN:PS:=⟨[(2,.h .b)],[],[.b]⟩
noncomputable def gO(N:Nat):Int->eA:=exF T om N (gV Tryz.f197) 6 qg [.h (.i .i64)] [] [(.i .i64)] gN
noncomputable def qh(N:Nat):iZ:=⟨197,[.h (.i .i64)],[],[(.i .i64)],ky gN.c,gO N,λy _ k=>k (vl T (eX 6 gN y) Tryz.f197.results.toList) (fD [] (eX 6 gN y).h),false,true⟩
def vo N x:gO (N+1) x=some (!(x=x)):=by kernel_rfl
def vp(N:Nat):(qh N).ok Tryz.prog:=rl (T:=T) (CT:=om) (N:=N) (λM=>⟨vP,kf,mixed,Ay⟩) Tryz.func197 (by kernel_rfl) (by kernel_rfl) qg [.h (.i .i64)] [] [(.i .i64)] gN false true [] (by kernel_rfl) (λy=>by kernel_rfl) (λ_=>⟨rfl,rfl⟩) (λy=>by kernel_rfl) (gO N) (λx=>by kernel_rfl)
noncomputable def l8(N:Nat):List iZ:=[qh N]
def mP:Pl:=.z
def fI:PS:=⟨[(4,.h (.i .i64))],[],[(.i .i64)]⟩
noncomputable def cI(N:Nat):Int×Int->eR:=exF T l8 N (gV Tryz.f144) 20 mP [.h (.i .i64),.h (.i .i64)] [] [(.i .i64),(.i .i64)] fI
noncomputable def fJ(N:Nat):iZ:=⟨144,[.h (.i .i64),.h (.i .i64)],[],[(.i .i64),(.i .i64)],ky fI.c,cI N,λy _ k=>k (vl T (eX 20 fI y) Tryz.f144.results.toList) (fD [] (eX 20 fI y).h),false,true⟩
def rm N x y:cI (N+1) (x,y)=aW (gO N x) λb=>
 aW (gO N y) λa=>
 cond b
  (cond a
   (some 0)
   (some (-1)))
  (cond a
   (some 1)
   (cond (x<y)
    (some (-1))
    (cond (y<x)
     (some 1)
     (some 0)))):=by kernel_rfl
def fK(N:Nat):(fJ N).ok Tryz.prog:=rl (T:=T) (CT:=l8) (N:=N) (λM=>⟨vP,(fe (vp M) kf),mixed,Ay⟩) Tryz.func144 (by kernel_rfl) (by kernel_rfl) mP [.h (.i .i64),.h (.i .i64)] [] [(.i .i64),(.i .i64)] fI false true [] (by kernel_rfl) (λy=>by kernel_rfl) (λ_=>⟨rfl,rfl⟩) (λy=>by kernel_rfl) (cI N) (λx=>by kernel_rfl)
noncomputable def nC(N:Nat):List iZ:=[]
def rn:PS:=⟨[(3,.h (.i .i64)),(6,.h (.sl (.i .i64))),(7,.h (.i .i64)),(8,.h (.i .i64))],[],[(.i .i64),(.sl (.i .i64)),(.i .i64),(.i .i64)]⟩
def rp:List (Exit×PS):=[((.exit 0),⟨[(3,.h (.i .i64))],[],[(.i .i64)]⟩),(.ret,⟨[(2,.h (.i .i64))],[],[(.i .i64)]⟩)]
def rq:Pl:=.z
noncomputable def l9(N:Nat):Nat->Int×aX×Int×Int->Option ((Int)⊕(Int)):=DB (uf T (nC N) N (iH [1,1,0,1,0,0] (gV Tryz.f143))) 18 rn rp rq
def wB:Pl:=(.n .z (.n .z (.n (.n .z (.n (.loop rn rp rq) .z)) .z)))
def jB:PS:=⟨[(2,.h (.i .i64))],[],[(.i .i64)]⟩
noncomputable def gG(N:Nat):aX->eR:=exF T nC N (gV Tryz.f143) 18 wB [.h (.sl (.i .i64))] [] [(.sl (.i .i64))] jB
noncomputable def lG(N:Nat):iZ:=⟨143,[.h (.sl (.i .i64))],[],[(.sl (.i .i64))],ky jB.c,gG N,λy _ k=>k (vl T (eX 18 jB y) Tryz.f143.results.toList) (fD [] (eX 18 jB y).h),false,true⟩
def kg N m b c d a:l9 N (m+1) (b,c,d,a)=cond (a<d)
 (aW (ba c a) λe=>
  cond (!(e=b))
   (some (.inr e))
   ((l9 N m (b,c,d,(IntKind.wrap .i64 (a+1))))))
 (some (.inl b)):=by kernel_rfl
def BC N a:gG (N+1) a=aW (l9 N N (0,a,(List.length a:Int),0)) λb=>
 (match b with
 |.inl c=>some c
 |.inr d=>some d):=by kernel_rfl
def lg(N:Nat):(lG N).ok Tryz.prog:=rl (T:=T) (CT:=nC) (N:=N) (λM=>⟨vP,kf,mixed,Ay⟩) Tryz.func143 (by kernel_rfl) (by kernel_rfl) wB [.h (.sl (.i .i64))] [] [(.sl (.i .i64))] jB false true [] (by kernel_rfl) (λy=>by kernel_rfl) (λ_=>⟨rfl,rfl⟩) (λy=>by kernel_rfl) (gG N) (λx=>by kernel_rfl)
noncomputable def qi(N:Nat):List iZ:=[fJ N,lG N]
def ru:Pl:=.z
def hX:PS:=⟨[(4,.h (.i .i64))],[],[(.i .i64)]⟩
noncomputable def hY(N:Nat):Int×Int×Int×Int->eR:=exF T qi N (gV Tryz.f76) 17 ru [.ag [.h (.i .i64),.h (.i .i64)],.ag [.h (.i .i64),.h (.i .i64)]] [] [(.i .i64),(.i .i64),(.i .i64),(.i .i64)] hX
noncomputable def l_(N:Nat):iZ:=⟨76,[.ag [.h (.i .i64),.h (.i .i64)],.ag [.h (.i .i64),.h (.i .i64)]],[],[(.i .i64),(.i .i64),(.i .i64),(.i .i64)],ky hX.c,hY N,λy _ k=>k (vl T (eX 17 hX y) Tryz.f76.results.toList) (fD [] (eX 17 hX y).h),false,true⟩
def wC N a c b d:hY (N+1) (a,c,b,d)=aW (cI N (a,b)) λe=>
 aW (cI N (c,d)) λf=>
 aW (gG N [e,f]) λg=>
 some g:=by kernel_rfl
def mQ(N:Nat):(l_ N).ok Tryz.prog:=rl (T:=T) (CT:=qi) (N:=N) (λM=>⟨vP,(fe (fK M) (fe (lg M) kf)),mixed,Ay⟩) Tryz.func76 (by kernel_rfl) (by kernel_rfl) ru [.ag [.h (.i .i64),.h (.i .i64)],.ag [.h (.i .i64),.h (.i .i64)]] [] [(.i .i64),(.i .i64),(.i .i64),(.i .i64)] hX false true [] (by kernel_rfl) (λy=>by kernel_rfl) (λ_=>⟨rfl,rfl⟩) (λy=>by kernel_rfl) (hY N) (λx=>by kernel_rfl)
noncomputable def ug(N:Nat):List iZ:=[l_ N]
def wD:Pl:=.z
def jC:PS:=⟨[(4,.h (.i .i64))],[],[(.i .i64)]⟩
noncomputable def lH(N:Nat):Int×Int×Int×Bool×Int×Int×Int×Bool->eR:=exF T ug N (gV Tryz.f75) 16 wD [.ag [.h (.i .i64),.h (.i .i64),.h (.i .i64),.h .b],.ag [.h (.i .i64),.h (.i .i64),.h (.i .i64),.h .b]] [] [(.i .i64),(.i .i64),(.i .i64),.b,(.i .i64),(.i .i64),(.i .i64),.b] jC
noncomputable def wF(N:Nat):iZ:=⟨75,[.ag [.h (.i .i64),.h (.i .i64),.h (.i .i64),.h .b],.ag [.h (.i .i64),.h (.i .i64),.h (.i .i64),.h .b]],[],[(.i .i64),(.i .i64),(.i .i64),.b,(.i .i64),(.i .i64),(.i .i64),.b],ky jC.c,lH N,λy _ k=>k (vl T (eX 16 jC y) Tryz.f75.results.toList) (fD [] (eX 16 jC y).h),false,true⟩
def BD N a c e f b d g h:lH (N+1) (a,c,e,f,b,d,g,h)=aW (hY N (a,c,b,d)) λi=>
 some i:=by kernel_rfl
def BE(N:Nat):(wF N).ok Tryz.prog:=rl (T:=T) (CT:=ug) (N:=N) (λM=>⟨vP,(fe (mQ M) kf),mixed,Ay⟩) Tryz.func75 (by kernel_rfl) (by kernel_rfl) wD [.ag [.h (.i .i64),.h (.i .i64),.h (.i .i64),.h .b],.ag [.h (.i .i64),.h (.i .i64),.h (.i .i64),.h .b]] [] [(.i .i64),(.i .i64),(.i .i64),.b,(.i .i64),(.i .i64),(.i .i64),.b] jC false true [] (by kernel_rfl) (λy=>by kernel_rfl) (λ_=>⟨rfl,rfl⟩) (λy=>by kernel_rfl) (lH N) (λx=>by kernel_rfl)
noncomputable def rv(N:Nat):List iZ:=[fJ N]
def uh:Pl:=.z
def iO:PS:=⟨[(4,.h (.i .i64))],[],[(.i .i64)]⟩
noncomputable def kz(N:Nat):aX×aX->eR:=exF T rv N (gV Tryz.f258) 12 uh [.h (.sl (.i .i64)),.h (.sl (.i .i64))] [] [(.sl (.i .i64)),(.sl (.i .i64))] iO
noncomputable def ui(N:Nat):iZ:=⟨258,[.h (.sl (.i .i64)),.h (.sl (.i .i64))],[],[(.sl (.i .i64)),(.sl (.i .i64))],ky iO.c,kz N,λy _ k=>k (vl T (eX 12 iO y) Tryz.f258.results.toList) (fD [] (eX 12 iO y).h),false,true⟩
def zB N a b:kz (N+1) (a,b)=aW (ba a 0) λc=>
 aW (ba b 0) λd=>
 aW (cI N (c,d)) λe=>
 some e:=by kernel_rfl
def zC(N:Nat):(ui N).ok Tryz.prog:=rl (T:=T) (CT:=rv) (N:=N) (λM=>⟨vP,(fe (fK M) kf),mixed,Ay⟩) Tryz.func258 (by kernel_rfl) (by kernel_rfl) uh [.h (.sl (.i .i64)),.h (.sl (.i .i64))] [] [(.sl (.i .i64)),(.sl (.i .i64))] iO false true [] (by kernel_rfl) (λy=>by kernel_rfl) (λ_=>⟨rfl,rfl⟩) (λy=>by kernel_rfl) (kz N) (λx=>by kernel_rfl)
variable{n:World}{C:eb}{m:bD}
section
open Go Go.RowKit Go.Shelf Go.Sort
section
def jD(b:a->a->Bool)(l:List a):Prop:=l.Pairwise λx y=>b x y=true\/b y x=true
open Classical in
def IL{α:Type}(lt:α->α->Bool)(l:List α):Option (List α):=if jD lt l/\l.length<1099511627776 then some (l.mergeSort λx y=> !lt y x)else none
def Gw{b:a->a->Bool}{l r:List a}(h:IL b l=some r):jD b l/\l.length<1099511627776/\r=l.mergeSort λx y=> !b y x:=by
 unfold IL at h;split at h
 ·rename_i c
  exact⟨c.1,c.2,(apZ h).symm⟩
 ·cases h
def jD.perm{b:a->a->Bool}{l r:List a}(h:jD b l)(c:l.Perm r):jD b r:=c.pairwise h λ{x y} h=>h.symm
def pj{α:Type}{b:α->α->Bool}(m:∀x y,b x y=true->b y x=true->False):∀{l r:List α},l.Perm r->jD b l->l.Pairwise (λx y=>b y x=false)->r.Pairwise (λx y=>b y x=false)->l=r
 |[],r,a,_,_,_=>by rw[List.nil_perm.1 a]
 |x::l,[],a,_,_,_=>by simp at a
 |x::l,y::r,a,f,g,i=>by
  have n:x=y:=by
   have d:x∈y::r:=a.subset (by simp);have c:y∈x::l:=a.symm.subset (by simp);rcases aqj.1 d with e|d
   ·exact e
   rcases aqj.1 c with e|c
   ·exact e.symm
   have j:=(arE.1 g).1 y c;have k:=(arE.1 i).1 x d;rcases(arE.1 f).1 y c with h|h
   ·rw[k]at h;cases h
   ·rw[j]at h;cases h
  subst n;rw[pj m ((List.perm_cons x).1 a) (arE.1 f).2 (arE.1 g).2 (arE.1 i).2]
def vq{e:a->a->Bool}(g:SWO e){l r:List a}(j:r.Perm l)(k:jD e l)(n:r.Pairwise λx y=>e y x=false):r=l.mergeSort λx y=> !e y x:=by
 have m:=auh l λx y=> !e y x;refine pj (λx y i f=>by have:=g.trans _ _ _ i f;rw[g.irrefl]at this;cases this) (j.trans m.symm) (k.perm j.symm) n ?_;have:=auS (le:=λx y=> !e y x) (λd b c i f=>by
  simp only[aq1]at i f⊢;exact g.ntrans _ _ _ f i) (λd b=>by
  cases h:e b d with
  |false=>rfl
  |true=>
   cases f:e d b with
   |false=>rfl
   |true=>have:=g.trans _ _ _ h f;rw[g.irrefl]at this;cases this) l
 exact this.imp λh=>by simpa using h
def Su [Inhabited a]{d b:Array a}(h:PermIn 0 d.size d b):b.toList.Perm d.toList:=by
 have f:=h.2.2;have c:d.extract 0 d.size=d:=by simp
 have e:b.extract 0 d.size=b:=by rw[<-h.1];simp
 rwa[c,e]at f
def Gx [Inhabited a]{c:a->a->Bool}{d b:Array a}(m:b.size=d.size)(h:SortedIn c 0 d.size b):b.toList.Pairwise λx y=>c y x=false:=by
 rw[atk];intro i j e k g;have f:i<b.size:=by simpa using e
 have l:j<b.size:=by simpa using k
 have:=h i j (aql _) g (by omega);rw[asw b i f,asw b j l]at this;simpa using this
structure aiK(w W:World)(b:Nat)(cur:eb)(t:TypeId)(us:bD):Prop where
 os:W.os=w.os
 tape:W.tape=w.tape
 output:W.output=w.output
 size:w.heap.size<=W.heap.size
 drawn:w.drawn<=W.drawn
 other:∀k,k≠b->k<w.heap.size->W.heap[k]? =w.heap[k]?
 row:∃aiL,W.heap[b]? =some (.cells aiL t (0,0))/\aiL.size=cur.size/\aiL.toList.take us.length=us
def aaC [Inhabited a](g:b.heap[c]? =some (.cells C d (0,0)))(enc:a->Value)(m:Nat)(e:Array a)(o:Array Obj)(p:e.size<=C.size):aiK b (grow (putRow enc (Sort.ahead b m) c 0 e) o) c C d (e.toList.map enc):=by
 have h:c<b.heap.size:=(aqx.1 g).1;refine⟨rfl,rfl,rfl,by simp,by show b.drawn<=b.drawn+m;omega,λk l n=>?_,putCells enc 0 e C,?_,by simp[putCells],?_⟩
 ·simp only[grow,putRow,mapBlock,heap_ahead]
  rw[asf (by simpa using n),arB,apQ (Ne.symm l)]
 ·simp only[grow,putRow,mapBlock,heap_ahead]
  rw[asf (by simpa using h),arB,apR rfl,g];rfl
 ·refine arC λj=>?_
  rw[aqw,ap1,ar7];by_cases f:j<e.size
  ·have i:j<C.size:=by omega
   rw[apR f,ara,aqd,ara,putCells,Array.getElem?_mapIdx,aqA i,aqA f];simp[f]
  ·rw[apQ f,aqd,ara,Array.getElem?_eq_none (by omega)]
   rfl
def IM(h:Ext b n):∃q c,n=grow (b.drewN q) c:=by
 obtain⟨p,a⟩:=regrown_of_below h.FM;have d:b.drawn<=p.d:=by
  have:=h.drawn;rw[a]at this;exact this
 refine⟨p.d - b.drawn,p.os,a.trans ?_⟩;congr 1;unfold redrawn World.drewN;congr 1;omega
variable{P:Program}{ρ:Ren}
def aaD{Rd:bE}(D:SR A Rd j y b)(K:A.hI c)(r:aiK b n c C d m)(t:∀o a,¬bO A Rd j y b c o a)
 {vs:bD} (s:Bw P i [] u [] (.v (.int .i64 v))) (F:LR (VR (bO A Rd j y b) none) u vs):Calls P i vs.toArray n λx l=>x=.returned (.int .i64 v)/\∃q I,l=grow (n.drewN q) I:=by
 have k:∀f o a,bO A Rd j y b f o a->n.cell? ⟨f,o,none⟩=some a:=λf o a g=>by
  have B:f≠c:=λj=>t o a (j▸g);have z:=arT b _ g.1;have:=r.other f B z;rw[<-g.1];unfold World.cell?;rw[this]
 have p:afP n:=λf o a w=>k f o a (D.CM w);refine(s.2 (b0 n) (Rw n) e0 n vs (sr0 n p) (F.imp λ_ _ h=>(h.mono λf o a g=>ak9 (k f o a g)).cS)).mono λx l H=>?_;obtain⟨e,J,rfl,E,G⟩:=H;exact⟨by rw[G.bN],IM (E.ext.ext λ_ h=>h)⟩
def Qn{Rd:bE}{k p:Nat}{t l:List (List AV)}(s:SR A Rd j [(k,some (.arr d p t true))] b)(B:j.bS k=some c)(Z:b.heap[c]? =some (.cells C d (0,0)))
 (X:j.sv k=.slice (some ⟨c,0,none⟩) t.length i) (R:t.length<=i) (V:i<=maxLen) (S:C.size=i*p) (g:aiK b n c C d m) (G:l.length=t.length) (Y:∀r∈l,r.length=p) (z:∀e∈l.flatten,e.one=true)
 (H:LR (VR (bO A Rd j [(k,some (.arr d p t true))] b) none) l.flatten m):SR A Rd j [(k,some (.arr d p l true))] n:=by
 have Q:=s.base k _ c bf B;have F:j.cM k=0:=(s.ob k _ bf).2.2.1 rfl;have v:∀a x,a_ [(k,some (Ob.arr d p l true))] a=some x->a=k/\x=.arr d p l true:=λa x h=>by
  by_cases q:a=k
  ·subst q;rw[bf]at h;exact⟨rfl,(apZ h).symm⟩
  ·rw[bc q]at h;cases h
 have N:∀f o u,bO A Rd j [(k,some (.arr d p t true))] b f o u->bO A Rd j [(k,some (.arr d p l true))] n f o u:=λf o u w=>by
  have W:f≠c:=λy=>by
   subst y;have:=w.2.2 k _ bf B;omega
  have E:=arT b _ w.1;refine⟨?_,w.2.1,λa ob q D=>?_⟩
  ·rw[<-w.1]
   unfold World.cell?;rw[g.other f W E]
  ·obtain⟨rfl,_⟩:=v a ob q
   exact w.2.2 a _ bf D
 have U:Bx A n:=s.ext.step g.os g.tape g.output g.size (λf O E=>g.other f (λy=>O (by rw[y];exact Q.1)) E) g.drawn;refine⟨U,s.jO,λa ob q=>?_,λa ob f q D=>?_,λa j' ob x f z M _ _=>by rw[(v _ _ z).1,(v _ _ M).1],s.t_⟩
 ·obtain⟨rfl,rfl⟩:=v a ob q
  obtain⟨L,I,J,K⟩:=g.row;refine⟨Y,z,λ_=>F,.inr ⟨c,i,L,B,by rw[X,G],by rw[G];exact R,V,I,by rw[J,S],?_,by rw[F];exact aql _⟩⟩;have:l.flatten.length=m.length:=H.1.symm;rw[this,K];exact H.imp λ_ _ h=>h.mono N
 ·obtain⟨rfl,_⟩:=v a ob q
  have:=s.base a _ f bf D;exact⟨this.1,arV this.2 g.size⟩
def pn(h:Bears P e o)(c:o.body.isNone=false):Enters P e:=by
 obtain⟨d,a,b⟩:=h;exact⟨_,b,a,c⟩
def lT:∀(r:Sc) (x:r.cZ),r.key=true->bF r x=(c_ r x).map AV.v
 |.i k,x,_=>rfl
 |.b,x,_=>rfl
 |.sl r,x,h=>by simp[Sc.key]at h
 |.pr a c,x,h=>by
  simp only[Sc.key,apS]at h;show bF a x.1++bF c x.2=(c_ a x.1++c_ c x.2).map AV.v;rw[lT a x.1 h.1,lT c x.2 h.2,aqH]
 |.u,x,_=>rfl
def afR(r:Sc)(x:r.cZ)(h:r.key=true):(c_ r x).length=r.w:=by
 have:=eT r x;rw[lT r x h,ap1]at this;exact this
def Xe(r:Sc)(x:r.cZ)(h:r.key=true):∀v∈c_ r x,v.oneCell'=true:=λv a=>by
 have:=nY r x (.v v) (by rw[lT r x h];exact ap4.2 ⟨v,a,rfl⟩);exact this
def flat_get{α:Type} [Inhabited α]{enc:α->bD}{k:Nat}(a:∀x,(enc x).length=k):∀(l:List α) (j:Nat),j<l.length*k->(l.map enc).flatten[j]? =some ((enc l[j/k]!)[j % k]!)
 |[],j,h=>by simp at h
 |x::l,j,h=>by
  rw[aqc,aqu];have f:0<k:=by
   rcases as3 k with e|e
   ·subst e;simp at h
   ·exact e
  by_cases b:j<k
  ·rw[aqF (by rw[a];exact b),aui b,asa b]
   rw[ap0 (by rw[a];exact b)];simp[a,b]
  ·rw[aq7 (by rw[a];omega),a,flat_get a l (j - k) (by rw[aqf,aqv,arW]at h;omega)]
   have c:j/k=(j - k)/k+1:=by
    have:j=(j - k)+k:=by omega
    conv=>lhs;rw[this]
    exact Nat.add_div_right _ f
   have d:j % k=(j - k) % k:=by
    have:j=(j - k)+k:=by omega
    conv=>lhs;rw[this]
    exact Nat.add_mod_right _ _
   rw[c,d];simp
def DF [Inhabited a]{enc:a->bD}(e:∀x,(enc x).length=c)(d:Array a):(flatK enc c d).toList=(d.toList.map enc).flatten:=by
 refine arC λj=>?_;have g:(d.toList.map enc).flatten.length=d.size*c:=by
  have:∀l:List a,(l.map enc).flatten.length=l.length*c:=λl=>by
   induction l with
   |nil=>simp
   |cons x l f=>rw[aqc,aqu,aqb,f,e,aqf,aqv];omega
  rw[this,ar7]
 by_cases b:j<d.size*c
 ·rw[flat_get e d.toList j (by simpa using b),ara,aqA (by simpa using b)]
  have:=get_flatK enc c d j b;rw[asw (flatK enc c d) j (by simpa using b)]at this;rw[this,show d.toList[j/c]! =d[j/c]! from Array.getElem!_toList]
 ·rw[aqE (by simp;omega),aqE (by omega)]
def DG(r:Sc)(h:r.key=true)(l:List r.cZ):(List.map (bF r) l).flatten=(l.map (c_ r)).flatten.map AV.v:=by
 induction l with
 |nil=>rfl
 |cons x l a=>rw[aqc,aqc,aqu,aqu,aqH,a,lT r x h]
def Sv{Rd:bE}{a:bD}(h:LR (VR Rd none) (m.map AV.v) a):a=m:=by
 refine arC λj=>?_;have d:=h.1;rw[ap1]at d;by_cases b:j<m.length
 ·have c:=h.2 j (.v m[j]) a[j] (by simp[b]) (ap0 (by omega))
  rw[ap0 (by omega),ap0 b,c.bN]
 ·rw[aqE (by omega),aqE (by omega)]
abbrev G0:Nat:=4294967296
def ahq{e:AV}{Rd:bE}(d:LR (VR Rd (some j)) [.ow c,e] m):∃u,m=[j.sv c,u]/\VR Rd (some j) e u:=by
 match m,d.1 with
 |[a,b],_=>
  have f:=d.2 0 _ a rfl rfl;have g:=d.2 1 _ b rfl rfl;cases f with
  |ow=>exact⟨b,rfl,g⟩
def ak_{r:Sc}(p:r.key=true)(L:SlLaysF0.n6 P ρ)(aE:∀w,(isAgg (ρ.t 24)).run P w=.ok true w)(zE:∀w,(Go.sizeOf (ρ.t 24)).run P w=.ok r.w w)(s:r.cZ->r.cZ->Int)(W:SWO (ltOf s)){g:Nat}
 (Y:∀x y,Bw P g [] [.ag (bF r x),.ag (bF r y)] [] (.v (.int .i64 (s x y)))) {U:AV} (h0:∀Rd E u,VR Rd E U u->u=.func (.func g) #[] #[]) {i ys:List r.cZ} (af:IL (ltOf s) i=some ys):
 Bw P (ρ.f 6) [(G0,some (.arr d r.w (List.map (bF r) i) true))] [.ow G0,U] [(G0,some (.arr d r.w (List.map (bF r) ys) true))] (.tu []):=by
 obtain⟨hd,aj,rfl⟩:=Gw af;refine⟨pn L.f6 rfl,λB Rd e w vs D hv=>?_⟩;obtain⟨u,rfl,hu⟩:=ahq hv;obtain rfl:=h0 _ _ _ hu;obtain⟨ae,ak,a9,ac⟩:=D.ob G0 _ bf;rcases ac with⟨aa,K,a,F⟩|⟨b,a3,k,K,F,M,hm,t,Z,a0,ai⟩
 ·have G:i=[]:=by simpa using aa
  subst G;rw[F];refine(auj L a 0 _ w).mono λx w' G=>?_;obtain⟨rfl,rfl⟩:=G;exact⟨_,e,rfl,by simpa using D,.tu [] rfl λj c u h=>by simp at h⟩
 haveI:Inhabited r.cZ:=⟨zeroV r⟩
 have R:=λx=>afR r x p;obtain⟨f,N⟩:∃f:Array r.cZ,f.toList=i:=⟨i.toArray,rfl⟩;have v:f.size=i.length:=by rw[<-N,ar7]
 rw[ap1]at F M;have a5:k.toList.take (List.map (bF r) i).flatten.length=(i.map (c_ r)).flatten:=by
  rw[DG r p]at a0;have:=Sv a0;rw[DG r p];exact this
 have a6:(List.map (bF r) i).flatten.length=i.length*r.w:=by
  rw[ej ae,ap1]
 have X:=D.base G0 _ b bf K;have a7:∀o u,¬bO B Rd e [(G0,some (.arr d r.w (List.map (bF r) i) true))] w b o u:=λo u ab=>by
  have h1:=ab.2.2 G0 _ bf K;have h2:=a9 rfl;omega
 have O:∀dk:Array r.cZ,dk.size=f.size->(flatK (c_ r) r.w dk).size<=k.size:=λdk Q=>by
  rw[size_flatK,Q,v,Z];exact ar6 _ M
 have hH:HoldsK (c_ r) r.w w b 0 f:=λj A=>by
  have a8:j<i.length*r.w:=by rw[size_flatK,v]at A;exact A
  have ah:j<k.size:=arV A (O f rfl);rw[aqq];refine⟨?_,asm w b j k d t⟩;rw[aqV w b j k d (0,0) t,asw _ j A];have e1:(flatK (c_ r) r.w f).toList=(i.map (c_ r)).flatten:=by rw[DF R,N]
  have V:k.toList[j]? =(flatK (c_ r) r.w f).toList[j]? :=by
   rw[e1,<-a5,aqw,apR (by rw[a6];exact a8)]
  rw[ara,ara,aqA A]at V;exact V
 have a4:CmpLays P g #[] (c_ r) r.w s b 0 f.size w:=λm S dk Q x y=>by
  have J:=aaC t id m (flatK (c_ r) r.w dk) S (O dk Q);have:=aaD D X.1 J a7 (Y x y) (vs:=[.agg (c_ r x).toArray,.agg (c_ r y).toArray]) ?_
  ·exact this
  ·have one:∀z:r.cZ,VR (bO B Rd e [(G0,some (.arr d r.w (List.map (bF r) i) true))] w) none (.ag (bF r z)) (.agg (c_ r z).toArray):=λz=>by
    have l:=LR.R6 (Rd:=bO B Rd e [(G0,some (.arr d r.w (List.map (bF r) i) true))] w) (E:=none) (c_ r z);rw[<-lT r z p]at l;exact .ag _ l.1 l.2
   exact LR.cons (one x) (LR.cons (one y) LR.nil)
 have eg:∀H w,(callFunc g H).run P w=.ok (.enter g H) w:=λH w=>gz (Y (zeroV r) (zeroV r)).1 H w;have a1:=AnyQ.slices_SortFunc L r.w aE zE (c_ r) R (λx=>Xe r x p) s W g #[] b 0 a3 f w eg a4 hH X.2 (by omega);rw[v]at a1;rw[F];refine a1.mono λx w' G=>?_;obtain⟨rfl,I,n,S,C,a2,rfl⟩:=G;rw[<-v]at C a2;have ag:=vq W (N▸Su C) hd (Gx C.1 a2);have J:=aaC t id n (flatK (c_ r) r.w I) S (O I C.1);refine⟨_,e,rfl,?_,.tu [] rfl λj c u h=>by simp at h⟩;have ad:(flatK (c_ r) r.w I).toList.map id=(I.toList.map (c_ r)).flatten:=by rw[arJ,DF R]
 rw[ad]at J;rw[<-ag];refine Qn D K t (by rw[ap1];exact F) (by rw[ap1];exact M) hm Z J ?_ (λq hq=>?_) (eO r _) ?_
 ·rw[ap1,ap1,ar7,C.1,v]
 ·obtain⟨z,_,rfl⟩:=ap4.1 hq
  exact eT r z
 ·rw[DG r p]
  exact LR.R6 _
def oq(b:a->AV)(l:List a):(l.map λx=>[b x]).flatten=l.map b:=by
 induction l with
 |nil=>rfl
 |cons x l c=>rw[aqc,aqu,c];rfl
abbrev El(b:a->AV)(Good:a->Prop)(R:bE):Type:={p:a×Value//Good p.1/\VR R none (b p.1) p.2}
def els{β:Type}{a:β->AV}{Good:β->Prop}{R:bE}:∀{l:List β} {us:bD},(∀x∈l,Good x)->LR (VR R none) (l.map a) us->∃d:List (El a Good R),d.map (λp=>p.1.1)=l/\d.map (λp=>p.1.2)=us
 |[],us,_,h=>by
  have:us=[]:=auk.1 h.1;exact⟨[],rfl,this.symm⟩
 |x::l,[],_,h=>by have:=h.1;simp at this
 |x::l,u::us,b,h=>by
  have g:=h.2 0 (a x) u rfl rfl;obtain⟨d,e,f⟩:=els (l:=l) (us:=us) (λy m=>b y (aqU _ m)) ⟨by have:=h.1;simpa using this,λj c v i k=>h.2 (j+1) c v (by simpa using i) (by simpa using k)⟩;exact⟨⟨(x,u),b x asK,g⟩::d,by rw[aqc,e],by rw[aqc,f]⟩
def aaE{β:Type}{a:β->AV}{Good:β->Prop}{R:bE}:∀d:List (El a Good R),LR (VR R none) (d.map λp=>a p.1.1) (d.map λp=>p.1.2)
 |[]=>LR.nil
 |x::d=>LR.cons x.2.2 (aaE d)
def aok{av:a->AV}(O:∀x,(av x).one=true)(an:∀x k,av x≠.ow k)(Good:a->Prop)(L:SlLaysF.n6 P ρ)(Y:SlLaysF0.n6 P ρ)(s:a->a->Int)(J:SWO (ltOf s)){g:Nat}
 (hc:∀x y,Good x->Good y->Bw P g [] [av x,av y] [] (.v (.int .i64 (s x y)))) {Z:AV} (h0:∀Rd E u,VR Rd E Z u->u=.func (.func g) #[] #[]) {l ys:List a} (hG:∀x∈l,Good x) (aj:IL (ltOf s) l=some ys):
 Bw P (ρ.f 6) [(G0,some (.arr d 1 (l.map λx=>[av x]) true))] [.ow G0,Z] [(G0,some (.arr d 1 (ys.map λx=>[av x]) true))] (.tu []):=by
 obtain⟨hd,am,rfl⟩:=Gw aj;refine⟨pn L.f6 rfl,λB Rd e w vs v hv=>?_⟩;obtain⟨u,rfl,hu⟩:=ahq hv;obtain rfl:=h0 _ _ _ hu;obtain⟨ap,ao,ae,ai⟩:=v.ob G0 _ bf;rcases ai with⟨ag,K,i,A⟩|⟨b,a8,C,K,A,S,hm,G,U,a4,al⟩
 ·have r:l=[]:=by simpa using ag
  subst r;rw[A];refine(auj Y i 0 _ w).mono λx w' r=>?_;obtain⟨rfl,rfl⟩:=r;exact⟨_,e,rfl,by simpa using v,.tu [] rfl λj c u h=>by simp at h⟩
 have ac:∀o u,¬bO B Rd e [(G0,some (.arr d 1 (l.map λx=>[av x]) true))] w b o u:=λo u ah=>by
  have O:=ah.2.2 G0 _ bf K;have h2:=ae rfl;omega
 obtain⟨R,Q⟩:∃R,bO B Rd e [(G0,some (.arr d 1 (l.map λx=>[av x]) true))] w=R:=⟨_,rfl⟩;rw[oq,Q]at a4;obtain⟨f,M,a3⟩:=els hG a4;have a2:f.length=l.length:=by rw[<-M,ap1]
 rcases f with _|⟨t,d0⟩
 ·have r:l=[]:=by rw[<-M];rfl
  subst r;rw[A];refine(auj Y _ _ _ w).mono λx w' r=>?_;obtain⟨rfl,rfl⟩:=r;exact⟨_,e,rfl,by simpa using v,.tu [] rfl λj c u h=>by simp at h⟩
 haveI:Inhabited (El av Good R):=⟨t⟩
 obtain⟨D,a9⟩:∃D:Array (El av Good R),D.toList=t::d0:=⟨(t::d0).toArray,rfl⟩;rw[<-a9]at M a3 a2;have F:D.size=l.length:=by rw[<-a2,ar7]
 rw[ap1]at A S;rw[arh]at U;have a0:=v.base G0 _ b bf K;have a7:∀dk:Array (El av Good R),dk.size=D.size->dk.size<=C.size:=λdk W=>by rw[W,F,U];exact S
 have hH:Holds (λp:El av Good R=>p.1.2) w b 0 D:=λj V=>by
  have ad:j<l.length:=by rw[<-F];exact V
  have ak:j<C.size:=by omega
  rw[aqq];refine⟨?_,asm w b j C d G⟩;rw[aqV w b j C d (0,0) G,asw D j V];have e2:C.toList[j]? =(D.toList.map λp=>p.1.2)[j]? :=by
   rw[a3,aqw,apR (by rw[ap1];exact ad)]
  rw[ara,aqd,ara,aqA V]at e2;exact e2
 have ab:CmpLays1 P g #[] (λp:El av Good R=>p.1.2) (λp q=>s p.1.1 q.1.1) b 0 D.size w:=λm X dk W x y=>aaD v a0.1 (aaC G _ m dk X (a7 dk W)) ac (hc x.1.1 y.1.1 x.2.1 y.2.1) (by rw[Q];exact LR.cons x.2.2 (LR.cons y.2.2 LR.nil));have eg:∀I w,(callFunc g I).run P w=.ok (.enter g I) w:=λI w=>gz (hc t.1.1 t.1.1 t.2.1 t.2.1).1 I w;have aa:SWO (ltOf λ(p q:El av Good R)=>s p.1.1 q.1.1):=⟨λx=>J.irrefl _,λx y z=>J.trans _ _ _,λx y z=>J.ntrans _ _ _⟩;have a5:=Any.slices_SortFunc L (λp:El av Good R=>p.1.2) (λp=>p.2.2.jv (O _) λ_ k h=>nomatch h) (λp q=>s p.1.1 q.1.1) aa g #[] b 0 a8 D w eg ab hH a0.2 (by omega);rw[F]at a5;rw[A];refine a5.mono λx w' r=>?_;obtain⟨rfl,N,n,X,H,a6,rfl⟩:=r;rw[<-F]at H a6;have af:(N.toList.map λp=>p.1.1)=l.mergeSort λx y=> !(ltOf s) y x:=by
  refine vq J ?_ hd ?_
  ·rw[<-M];exact(Su H).map _
  ·rw[as4];exact Gx H.1 a6
 have hW:=aaC G (λp:El av Good R=>p.1.2) n N X (a7 N H.1);refine⟨_,e,rfl,?_,.tu [] rfl λj c u h=>by simp at h⟩;rw[<-af];refine Qn v K G (by rw[ap1];exact A) (by rw[ap1];exact S) hm (by rw[arh];exact U) hW ?_ (λq hq=>?_) (λc a1=>?_) ?_
 ·rw[ap1,ap1,ap1,ar7,H.1,F]
 ·obtain⟨z,_,rfl⟩:=ap4.1 hq
  rfl
 ·rw[oq]at a1
  obtain⟨z,_,rfl⟩:=ap4.1 a1;exact O z
 ·rw[oq,aq4,Q]
  exact aaE _
def aiM{ρ:Ren}(L:SlLaysM.n5 P ρ){f:aX}(a0:f.length<1099511627776):
 Bw P (ρ.f 5) [(G0,some (.arr d 1 (f.map λx=>[AV.v (.int .i64 x)]) true))] [.ow G0] [(G0,some (.arr d 1 ((f.mergeSort λx y=>decide (x<=y)).map λx=>[AV.v (.int .i64 x)]) true))] (.tu []):=by
 refine⟨pn L.f5 rfl,λB Rd e w G m F=>?_⟩;obtain rfl:G=[e.sv G0]:=by
  match G,F.1 with
  |[a],_=>
   have I:=F.2 0 _ a rfl rfl;cases I with
   |ow=>rfl
 obtain⟨a2,a1,Y,U⟩:=m.ob G0 _ bf;rcases U with⟨R,p,a,i⟩|⟨b,H,g,p,i,r,O,l,s,t,Z⟩
 ·have k:f=[]:=by simpa using R
  subst k;rw[i];refine(AnyM.slices_Sort_int_none L a 0 w).mono λx W k=>?_;obtain⟨rfl,rfl⟩:=k;exact⟨_,e,rfl,by simpa using m,.tu [] rfl λj c u h=>by simp at h⟩
 rw[oq]at t;have N:g.toList.take f.length=f.map (Value.int .i64):=by
  have o:(f.map λx=>AV.v (.int .i64 x))=(f.map (Value.int .i64)).map AV.v:=by rw[aq4];rfl
  rw[o]at t;have:=Sv t;simpa using this
 rw[ap1]at i r;rw[arh]at s;have M:=m.base G0 _ b bf p;have J:Holds (Value.int .i64) w b 0 f.toArray:=λj C=>by
  have D:j<f.length:=by simpa using C
  have X:j<g.size:=by omega
  rw[aqq];refine⟨?_,asm w b j g d l⟩;rw[aqV w b j g d (0,0) l,asw _ j C];have v:g.toList[j]? =(f.map (Value.int .i64))[j]? :=by
   rw[<-N,aqw,apR D]
  rw[ara,aqd,ap0 D]at v;exact v
 have Q:=AnyM.slices_Sort_int L b 0 H f w J M.2 (by omega);rw[i];refine Q.mono λx W k=>?_;obtain⟨rfl,n,V,rfl⟩:=k;have E:(f.mergeSort λx y=>decide (x<=y)).length=f.length:=auT _;have K:=aaC l (Value.int .i64) n (f.mergeSort λx y=>decide (x<=y)).toArray V (by rw[arG,E,s];exact r);refine⟨_,e,rfl,?_,.tu [] rfl λj c u h=>by simp at h⟩;refine Qn m p l (by rw[ap1];exact i) (by rw[ap1];exact r) O (by rw[arh];exact s) K ?_ (λq S=>?_) (λc A=>?_) ?_
 ·rw[ap1,ap1,E]
 ·obtain⟨z,_,rfl⟩:=ap4.1 S
  rfl
 ·rw[oq]at A
  obtain⟨z,_,rfl⟩:=ap4.1 A;rfl
 ·rw[oq]
  have o:((f.mergeSort λx y=>decide (x<=y)).map λx=>AV.v (.int .i64 x))=((f.mergeSort λx y=>decide (x<=y)).map (Value.int .i64)).map AV.v:=by rw[aq4];rfl
  rw[o];exact LR.R6 _
end
end
section
open Go Go.RowKit Go.Lib Go.Shelf
section
def aaF{Rd:bE}(i:SR A Rd j y b)(p:Bx A n)(f:bU)(s:Value)(ob:Ob)(o:∀a,f=some a->A.hI a/\a<n.heap.size)
 (q:∀l,OR l (j.cK 0 f s 0) n 0 ob):SR A Rd (j.cK 0 f s 0) [(0,some ob)] n:=by
 have d:∀k c,a_ [(0,some ob)] k=some c->k=0/\c=ob:=λk c h=>by
  by_cases e:k=0
  ·subst e;rw[bf]at h;exact⟨rfl,(apZ h).symm⟩
  ·rw[bc e]at h;cases h
 refine⟨p,i.jO,λk c h=>?_,λk c a h g=>?_,λk r t u a h m _ _=>?_,λk e=>?_⟩
 ·obtain⟨rfl,rfl⟩:=d k c h;exact q _
 ·obtain⟨rfl,rfl⟩:=d k c h
  exact o a (by rw[Env.bT]at g;exact g)
 ·rw[(d _ _ h).1,(d _ _ m).1]
 ·rw[Env.bx (by omega),Env.db (by omega)];exact i.t_ k e
def aaG(w:World)(o:Obj):(w.alloc o).heap[w.heap.size]? =some o:=by
 unfold World.alloc;exact Array.getElem?_push_size
variable{P:Program}{ρ:Ren}
def LK(L:Lays8.n4 P ρ)(d:TypeInfo)(z:Value)(G:P.info? (ρ.t 25)=some d)(Q:d.zero=some z)(K:0<d.size)(O:z.cells.size=d.size)(E:d.bytes<=64)(n:Nat)(U:n<=1099511627776):
 Bw P (ρ.f 4) [] [.sl true 0 [],.v (.int .i64 n)] [(0,some (.arr (ρ.t 25) d.size [] true))] (.ow 0):=by
 refine⟨by obtain⟨X,i,q⟩:=L.f4;exact⟨_,q,i,rfl⟩,λB Rd e w t f m=>?_⟩;obtain⟨o,p,rfl⟩:∃o p,t=[o,p]:=by
  match t,m.1 with
  |[a,b],_=>exact⟨a,b,rfl⟩
 obtain⟨a,S,Y,rfl,_,_,_,_,_,N,_⟩:=(m.2 0 _ o rfl rfl).lW;obtain rfl:=(m.2 1 _ p rfl rfl).bN;obtain rfl:=N rfl;by_cases C:n=0
 ·subst C
  refine(Any8.slices_Grow_room L a 0 0 0 w (by omega) (by omega) (by omega) (by omega)).mono λx y g=>?_;obtain⟨rfl,rfl⟩:=g;refine⟨_,e.cK 0 none (.slice a 0 0) 0,rfl,aaF f f.ext _ _ _ (λb h=>by cases h) (λA=>⟨(λr l=>by cases l),(λc k=>by cases k),(λ_=>Env.bW),.inl ⟨rfl,Env.bT,a,Env.dJ⟩⟩),?_⟩;have:= @VR.ow (bO B Rd (e.cK 0 none (.slice a 0 0) 0) [(0,some (.arr (ρ.t 25) d.size [] true))] y) (e.cK 0 none (.slice a 0 0) 0) 0;rwa[Env.dJ]at this
 ·have D:(0+n)*d.bytes<=140737488355328:=by
   have:(0+n)*d.bytes<=1099511627776*64:=arp (by omega) E;omega
  refine(Any8.slices_Grow_grow L d z G Q K a 0 0 n [] w (by omega) (by omega) D (by omega) (by simp) (λ_=>rfl) (λ_ _ j v H=>by simp at H)).mono λx y g=>?_;obtain⟨rfl,rfl⟩:=g;have V:=are w (0+n) 0 (ρ.t 25);have J:B.hI w.heap.size:=f.ext.hI (apT _);have g:=f.ext.drew.alloc (.cells ([].toArray++Builtin.zeroCells z.cells (0+n - 0)++Builtin.zeroCells z.cells (grownCap w (0+n) 0 (ρ.t 25) - (0+n))) (ρ.t 25));have s:=aaG w.drew (.cells ([].toArray++Builtin.zeroCells z.cells (0+n - 0)++Builtin.zeroCells z.cells (grownCap w (0+n) 0 (ρ.t 25) - (0+n))) (ρ.t 25));have M:(Array.mk ([]:bD)++Builtin.zeroCells z.cells (0+n - 0)++Builtin.zeroCells z.cells (grownCap w (0+n) 0 (ρ.t 25) - (0+n))).size=grownCap w (0+n) 0 (ρ.t 25)*d.size:=by
   simp only[ar3,art,arG,aqI,O];rw[aqq,<-aqv];congr 1;omega
  have F:=atN w (0+n) 0 (ρ.t 25) (by unfold maxLen;omega);generalize grownCap w (0+n) 0 (ρ.t 25)=c at*;generalize w.drew.alloc _=W at*;have I:w.heap.size<W.heap.size:=(aqx.1 s).1;refine⟨_,e.cK 0 (some w.heap.size) (.slice (some ⟨w.heap.size,0,none⟩) 0 c) 0,rfl,aaF f g _ _ _ (λR h=>by cases h;exact⟨J,I⟩) (λA=>⟨(λr l=>by cases l),(λc k=>by cases k),(λ_=>Env.bW),.inr ⟨_,_,_,Env.bT,by rw[Env.dJ];rfl,aql _,F,s,M,⟨rfl,λj c u i q=>by simp at i⟩,by rw[Env.bW];exact aql _⟩⟩),?_⟩;have:= @VR.ow (bO B Rd (e.cK 0 (some w.heap.size) (.slice (some ⟨w.heap.size,0,none⟩) 0 c) 0) [(0,some (.arr (ρ.t 25) d.size [] true))] W) (e.cK 0 (some w.heap.size) (.slice (some ⟨w.heap.size,0,none⟩) 0 c) 0) 0;rwa[Env.dJ]at this
def LL(x:Int)(y:Unit)(h:cond (decide (0<=x/\x<=1099511627776)) (some ()) none=some y):∃n:Nat,x=(n:Int)/\n<=1099511627776:=by
 by_cases a:0<=x/\x<=1099511627776
 ·exact⟨x.toNat,by omega,by omega⟩
 ·rw[aqn a]at h;cases h
end
end
variable{t:Program}
section
open Go Go.RowKit Go.Lib Go.Shelf Go.Sort
def aiN:Ren:=⟨λ|6=>74|14=>141|20=>187|21=>188|22=>189|23=>190|24=>191|25=>192|26=>193|27=>194|46=>240|49=>243|50=>244|57=>269|15=>142|28=>195|29=>196|47=>241|48=>242|x=>x,λ|0=>0|3=>3|4=>4|5=>5|9=>9|22=>22|24=>127|25=>177|39=>160|45=>292|46=>293|50=>134|53=>66|55=>299|66=>336|70=>340|76=>362|77=>162|x=>x,λx=>x⟩
def afS:Ren:=⟨λ|6=>139|14=>185|20=>232|21=>233|22=>234|23=>235|24=>236|25=>237|26=>238|27=>239|46=>266|49=>267|50=>268|57=>284|15=>142|28=>195|29=>196|47=>241|48=>242|x=>x,λ|0=>0|3=>3|4=>4|5=>5|9=>9|22=>27|24=>46|25=>176|39=>160|45=>292|46=>293|50=>134|53=>66|55=>299|66=>336|70=>340|76=>362|77=>162|x=>x,λx=>x⟩
def aiO:Ren:=⟨λ|6=>257|14=>277|20=>289|21=>290|22=>291|23=>292|24=>293|25=>294|26=>295|27=>296|46=>306|49=>307|50=>308|57=>312|15=>142|28=>195|29=>196|47=>241|48=>242|x=>x,λ|0=>0|3=>3|4=>4|5=>5|9=>9|22=>68|24=>33|25=>353|39=>160|45=>292|46=>293|50=>134|53=>66|55=>299|66=>336|70=>340|76=>362|77=>162|x=>x,λx=>x⟩
def aiP:Ren:=⟨λ|5=>273|7=>285|10=>297|11=>298|12=>299|13=>300|14=>301|15=>302|17=>304|18=>305|30=>309|33=>310|34=>311|40=>313|8=>142|16=>303|19=>195|20=>196|31=>241|32=>242|35=>197|x=>x,λ|0=>0|3=>3|4=>4|5=>5|9=>9|22=>33|23=>33|25=>3|32=>160|35=>292|36=>293|41=>134|44=>66|46=>299|53=>336|57=>340|63=>362|64=>162|x=>x,λx=>x⟩
def ala:Ren:=⟨λ|4=>173|x=>x,λ|0=>0|3=>3|4=>4|9=>9|20=>20|22=>33|25=>3|x=>x,λx=>x⟩
def alb:Ren:=⟨λ|4=>199|x=>x,λ|0=>0|3=>3|4=>4|9=>9|20=>20|22=>22|25=>127|x=>x,λx=>x⟩
def bears(a:(((t.funcs[e]?).getD default).name== "runtime.NumGoroutine")=false)(b:t.funcs[e]? =some {o with name:=((t.funcs[e]?).getD default).name}):Bears t e o:=⟨_,a,b⟩
def aiQ:SlLaysF0.n6 Tryz.prog aiN:=by
 constructor<;>first|exact mixed|exact bears (by kernel_rfl) (by kernel_rfl)|exact(by kernel_rfl)|exactλw=>by kernel_rfl
def afT:SlLaysF0.n6 Tryz.prog afS:=by
 constructor<;>first|exact mixed|exact bears (by kernel_rfl) (by kernel_rfl)|exact(by kernel_rfl)|exactλw=>by kernel_rfl
def aaH:SlLaysF.n6 Tryz.prog aiO:=by
 constructor<;>first|exact mixed|exact bears (by kernel_rfl) (by kernel_rfl)|exact(by kernel_rfl)|exactλw=>by kernel_rfl
def aiR:SlLaysM.n5 Tryz.prog aiP:=by
 constructor<;>first|exact mixed|exact bears (by kernel_rfl) (by kernel_rfl)|exact(by kernel_rfl)|exactλw=>by kernel_rfl
def alc:Lays8.n4 Tryz.prog ala:=by
 constructor<;>first|exact mixed|exact bears (by kernel_rfl) (by kernel_rfl)|exact(by kernel_rfl)|exactλw=>by kernel_rfl
def ald:Lays8.n4 Tryz.prog alb:=by
 constructor<;>first|exact mixed|exact bears (by kernel_rfl) (by kernel_rfl)|exact(by kernel_rfl)|exactλw=>by kernel_rfl
def Qo(c:iZ)(x:ky c.cs)(y:c.α)(e:EV)(H:eQ){Q:Prop}(h:c.ok t)(g:c.M x=some y)(a:c.el y (EV×eQ) (λe H=>some (e,H))=some (e,H))(f:Bw t c.f (bz (c.H0 x)) (bX (c.as x)) (bz H) (enc e)=Q):Q:=by
 obtain⟨j,i,b,_,_,d⟩:=h.2 x y g;rw[b]at a;cases a;exact f▸d
def zD(a b:Int):Int:=if a<b then -1 else if b<a then 1 else 0
def ot(x y:Int×Int):Int:=if zD x.1 y.1=0 then zD x.2 y.2 else zD x.1 y.1
abbrev ca:Type:=Int×Int×Int×Bool
def rz(x y:ca):Int:=ot (x.1,x.2.1) (y.1,y.2.1)
def IN(x y:aX):Int:=zD (x.headD 0) (y.headD 0)
def wG{a b:Int}:zD a b<0↔a<b:=by
 unfold zD
 repeat' split
 all_goals omega
def ou{a b:Int}:zD a b=0↔a=b:=by
 unfold zD
 repeat' split
 all_goals omega
def lU{x y:Int×Int}:ot x y<0↔x.1<y.1\/x.1=y.1/\x.2<y.2:=by
 unfold ot;split
 ·rename_i h;have:=ou.1 h;rw[wG];omega
 ·rename_i h;have:=mt ou.2 h;rw[wG];omega
def Qp{d:a->a->Int}{r:a->a->Prop}(h:∀x y,d x y<0↔r x y)(e:∀x,¬r x x)(i:∀x y z,r x y->r y z->r x z)(f:∀x y z,¬r x y->¬r y z->¬r x z):SWO (ltOf d):=
 ⟨λx=>aqn (λg=>e x ((h _ _).1 g)),λx y z c b=>aqk ((h _ _).2 (i x y z ((h _ _).1 (aqK c)) ((h _ _).1 (aqK b)))),λx y z c b=>aqn λg=>f x y z (λr=>arZ c ((h _ _).2 r)) (λr=>arZ b ((h _ _).2 r)) ((h _ _).1 g)⟩
def ahr:SWO (ltOf ot):=Qp (λ_ _=>lU) (λx=>by omega) (λx y z=>by omega) (λx y z=>by omega)
def ale:SWO (ltOf rz):=Qp (λ_ _=>lU) (λx=>by omega) (λx y z=>by omega) (λx y z=>by omega)
def alf:SWO (ltOf IN):=Qp (λ_ _=>wG) (λx=>by omega) (λx y z=>by omega) (λx y z=>by omega)
def po(N:Nat)(a b:Int):cI (N+3) (a,b)=some (zD a b):=by
 rw[rm];simp only[vo,aq0,ap9,aW,cond];unfold zD;by_cases c:a<b
 ·simp[c]
 ·by_cases d:b<a
  ·have e:a>b:=d;simp[c,d]
  ·simp[c,d]
def Qq(N:Nat)(a b:Int):gG (N+5) [a,b]=some (if a=0 then b else a):=by
 have d:IntKind.wrap .i64 ((0:Int)+1)=1:=by decide
 have e:IntKind.wrap .i64 ((1:Int)+1)=2:=by decide
 rw[BC,show N+4=(N+3)+1 from rfl,kg,d,show N+3=(N+2)+1 from rfl,kg,e,show N+2=(N+1)+1 from rfl,kg];by_cases h:a=0
 ·subst h
  by_cases c:b=0
  ·subst c;simp[aW,ba]
  ·simp[aW,ba,c]
 ·simp[aW,ba,h]
def LM(N:Nat)(x y:Int×Int):hY (N+6) (x.1,x.2,y.1,y.2)=some (ot x y):=by
 rw[wC,show N+5=(N+2)+3 from rfl,po,po,show N+2+3=N+5 from rfl];simp only[aW,Qq];rfl
def afU(N:Nat)(x y:ca):lH (N+7) (x.1,x.2.1,x.2.2.1,x.2.2.2,y.1,y.2.1,y.2.2.1,y.2.2.2)=some (rz x y):=by
 rw[BD];have:=LM N (x.1,x.2.1) (y.1,y.2.1);simp only[this,aW];rfl
def afV(N:Nat)(x y:aX)(d:x≠[])(e:y≠[]):kz (N+4) (x,y)=some (IN x y):=by
 obtain⟨a,x,rfl⟩:=atr d;obtain⟨b,y,rfl⟩:=atr e;rw[show N+4=(N+3)+1 from rfl,zB];have c:∀(a:Int) x,ba (a::x) 0=some a:=λ_ _=>rfl;rw[c,c];simp only[aW];rw[po];rfl
def aaI(x y:Int×Int):Bw Tryz.prog 76 [] [.ag (bF (.pr (.i .i64) (.i .i64)) x),.ag (bF (.pr (.i .i64) (.i .i64)) y)] [] (.v (.int .i64 (ot x y))):=by
 refine Qo (l_ 6) (x.1,x.2,y.1,y.2) (ot x y) (.sc (.i .i64) (ot x y)) [] (mQ 6) ?_ (by kernel_rfl) (by kernel_rfl);exact Eq.mp (by kernel_rfl) (LM 0 x y)
def afW(x y:ca):Bw Tryz.prog 75 [] [.ag (bF (.pr (.i .i64) (.pr (.i .i64) (.pr (.i .i64) .b))) x),.ag (bF (.pr (.i .i64) (.pr (.i .i64) (.pr (.i .i64) .b))) y)] [] (.v (.int .i64 (rz x y))):=by
 refine Qo (wF 7) (x.1,x.2.1,x.2.2.1,x.2.2.2,y.1,y.2.1,y.2.2.1,y.2.2.2) (rz x y) (.sc (.i .i64) (rz x y)) [] (BE 7) ?_ (by kernel_rfl) (by kernel_rfl);exact Eq.mp (by kernel_rfl) (afU 0 x y)
def afX(x y:aX)(a:x≠[])(b:y≠[]):Bw Tryz.prog 258 [] [.sl false 1 (x.map (bF (.i .i64))),.sl false 1 (y.map (bF (.i .i64)))] [] (.v (.int .i64 (IN x y))):=by
 refine Qo (ui 4) (x,y) (IN x y) (.sc (.i .i64) (IN x y)) [] (zC 4) ?_ (by kernel_rfl) (by kernel_rfl);exact Eq.mp (by kernel_rfl) (afV 0 x y a b)
def cc(N:Nat):bh->Option bh:=IL (ltOf ot)
noncomputable def dD(N:Nat):iZ:=⟨139,[.k (.ow 4294967296),.k (.v (.func (.func 76) #[] #[]))],[(4294967296,.arr 46 (.pr (.i .i64) (.i .i64)) true)],[.sl (.pr (.i .i64) (.i .i64))],bh,cc N,λy _ k=>k (.tu []) [(4294967296,some (.arr 46 (.pr (.i .i64) (.i .i64)) y true))],true,true⟩
def eS(N:Nat):(dD N).ok Tryz.prog:=
 ⟨λh=>(by cases h),λx y a=>⟨.tu [],_,λR k=>rfl,λh=>(by cases h),λ_=>⟨rfl,rfl⟩,
  ak_ (r:=.pr (.i .i64) (.i .i64)) rfl afT (λw=>by kernel_rfl) (λw=>by kernel_rfl) ot ahr (g:=76) aaI (λ_ _ _ h=>h.bN) a⟩⟩
def cJ(N:Nat):List ca->Option (List ca):=IL (ltOf rz)
noncomputable def dY(N:Nat):iZ:=⟨74,[.k (.ow 4294967296),.k (.v (.func (.func 75) #[] #[]))],[(4294967296,.arr 127 (.pr (.i .i64) (.pr (.i .i64) (.pr (.i .i64) .b))) true)],[.sl (.pr (.i .i64) (.pr (.i .i64) (.pr (.i .i64) .b)))],List ca,cJ N,λy _ k=>k (.tu []) [(4294967296,some (.arr 127 (.pr (.i .i64) (.pr (.i .i64) (.pr (.i .i64) .b))) y true))],true,true⟩
def ff(N:Nat):(dY N).ok Tryz.prog:=
 ⟨λh=>(by cases h),λx y a=>⟨.tu [],_,λR k=>rfl,λh=>(by cases h),λ_=>⟨rfl,rfl⟩,
  ak_ (r:=.pr (.i .i64) (.pr (.i .i64) (.pr (.i .i64) .b))) rfl aiQ (λw=>by kernel_rfl) (λw=>by kernel_rfl) rz ale (g:=75) afW (λ_ _ _ h=>h.bN) a⟩⟩
open Classical in
def bw(N:Nat)(l:bM):Option bM:=if∀x∈l,x≠[]then IL (ltOf IN) l else none
noncomputable def eF(N:Nat):iZ:=⟨257,[.k (.ow 4294967296),.k (.v (.func (.func 258) #[] #[]))],[(4294967296,.arr 33 (.sl (.i .i64)) true)],[.sl (.sl (.i .i64))],bM,bw N,λy _ k=>k (.tu []) [(4294967296,some (.arr 33 (.sl (.i .i64)) y true))],true,false⟩
def fZ(N:Nat):(eF N).ok Tryz.prog:=by
 refine⟨λh=>(by cases h),λx y a=>⟨.tu [],_,λR k=>rfl,λh=>(by cases h),λh=>(by cases h),?_⟩⟩;have a:bw N x=some y:=a;unfold bw at a;split at a
 ·rename_i b
  exact aok (av:=λl:aX=>AV.sl false 1 (l.map (bF (.i .i64)))) (λ_=>rfl) (λ_ _ h=>nomatch h) (λx=>x≠[]) aaH {aaH with} IN alf (g:=258) afX (λ_ _ _ h=>h.bN) b a
 ·cases a
def ec(N:Nat)(l:aX):Option aX:=cond (decide (l.length<1099511627776)) (some (l.mergeSort λx y=>decide (x<=y))) none
noncomputable def iP(N:Nat):iZ:=⟨273,[.k (.ow 4294967296)],[(4294967296,.arr 3 (.i .i64) true)],[.sl (.i .i64)],aX,ec N,λy _ k=>k (.tu []) [(4294967296,some (.arr 3 (.i .i64) y true))],true,true⟩
def lI(N:Nat):(iP N).ok Tryz.prog:=by
 refine⟨λh=>(by cases h),λx y a=>⟨.tu [],_,λR k=>rfl,λh=>(by cases h),λ_=>⟨rfl,rfl⟩,?_⟩⟩;have a:ec N x=some y:=a;unfold ec at a;by_cases b:List.length (α:=Int) x<1099511627776
 ·rw[aqk b]at a
  cases a;exact aiM aiR b
 ·rw[aqn b]at a;cases a
def eY(N:Nat)(n:Int):Option Unit:=cond (decide (0<=n/\n<=1099511627776)) (some ()) none
noncomputable def jE(N:Nat):iZ:=⟨173,[.k .nil,.h (.i .i64)],[],[.i .i64],Unit,eY N,λ_ _ k=>k (.ow 0) [(0,some (.arr 3 (.i .i64) [] true))],true,true⟩
def mH(N:Nat):(jE N).ok Tryz.prog:=by
 refine⟨λ_=>rfl,λx y c=>⟨.ow 0,_,λR k=>rfl,(λh=>by cases h),λ_=>⟨rfl,rfl⟩,?_⟩⟩;obtain⟨n,b,a⟩:=LL x y c;subst b;exact LK alc ((Tryz.prog.info? 3).getD default) (.int .i64 0) (by kernel_rfl) (by kernel_rfl) (by decide) (by kernel_rfl) (by decide) n a
def eM(N:Nat)(n:Int):Option Unit:=cond (decide (0<=n/\n<=1099511627776)) (some ()) none
noncomputable def gg(N:Nat):iZ:=⟨199,[.k .nil,.h (.i .i64)],[],[.i .i64],Unit,eM N,λ_ _ k=>k (.ow 0) [(0,some (.arr 127 (.pr (.i .i64) (.pr (.i .i64) (.pr (.i .i64) .b))) [] true))],true,true⟩
def jq(N:Nat):(gg N).ok Tryz.prog:=by
 refine⟨λ_=>rfl,λx y c=>⟨.ow 0,_,λR k=>rfl,(λh=>by cases h),λ_=>⟨rfl,rfl⟩,?_⟩⟩;obtain⟨n,b,a⟩:=LL x y c;subst b;exact LK ald ((Tryz.prog.info? 127).getD default) (.agg #[.int .i64 0,.int .i64 0,.int .i64 0,.bool false]) (by kernel_rfl) (by kernel_rfl) (by decide) (by kernel_rfl) (by decide) n a
end
section
section
noncomputable abbrev PG:Program:=Tryz.prog
structure CO where
 c:Nat->iZ
 ok:∀N,(c N).ok PG
def Sw(l:List CO)(N:Nat):List iZ:=l.map λc=>c.c N
def zF(l:List CO)(N:Nat):Place PG T (Sw l N):=
 ⟨vP,λc a=>by
  obtain⟨d,_,rfl⟩:=ap4.1 a;exact d.ok N,mixed,Ay⟩
structure FD where
 f:FuncId
 fn:Func
 pl:Pl
 ps:List PV
 hs:List (Nat×PO)
 cs:List Sc
 rs:PS
 own:Bool
 pu:Bool
 nm:aZ
def okB(a:Func)(d:List PV)(b:List (Nat×PO))(own:Bool)(c:aZ):Bool:= !(a.name== "runtime.NumGoroutine") && (a.body.isSome && ((Nat.ble d.length a.ntmps && Nat.ble a.ntmps 1000000) && (own||(b.isEmpty && c.isEmpty))))
def okY(a:Func)(b:PS)(d:Bool)(c:aZ)(y:ky b.c):Bool:=(zx T (eX a.ntmps b y) a.results.toList).isSome && (!d||((vl T (eX a.ntmps b y) a.results.toList).pu && puH (fD c (eX a.ntmps b y).h)))
noncomputable def mF(l:List CO)(d:FD)(N:Nat):ky d.cs->Option (ky d.rs.c):=exF T (Sw l) N (gV d.fn) d.fn.ntmps d.pl d.ps d.hs d.cs d.rs
def te{c:List PV}{a:List (Nat×PO)}{own:Bool}{b:aZ}(h:okB o c a own b=true):(o.name== "runtime.NumGoroutine")=false/\o.body.isSome=true/\(Nat.ble c.length o.ntmps && Nat.ble o.ntmps 1000000)=true/\(own=false->a=[]/\b=[]):=by
 unfold okB at h;rw[apS,apS,apS (Nat.ble _ _ && _)]at h;obtain⟨d,e,f,g⟩:=h;refine⟨by simpa using d,e,f,λi=>?_⟩;subst i;simpa using g
noncomputable def cF(l:List CO)(d:FD)(M:Nat->ky d.cs->Option (ky d.rs.c))(e:PG.funcs[d.f]? =some d.fn)(a:okB d.fn d.ps d.hs d.own d.nm=true:=by kernel_rfl)(b:∀y,okY d.fn d.rs d.pu d.nm y=true:=by intro y;kernel_rfl)(c:∀N x,M N x=mF l d N x:=by intro N x;kernel_rfl):CO:=
 ⟨λN=>iZ.mk d.f d.ps d.hs d.cs (ky d.rs.c) (M N) (λy _ k=>k (vl T (eX d.fn.ntmps d.rs y) d.fn.results.toList) (fD d.nm (eX d.fn.ntmps d.rs y).h)) d.own d.pu,
  λN=>rl (T:=T) (CT:=Sw l) (N:=N) (λM=>zF l M) e (te a).1 (te a).2.1 d.pl d.ps d.hs d.cs d.rs d.own d.pu d.nm (te a).2.2.1 (λy=>((apS _ _).mp (b y)).1) (te a).2.2.2 (λy=>((apS _ _).mp (b y)).2) (M N) (c N)⟩
structure FE extends FD where
 r2:PS
 n2:aZ
noncomputable def gh(l:List CO)(a:Func)(b:aZ)(i:PS)(o:List (Exit×PS))(p:Pl)(N:Nat):Nat->ky i.c->Option (FV o):=DB (uf T (Sw l N) N (iH b (gV a))) a.ntmps i o p
noncomputable def jnF(l:List CO)(a:Func)(b:aZ)(i:PS)(o:List (Exit×PS))(p:Pl)(N:Nat):Nat->ky i.c->Option (FV o):=aho (aoh T (Sw l N) N (iH b (gV a))) a.ntmps i o p
