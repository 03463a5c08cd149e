/- part 9 -/
import Derived.Test.YtillffjlojlhoaaGreatDoorZWholeSound8
set_option linter.all false
noncomputable section
open Go Go.RowKit
set_option maxRecDepth 100000
open Go.Proofs.Tryz
namespace Go.Proofs.YtillffjlojlhoaaGreatDoor
section
open Go Go.RowKit MapKept
section
variable{P:Fd}{Dk:Deferred->Prop}{w0:GE}{T:EQ->bz}
section
variable{ops:bq}{ts:Nat->Tr CV}{hs:Nat->Tr di}{ns:Nat->Nat}{ρ0 ρ ρ1:Nm}{a0 a:Act}{ws w w1:GE}{S:Nat->In}{C:KH}{j:Nat}{o:Oper}{c:CV}{v:Id}{D:AJ}
def lF.ajA(hx:TX ops)(l:M_ P Dk w0 ops ts hs ns)(n:lF P Dk w0 ops ts hs ns ρ0 a0 ws S ρ C a w)(I:Rdy ops S j)(z:ops[j]? =some o)(hp:GC o.dst c (ts j) (ts (j+1)))(a3:fD o.op≠2){nb:At di}(t:ns (j+1)=Dz (ns j) nb)
 (hh:∀k,(hs (j+1)).get k=yp (hs j).get (ns j) nb k) (a8:nb≠none->fD o.op=0) (B:KP P w0 (Nm.cut ρ (ns j)) (λ_=>none) (ns j) w ρ1 (yp (λ_=>none) (ns j) nb) (Dz (ns j) nb) w1)
 (hv:KR ρ1 c v) (hD:∀d∈D,Dk d):∃ρ2 Z,lF P Dk w0 ops ts hs ns ρ0 a0 ws (λi=>S i||i==j) ρ2 Z (({a with defers:=D++a.defers}:Act).put o.dst v) w1:=by
 have J:=(av7.1 z).1;have a4:=n.free l I J;have ad:=l.mono j J;have a1:=l.le (awy j) bv;have a5:=l.le (a:=j+1) bv (av5 _);rw[<-t]at B;obtain⟨kp,l1,l2⟩:=n.kp.add B a1 a5 a4;have W:∀{i},zn ops i->i≠j:=λ{i} f e=>by
  subst e;obtain⟨o',r,V⟩:=f;obtain rfl:=av_ (z.symm.trans r);exact a3 V
 have M:∀k,¬(ns j<=k/\k<ns (j+1))->Aq (ns (j+1)) ρ1 ρ k=ρ k:=λk g=>by
  by_cases h:k<ns (j+1)
  .rw[eR h,B.ro k bv,Nm.jN bv]
  .rw[iJ bv]
 have U:∀{k x},Gd ops ns (λi=>S i||i==j) k x->Gd ops ns S k x:=λ{k x} ⟨O,Q,R,G⟩=>⟨O,Q,λi f L=>R i f (by simp[L]),λi f m L=>G i f m (by simp[L,W f])⟩;have Y:∀{k x},ns j<=k->k<ns (j+1)->Gd ops ns (λi=>S i||i==j) k x->j+1<=x/\(hs x).get k=yp (λ_=>none) (ns j) nb k:=λ{k x} r V ⟨O,Q,R,G⟩=>by
  have X:j+1<=x:=by
   by_cases h:x<=j
   .have:=l.le h bv;omega
   .omega
  cases u:nb with
  |none=>rw[u]at t;simp only[Dz]at t;omega
  |some b=>
   have g:k=ns j:=by rw[u]at t;simp only[Dz]at t;omega
   have h0:=a8 (by rw[u];simp);refine⟨X,?_⟩;have N:(hs (j+1)).get k=some b:=by rw[hh,u];exact av3 g
   have ac:∀y,j+1<=y->y<=x->(hs y).get k=some b:=by
    intro y A ae
    induction y with
    |zero=>omega
    |succ y ih=>
     by_cases e:y=j
     .subst e;exact N
     .have ab:=ih bv bv
      have a7:y<ops.length:=bv
      have K:ops[y]? =some ops[y]:=awf a7;have a6:k<ns y:=by have:=l.le (a:=j+1) (b:=y) bv bv;omega
      by_cases H:fD (ops[y]).op=2
      .have f:zn ops y:=⟨_,K,H⟩
       have a9:S y=true:=by
        cases h:S y with
        |true=>rfl
        |false=>have:=G y f bv (by simp[h,e]);omega
       rcases l.made j y o _ z K h0 H bv (I.be y a9)with h|h
       .omega
       .rw[<-g]at h
        rw[<-h];exact N
      .rw[(l.lG y _ K).keep H a6];exact ab
   rw[ac x X (av5 _)];exact(av3 g).symm
 refine⟨_,_,n.next hx l I z hp l2 (hv.mono λk p g=>?_) hD kp (λk x m s=>?_) (λk x y m s A=>?_) (λx aa a2=>n.HH x aa λi r f=>?_) (λk g=>?_)⟩
 .have:=B.hr.lt g
  rw[Nm.jN this];exact l1 k p g
 .by_cases h:ns j<=k/\k<ns (j+1)
  .rw[av3 h]
   exact(Y h.1 h.2 s).2.symm
  .rw[av2 h]
   rw[M k h]at m;exact n.hg k x m (U s)
 .by_cases h:ns j<=k/\k<ns (j+1)
  .obtain⟨E,F⟩:=Y h.1 h.2 s
   rw[eR h.2]at m;rw[F]at A;obtain⟨q,hq⟩:=azg.1 m;exact((B.hr.ob k y q.1 q.2 A hq).KS B.hr.top).mono (l.le E s.1)
  .rw[M k h]at m
   exact n.hb k x y m (U s) A
 .have:=a2 i r f
  simpa[W f]using this
 .by_cases h:ns j<=k/\k<ns (j+1)
  .exact .inr ⟨j,J,d5,h.1,h.2⟩
  .rw[M k h]at g
   rcases n.own k g with r|⟨i,E,F,e3⟩
   .exact .inl r
   .exact .inr ⟨i,E,by simp[F],e3⟩
def Rdy.row(g:TX ops)(f:Rdy ops S j)(b:zn ops j):(∀i,zn ops i->S i=true->i<j)/\∀i,i<j->zn ops i->S i=true:=by
 obtain⟨o,q,m⟩:=b;have h:∀i,zn ops i->i=j\/qU ops i j=true:=λi ⟨p,k,l⟩=>g.row i j p o k q l m;refine⟨λi b d=>?_,λi r b=>?_⟩
 .rcases h i b with e|e
  .subst e;rw[f.no]at d;cases d
  .simp only[qU,aw2]at e
   rcases e with e|e
   .by_cases n:i=j
    .subst n;rw[f.no]at d;cases d
    .have:=g.le e;omega
   .rw[f.be i d]at e;cases e
 .rcases h i b with e|e
  .omega
  .simp only[qU,aw2]at e
   rcases e with e|e
   .exact f.ah i e bv
   .have:=g.le e;omega
def lF.anh(R:TX ops)(l:M_ P Dk w0 ops ts hs ns)(m:lF P Dk w0 ops ts hs ns ρ0 a0 ws S ρ C a w)(I:Rdy ops S j)(K:ops[j]? =some o)(hp:GC o.dst c (ts j) (ts (j+1)))(a3:fD o.op=2)
 (B:KP P w0 (Nm.cut ρ (ns j)) (hs j).get (ns j) w ρ1 (hs (j+1)).get (ns (j+1)) w1)
 (hv:KR ρ1 c v) (hD:∀d∈D,Dk d):∃ρ2 Y,lF P Dk w0 ops ts hs ns ρ0 a0 ws (λi=>S i||i==j) ρ2 Y (({a with defers:=D++a.defers}:Act).put o.dst v) w1:=by
 have J:=(av7.1 K).1;have Q:zn ops j:=⟨o,K,a3⟩;have a4:=m.free l I J;have a6:=l.mono j J;have a1:=l.le (awy j) bv;have a5:=l.le (a:=j+1) bv (av5 _);obtain⟨M,r2⟩:=I.row R Q;obtain⟨a2,_,_⟩:=m.at l (by omega:j<=ops.length) M r2;obtain⟨kp,l1,l2⟩:=m.kp.merge B a1 a5 a2 a4;have X:∀{k x},k<ns (j+1)->Gd ops ns (λi=>S i||i==j) k x->j+1<=x/\(hs x).get k=(hs (j+1)).get k:=λ{k x} g ⟨E,N,F,G⟩=>by
  have U:j<x:=F j Q d5;refine⟨U,l.Xe U E (λi r H f=>?_) g⟩;have z:S i=false:=by
   cases h:S i with
   |false=>rfl
   |true=>have:=M i f h;omega
  have:=G i f H (by simp[z];omega);have:=l.le (a:=j+1) (b:=i) r bv;omega
 have W:∀{k x},ns (j+1)<=k->Gd ops ns (λi=>S i||i==j) k x->Gd ops ns S k x:=λ{k x} g ⟨E,N,F,G⟩=>⟨E,N,λi f z=>F i f (by simp[z]),λi f n z=>by
  by_cases e:i=j
  .subst e;omega
  .exact G i f n (by simp[z,e])⟩
 refine⟨_,_,m.next R l I K hp l2 (hv.mono λk p g=>?_) hD kp (λk x n s=>?_) (λk x y n s L=>?_) (λx V O=>?_) (λk g=>?_)⟩
 .have:=B.hr.lt g
  rw[Nm.jN this];exact l1 k p g
 .by_cases h:k<ns (j+1)
  .rw[eR h]
   exact(X h s).2.symm
  .rw[iJ bv]at n⊢
   exact m.hg k x n (W bv s)
 .by_cases h:k<ns (j+1)
  .obtain⟨t,u⟩:=X h s
   rw[eR h]at n;rw[u]at L;obtain⟨q,hq⟩:=azg.1 n;exact((B.hr.ob k y q.1 q.2 L hq).KS B.hr.top).mono (l.le t s.1)
  .rw[iJ bv]at n
   exact m.hb k x y n (W bv s) L
 .by_cases h:x<=j
  .exact m.HH x V λi r f=>by
    have:=O i r f;have e:i≠j:=bv
    simpa[e]using this
  .refine l.ang (a:=j+1) bv V (λi r H f=>?_) B.hr.HH
   have:=O i H f;have e:i≠j:=bv
   have:S i=true:=by simpa[e]using this
   have:=M i f this;omega
 .by_cases h:k<ns (j+1)
  .by_cases Z:ns j<=k
   .exact .inr ⟨j,J,d5,Z,h⟩
   .rw[eR h,B.ro k bv,Nm.jN bv]at g
    rcases m.own k g with r|⟨i,t,u,A⟩
    .exact .inl r
    .exact .inr ⟨i,t,by simp[u],A⟩
  .rw[iJ bv]at g
   rcases m.own k g with r|⟨i,t,u,A⟩
   .exact .inl r
   .exact .inr ⟨i,t,by simp[u],A⟩
def lF.reads(n:TX ops)(t:M_ P Dk w0 ops ts hs ns)(O:lF P Dk w0 ops ts hs ns ρ0 a0 ws S ρ C a w)(H:Rdy ops S j)(s:ops[j]? =some o)(hp:GC o.dst c (ts j) (ts (j+1)))(L:fD o.op=1)(hw:Gh ops o.guard ((ts j).res (o9 ops o)) true)
 (hf:PK P w0 o ((ts j).res (o9 ops o)) (hs j) c):∃v,(execOp a.eval o).run P w=.ok (.value v) w/\KR (Nm.cut ρ (ns j)) c v:=by
 have aj:=(av7.1 s).1;have W:=O.asR n t H s;by_cases K:(∀i,zn ops i->S i=true->i<j)/\∀i,i<j->zn ops i->S i=true
 .exact hf _ a w _ W (O.at t (by omega:j<=ops.length) K.1 K.2).2.1
 have ac:∀{i},zn ops i->i≠j:=λ{i} Q e=>by
  subst e;obtain⟨o',f,k⟩:=Q;obtain rfl:=av_ (s.symm.trans f);omega
 have a4:∀i b,zn ops i->zn ops b->i<b->S b=true->S i=true:=λi b ⟨p,f,k⟩ ⟨G,a5,a6⟩ E ae=>by
  rcases n.row i b p G f a5 k a6 with e|e
  .omega
  .simp only[qU,aw2]at e
   rcases e with e|e
   .exact H.cl i b ae e
   .have:=n.le e;omega
 obtain⟨m,x,Q,ah,M,e1,e2⟩:∃m x,zn ops m/\(x=m\/x=m+1)/\qU ops j m=false/\(∀i,zn ops i->S i=true->i<x)/\∀i,i<x->zn ops i->S i=true:=by
  by_cases Y:∃i,i<ops.length/\(zn ops i/\S i=true/\j<i)
  .obtain⟨m,ab,⟨F,A,ak⟩,a9⟩:=Nn (λi=>zn ops i/\S i=true/\j<i) ops.length Y
   refine⟨m,m+1,F,.inr rfl,?_,λi l z=>?_,λi E l=>?_⟩
   .cases h:qU ops j m with
    |false=>rfl
    |true=>
     simp only[qU,aw2]at h;rcases h with h|h
     .rw[H.be m A]at h;cases h
     .have:=n.le h;omega
   .by_cases h:i<m+1
    .exact h
    .exact absurd ⟨l,z,bv⟩ (a9 i bv (by obtain⟨p,f,_⟩:=l;exact(av7.1 f).1))
   .by_cases h:i=m
    .subst h;exact A
    .exact a4 i m l F bv A
  .have a1:∀i,zn ops i->S i=true->i<j:=λi l z=>by
    by_cases h:i<j
    .exact h
    .exact absurd ⟨i,by obtain⟨p,f,_⟩:=l;exact(av7.1 f).1,l,z,by have:=ac l;omega⟩ Y
   obtain⟨i0,h0⟩:∃i,i<j/\zn ops i/\S i=false:=by
    apply aBc;intro R;refine K ⟨a1,λi E l=>?_⟩;cases h:S i with
    |true=>rfl
    |false=>exact absurd ⟨i,E,l,h⟩ R
   have ai:∀i,(i<j/\zn ops i/\S i=false)->∃m,(m<j/\zn ops m/\S m=false)/\∀b,b<m->¬(b<j/\zn ops b/\S b=false):=by
    intro i
    induction i using Nat.strongRecOn with
    |_ i ih=>
     intro h;by_cases hh:∃b,b<i/\(b<j/\zn ops b/\S b=false)
     .obtain⟨b,f,k⟩:=hh
      exact ih b f k
     .exact⟨i,h,λb f k=>hh ⟨b,f,k⟩⟩
   obtain⟨m,⟨al,F,A⟩,aa⟩:=ai i0 h0;refine⟨m,m,F,.inl rfl,?_,λi l z=>?_,λi E l=>?_⟩
   .cases h:qU ops j m with
    |false=>rfl
    |true=>
     simp only[qU,aw2]at h;rcases h with h|h
     .have:=n.le h;omega
     .have:=H.ah m h bv;rw[A]at this;cases this
   .rcases axH i m with h|h|h
    .exact h
    .subst h;rw[A]at z;cases z
    .have:=a4 m i F l h z
     rw[A]at this;cases this
   .cases h:S i with
    |true=>rfl
    |false=>exact absurd ⟨bv,l,h⟩ (aa i E)
 obtain⟨p,I,U⟩:=Q;have ab:=(av7.1 I).1;have af:Gi P w0 ops o (ts ops.length) (hs x):=by
  have:=t.rd j m o p s I L U M;rcases ah with e|e
  .subst e;exact this.1
  .subst e;exact this.2
 have a7:=(O.at t (by omega:x<=ops.length) e1 e2).2.2;have a3:o8 ρ ((ts ops.length).res (o9 ops o)) a:=by
  intro y c' B;rw[Tr.pI]at B;have V:o9 ops o y=true:=by
   cases h:o9 ops o y with
   |true=>rfl
   |false=>rw[h]at B;cases B
  rw[av3 V]at B;have ag:∀(i:Nat) q,ops[i]? =some q->q.dst=some y->i<j:=λi q hq a2=>by
   have k:=V;unfold o9 at k;rw[aw2]at k;rcases k with h|h
   .have r:=n.rd j m o p s I L U M i q y hq (aAG.1 h) a2
    have:=n.le r.1;omega
   .split at h
    next g hg=>obtain⟨G,f,k⟩:=ayp.1 (by simpa using h:rP ops g.1=some y);have r:=n.gd j o g s hg;obtain rfl:i=g.1:=iv n.inj i g.1 q G y hq f a2 k;have:=n.le r.1;omega
    .cases h
  rw[t.yB (a:=j) bv (av5 _) λi f k q r J=>by have:=ag i q r J;omega]at B;obtain⟨u,f,k⟩:=W y c' (by rw[Tr.pI,av3 V];exact B);exact⟨u,f,k.mono (Nm.Pm ρ _)⟩
 rcases af with R|⟨d,X,N,Z,ad⟩
 .have f:=hw _ a W o rfl
  have k:=R _ a a3 o rfl;rw[f]at k;cases k
 .obtain⟨v,f,k⟩:=ad ρ a w _ a3 a7
  have a8:X=c:=by
   have r:=Z;rw[t.yB (a:=j+1) bv (av5 _) λb f k G r J=>by have:=iv n.inj b j G o d r s J N;omega,(hp.2 d N).2 d,av3 rfl]at r;cases r;rfl
  subst a8;exact⟨v,f,t.bl j m o p d X s I L U M N Z ρ v k⟩
end
end
end
variable{h:Nat}{B:Tr di}{m:Tr CV}
section
open Go Go.RowKit MapKept
section
variable{P:Fd}{Dk:Deferred->Prop}{w0:GE}{T:EQ->bz}
def WY.inv{ops:bq}{o:Oper}{t g:Tr CV}{h b:Tr di}{n f:Nat}(hs:WY P Dk w0 ops o t h n g b f):
 (∃c,Gh ops o.guard (t.res (o9 ops o)) true/\kQ P Dk w0 o (t.res (o9 ops o)) h n c b f/\GC o.dst c t g)\/(b=h/\f=n/\Gh ops o.guard (t.res (o9 ops o)) false/\GC o.dst (.v undef) t g):=by
 cases hs with
 |run c l m k e i d=>exact .inl ⟨c,e,i,d⟩
 |skip k e d=>exact .inr ⟨rfl,rfl,e,d⟩
section
variable{ops:bq}{ts:Nat->Tr CV}{hs:Nat->Tr di}{ns:Nat->Nat}{ρ0 ρ:Nm}{a0 a:Act}{ws w:GE}{S:Nat->In}{C:KH}{j:Nat}{o:Oper}
def lF.step(l:TX ops)(f:M_ P Dk w0 ops ts hs ns)(b:lF P Dk w0 ops ts hs ns ρ0 a0 ws S ρ C a w)(g:Rdy ops S j)(d:ops[j]? =some o){next:Act->GE->Prop}{Q:IR->Act->GE->Prop}
 (q:∀Y L I y,lF P Dk w0 ops ts hs ns ρ0 a0 ws (λi=>S i||i==j) Y L I y->next I y):wpOp P ops.toArray Q j next a w:=by
 have a1:=(av7.1 d).1;have u:=b.asR l f g d;have V:ops.toArray[j]? =some o:=by simpa using d
 unfold wpOp;rw[V];simp only;rcases(f.lG j o d).inv with⟨c,x,m,n⟩|⟨s,t,x,n⟩
 .rw[x _ a u o rfl,av3 rfl]
  refine .inl ?_;by_cases J:fD o.op=0
  .unfold kQ at m
   rw[J]at m;obtain⟨cf,nb,O,U,R,X⟩:=m;refine X _ a w (λ_=>none) (ns j) u (.empty b.kp.hr.ext) next Q λv y D ⟨Z,B,F⟩ A=>?_
   obtain⟨z,r,e⟩:=b.ajA l f g d n bv U R (λ_=>J) B (by rw[O];exact F) A;exact q _ _ _ _ e
  .by_cases K:fD o.op=1
   .unfold kQ at m
    rw[K]at m;obtain⟨s,t,W⟩:=m;obtain⟨v,M,N⟩:=b.reads l f g d n K x W;refine eO M ?_;obtain⟨z,r,e⟩:=b.ajA (nb:=none) (D:=[]) l f g d n bv t (λk=>by rw[s];rfl) (λh=>absurd rfl h) (.refl (.empty b.kp.hr.ext)) N d5;exact q _ _ _ _ e
   .have e:fD o.op=2:=by
     have:fD o.op=0\/fD o.op=1\/fD o.op=2:=by
      unfold fD;split<;>simp
     omega
    obtain⟨G,H⟩:=g.row l ⟨o,d,e⟩;have E:=(b.at f (by omega:j<=ops.length) G H).2.1;refine m.fk _ a w u E next Q λv y D ⟨Z,B,F⟩ A=>?_
    obtain⟨z,r,p⟩:=b.anh l f g d n e B F A;exact q _ _ _ _ p
 .rw[x _ a u o rfl,av2 d5]
  by_cases e:fD o.op=2
  .obtain⟨G,H⟩:=g.row l ⟨o,d,e⟩
   have E:=(b.at f (by omega:j<=ops.length) G H).2.1;obtain⟨z,r,p⟩:=b.anh (D:=[]) (v:=undef) l f g d n e (by rw[s,t];exact .refl E) .v d5;exact q _ _ _ _ p
  .obtain⟨z,r,p⟩:=b.ajA (nb:=none) (D:=[]) (v:=undef) l f g d n e t (λk=>by rw[s];rfl) (λh=>absurd rfl h) (.refl (.empty b.kp.hr.ext)) .v d5
   exact q _ _ _ _ p
def lF.fin(G:TX ops)(s:M_ P Dk w0 ops ts hs ns)(d:lF P Dk w0 ops ts hs ns ρ0 a0 ws S ρ C a w)(l:∀i,i<ops.length->S i=true):
 o8 ρ (ts ops.length) a/\KP P w0 ρ0 (hs 0).get (ns 0) ws ρ (hs ops.length).get (ns ops.length) w/\Df Dk a0 a:=by
 have F:∀i,zn ops i->i<ops.length:=λi ⟨p,b,_⟩=>(av7.1 b).1;obtain⟨b,_,_⟩:=d.at s (av5 _) (λi B _=>F i B) (λi r _=>l i r);refine⟨λx c m=>?_,d.kp.agree (λk y=>?_) (d.HH _ (av5 _) λi r _=>l i r),d.df⟩
 .by_cases n:∃(i:Nat) (p:Oper),ops[i]? =some p/\p.dst=some x
  .obtain⟨i,p,z,D⟩:=n
   obtain⟨v,b,e⟩:=d.t1 i p x c z D (l i (av7.1 z).1) m;exact⟨v,b,e.mono (Nm.Pm ρ _)⟩
  .rw[s.yB (awy _) (av5 _) λt b e u f g=>n ⟨t,u,f,g⟩]at m
   obtain⟨v,b,e⟩:=d.t0 x c (λt u f g=>absurd ⟨t,u,f,g⟩ n) m;exact⟨v,b,e.mono (Nm.Pm ρ _)⟩
 .have A:k<ns ops.length:=by
   rcases y with h|h
   .have:=s.le (awy ops.length) (av5 _);omega
   .obtain⟨q,E⟩:=azg.1 h
    exact d.kp.hr.lt E
  exact b k A y
def lF.any(D:TX ops)(M:M_ P Dk w0 ops ts hs ns){Q:IR->Act->GE->Prop}(Z:∀v p u,o8 v (ts ops.length) p->KP P w0 ρ0 (hs 0).get (ns 0) ws v (hs ops.length).get (ns ops.length) u->Df Dk a0 p->Q .normal p u):
 ∀(k:Nat) (c:Array In) (ρ:Nm) (C:KH) (a:Act) (w:GE),c.size=ops.length->sn ops (λi=>c.getD i false)->(∀m,m=(c.toList.filter (·==false)).length->m=k)->lF P Dk w0 ops ts hs ns ρ0 a0 ws (λi=>c.getD i false) ρ C a w->
 wpAny P .any ops.toArray Q k c a w:=by
 intro k
 induction k with
 |zero=>
  intro c ρ C a w B x s y;have H:∀j,j<ops.length->c.getD j false=true:=λj g=>by
   have X:(c.toList.filter (·==false)).length=0:=s _ rfl;have f:c.toList.filter (·==false)=[]:=aw6 X;have z:j<c.size:=bv
   have:c[j]∈c.toList:=d5
   have d:=aAN.1 f _ this;have:c[j]=true:=by simpa using d
   simp[z,this]
  obtain⟨R,U,V⟩:=y.fin D M H;refine⟨?_,Z _ _ _ R U V⟩;rw[azn];intro j g;obtain⟨f,o,q,_⟩:=ayH.1 g;have J:j<ops.length:=by
   have:=(awS.1 q).1;simp at this;exact this
  have d:=H j J;rw[azo f]at d;cases d
 |succ k ih=>
  intro c ρ C a w B x s y;have aa:∃j,j<ops.length/\c.getD j false=false:=by
   have f:(c.toList.filter (·==false)).length=k+1:=s _ rfl;have d:c.toList.filter (·==false)≠[]:=λh=>by rw[h]at f;simp at f
   obtain⟨b,l⟩:=ay4 _ d;obtain⟨a1,a2⟩:=axp.1 l;obtain⟨j,g,a6⟩:=awV a1;refine⟨j,by rw[<-B];simp at g;exact g,?_⟩;have z:j<c.size:=by simp at g;exact g
   have:c[j]=b:=by simpa using a6
   have a3:b=false:=by simpa using a2
   simp[z,this,a3]
  refine⟨λa9=>?_,λj g=>?_⟩
  .exfalso
   obtain⟨j,a4,a5⟩:=aa;have:∀j,j<ops.length->c.getD j false=false->False:=by
    intro j
    induction j using Nat.strongRecOn with
    |_ j ae=>
     intro f d;have q:ops[j]? =some ops[j]:=awf f;by_cases A:∀e∈(ops[j]).after,Region.binds .any e=true->c.getD e.on false=true
     .have:j∈Region.ready .any ops.toArray c:=ayH.2 ⟨getD_in bv d,ops[j],d5,A⟩
      rw[a9]at this;cases this
     .simp only[aAO]at A
      obtain⟨e,he,l,a8⟩:=A;have r:=D.back j _ q e he l;exact ae e.on r bv (by simpa using a8)
   exact this j a4 a5
  .obtain⟨f,o,q,N⟩:=ayH.1 g
   have t:ops[j]? =some o:=by simpa using q
   have J:j<ops.length:=(av7.1 t).1;have I:c.getD j false=false:=azo f;refine y.step D M (Rdy.of t x I N) t λv O p u W=>?_;have F:(λi=>(c.setIfInBounds j true).getD i false)=λi=>c.getD i false||i==j:=by
    funext i;by_cases n:i=j
    .subst n
     simp[axm,show i<c.size by omega]
    .have d:¬j=i:=λh=>n h.symm
     simp[axm,azU,d,n]
   refine ih _ v O p u (by simpa using B) ?_ ?_ (by rw[F];exact W)
   .rw[F]
    intro i oi K ab E G l;by_cases n:i=j
    .subst n
     obtain rfl:=av_ (t.symm.trans K);simp[N E G l]
    .have ac:c.getD i false=true:=by simpa[n]using ab
     have:=x i oi K ac E G l;simp[this]
   .intro m a7
    have d:(c.toList.filter (·==false)).length=k+1:=s _ rfl;have Y:∀(L:bw) (j:Nat),L[j]? =some false->((L.set j true).filter (·==false)).length+1=(L.filter (·==false)).length:=by
     intro L
     induction L with
     |nil=>intro j h;simp at h
     |cons b L ad=>
      intro j h;cases j with
      |zero=>simp at h;subst h;simp
      |succ j=>
       have:=ad j (by simpa using h);cases b<;>simp_all<;>omega
    have h4:=Y c.toList j (by
     have r:j<c.size:=bv
     have:c[j]=false:=by simpa[r]using I
     simp[r,this])
    rw[ayR]at a7;omega
def lF.init(J:TX ops)(f:M_ P Dk w0 ops ts hs ns)(F:o8 ρ (ts 0) a)(d:HR P w0 ρ (hs 0).get (ns 0) w)(m:∀i,S i=false):lF P Dk w0 ops ts hs ns ρ a w S ρ (hs 0).get a w:=by
 have s:∀k,ρ k≠none->k<ns 0:=λk b=>by
  obtain⟨q,r⟩:=azg.1 b;exact d.lt r
 have z:∀{k x},k<ns 0->Gd ops ns S k x->(hs x).get k=(hs 0).get k:=λ{k x} b ⟨A,H,I,B⟩=>f.Xe (awy _) A (λi l e n=>by
  have:=B i n e (m i);have:=f.le (awy i) bv;omega) b
 refine⟨.wide d (f.le (awy _) (av5 _)),λi o x c _ _ t=>?_,λx c _ E=>?_,λk x h g=>?_,λk x y h g u=>?_,λx G D=>?_,λk b=>.inl (s k b),.refl a⟩
 .rw[m i]at t;cases t
 .obtain⟨v,l,e⟩:=F x c E
  exact⟨v,l,e.mono λk p b=>by rw[Nm.jN (d.lt b)];exact b⟩
 .exact(z (h.elim id (s k)) g).symm
 .rw[z (s k h) g]at u
  obtain⟨q,r⟩:=azg.1 h;exact((d.ob k y q.1 q.2 u r).KS d.top).mono (f.le (awy _) g.1)
 .exact f.ang (awy _) G (λi l e n=>by have:=D i e n;rw[m i]at this;cases this) d.HH
end
def ajB{R:Type}{r:R}{l:FuncId->In}{n:KC R}(L:P.follows .mixedOrders=true)(F:hS P T)(D:∀b o u,GT b o u->w0.cell? ⟨b,o,none⟩=some u)(E:ln Dk l)(G:h_ P w0 n){ops:yy}{k:KK R}(J:abv T l n ops.toList k m B h=some r):
 ∃x p v,k x p v=some r/\∀id ρ a w Q,o8 ρ m a->HR P w0 ρ B.get h w->(∀g d f,o8 g x d->KP P w0 ρ B.get h w g p.get v f->Df Dk a d->Q .normal d f)->(Code.region id ops true).wp P Q a w:=by
 obtain⟨t,ts,hs,ns,rfl,rfl,rfl,s,K⟩:=ad6 F D E G J;refine⟨_,_,_,K,λid ρ a w Q O q N=>wp_region_any L ?_⟩;have H:HR P w0 ρ (hs 0).get (ns 0) w.drew:=q.drew;have I:=lF.init (S:=λi=>(Array.replicate ops.size false).getD i false) t s O H λi=>ay5 ..;refine lF.any (ρ0:=ρ) (a0:=a) (ws:=w.drew) t s (λg d f y z A=>N g d f y ((KP.drew q).trans z) A) _ _ ρ _ a _ d5 ?_ ?_ I
 .intro j o U e
  have e:(Array.replicate ops.size false).getD j false=true:=e;rw[ay5]at e;cases e
 .intro c M
  rw[M];simp
end
end
variable{a:Nat}
section
open Go Go.RowKit MapKept
section
variable{P:Fd}{Dk:Deferred->Prop}{w0:GE}{T:EQ->bz}{R:Type}{r:R}
def ani(a:KK R)(c:Nat->KK R)(b:KK R):IR->KK R
 |.normal=>a
 |.exit i=>c i
 |.ret=>b
 |_=>λ_ _ _=>none
def CK(P:Fd)(Dk:Deferred->Prop)(w0:GE)(c:Code)(t:Tr CV)(h:Tr di)(n:Nat)(x:IR)(i:Tr CV)(f:Tr di)(g:Nat):Prop:=
 ∀ρ a w Q,o8 ρ t a->HR P w0 ρ h.get n w->(∀e b d,o8 e i b->KP P w0 ρ h.get n w e f.get g d->Df Dk a b->Q x b d)->c.wp P Q a w
def UD{M:FuncId->In}{O:KC R}(hm:P.follows .mixedOrders=true)(hT:hS P T)(hG:∀b o u,GT b o u->w0.cell? ⟨b,o,none⟩=some u)(ac:ln Dk M)(hc:h_ P w0 O)(c:Code):
 ∀{A:KK R} {B:Nat->KK R} {D:KK R} {t:Tr CV} {h:Tr di} {n:Nat},Ux T M O a c A B D t h n=some r->∃x J G I,ani A B D x J G I=some r/\CK P Dk w0 c t h n x J G I:=by
 induction c with
 |skip=>intro A B D t h n k;exact⟨.normal,t,h,n,k,λρ d w Q f g j=>wp_skip (j ρ d w f (.refl g) (.refl d))⟩
 |label l=>intro A B D t h n k;exact⟨.normal,t,h,n,k,λρ d w Q f g j=>wp_label (j ρ d w f (.refl g) (.refl d))⟩
 |exit i=>intro A B D t h n k;exact⟨.exit i,t,h,n,k,λρ d w Q f g j=>wp_exit (j ρ d w f (.refl g) (.refl d))⟩
 |ret=>intro A B D t h n k;exact⟨.ret,t,h,n,k,λρ d w Q f g j=>wp_ret (j ρ d w f (.refl g) (.refl d))⟩
 |region id a0 dr=>
  intro A B D t h n k;cases dr with
  |true=>
   have q:abv T M O a0.toList A t h n=some r:=k;obtain⟨J,G,I,C,hw⟩:=ajB hm hT hG ac hc q;exact⟨.normal,J,G,I,C,λρ d w Q f g j=>hw id ρ d w Q f g j⟩
  |false=>
   have q:ad1 T M O a0.toList a0.toList A t h n=some r:=k;obtain⟨J,G,I,C,hw⟩:=abz hT hG ac hc a0.toList 0 rfl q;refine⟨.normal,J,G,I,C,λρ d w Q f g j=>wp_region ?_⟩;have:=hw ρ d w Q f g j;rw[<-aAt]at this;simpa using this
 |seq d b a9 aa=>
  intro A B D t h n k;obtain⟨E,y,p,s,q,z⟩:=a9 k;cases E with
  |normal=>
   obtain⟨X,W,H,V,C,N⟩:=aa q;exact⟨X,W,H,V,C,λρ d w Q f g j=>ax6 (z ρ d w _ f g λρ1 a1 w1 a7 U a3=>N ρ1 a1 w1 Q a7 U.hr λρ2 a2 w2 a8 ab a4=>j ρ2 a2 w2 a8 (U.trans ab) (a3.trans a4))⟩
  |exit i=>exact⟨.exit i,y,p,s,q,λρ d w Q f g j=>ax6 (z ρ d w _ f g j)⟩
  |ret=>exact⟨.ret,y,p,s,q,λρ d w Q f g j=>ax6 (z ρ d w _ f g j)⟩
  |_=>cases q
 |cond x d b a9 aa=>
  intro A B D t h n k;obtain⟨v,hv,q⟩:=cD k;obtain⟨bb,rfl,C⟩:=WI q;rcases dR C with⟨rfl,a5⟩|⟨rfl,a5⟩
  .obtain⟨E,y,p,s,a6,z⟩:=a9 a5
   exact⟨E,y,p,s,a6,λρ d w Q f g j=>wp_cond_true (hv ρ d f).bS (z ρ d w Q f g j)⟩
  .obtain⟨E,y,p,s,a6,z⟩:=aa a5
   exact⟨E,y,p,s,a6,λρ d w Q f g j=>wp_cond_false (hv ρ d f).bS (z ρ d w Q f g j)⟩
 |block id b S=>
  intro A B D t h n k;obtain⟨E,y,p,s,q,z⟩:=S k;cases E with
  |normal=>exact⟨.normal,y,p,s,q,λρ d w Q f g j=>wp_block (z ρ d w _ f g j)⟩
  |exit i=>
   have Z:bB (Nat.beq i id) A (B i) y p s=some r:=q;rcases hb:Nat.beq i id with _|_
   .have e:=hb
    rw[e]at Z;have C:B i y p s=some r:=Z;have ad:=ks e;exact⟨.exit i,y,p,s,C,λρ d w Q f g j=>wp_block (z ρ d w _ f g λL F K p H h3=>by
     show(if i=id then Q .normal F K else Q (.exit i) F K);rw[av2 ad];exact j L F K p H h3)⟩
   .have e:=hb
    rw[e]at Z;have C:A y p s=some r:=Z;obtain rfl:=eL e;exact⟨.normal,y,p,s,C,λρ d w Q f g j=>wp_block (z ρ d w _ f g λL F K p H h3=>by
     show(if i=i then Q .normal F K else _);rw[av3 rfl];exact j L F K p H h3)⟩
  |ret=>exact⟨.ret,y,p,s,q,λρ d w Q f g j=>wp_block (z ρ d w _ f g j)⟩
  |_=>cases q
 |loop b S=>
  intro A B D t h n k;have ag:∀(Y:Nat) {t:Tr CV} {h:Tr di} {n:Nat},ajv Y (Ux T M O a b) B D t h n=some r->
   ∃m x J G I,x≠.normal/\ani A B D x J G I=some r/\∀ρ d w Q,o8 ρ t d->HR P w0 ρ h.get n w->(∀L F K,o8 L J F->KP P w0 ρ h.get n w L G.get I K->Df Dk d F->Q x F K)->Code.rounds P b Q m d w:=by
   intro Y
   induction Y with
   |zero=>intro t h n k;cases k
   |succ Y af=>
    intro t h n k;obtain⟨E,y,p,s,q,z⟩:=S k;cases E with
    |normal=>
     obtain⟨m,X,W,H,V,ae,C,N⟩:=af q;exact⟨m+1,X,W,H,V,ae,C,λρ d w Q f g j=>z ρ d w _ f g λρ1 a1 w1 a7 U a3=>N ρ1 a1 w1 Q a7 U.hr λρ2 a2 w2 a8 ab a4=>j ρ2 a2 w2 a8 (U.trans ab) (a3.trans a4)⟩
    |exit i=>exact⟨1,.exit i,y,p,s,d5,q,λρ d w Q f g j=>z ρ d w _ f g j⟩
    |ret=>exact⟨1,.ret,y,p,s,d5,q,λρ d w Q f g j=>z ρ d w _ f g j⟩
    |_=>cases q
  obtain⟨m,X,W,H,V,_,C,N⟩:=ag a k;exact⟨X,W,H,V,C,λρ d w Q f g j=>wp_loop_rounds m (N ρ d w Q f g j)⟩
 |scope b S=>
  intro A B D t h n k;obtain⟨E,y,p,s,q,z⟩:=S k;cases E with
  |normal=>exact⟨.normal,y,p,s,q,λρ d w Q f g j=>aAH (z ρ d w _ f g j)⟩
  |exit i=>exact⟨.exit i,y,p,s,q,λρ d w Q f g j=>aAH (z ρ d w _ f g j)⟩
  |ret=>exact⟨.ret,y,p,s,q,λρ d w Q f g j=>aAH (z ρ d w _ f g j)⟩
  |_=>cases q
 |_=>intro A B D t h n k;cases k
end
end
variable{s:Func}{y:Do CV}{t:Nm}{b:GE}
section
open Go Go.RowKit MapKept
section
variable{P:Fd}{Dk:Deferred->Prop}{w0:GE}{T:EQ->bz}{R:Type}{r:R}
def KP.later{h:KH}{w i:GE}(c:HR P w0 t h a w)(d:Ext w i):KP P w0 t h a w t h a i:=by
 have k:=KP.refl c;exact⟨⟨c.ext.trans d,λx y b m g f=>(c.ob x y b m g f).mono (EN.refl t) (d.ca b (c.ob x y b m g f).lt),c.lo,c.inj,c.top,c.HH⟩,av5 _,λ_ _=>rfl,d.size,
  λb e j=>⟨d.ca b e,(k.fr b e j).2⟩,k.ol,k.fz⟩
def xo{g:Func}{k:ey}{Q:Ending->GE->Prop}:∀(D:AJ) (w:GE),Ext w0 w->(∀d∈D,Ke P w0 d)->(∀a,Ext w a->∃v,(results g k).run P a=.ok v a/\Q (.returned v) a)->Leaves P g k Q D .returning w
 |[],w,_,_,b=>b w (Ext.refl w)
 |d::D,w,h,i,b=>by
  obtain⟨p,m,f,l,y,z⟩:=i d d5;obtain⟨q,s⟩:=z w h;refine⟨d8,p,m,f,l,y,q,λc n u=>?_⟩;obtain⟨e,C,a,o,⟨⟨v,rfl⟩,rfl,j⟩,t⟩:=s c n u;exact⟨.returned v,.returning,a,o,xo D a (h.trans j) (λd x=>i d (by simp[x])) λB A=>b B (j.trans A),t⟩
def abD:∀{l:Do CV} {i:Nat} {t:Tr CV} {k:Tr CV->At R},asP l i t k=some r->∃g,k g=some r/\(∀j,g.get j=if i<=j/\j<i+l.length then l[j - i]? else t.get j)/\∀j,i<=j->j<i+l.length->∃x,t.get j=some x
 |[],i,t,k,h=>⟨t,h,λj=>by rw[av2 (by simp only[aw4];omega)],λj d b=>by simp at b;omega⟩
 |c::l,i,t,k,h=>by
  obtain⟨u,d,⟨x,p⟩,e⟩:=Tr.oM h;obtain⟨q,b,n,o⟩:=abD (l:=l) d;refine⟨q,b,λj=>?_,λj s m=>?_⟩
  .rw[n,e]
   simp only[aws];by_cases a:j=i
   .subst a
    rw[av2 bv,av3 rfl,av3 bv];simp
   .by_cases f:i+1<=j/\j<i+1+l.length
    .rw[av3 f,av3 bv,show j - i=(j - (i+1))+1 by omega]
     rfl
    .rw[av2 f,av2 a,av2 bv]
  .by_cases a:j=i
   .subst a;exact⟨x,p⟩
   .have:=o j bv (by simp at m;omega)
    rw[e,av2 a]at this;exact this
def amg{cs:Do CV}{d:bI}(f:LR (KR t) cs d)(bc:∀j,m.get j=if 0<=j/\j<0+cs.length then cs[j - 0]? else(Tr.fill (.v undef) 64 a).get j)(fj:∀j,0<=j->j<0+cs.length->∃x,(Tr.fill (CV.v undef) 64 a).get j=some x):
 o8 t m {tmps:=d.toArray++Array.replicate (a - d.toArray.size) undef,defers:=[]}:=by
 intro i c b;rw[bc]at b;have l:=f.1;by_cases k:i<cs.length
 .rw[av3 bv]at b
  obtain⟨u,g,h⟩:=f.get (by simpa using b);refine⟨u,?_,h⟩;have e:i<d.length:=bv
  simp[ay2,e];rw[awf e]at g;simpa using g
 .rw[av2 bv]at b
  obtain⟨rfl,n⟩:=Tr.kU b;refine⟨undef,?_,.v⟩;have e:¬i<d.length:=bv
  simp only[ay2,axX,av2 e,Array.getElem?_replicate];rw[av3 bv]
def Pp(q:hS P T)(n:∀b o u,GT b o u->w0.cell? ⟨b,o,none⟩=some u){h:Tr di}{t:Tr CV}:∀{rs:Do ResultVar} {k:Do CV->At R},apH T h t rs k=some r->
 ∃d,(∀ρ a w N,o8 ρ t a->HR P w0 ρ h.get N w->∃f,(rs.mapM (mS a.tmps)).run P w=.ok f w/\LR (KR ρ) d f)/\k d=some r
 |[],k,g=>⟨[],λ_ _ _ _ _ _=>⟨[],d5,LR.nil⟩,g⟩
 |.tmp i::rs,k,g=>by
  obtain⟨c,s,z⟩:=bG g;obtain⟨d,v,A⟩:=Pp q n (rs:=rs) z;refine⟨c::d,λρ a w N j l=>?_,A⟩;obtain⟨f,D,B⟩:=v ρ a w N j l;obtain⟨u,E,C⟩:=j i c s;refine⟨u::f,?_,LR.cons C B⟩;have e:a.tmps.getD i undef=u:=by simp[axm,E]
  rw[ay0];simp only[mS,awi,awm,awk,D,e]
 |.cell x O::rs,k,g=>by
  obtain⟨p,I,z⟩:=bG g;obtain⟨⟨M,m⟩,J,A⟩:=bG z;obtain⟨c,s,F⟩:=ajb (h:=h) n (q.ty _ _ J) A;obtain⟨d,v,G⟩:=Pp q n (rs:=rs) F;refine⟨c::d,λρ a w N j l=>?_,G⟩;obtain⟨f,D,B⟩:=v ρ a w N j l;obtain⟨u,E,C⟩:=j x p I;obtain⟨b,o,y,K,H,L⟩:=s ρ w u N l C;refine⟨y::f,?_,LR.cons L B⟩;have e:a.tmps.getD x undef=u:=by simp[axm,E]
  rw[ay0];simp only[mS,awi,e,K,asAddr,awm,awk,H,D]
def amh{b:bI}(a:LR (KR t) y b):KR t (ad2 y) (if h:b.toArray.size=1 then b.toArray[0]else .tuple b.toArray):=by
 match y,b,a with
 |[],[],a=>exact .tu [] rfl d5
 |[c],[u],a=>simpa[ad2]using a.2 0 c u rfl rfl
 |c::d::y,u::e::b,a=>
  have:¬(u::e::b).toArray.size=1:=d5
  rw[dif_neg this];exact .tu _ a.1 a.2
 |[],u::b,a=>have:=a.1;simp at this
 |[c],[],a=>have:=a.1;simp at this
 |[c],u::e::b,a=>have:=a.1;simp at this
 |c::d::y,[],a=>have:=a.1;simp at this
 |c::d::y,[u],a=>have:=a.1;simp at this
def Kr{a:ey}{us:bI}(h:(s.results.toList.mapM (mS a)).run P b=.ok us b):(results s a).run P b=.ok (if h:us.toArray.size=1 then us.toArray[0]else .tuple us.toArray) b:=by
 have c:(s.results.mapM (mS a)).run P b=.ok us.toArray b:=by
  rw[az_];simp only[ay3,h];rfl
 rw[zL];simp only[awi,c,awk,awm]
def W2{α:Type}:∀(l:Do α) (i:Nat),atL l i=l[i]?
 |[],i=>by cases i<;>rfl
 |x::l,0=>rfl
 |x::l,i+1=>by
  show atL l i=l[i]?;exact W2 l i
structure EOk(P:Program)(w0:World)(E:Uy):Prop where
 fs:P.funcs.toList=E.fs
 may:∀f,Nat.testBit E.may f=true->Enters P f
 idle:ln (Ke P w0) λf=>Nat.testBit E.idle f
def UE{E:Uy}{C:KC R}(hm:P.follows .mixedOrders=true)(G:hS P T)(F:∀b o u,GT b o u->w0.cell? ⟨b,o,none⟩=some u)(q:EOk P w0 E)(M:h_ P w0 C):h_ P w0 (Uz (R:=R) T E a C):=by
 intro f cs h n k r S;obtain⟨a0,U⟩:=bj S;obtain⟨p,H,V⟩:=bG U;obtain⟨c,L,W⟩:=bG V;obtain⟨t,X,bc,fj⟩:=abD W;obtain⟨x,t',j,l,s,N⟩:=UD hm G F q.idle M c X;have Q:P.funcs[f]? =some p:=by
  rw[W2,<-q.fs]at H;simpa using H
 have A:(x=.normal\/x=.ret)/\(apH T j t' p.results.toList λm=>k (ad2 m) j l)=some r:=by
  cases x with
  |normal=>exact⟨.inl rfl,s⟩
  |ret=>exact⟨.inr rfl,s⟩
  |_=>cases s
 obtain⟨A,Y⟩:=A;obtain⟨m,a1,Z⟩:=Pp G F Y;refine⟨ad2 m,j,l,⟨q.may f a0,λρ w vs hs z=>aAn Q L (N ρ _ w _ (amg z bc fj) hs λg i B a3 y ⟨D,J,O⟩=>?_)⟩,Z⟩;have K:∀d∈i.defers,Ke P w0 d:=by rw[O];simpa using J
 have:Leaves P p i.tmps (λe B=>∃v g,e=.returned v/\KP P w0 ρ h.get n w g j.get l B/\KR g (ad2 m) v) i.defers .returning B:=by
  refine xo _ _ y.hr.ext K λa5 a4=>?_;have I:=KP.later y.hr a4;obtain⟨us,a2,z⟩:=a1 g i a5 l a3 I.hr;exact⟨_,Kr a2,_,g,rfl,y.trans I,amh z⟩
 rcases A with rfl|rfl<;>exact this
end
end
variable{e:Nat->cn}
section
open Go Go.RowKit MapKept
section
variable{P:Fd}{Dk:Deferred->Prop}{w0:GE}{T:EQ->bz}{R:Type}{r:R}
inductive qV(m:Nat->cn):CV->CV->Prop
 |v {x}:qV m (.v x) (.v x)
 |pt {k o k'} (h:m k=some k'):qV m (.pt k o) (.pt k' o)
 |sl {k o n c k'} (h:m k=some k'):qV m (.sl k o n c) (.sl k' o n c)
 |gl {g o}:qV m (.gl g o) (.gl g o)
 |ag {cs} (ds:List CV) (hl:ds.length=cs.length) (hc:∀(j:Nat) c d,cs[j]? =some c->ds[j]? =some d->qV m c d):qV m (.ag cs) (.ag ds)
 |tu {cs} (ds:List CV) (hl:ds.length=cs.length) (hc:∀(j:Nat) c d,cs[j]? =some c->ds[j]? =some d->qV m c d):qV m (.tu cs) (.tu ds)
 |cl {fn fs cs} (es ds:List CV) (hl:es.length=fs.length) (hl2:ds.length=cs.length) (hc:∀(j:Nat) c d,fs[j]? =some c->es[j]? =some d->qV m c d)
  (hc2:∀(j:Nat) c d,cs[j]? =some c->ds[j]? =some d->qV m c d):qV m (.cl fn fs cs) (.cl fn es ds)
def MLe(m a:Nat->cn):Prop:=∀j i,m j=some i->a j=some i
def qV.mono{m j:Nat->cn}(i:MLe m j){c d:CV}(h:qV m c d):qV j c d:=by
 induction h with
 |v=>exact .v
 |pt h=>exact .pt (i _ _ h)
 |sl h=>exact .sl (i _ _ h)
 |gl=>exact .gl
 |ag a b g e=>exact .ag a b e
 |tu a b g e=>exact .tu a b e
 |cl k a b l g o e n=>exact .cl k a b l e n
def qV.one{c d:CV}(h:qV e c d):d.one=c.one:=by cases h<;>rfl
def qV.kr{ρ y:Nm}(x:∀j i,e j=some i->∀p,ρ j=some p->y i=some p){c d:CV}(h:qV e c d):∀{u:Id},KR ρ c u->KR y d u:=by
 induction h with
 |v=>intro u a;cases a;exact .v
 |pt h=>intro u a;cases a with|pt q=>exact .pt (x _ _ h _ q)
 |sl h=>intro u a;cases a with|sl q E z A B=>exact .sl (x _ _ h _ q) E z A B
 |gl=>intro u a;cases a;exact .gl
 |ag s k t n=>
  intro u a;cases a with
  |ag o m l=>
   refine .ag o (m.trans k.symm) λj d u g a=>?_;have b:=(av7.1 g).1;rw[k]at b;exact n j _ d (awf b) g (l j _ u (awf b) a)
 |tu s k t n=>
  intro u a;cases a with
  |tu o m l=>
   refine .tu o (m.trans k.symm) λj d u g a=>?_;have b:=(av7.1 g).1;rw[k]at b;exact n j _ d (awf b) g (l j _ u (awf b) a)
 |cl H s k w t I n F=>
  intro u a;cases a with
  |cl o G m D l C=>
   refine .cl o G (m.trans k.symm) (D.trans w.symm) (λj d u g a=>?_) (λj d u g a=>?_)
   .have b:=(av7.1 g).1
    rw[k]at b;exact n j _ d (awf b) g (l j _ u (awf b) a)
   .have b:=(av7.1 g).1
    rw[w]at b;exact F j _ d (awf b) g (C j _ u (awf b) a)
def Pq(m:Nat->cn)(t b:Tr CV):Prop:=∀q a,b.get q=some a->∃c,t.get q=some c/\qV m c a
def Pq.mono{m a:Nat->cn}(j:MLe m a){t b:Tr CV}(h:Pq m t b):Pq a t b:=λq c i=>let⟨d,e,g⟩:=h q c i;⟨d,e,g.mono j⟩
structure Sn(src:Tr di)(fz:Bool)(d0:Tr di)(n0:Nat)(m0 b0:Tr Nat)(d:Tr di)(n:Nat)(m b:Tr Nat):Prop where
 le:n0<=n
 ml:MLe m0.get m.get
 nw:∀j i,m.get j=some i->m0.get j=some i\/(n0<=i/\i<n/\m0.get j=none/\b.get i=some j/\∃cs N e wr cs',src.get j=some (.ce cs N e wr)/\d.get i=some (.ce cs' N e (bB fz false wr))/\Pq m.get cs cs')
 bn:∀i,n0<=i->i<n->∃j,b.get i=some j/\m.get j=some i/\m0.get j=none
 bo:∀i,¬(n0<=i/\i<n)->b.get i=b0.get i
 dd:∀i,¬(n0<=i/\i<n)->d.get i=d0.get i
section
variable{src:Tr di}{fz:In}{d0:Tr di}{n0:Nat}{m0 b0:Tr Nat}
def Sn.refl:Sn src fz d0 n0 m0 b0 d0 n0 m0 b0:=⟨av5 _,λ_ _ h=>h,λ_ _ h=>.inl h,λi a b=>by omega,λ_ _=>rfl,λ_ _=>rfl⟩
def ami(src:Tr di)(fz:In)(d0:Tr di)(n0:Nat)(m0 b0:Tr Nat)(f:CV->Tr di->Nat->Tr Nat->Tr Nat->WW R CV->At R):Prop:=
 ∀c d n m b k (r:R),Sn src fz d0 n0 m0 b0 d n m b->f c d n m b k=some r->∃g h i a e,Sn src fz d0 n0 m0 b0 h i a e/\MLe m.get a.get/\qV a.get c g/\k g h i a e=some r
variable{f:CV->Tr di->Nat->Tr Nat->Tr Nat->WW R CV->At R}
def EU(v:ami src fz d0 n0 m0 b0 f):∀{l:Do CV} {d n m b} {k:WW R (Do CV)} {r:R},Sn src fz d0 n0 m0 b0 d n m b->snL f l d n m b k=some r->
 ∃a u z g t,Sn src fz d0 n0 m0 b0 u z g t/\MLe m.get g.get/\(a.length=l.length/\∀(j:Nat) c e,l[j]? =some c->a[j]? =some e->qV g.get c e)/\k a u z g t=some r
 |[],d,n,m,b,k,r,p,o=>⟨[],d,n,m,b,p,λ_ _ h=>h,⟨rfl,d5⟩,o⟩
 |c::l,d,n,m,b,k,r,p,o=>by
  obtain⟨e,N,Q,O,M,E,I,L,G⟩:=v _ _ _ _ _ _ _ p o;obtain⟨a,B,K,J,A,F,w,⟨C,D⟩,H⟩:=EU v (l:=l) E G;refine⟨e::a,B,K,J,A,F,λj i h=>w _ _ (I _ _ h),⟨by simp[C],λj x y q s=>?_⟩,H⟩;cases j with
  |zero=>simp at q s;subst q;subst s;exact L.mono w
  |succ j=>exact D j x y (by simpa using q) (by simpa using s)
def Pr(o:ami src fz d0 n0 m0 b0 f):∀{t:Tr CV} {d n m b} {k:WW R (Tr CV)} {r:R},Sn src fz d0 n0 m0 b0 d n m b->snT f t d n m b k=some r->
 ∃U I O p H,Sn src fz d0 n0 m0 b0 I O p H/\MLe m.get p.get/\Pq p.get t U/\k U I O p H=some r
 |.lf,d,n,m,b,k,r,B,A=>⟨.lf,d,n,m,b,B,λ_ _ h=>h,λq c h=>(by cases h),A⟩
 |.nd l x S,d,n,m,b,k,r,B,A=>by
  obtain⟨N,d1,n1,m1,Y,L,J,Q,M⟩:=Pr o (t:=l) B A;cases x with
  |none=>
   obtain⟨F,u,E,D,s,z,e,G,C⟩:=Pr o (t:=S) L M;refine⟨.nd N none F,u,E,D,s,z,λj i h=>e _ _ (J _ _ h),λq c h=>?_,C⟩;rw[Tr.jM]at h⊢;by_cases g:q=0
   .rw[av3 g]at h;cases h
   .rw[av2 g]at h⊢
    by_cases a:q % 2=1
    .rw[av3 a]at h⊢;obtain⟨y,v,w⟩:=Q _ c h;exact⟨y,v,w.mono e⟩
    .rw[av2 a]at h⊢;exact G _ c h
  |some x=>
   obtain⟨X,d3,n3,m3,Z,a,K,W,V⟩:=o _ _ _ _ _ _ _ L M;obtain⟨F,u,E,D,s,z,e,G,C⟩:=Pr o (t:=S) a V;refine⟨.nd N (some X) F,u,E,D,s,z,λj i h=>e _ _ (K _ _ (J _ _ h)),λq c h=>?_,C⟩;rw[Tr.jM]at h⊢;by_cases g:q=0
   .rw[av3 g]at h⊢;cases h;exact⟨x,rfl,W.mono e⟩
   .rw[av2 g]at h⊢
    by_cases a:q % 2=1
    .rw[av3 a]at h⊢;obtain⟨y,v,w⟩:=Q _ c h;exact⟨y,v,w.mono λj i h=>e _ _ (K _ _ h)⟩
    .rw[av2 a]at h⊢;exact G _ c h
def abE(hf:ami src fz d0 n0 m0 b0 f){d n m b}{k:WW R Nat}{r:R}(I:Sn src fz d0 n0 m0 b0 d n m b)(q:amb src fz f a d n m b k=some r):
 ∃i D L u C,Sn src fz d0 n0 m0 b0 D L u C/\MLe m.get u.get/\u.get a=some i/\k i D L u C=some r:=by
 unfold amb at q;cases A:m.get a with
 |some i=>rw[A]at q;exact⟨i,d,n,m,b,I,λ_ _ h=>h,A,q⟩
 |none=>
  rw[A]at q;obtain⟨Q,N,e,wr,a5,a0⟩:=EO q;obtain⟨S,d1,B,J,b1,l,l1,r1,a1⟩:=Pr hf I a0;obtain⟨t,a2⟩:=bj a1;have t:J.get a=none:=by simpa using t
  obtain⟨W,a3,y⟩:=Tr.qS a2;obtain⟨K,a4,s⟩:=Tr.qS a3;obtain⟨O,G,p⟩:=Tr.qS a4;rw[fY]at G;have a7:=l.le;have o:MLe J.get K.get:=λj c x=>by
   rw[s,av2]
   .exact x
   .intro e;subst e;rw[t]at x;cases x
  have H:m0.get a=none:=by
   cases h:m0.get a with
   |none=>rfl
   |some i=>have:=l.ml _ _ h;rw[t]at this;cases this
  refine⟨B,W,B+1,K,O,⟨bv,λj c h=>o _ _ (l.ml _ _ h),λj c h=>?_,λi z a6=>?_,λi z=>?_,λi z=>?_⟩,λj c h=>o _ _ (l1 _ _ h),by rw[s,av3 rfl],G⟩
  .rw[s]at h
   by_cases F:j=a
   .subst F
    rw[av3 rfl]at h;cases h;exact .inr ⟨bv,bv,H,by rw[p,av3 rfl],Q,N,e,wr,S,a5,by rw[y,av3 rfl],r1.mono o⟩
   .rw[av2 F]at h
    rcases l.nw j c h with g|⟨v,E,w,Y,U,M,X,wr2,V,Z,g6,g7⟩
    .exact .inl g
    .exact .inr ⟨v,bv,w,by rw[p,av2 bv];exact Y,U,M,X,wr2,V,Z,by rw[y,av2 bv];exact g6,g7.mono o⟩
  .by_cases fj:i=B
   .subst fj
    exact⟨a,by rw[p,av3 rfl],by rw[s,av3 rfl],H⟩
   .obtain⟨j,v,E,w⟩:=l.bn i z bv
    exact⟨j,by rw[p,av2 fj];exact v,o _ _ E,w⟩
  .rw[p,av2 bv];exact l.bo i bv
  .rw[y,av2 bv];exact l.dd i bv
def W3:∀N,ami src fz d0 n0 m0 b0 (snC (R:=R) src fz N)
 |0=>λc d n m b k r w e=>by cases e
 |N+1=>λc d n m b k r w e=>by
  have B:=W3 N;cases c with
  |v x=>
   have:k (.v x) d n m b=some r:=by
    cases x with
    |int F z=>rw[<-e];show k (.v (.int F z)) d n m b=kI z λz=>k (.v (.int F z)) d n m b;rw[Dy]
    |_=>exact e
   exact⟨_,d,n,m,b,w,λ_ _ h=>h,.v,this⟩
  |gl g o=>exact⟨_,d,n,m,b,w,λ_ _ h=>h,.gl,e⟩
  |pt j o=>
   obtain⟨i,u,A,y,t,p,s,l,a⟩:=abE B w e;rw[fY]at a;exact⟨_,u,A,y,t,p,s,.pt l,a⟩
  |sl j o q c=>
   obtain⟨i,u,A,y,t,p,s,l,a⟩:=abE B w e;rw[fY,fY]at a;refine⟨.sl i o q c,u,A,y,t,p,s,.sl l,?_⟩;cases c with
   |none=>exact a
   |some c=>simp only[fY]at a;exact a
  |ag E=>
   obtain⟨D,u,A,y,t,p,s,⟨l,C⟩,a⟩:=EU B w e;exact⟨_,u,A,y,t,p,s,.ag D l C,a⟩
  |tu E=>
   obtain⟨D,u,A,y,t,p,s,⟨l,C⟩,a⟩:=EU B w e;exact⟨_,u,A,y,t,p,s,.tu D l C,a⟩
  |cl W X E=>
   obtain⟨D,u,A,y,t,p,s,⟨l,C⟩,a⟩:=EU B w e;obtain⟨S,I,V,U,H,L,G,⟨J,K⟩,Q⟩:=EU B p a;exact⟨_,I,V,U,H,L,λ_ _ h=>G _ _ (s _ _ h),.cl D S l J (λj c d M O=>(C j c d M O).mono G) K,Q⟩
  |mp j=>cases e
end
end
end
section
open Go Go.RowKit MapKept
section
variable{P:Fd}{Dk:Deferred->Prop}{w0:GE}{T:EQ->bz}{R:Type}{r:R}
def BR.asT{m:Nat->cn}{ρ ρ':Nm}(B:∀j i,m j=some i->∀p,ρ j=some p->ρ' i=some p){w w':GE}{b k:Nat}{d f:Tr CV}{e:cn}{wr F:In}(h:BR P ρ w b k (.ce d a e wr))(A:Pq m d f)(D:w'.heap[b]? =w.heap[b]?):BR P ρ' w' b k (.ce f a e F):=by
 obtain⟨t,E,q,h2,h3,s⟩:=h;refine⟨t,E,by rw[D];exact q,h2,λj c v=>?_,s⟩;obtain⟨l,o,g⟩:=A j c v;obtain⟨y,u,C,x,z⟩:=h3 j l o;exact⟨y,u,C,g.kr B x,by rw[g.one];exact z⟩
def Ps(bk:Tr Nat)(ρ:Nm):Nm:=λi=>(bk.get i).bind ρ
section
variable{h hs h2 h3:Tr di}{n m n2 n3:Nat}{mp bk m3 b3:Tr Nat}{ρ ρ':Nm}{w w':GE}
def Sn.fwd(q:Sn h true .lf 0 .lf .lf hs m mp bk)(u:HR P w0 ρ h.get n w):HR P w0 (Ps bk ρ) hs.get m w/\(∀j i,mp.get j=some i->∀p,ρ j=some p->Ps bk ρ i=some p)/\∀i x,hs.get i=some x->x.wr=false:=by
 have y:∀j i,mp.get j=some i->i<m/\bk.get i=some j/\∃c N e wr d,h.get j=some (.ce c N e wr)/\hs.get i=some (.ce d N e false)/\Pq mp.get c d:=λj i t=>by
  rcases q.nw j i t with g|⟨_,f,_,o,D⟩
  .cases g
  .exact⟨f,o,D⟩
 have z:∀j i,mp.get j=some i->∀p,ρ j=some p->Ps bk ρ i=some p:=λj i t p E=>by
  unfold Ps;rw[(y j i t).2.1];exact E
 have G:∀i x,hs.get i=some x->i<m:=λi x a=>by
  by_cases s:i<m
  .exact s
  .rw[q.dd i bv]at a;cases a
 have one:∀i x,hs.get i=some x->∃j c N e wr d,bk.get i=some j/\h.get j=some (.ce c N e wr)/\x=.ce d N e false/\Pq mp.get c d:=λi x a=>by
  obtain⟨j,l,f,_⟩:=q.bn i (awy _) (G i x a);obtain⟨_,_,c,N,e,wr,d,A,B,C⟩:=y j i f;rw[B]at a;cases a;exact⟨j,c,N,e,wr,d,l,A,rfl,C⟩
 refine⟨⟨u.ext,λi x b v a k=>?_,λi x b v a k=>?_,λi J x M b K L a I k H F=>?_,λi s=>?_,λi s=>?_⟩,z,λi x a=>?_⟩
 .obtain⟨j,c,N,e,wr,d,l,f,rfl,o⟩:=one i x a
  unfold Ps at k;rw[l]at k;exact(u.ob j _ b v f k).asT z o rfl
 .obtain⟨j,c,N,e,wr,d,l,f,rfl,o⟩:=one i x a
  unfold Ps at k;rw[l]at k;exact u.lo j _ b v f k
 .obtain⟨j,c,N,e,wr,d,l,f,rfl,o⟩:=one i x a
  cases F
 .unfold Ps
  rw[q.bo i bv];rfl
 .rw[q.dd i bv];rfl
 .obtain⟨j,c,N,e,wr,d,l,f,rfl,o⟩:=one i x a
  rfl
def Sn.bwd(K:Sn h true .lf 0 .lf .lf hs m mp bk)(s:HR P w0 ρ h.get n w)(B:KP P w0 (Ps bk ρ) hs.get m w ρ' h2.get n2 w')(E:Sn h2 false h n bk .lf h3 n3 m3 b3):
 ∃o,KP P w0 ρ h.get n w o h3.get n3 w'/\∀j i,m3.get j=some i->∀p,ρ' j=some p->o i=some p:=by
 obtain⟨hf,aa,a3⟩:=K.fwd s;have a1:∀b,ai_ (Ps bk ρ) hs.get b:=λb k x l c O=>by rw[a3 k x c]at O;cases O
 have ca:∀b,b<w.heap.size->w'.heap[b]? =w.heap[b]? :=λb y=>(B.fr b y (a1 b)).1;have a0:∀j i,bk.get j=some i->j<m/\i<n:=λj i L=>by
  have V:j<m:=by
   by_cases d:j<m
   .exact d
   .rw[K.bo j bv]at L;cases L
  obtain⟨i',q,f,_⟩:=K.bn j (awy _) V;obtain rfl:=av_ (q.symm.trans L);rcases K.nw i' j f with g|⟨_,_,_,_,t,N,e,wr,u,F,_⟩
  .cases g
  .exact⟨V,s.lth F⟩
 have a6:=E.le;obtain⟨o,hρ⟩:∃o:Nm,o=λk=>if k<n then ρ k else Ps b3 ρ' k:=⟨_,rfl⟩
 have A:∀{k},k<n->o k=ρ k:=λ{k} a=>by rw[hρ];exact av3 a
 have G:∀{k},n<=k->o k=Ps b3 ρ' k:=λ{k} a=>by rw[hρ];exact av2 bv
 have le:EN ρ o:=λk p a=>by rw[A (s.lt a)];exact a
 have D:∀{k},k<n->h3.get k=h.get k:=λ{k} a=>E.dd k bv;have tr:∀j i,m3.get j=some i->∀p,ρ' j=some p->o i=some p:=λj i L p M=>by
  rcases E.nw j i L with g|⟨q,f,C,v,_⟩
  .obtain⟨F,S⟩:=a0 j i g
   rw[B.ro j F]at M;unfold Ps at M;rw[g]at M;rw[A S];exact M
  .rw[G q]
   unfold Ps;rw[v];exact M
 have Q:∀k x,n<=k->h3.get k=some x->∃j t N e wr u,m<=j/\b3.get k=some j/\m3.get j=some k/\h2.get j=some (.ce t N e wr)/\x=.ce u N e wr/\Pq m3.get t u:=λk x a c=>by
  have a4:k<n3:=by
   by_cases d:k<n3
   .exact d
   .rw[E.dd k bv,s.HH k a]at c;cases c
  obtain⟨j,q,f,C⟩:=E.bn k a a4;have V:m<=j:=by
   by_cases d:j<m
   .obtain⟨i',F,_⟩:=K.bn j (awy _) d
    rw[F]at C;cases C
   .omega
  rcases E.nw j k f with g|⟨_,_,_,_,t,N,e,wr,u,F,S,e3⟩
  .have:=(a0 j k g).2;omega
  .rw[S]at c
   cases c;exact⟨j,t,N,e,wr,u,V,q,f,F,by cases wr<;>rfl,e3⟩
 have Z:∀k x b l,n<=k->h3.get k=some x->o k=some (b,l)->¬b<w.heap.size:=λk x b l a c y a5=>by
  obtain⟨j,t,N,e,wr,u,q,f,C,v,rfl,U⟩:=Q k x a c;rw[G a]at y;unfold Ps at y;rw[f]at y;exact(B.fr b a5 (a1 b)).2 j _ l q v y
 refine⟨o,⟨⟨B.hr.ext,λk x b l c a=>?_,λk x b l c a=>?_,λk I x Y b W X c H a z O=>?_,λk a=>?_,λk a=>?_⟩,a6,λk a=>A a,B.sz,λb y a9=>⟨ca b y,λk x l a c a2=>Z k x b l a c a2 y⟩,λk x a c=>⟨x,by rw[<-D a];exact c,rfl⟩,λk x a c _=>by rw[D a];exact c⟩,tr⟩
 .by_cases d:k<n
  .rw[A d]at a
   rw[D d]at c;have:=s.ob k x b l c a;exact this.mono le (ca b this.lt)
  .obtain⟨j,t,N,e,wr,u,q,f,C,v,rfl,U⟩:=Q k x bv c
   rw[G bv]at a;unfold Ps at a;rw[f]at a;exact(B.hr.ob j _ b l v a).asT tr U rfl
 .by_cases d:k<n
  .rw[A d]at a
   rw[D d]at c;exact s.lo k x b l c a
  .obtain⟨j,t,N,e,wr,u,q,f,C,v,rfl,U⟩:=Q k x bv c
   rw[G bv]at a;unfold Ps at a;rw[f]at a;exact B.hr.lo j _ b l v a
 .by_cases d:k<n
  .by_cases J:I<n
   .rw[A d]at a
    rw[D d]at c;rw[A J]at z;rw[D J]at H;exact s.inj k I x Y b W X c H a z O
   .rw[A d]at a
    rw[D d]at c;exact absurd (s.ob k x b W c a).lt (Z I Y b X bv H z)
  .by_cases J:I<n
   .rw[A J]at z
    rw[D J]at H;exact absurd (s.ob I Y b X H z).lt (Z k x b W bv c a)
   .obtain⟨j,t,N,e,wr,u,q,f,C,v,rfl,U⟩:=Q k x bv c
    obtain⟨j',a7,N2,S,wr2,a8,f1,f2,f3,f4,rfl,f6⟩:=Q I Y bv H;rw[G bv]at a z;unfold Ps at a z;rw[f]at a;rw[f2]at z;have:=B.hr.inj j j' _ _ b W X v f4 a z O;subst this;exact av_ (C.symm.trans f3)
 .rw[G bv]
  unfold Ps;rw[E.bo k bv];rfl
 .rw[E.dd k bv]
  exact s.HH k bv
end
def MOk(P:Fd)(w0:GE)(M:Mem):Prop:=∀f a h n r b c,M f a h n=some (r,b,c)->FC P w0 f a h n r b c
def amj{M:Mem}{l:KC (CV×Tr di×Nat)}(D:MOk P w0 M)(E:h_ P w0 l):h_ P w0 (apI (R:=R) M l):=by
 intro f Y h n k r I;obtain⟨a,hs,m,mp,bk,o,_,⟨t,S⟩,K⟩:=EU (W3 64) Sn.refl I;obtain⟨p,d,L⟩:=bG K;obtain⟨A,h3,n3,m3,b3,C,_,F,N⟩:=W3 (src:=p.2.1) (fz:=false) (d0:=h) (n0:=n) (m0:=bk) (b0:=.lf) 64 _ _ _ _ _ _ _ Sn.refl L;have b:FC P w0 f a hs m p.1 p.2.1 p.2.2:=by
  cases g:M f a hs m with
  |some q=>
   rw[g]at d;cases d;exact D f a hs m p.1 p.2.1 p.2.2 g
  |none=>
   rw[g]at d;obtain⟨c,Z,n',b,J⟩:=E _ _ _ _ _ _ d;cases J;exact b
 refine⟨A,h3,n3,⟨b.1,λρ w z y x=>?_⟩,N⟩;obtain⟨H,U,_⟩:=o.fwd y;have Q:LR (KR (Ps bk ρ)) a z:=⟨x.1.trans t.symm,λj c u s V=>by
  have i:=(av7.1 s).1;rw[t]at i;exact(S j _ c (awf i) s).kr U (x.2 j _ u (awf i) V)⟩
 refine(b.2 _ w z H Q).mono λe w' ⟨v,ρ',G,O,W⟩=>?_;obtain⟨X,B,h2⟩:=o.bwd y O C;exact⟨v,X,G,B,F.kr h2 W⟩
def xp{E:Uy}{M:Mem}(e:P.follows .mixedOrders=true)(d:hS P T)(c:∀b o u,GT b o u->w0.cell? ⟨b,o,none⟩=some u)(a:EOk P w0 E)(i:MOk P w0 M):∀(N:Nat) {R:Type},h_ P w0 (im T E M N (R:=R))
 |0,R=>λf g h n k r j=>by cases j
 |N+1,R=>λf g h n k r j=>by
  rcases dR (show bB (Nat.testBit E.pic f) (apI M (Uz T E N (im T E M N)) f g h n k) (Uz T E N (im T E M N) f g h n k)=some r from j)with⟨_,l⟩|⟨_,l⟩
  .exact amj i (UE e d c a (xp e d c a i N)) _ _ _ _ _ _ l
  .exact UE e d c a (xp e d c a i N) _ _ _ _ _ _ l
end
end
variable{C:FuncId}
section
open Go Go.RowKit MapKept
section
variable{P:Fd}{Dk:Deferred->Prop}{w0:GE}{T:EQ->bz}{R:Type}{r:R}
def Tr.ofF{α:Type}:Nat->(Nat->α)->Nat->Tr α:=Nat.rec (motive:=λ_=>(Nat->α)->Nat->Tr α) (λ_ _=>.lf)
 (λ_ a u n=>bB (Nat.beq n 0) .lf (.nd (a (λp=>u (Nat.succ (Nat.mul 2 p))) (Nat.div n 2)) (some (u 0)) (a (λp=>u (Nat.succ (Nat.succ (Nat.mul 2 p)))) (Nat.div (Nat.sub n 1) 2))))
def Tr.Pt{α:Type}:∀{N n i:Nat} {u:Nat->α} {x:α},(Tr.ofF N u n).get i=some x->x=u i/\i<n
 |0,n,i,u,x,h=>by cases h
 |N+1,n,i,u,x,h=>by
  change(bB (Nat.beq n 0) Tr.lf (Tr.nd (Tr.ofF N (λp=>u (2*p+1)) (n/2)) (some (u 0)) (Tr.ofF N (λp=>u (2*p+2)) ((n - 1)/2)))).get i=_ at h;cases a:Nat.beq n 0 with
  |true=>rw[a]at h;cases h
  |false=>
   rw[a]at h;have f:=ks a;change(Tr.nd _ _ _).get i=_ at h;rw[Tr.jM]at h;split at h
   next b=>cases h;subst b;exact⟨rfl,bv⟩
   .split at h
    next d=>obtain⟨e,c⟩:=Tr.Pt h;exact⟨by rw[e];exact awh u bv,bv⟩
    .obtain⟨e,c⟩:=Tr.Pt h
     exact⟨by rw[e];exact awh u bv,bv⟩
def abF{x:FuncId->In}{y:KC R}(C:hS P T)(A:∀b o u,GT b o u->w0.cell? ⟨b,o,none⟩=some u)(B:ln Dk x)(D:h_ P w0 y){ops:bq}{k:KK R}:∀(l:bq) (i:Nat) {t:Tr CV} {h:Tr di} {n:Nat},ops.drop i=l->ad1 T x y ops l k t h n=some r->
 ∃G z F,k G z F=some r/\∀ρ a f w Q,o8 ρ t a->HR P w0 ρ h.get n w->(∀g c d,o8 g G c->KP P w0 ρ h.get n w g z.get F d->Df Dk a c->Q .normal c f d)->wpOpsS P ops.toArray Q (List.range' i l.length) a f w
 |[],i,t,h,n,j,m=>⟨t,h,n,m,λρ a f w Q s q p=>p ρ a w s (.refl q) (Df.refl a)⟩
 |o::l,i,t,h,n,j,m=>by
  obtain⟨t1,h1,n1,W,M⟩:=Ko C A B D m;have J:ops.drop (i+1)=l:=by rw[<-ayb,j];rfl
  have S:ops[i]? =some o:=by
   have:=awh (·[0]?) j;simpa using this
  obtain⟨t2,I,Z,N,V⟩:=abF C A B D l (i+1) J M;refine⟨t2,I,Z,N,λρ a f w Q s q p=>?_⟩;rw[aws,azD];unfold wpOpsS;have U:ops.toArray[i]? =some o:=by simpa using S
  simp only[U];have:=W.wp (P:=P) s q (next:=λc d=>wpOpsS P ops.toArray Q (List.range' (i+1) l.length) c f d) (Q:=λe c d=>Q e c f d) λg c d X E K=>V g c f d Q X E.hr λa1 H a0 Y O L=>p a1 H a0 Y (E.trans O) (K.trans L);split
  next v=>
   rw[av3 v]at this;unfold Oper.wp at this;split
   next d e=>rw[e]at this;exact this.elim
   .exact this
  next v=>rw[av2 v]at this;exact this
def ajD(w:GE):HR P w (λ_=>none) (Tr.lf:Tr di).get 0 w:=
 ⟨Ext.refl w,λk x b m h _=>(by cases h),λk x b m h _=>(by cases h),λk a x d b m c h _ _ _ _=>(by cases h),λ_ _=>rfl,λ_ _=>rfl⟩
def UF(hm:P.follows .mixedOrders=true)(I:hS P T)(S:∀b o u,GT b o u->w0.cell? ⟨b,o,none⟩=some u){p:KC Nat}{N:Nat}(f:∀w,Ext w0 w->h_ P w p)
 {ts:jP} {id:Nat} {B:yy} {o:Oper} {l:bq} {d:Tmp} {k:Code} (he:Enters P C) (hf:P.funcs[C]? =some s) (V:s.body=some (.seq (.region id B false) k)) (a8:B.toList=o::l) (ho:o.op=.call ⟨.builtin .recover, #[],ts⟩) (hg:o.guard=none) (X:o.dst=some d) (ad:s.results.toList=[])
 (ae:∀u:Nat->Id,(Tr.put (.v .nilIface) (Tr.ofF 64 (λi=>.v (u i)) s.ntmps) d λt=>ad1 T (λ_=>false) p (o::l) l (Ux T (λ_=>false) p N k (λ_ _ _=>some 0) (λ_ _ _ _=>none) (λ_ _ _=>some 0)) t .lf 0)=some 0):
 ∀cap,Ke P w0 {target:=.fn (.func C) cap,args:= #[]}:=by
 intro cap;refine⟨.func C,cap,C, #[]++cap,rfl,λw z=>⟨hX he _ w,?_⟩⟩;have H:∀b o u,GT b o u->w.cell? ⟨b,o,none⟩=some u:=λb o u h=>z.cell (S b o u h);refine callsD_of_wpS hf V λg j m=>?_;obtain⟨a,q⟩:∃a:Act,a={tmps:=(#[]++cap)++Array.replicate (s.ntmps - (#[]++cap).size) undef,defers:=[]}:=⟨_,rfl⟩;rw[<-q];obtain⟨t,a4,⟨x0,ak⟩,U⟩:=Tr.oM (ae λi=>a.tmps.getD i undef);have G:ln (λ_=>False) (λ_=>false):=λC h=>by cases h
 obtain⟨t1,h1,n1,a5,ac⟩:=abF (Dk:=λ_=>False) (w0:=w) I H G (f w z) (ops:=o::l) l 1 rfl a4;obtain⟨x,t2,h2,n2,a6,W⟩:=UD (Dk:=λ_=>False) (w0:=w) hm I H G (f w z) k a5;have A:x=.normal\/x=.ret:=by
  cases x with
  |normal=>exact .inl rfl
  |ret=>exact .inr rfl
  |_=>cases a6
 have af:s.ntmps<=a.tmps.size:=by rw[q];simp;omega
 have ai:o8 (λ_=>none) (Tr.ofF 64 (λi=>CV.v (a.tmps.getD i undef)) s.ntmps) a:=λi c f=>by
  obtain⟨rfl,y⟩:=Tr.Pt f;have J:i<a.tmps.size:=bv
  refine⟨a.tmps[i],awU J,?_⟩;rw[axm,awU J];exact .v
 have ah:o8 (λ_=>none) t (a.put o.dst .nilIface):=by
  rw[X];intro i c f;rw[U]at f;have Z:d<a.tmps.size:=by
   have a7:=(Tr.Pt ak).2;exact ax9 a7 af
  by_cases y:i=d
  .subst y
   rw[av3 rfl]at f;cases f;exact⟨.nilIface,by simp[Act.put,Z],.v⟩
  .rw[av2 y]at f
   obtain⟨u,m,hk⟩:=ai i c f;exact⟨u,by simp only[Act.put];rw[azj bv];exact m,hk⟩
 refine wpS_seq (wpS_region ?_);have a9:B=(o::l).toArray:=by rw[<-a8]
 rw[a9,show List.range (o::l).toArray.size=0::List.range' 1 l.length by rw[aAt];simp[azD]];have ab:recoverD (g::j)=none:=by
  unfold recoverD;simp only[m]
 unfold wpOpsS;have aj:Region.wanted o (yielded (o::l).toArray a.tmps)=true:=by simp[Region.wanted,hg]
 have aa:(execOp a.eval o).run P w=.ok .recover w:=by simp[execOp,ho,resolve,invoke,builtin]
 simp only[axD,azz,aj,awG,aa,ab];refine ac (λ_=>none) _ (g::j) w _ ah (ajD w) λρ1 F L ag al M=>?_;show k.wpS P _ F (g::j) L;refine wpS_of_wp (W ρ1 F L _ ag al.hr λρ2 n E an am O=>?_);have Y:n.defers=[]:=by
  obtain⟨D,Q,e⟩:=M.trans O;have:D=[]:=azn.2 λx A=>Q x A;rw[e,this,put_defers,q];rfl
 have a3:n.defers=[]/\∃K,(g::j)={g with mode:=K}::j/\∃v,(results s n.tmps).run P E=.ok v E/\((∃v',Ending.returned v=.returned v')/\K=.returning/\Ext w E):=by
  refine⟨Y,.returning,by rw[<-m],_,Kr (us:=[]) (by rw[ad];simp),⟨_,rfl⟩,rfl,?_⟩;exact am.hr.ext
 rcases A with rfl|rfl<;>exact a3
end
end
section
open Go Go.RowKit MapKept
section
variable{P:Fd}{Dk:Deferred->Prop}{w0:GE}{T:EQ->bz}{R:Type}{r:R}
def ajE:Do CV->Do CV->In
 |[],[]=>true
 |a::l,b::m=>bB (cEq a b) (ajE l m) false
 |_,_=>false
def hEq:Tr di->Tr di->In
 |.lf,.lf=>true
 |.nd l x r,.nd b a c=>bB (hEq l b) (bB (match x,a with
  |none,none=>true
  |x,a=>ama x a) (hEq r c) false) false
 |_,_=>false
def abG:∀{l m:Do CV},ajE l m=true->l=m
 |[],[],_=>rfl
 |a::l,b::m,h=>by
  unfold ajE at h;cases c:cEq a b with
  |false=>rw[c]at h;cases h
  |true=>rw[c]at h;rw[ajz c,abG h]
 |[],_::_,h=>by cases h
 |_::_,[],h=>by cases h
def W4:∀{l m:Tr di},hEq l m=true->l=m
 |.lf,.lf,_=>rfl
 |.nd l x r,.nd g i c,h=>by
  unfold hEq at h;cases a:hEq l g with
  |false=>rw[a]at h;cases h
  |true=>
   rw[a]at h;change bB _ (hEq r c) false=true at h;have f:∀b:In,bB b (hEq r c) false=true->b=true/\hEq r c=true:=λb h=>by
    cases b with
    |false=>cases h
    |true=>exact⟨rfl,h⟩
   obtain⟨d,e⟩:=f _ h;rw[W4 a,W4 e];split at d
   .rfl
   .rw[abA d]
 |.lf,.nd _ _ _,h=>by cases h
 |.nd _ _ _,.lf,h=>by cases h
abbrev rR:=FuncId×(Do CV×Tr di×Nat)×(CV×Tr di×Nat)
def kR(L:Do rR):Mem:=λf b h n=>List.rec (motive:=λ_=>At (CV×Tr di×Nat)) none (λe _ a=>bB (Nat.beq e.1 f) (bB (Nat.beq e.2.1.2.2 n) (bB (ajE e.2.1.1 b) (bB (hEq e.2.1.2.1 h) (some e.2.2) a) a) a) a) L
def MOk.nil:MOk P w0 (kR []):=λf b h n r c d a=>by cases a
def MOk.cons{L:Do rR}{e:rR}(s:MOk P w0 (kR L))(k:FC P w0 e.1 e.2.1.1 e.2.1.2.1 e.2.1.2.2 e.2.2.1 e.2.2.2.1 e.2.2.2.2):MOk P w0 (kR (e::L)):=λf c h n r i j a=>by
 have d:∀{b:In} {x y:At (CV×Tr di×Nat)} {z},bB b x y=some z->(b=true/\x=some z)\/y=some z:=λ{b x y z} h=>by
  cases b with
  |true=>exact .inl ⟨rfl,h⟩
  |false=>exact .inr h
 have g:kR L f c h n=some (r,i,j)->FC P w0 f c h n r i j:=s f c h n r i j;change bB (Nat.beq e.1 f) (bB (Nat.beq e.2.1.2.2 n) (bB (ajE e.2.1.1 c) (bB (hEq e.2.1.2.1 h) (some e.2.2) (kR L f c h n)) (kR L f c h n)) (kR L f c h n)) (kR L f c h n)=_ at a;rcases d a with⟨m,t⟩|a
 .rcases d t with⟨o,u⟩|a
  .rcases d u with⟨p,v⟩|a
   .rcases d v with⟨q,w⟩|a
    .obtain rfl:=eL m
     obtain rfl:=eL o;obtain rfl:=abG p;obtain rfl:=W4 q;have l:=av_ w;rw[l]at k;exact k
    .exact g a
   .exact g a
  .exact g a
 .exact g a
def tQ:CV->Tr di->Nat->At (CV×Tr di×Nat):=λr h n=>some (r,h,n)
def eQ{E:Uy}{M:Mem}(l:P.follows .mixedOrders=true)(g:hS P T)(e:∀b o u,GT b o u->w0.cell? ⟨b,o,none⟩=some u)(d:EOk P w0 E)(f:MOk P w0 M){p:CV×Tr di×Nat}(j:im T E M a C y B h tQ=some p):FC P w0 C y B h p.1 p.2.1 p.2.2:=by
 obtain⟨c,m,n,i,k⟩:=xp l g e d f a C y B h tQ p j;cases k;exact i
def HJ(T:EQ->bz)(b:KC Nat)(N:Nat)(a:Func)(u:Nat->Id):cn:=match a.body with
 |some (.seq (.region _ e false) c)=>(match e.toList with
  |o::l=>(match o.op,o.guard,o.dst with
   |.call ⟨.builtin .recover,⟨[]⟩,_⟩,none,some d=>bB a.results.toList.isEmpty (Tr.put (.v .nilIface) (Tr.ofF 64 (λi=>.v (u i)) a.ntmps) d λt=>ad1 T (λ_=>false) b (o::l) l (Ux T (λ_=>false) b N c (λ_ _ _=>some 0) (λ_ _ _ _=>none) (λ_ _ _=>some 0)) t .lf 0) none
   |_,_,_=>none)
  |[]=>none)
 |_=>none
def DE(y:P.follows .mixedOrders=true)(q:hS P T)(p:∀b o u,GT b o u->w0.cell? ⟨b,o,none⟩=some u){f:KC Nat}(t:∀w,Ext w0 w->h_ P w f)
 (v:Enters P C) (x:P.funcs[C]? =some s) (e:∀u:Nat->Id,HJ T f a s u=some 0):∀n,Ke P w0 {target:=.fn (.func C) n,args:= #[]}:=by
 have c:=e λ_=>undef;unfold HJ at c e;split at c
 next id B A h=>
  split at c
  next o l m=>
   split at c
   next D d k j i=>obtain⟨z,_⟩:=bj c;refine UF (N:=a) y q p t v x h m k j i (by simpa using z) λu=>?_;have g:=e u;simp only[h,m,k,j,i]at g;exact(bj g).2
   .cases c
  .cases c
 .cases c
def ajF(b:Do Func)(m:Nat):In:=(List.range b.length).all λf=> !(Nat.testBit m f)||(match atL b f with
 |some a=> !(a.name== "runtime.NumGoroutine") && a.body.isSome
 |none=>false)
def l7(h:ajF P.funcs.toList a=true)(l:a<2^P.funcs.toList.length):∀f,Nat.testBit a f=true->Enters P f:=by
 intro f d;have j:f<P.funcs.toList.length:=by
  by_cases e:f<P.funcs.toList.length
  .exact e
  .rw[aBg (ax9 l (aAF bv bv))]at d
   cases d
 have:=awt.1 h f (awE.2 j);rw[d]at this;simp only[awj,az2]at this;rw[W2]at this;split at this
 next b k=>
  simp only[av4,axi]at this;have i:P.funcs[f]? =some b:=by simpa using k
  refine⟨b,i,this.1,?_⟩;cases g:b.body with
  |none=>rw[g]at this;simp at this
  |some c=>rfl
 .cases this
def ank{b:Do Func}{a i c:Nat}(e:P.funcs.toList=b)(h:ajF P.funcs.toList a=true)(g:a<2^P.funcs.toList.length)(d:ln (Ke P w0) λf=>Nat.testBit c f):EOk P w0 ⟨b,a,i,c⟩:=⟨e,l7 h g,d⟩
end
end
abbrev vi(n:Int):CV:=.v (.int .i64 n)
abbrev vb(b:In):CV:=.v (.bool b)
abbrev vn:CV:=.v (.slice none 0 0)
noncomputable def tC(l:Do CV):Tr CV:=Tr.ofF 64 (λi=>l.getD i vn) l.length
noncomputable def tI(l:aX):Tr CV:=tC (l.map vi)
noncomputable def wFs:Do Func:=Tryz.prog.funcs.toList
def wE:Uy:=⟨wFs,35835950050637442103480394809442407162780161599026750264844144768086395094398187616342840259739104837628,441819605981264881114806418499008288495055282558147825568023608452064512,1329227995784915872903811458326855680⟩
def wE0:Uy:=⟨wFs,35835950050637442103480394809442407162780161599026750264844144768086395094398187616342840259739104837628,441819605981264881114806418499008288495055282558147825568023608452064512,0⟩
def avm:Do CV:=[(vi 8),(vi 3),(vi 2),(vi 3),(.sl 1 0 3 (some 3))]
def avw:At di:=(some (.ce (tI [0,1,1,0,2,0]) 6 none false))
def ave:Tr di:=(.nd .lf avw .lf)
def a0n:At di:=(some (.ce (tI [0,1,1,2,2,0,3,2]) 8 (some 2) false))
def a0r:Do CV:=[(.sl 2 0 4 none),(vi 13),(vi 0)]
def a0i:Tr di:=(.nd .lf (some (.ce (tI [0,1,0,2,1,2,2,3]) 8 (some 2) true)) .lf)
def Ks:rR:=(29,([(.sl 0 0 4 none),(.ag avm)],(.nd ave a0n .lf),2),((.tu a0r),(.nd ave a0n a0i),3))
def avn:At di:=(some (.ce (tI [1,0]) 2 (some 2) false))
def KN:rR:=(29,([(.sl 0 0 1 none),(.ag avm)],(.nd ave avn .lf),2),((.tu [(.sl 2 0 1 none),(vi 11),(vi 0)]),(.nd ave avn (.nd .lf (some (.ce (tI [0,1]) 2 (some 2) true)) .lf)),3))
def a0o:At di:=(some (.ce (tI [0,1,1,2,2,0,3,2]) 8 none false))
def K6:rR:=(29,([(.sl 0 0 4 (some 4)),(.ag avm)],(.nd ave a0o .lf),2),((.tu a0r),(.nd ave a0o a0i),3))
def Nb:rR:=(32,([(vi 4),(.ag [(vi 2),(vi 3),(.sl 0 0 3 (some 3))])],ave,1),((.tu [(.sl 1 0 4 none),(vi 3),(vi 0)]),(.nd (.nd .lf (some (.ce (tI [2,3,0,1]) 4 (some 1) true)) .lf) avw .lf),2))
def avf:At di:=(some (.ce (tC [(vi 0),(vi 1),(vi 0),(vb true),(vi 0),(vi 2),(vi 0),(vb true),(vi 1),(vi 2),(vi 0),(vb false),(vi 2),(vi 3),(vi 0),(vb true)]) 16 (some 4) false))
def Pu:rR:=(66,([(.ag [(vi 5),(.sl 0 0 4 none)])],(.nd .lf avf .lf),1),((vb true),(.nd .lf avf .lf),1))
def avv:Do CV:=[(vi 5),(.sl 0 0 3 none)]
def avl:Tr di:=(.nd .lf (some (.ce (tC [(vi 0),(vi 2),(vi 0),(vb true),(vi 1),(vi 2),(vi 0),(vb false),(vi 2),(vi 3),(vi 0),(vb true)]) 12 (some 4) false)) .lf)
def PI:rR:=(66,([(.ag avv)],avl,1),((vb true),avl,1))
def avh:Do CV:=[(vi 0),(vi 2),(vi 0),(vb true),(vi 1),(vi 2),(vi 0),(vb true),(vi 2),(vi 3),(vi 0),(vb true)]
def avc:At di:=(some (.ce (tC avh) 12 (some 4) false))
def a0l:Tr di:=(.nd .lf avc .lf)
def UG:rR:=(66,([(.ag avv)],a0l,1),((vb true),a0l,1))
def a0j:At di:=(some (.ce (tI [0,7,16,1,12,2,18,3,22,15]) 10 (some 1) true))
def US:rR:=(22,([(.ag avv),(vi 0)],a0l,1),((.tu [(.ag [(vi 5),(.sl 3 0 2 none)]),(vi 0)]),(.nd (.nd (.nd .lf (some (.ce (tC [(.sl 2 0 10 none),(.sl 1 0 1 (some 1))]) 2 (some 1) true)) .lf) (some (.ce (tI [4]) 1 none true)) .lf) avc (.nd .lf a0j .lf)),4))
def a0e:At di:=(some (.ce (tC avh) 12 (some 4) true))
def W5:rR:=(8,([(.ag [(vi 5),(.sl 0 0 4 none),(vi 1),(vi 16)]),(.ag [(vi 2),(.sl 1 0 1 none),vn]),(.ag [(vi 8),(vi 3),(vi 2),(vi 3),(.sl 2 0 3 (some 3))])],(.nd (.nd .lf avn .lf) avf ave),3),((.tu [(.ag [(vi 5),(.sl 3 0 3 none),(vi 2),(vi 28)]),(.ag [(vi 0),(vi 1),vn])]),(.nd (.nd (.nd .lf a0e .lf) avn .lf) avf ave),4))
def avd:At di:=(some (.ce (tC [(.v (.int .u8 1)),(.v (.int .u8 0)),(.v (.int .u8 4)),(.v (.int .u8 0)),(.v (.int .u8 0)),(.v (.int .u8 0)),(.v (.int .u8 1)),(.v (.int .u8 0)),(.v (.int .u8 1)),(.v (.int .u8 0)),(.v (.int .u8 2)),(.v (.int .u8 0)),(.v (.int .u8 2)),(.v (.int .u8 0)),(.v (.int .u8 0)),(.v (.int .u8 0)),(.v (.int .u8 3)),(.v (.int .u8 0)),(.v (.int .u8 2)),(.v (.int .u8 2)),(.v (.int .u8 0)),(.v (.int .u8 1)),(.v (.int .u8 0)),(.v (.int .u8 1)),(.v (.int .u8 0)),(.v (.int .u8 0)),(.v (.int .u8 3)),(.v (.int .u8 0)),(.v (.int .u8 2)),(.v (.int .u8 3)),(.v (.int .u8 0)),(.v (.int .u8 3)),(.v (.int .u8 0)),(.v (.int .u8 0)),(.v (.int .u8 4)),(.v (.int .u8 0)),(.v (.int .u8 0)),(.v (.int .u8 0)),(.v (.int .u8 0))]) 39 (some 1) false))
def we9:rR:=(13,([(.ag [(vi 5),vn,(vi 0),(vi 0)]),(.sl 0 0 39 none),(.ag avm)],(.nd ave avd .lf),2),((.tu [(.ag [(vi 5),(.sl 2 0 3 none),(vi 3),(vi 29)]),(.sl 4 0 3 none),(vi 0)]),(.nd (.nd (.nd .lf (some (.ce (tI [4,2]) 2 (some 1) true)) .lf) avw .lf) avd (.nd (.nd .lf (some (.ce (tC [(vi 0),(vi 4),vn,(vi 0),(vi 1),vn,(vi 0),(vi 0),(.sl 3 0 2 none)]) 9 (some 3) true)) .lf) a0e .lf)),5))
def EW:rR:=(10,([(.ag avv)],a0l,1),((vb true),a0l,1))
def avq:At di:=(some (.ce (tC [(.v (.int .u32 1)),(.v (.int .u32 2)),(.v (.int .u32 4)),(.v (.int .u32 8))]) 4 none false))
def a0q:At di:=(some (.ce (tI [1]) 1 (some 1) true))
def avs:At di:=(some (.ce (tI [0]) 1 (some 1) true))
def GG:rR:=(17,([(.ag [(vi 5),(.sl 0 0 3 none),(vi 3),(vi 29)]),(.sl 1 0 4 (some 4))],(.nd (.nd .lf avq .lf) avc .lf),2),((.tu [(.sl 19 0 2 none),(vi 0)]),(.nd (.nd (.nd (.nd (.nd .lf (some (.ce (tI [5]) 1 (some 1) true)) .lf) a0q .lf) (some (.ce (tI [1,4,1,2,1,3,3,4,3,4]) 10 (some 1) true)) (.nd (.nd .lf (some (.ce (tC [(.sl 6 0 10 none),(.sl 3 0 10 none),(.sl 18 0 10 (some 10)),(.sl 2 0 1 none),(.sl 7 0 1 none),(.sl 5 0 1 (some 1))]) 6 (some 3) true)) .lf) (some (.ce (tI [0,1,1,1]) 4 (some 1) true)) .lf)) avq (.nd (.nd (.nd .lf (some (.ce (tI [7,7,7]) 3 (some 1) true)) .lf) (some (.ce (tI [4,5]) 2 (some 1) true)) .lf) (some (.ce (tC [(.sl 4 0 1 none)]) 1 none true)) (.nd .lf a0q .lf))) avc (.nd (.nd (.nd (.nd .lf (some (.ce (tI [3]) 1 (some 1) true)) .lf) (some (.ce (tI [8,8,8,9]) 4 (some 1) true)) .lf) avs (.nd .lf (some (.ce (tI [6,6,6]) 3 (some 1) true)) .lf)) (some (.ce (tI [4]) 1 (some 1) true)) (.nd (.nd (.nd .lf (some (.ce (tC [(.sl 13 0 1 none),(.sl 10 0 4 none),(.sl 16 0 1 none),(.sl 9 0 2 none),(.sl 15 0 1 none),(.sl 12 0 3 none),(.sl 17 0 3 none),(.sl 8 0 4 none),(.sl 14 0 3 none),(.sl 11 0 4 none)]) 10 none true)) .lf) (some (.ce (tI [2,3,5,7]) 4 (some 1) true)) .lf) a0j (.nd .lf (some (.ce (tI [9,9,9]) 3 (some 1) true)) .lf)))),20))
def a0k:Do CV:=[(.sl 0 0 10 none),(.sl 1 0 10 none),(.sl 12 0 10 (some 10))]
def a0f:At di:=(some (.ce (tI [1]) 1 (some 1) false))
def a0d:At di:=(some (.ce (tI [4,5]) 2 (some 1) false))
def a0a:At di:=(some (.ce (tI [7,7,7]) 3 (some 1) false))
def avo:At di:=(some (.ce (tI [1,4,1,2,1,3,3,4,3,4]) 10 (some 1) false))
def a0g:At di:=(some (.ce (tI [5]) 1 (some 1) false))
def avx:At di:=(some (.ce (tI [0,1,1,1]) 4 (some 1) false))
def a0m:At di:=(some (.ce (tI [0,0,0,0,0,0,0,0,0,0]) 10 none false))
def avj:At di:=(some (.ce (tI [0,7,16,1,12,2,18,3,22,15]) 10 (some 1) false))
def a0b:At di:=(some (.ce (tI [9,9,9]) 3 (some 1) false))
def avy:At di:=(some (.ce (tI [2,3,5,7]) 4 (some 1) false))
def avg:At di:=(some (.ce (tC [(.sl 7 0 1 none),(.sl 4 0 4 none),(.sl 10 0 1 none),(.sl 3 0 2 none),(.sl 9 0 1 none),(.sl 6 0 3 none),(.sl 11 0 3 none),(.sl 2 0 4 none),(.sl 8 0 3 none),(.sl 5 0 4 none)]) 10 none false))
def avz:At di:=(some (.ce (tI [8,8,8,9]) 4 (some 1) false))
def a0h:At di:=(some (.ce (tI [3]) 1 (some 1) false))
def a0c:At di:=(some (.ce (tI [6,6,6]) 3 (some 1) false))
def avr:Tr di:=(.nd .lf (some (.ce (tI [0,0,0]) 3 (some 1) true)) .lf)
def a0s:Tr di:=(.nd .lf avs .lf)
def av1:At di:=(some (.ce (tI [0,0,0,0]) 4 (some 1) true))
def Kt:rR:=(18,([(.ag a0k),(.sl 13 0 10 (some 10))],(.nd (.nd (.nd (.nd .lf a0f .lf) a0d (.nd .lf a0a .lf)) avo (.nd (.nd .lf a0g .lf) avx (.nd .lf a0m .lf))) avj (.nd (.nd (.nd .lf a0b .lf) avy (.nd .lf avg .lf)) avz (.nd (.nd .lf a0h .lf) a0c .lf))),14),((.tu [(.sl 24 0 10 (some 10)),(vi 0)]),(.nd (.nd (.nd (.nd (.nd .lf (some (.ce (tI [0,0]) 2 (some 1) true)) .lf) a0f avr) a0d (.nd a0s a0a .lf)) avo (.nd (.nd (.nd .lf av1 .lf) a0g .lf) avx (.nd a0s a0m .lf))) avj (.nd (.nd (.nd (.nd .lf av1 .lf) a0b (.nd .lf (some (.ce (tC [(.sl 19 0 1 none),(.sl 16 0 4 none),(.sl 22 0 1 none),(.sl 15 0 2 none),(.sl 21 0 1 none),(.sl 18 0 3 none),(.sl 23 0 3 none),(.sl 14 0 4 none),(.sl 20 0 3 none),(.sl 17 0 4 none)]) 10 none true)) .lf)) avy (.nd avr avg .lf)) avz (.nd (.nd avr a0h .lf) a0c (.nd a0s av1 .lf)))),25))
def av0:At di:=(some (.ce (tI [0,0,0,0]) 4 (some 1) false))
def avp:Tr di:=(.nd .lf (some (.ce (tI [0,0,0]) 3 (some 1) false)) .lf)
def avu:Tr di:=(.nd .lf (some (.ce (tI [0]) 1 (some 1) false)) .lf)
def au3:Tr di:=(.nd (.nd (.nd (.nd (.nd .lf av0 .lf) a0f (.nd .lf (some (.ce (tC [(.sl 18 0 1 none),(.sl 15 0 4 none),(.sl 21 0 1 none),(.sl 14 0 2 none),(.sl 20 0 1 none),(.sl 17 0 3 none),(.sl 22 0 3 none),(.sl 13 0 4 none),(.sl 19 0 3 none),(.sl 16 0 4 none)]) 10 none false)) .lf)) a0d (.nd avp a0a .lf)) avo (.nd (.nd avp a0g .lf) avx (.nd avu av0 .lf))) avj (.nd (.nd (.nd (.nd .lf av0 .lf) a0b .lf) avy (.nd avu avg .lf)) avz (.nd (.nd avu a0h .lf) a0c (.nd avp (some (.ce (tI [0,0]) 2 (some 1) false)) .lf))))
def K7:rR:=(20,([(.ag a0k),(.sl 23 0 10 (some 10))],au3,24),((.tu [(vi 0),(vi 0)]),au3,24))
def avk:Tr di:=(.nd (.nd .lf avj .lf) (some (.ce (tI [4]) 1 none false)) (.nd .lf (some (.ce (tC [(.sl 1 0 10 none),(.sl 0 0 1 (some 1))]) 2 (some 1) false)) .lf))
def Pv:rR:=(23,([(.ag [(vi 5),(.sl 2 0 2 none)]),(vi 3)],avk,3),((.tu [(vi 4),(vi 0)]),avk,3))
def avt:At di:=(some (.ce (tI [1,0]) 2 none false))
def a0t:Tr di:=(.nd .lf avt .lf)
def avi:Do CV:=[(vi 0),(vi 1),(vi 0),(vb false),(vi 0),(vi 2),(vi 0),(vb true),(vi 1),(vi 2),(vi 0),(vb true),(vi 2),(vi 3),(vi 0),(vb true)]
def UH:rR:=(30,([(.ag avv),(.sl 1 0 1 (some 1))],(.nd a0t avc .lf),2),((.tu [(.ag [(vi 5),(.sl 2 0 4 none)]),(vi 1),(vi 0)]),(.nd a0t avc (.nd .lf (some (.ce (tC avi) 16 (some 4) true)) .lf)),3))
def a0p:At di:=(some (.ce (tC avi) 16 (some 4) false))
def W6:rR:=(31,([(.ag [(vi 5),(.sl 0 0 4 none)]),(.sl 1 0 1 (some 1))],(.nd a0t a0p .lf),2),((.tu [(.ag [(vi 5),(.sl 2 0 3 none)]),(.sl 3 0 1 none),(vi 0)]),(.nd (.nd (.nd .lf (some (.ce (tC [(vb false),(vb false),(vi 0),(vi 0),(vi 0)]) 5 (some 5) true)) .lf) avt .lf) a0p (.nd .lf a0e .lf)),4))
def DF:ajF Tryz.prog.funcs.toList 35835950050637442103480394809442407162780161599026750264844144768086395094398187616342840259739104837628=true:=ci
def DG:(35835950050637442103480394809442407162780161599026750264844144768086395094398187616342840259739104837628:Nat)<2^Tryz.prog.funcs.toList.length:=awX ci
def asU:Func:=(atL wFs 42).getD default
def amk:Tryz.prog.funcs[42]? =some asU:=ci
def auQ u:HJ T (im T wE0 (kR []) 100) 100 asU u=some 0:=ci
def anl:Func:=(atL wFs 120).getD default
def ajG:Tryz.prog.funcs[120]? =some anl:=ci
def asV u:HJ T (im T wE0 (kR []) 100) 100 anl u=some 0:=ci
def apM(w:GE):EOk Tryz.prog w wE0:=ank rfl DF DG λf h=>by
 have:(Nat.testBit 0 f)=true:=h;simp at this
def anm(d:∀a o u,GT a o u->b.cell? ⟨a,o,none⟩=some u):EOk Tryz.prog b wE:=ank rfl DF DG λf h e=>by
 have i:∀w,Ext b w->h_ Tryz.prog w (im T wE0 (kR []) 100 (R:=Nat)):=λw l=>xp mixed Bg (λa o u h=>l.cell (d a o u h)) (apM w) MOk.nil 100;have j:f=42\/f=120:=by
  have c:Nat.testBit (2^42+2^120) f=true:=h;have k:f<128:=by
   by_cases g:f<128
   .exact g
   .rw[aBg (ax9 (by decide:2^42+2^120<2^128) (aAF d6 (ayD g)))]at c
    cases c
  have m:∀f,f<128->Nat.testBit (2^42+2^120) f=true->f=42\/f=120:=d6
  exact m f k c
 rcases j with rfl|rfl
 .exact DE mixed Bg d i (l7 DF DG 42 d6) amk auQ e
 .exact DE mixed Bg d i (l7 DF DG 120 d6) ajG asV e
variable{u:Hp}{A:Do AV}{j:Id}
noncomputable def qD:bu:=[(4294967296,3),(4294967297,6),(4294967298,7),(4294967299,4),(4294967300,5)]
abbrev AK1:Type:=(EV×EV×EV×EV×EV)×At eD×At eD×At eD×At eD×At eD
abbrev AK2:Type:=EV×EV×At eD×At eD
noncomputable def aK:IR->cY->At (Sum AK1 AK2)
 |.normal,E=>some (.inl ((dj E.t 3,dj E.t 4,dj E.t 5,dj E.t 6,dj E.t 7),bH E.h 3,bH E.h 4,bH E.h 5,bH E.h 6,bH E.h 7))
 |.ret,E=>some (.inr (dj E.t 6,dj E.t 7,bH E.h 6,bH E.h 7))
 |_,_=>none
def asZ N n d c st k j m f i g P l:px N (Sum AK1 AK2) (pq [0]) (pE n d c st k j m f i g P l) (λE=>yF T (XP oG N) N (pq [1,0]) .z E (Sum AK1 AK2) aK)=
 aW (uk N (n,d,c,st)) λb=>cond (!b)
  (some (.inr (.pt 6 0,.pt 7 0,some (.box 34 (gS n d c st)),some (.box 42 [.sc j1 1,.sc j1 0,.nil]))))
  (some (.inl ((.pt 3 0,.pt 4 0,.pt 5 0,.pt 6 0,.pt 7 0),some (.box 34 (gS n d c st)),some (.box 48 [.sc j1 k,.sc iw j,.sc Gy m]),some (.box 27 [.sc j1 f,.sc j1 i,.sc j1 g,.sc j1 P,.sc iw l]),some (.box 34 zS),some (.box 42 zR)))):=ci
noncomputable def ajH(b c:Nat)(d f:Do EV):cY:=⟨30,[(6,.pt b 0),(7,.pt c 0)],[(b,some (.box 34 d)),(c,some (.box 42 f))]⟩
def as0 n d b st e c z:Ee T (ajH 6 7 (gS n d b st) [.sc j1 e,.sc j1 c,z]) f8.results.toList=some [.ag (gS n d b st),.ag [.sc j1 e,.sc j1 c,z]]:=ci
def ann n d b st e c z:Ee T (ajH 4294967297 4294967298 (gS n d b st) [.sc j1 e,.sc j1 c,z]) f8.results.toList=some [.ag (gS n d b st),.ag [.sc j1 e,.sc j1 c,z]]:=ci
section
variable{P:Fd}{B:Bs}{Rd:bL}{e:Env}{h h2:Hp}{w:GE}{st:St}{a:Act}
def SR.less(d:SR B Rd e h w)(g:∀k ob,bc h2 k=some ob->bc h k=some ob):SR B Rd e h2 w/\∀b o u,bT B Rd e h w b o u->bT B Rd e h2 w b o u:=by
 have i:∀b o u,bT B Rd e h w b o u->bT B Rd e h2 w b o u:=λb o u ⟨m,h2,n⟩=>⟨m,h2,λk ob c f=>n k ob (g k ob c) f⟩;exact⟨⟨d.ext,d.lA,λk ob c=>(d.ob k ob (g k ob c)).mono i,λk ob b c f=>d.base k ob b (g k ob c) f,λk j ob l b c q f p=>d.inj k j ob l b (g k ob c) (g j l q) f p,d.yz⟩,i⟩
def apN(i:Ga B Rd e st a w)(k:HZ P st s.results.toList=some A):∃v,(results s a.tmps).run P w=.ok v w/\VR (bT B Rd e st.h w) (some e) (P2 A) v:=by
 obtain⟨d,l,b⟩:=GN (P:=P) i _ _ k;have j:(s.results.mapM (mS a.tmps)).run P w=.ok d.toArray w:=by
  rw[az_];simp only[ay3,l];rfl
 rw[zL];simp only[awi,j,awk,awm];refine⟨_,rfl,?_⟩
 match A,d,b with
 |[],[],b=>exact .tu [] rfl d5
 |[c],[u],b=>simpa[P2]using b.2 0 c u rfl rfl
 |c::f::A,u::g::d,b=>
  have:¬(u::g::d).toArray.size=1:=d5
  rw[dif_neg this];exact .tu _ b.1 b.2
 |[],u::d,b=>have:=b.1;simp at this
 |[c],[],b=>have:=b.1;simp at this
 |[c],u::g::d,b=>have:=b.1;simp at this
 |c::f::A,[],b=>have:=b.1;simp at this
 |c::f::A,[u],b=>have:=b.1;simp at this
end
noncomputable def rTk(n:Int)(d:Do bm)(b st e c:Int)(z:EV):EV:=.tu [.ag (gS n d b st),.ag [.sc j1 e,.sc j1 c,z]]
def aml{Rd:bL}{E:At Env}(h:VR Rd E (enc .nil) j):VR Rd E (enc (.sc j6 [])) j:=by
 change VR Rd E (.sl true 0 []) j at h;cases h with
 |sl d m f c k b h2 g i=>
  have l:d=[]:=by simpa using c
  exact .sl (rows:=[]) [] d5 d5 rfl d5 b h2 (λh=>by cases h) d5
def ano{Rd:bL}{E:At Env}{n:Int}{m:Do bm}{k st e c:Int}(h:VR Rd E (enc (rTk n m k st e c .nil)) j):VR Rd E (enc (rTk n m k st e c (.sc j6 []))) j:=by
 obtain⟨o,rfl,l⟩:=h.HM (cs:=cw [.ag (gS n m k st),.ag [.sc j1 e,.sc j1 c,.nil]]);refine .tu o l.1 λb x u d f=>?_
 match b with
 |0=>exact l.2 0 x u d f
 |1=>
  have d:enc (.ag [.sc j1 e,.sc j1 c,.sc j6 []])=x:=av_ d;subst d;obtain⟨p,rfl,g⟩:=(l.2 1 (enc (.ag [.sc j1 e,.sc j1 c,.nil])) u rfl f).fI (cs:=cw [.sc j1 e,.sc j1 c,.nil]);refine .ag p g.1 λi x u d f=>?_
  match i with
  |0=>exact g.2 0 x u d f
  |1=>exact g.2 1 x u d f
  |2=>
   have d:enc (.sc j6 [])=x:=av_ d;subst d;exact aml (g.2 2 (enc .nil) u rfl f)
  |i+3=>cases d
 |b+2=>cases d
def as1(n:Int)(f:Do bm)(d st e c:Int)(b:aX):(enc (rTk n f d st e c (.sc j6 b))).hL (λ_=>true)=true:=by rfl
def W7{B:Bs}{Rd:bL}{e:Env}{w:GE}{tm:ey}{c d:Nat}{f g:Do EV}{r:Do EV}(A:SR B Rd e u w)(C:tm.size=30)
 (z:Ee T (ajH c d f g) f8.results.toList=some r) (s:VR (bT B Rd e u w) (some e) (.pt c 0) (tm.getD 6 undef)) (t:VR (bT B Rd e u w) (some e) (.pt d 0) (tm.getD 7 undef))
 (o:bc u c=some (cA (.box 34 f))) (p:bc u d=some (cA (.box 42 g))):
 ∃v,(results f8 tm).run Tryz.prog w=.ok v w/\VR (bT B Rd e [] w) (some e) (P2 (cw r)) v:=by
 have y:∀k ob,bc (bF (ajH c d f g).h) k=some ob->bc u k=some ob:=λk ob b=>by
  change bc [(c,some (cA (.box 34 f))),(d,some (cA (.box 42 g)))] k=some ob at b;by_cases j:k=c
  .subst j;rw[bf]at b;rw[o];exact b
  .rw[bd j]at b
   by_cases l:k=d
   .subst l;rw[bf]at b;rw[p];exact b
   .rw[bd l]at b;cases b
 obtain⟨n,m⟩:=A.less y;have x:Ga B Rd e (br (ajH c d f g)) ⟨tm,B.df⟩ w:=⟨⟨C,by show(30:Nat)<=1000000;decide⟩,rfl,n,λi=>by
  change VR _ _ (bO [(6,.pt c 0),(7,.pt d 0)] i) (tm.getD i undef);by_cases j:i=6
  .subst j;exact s.mono m
  .by_cases l:i=7
   .subst l;exact t.mono m
   .simp only[bO,j,l,aw1];exact .un⟩
 obtain⟨v,q,h2⟩:=apN (P:=Tryz.prog) x (GX Bg z);exact⟨v,q,h2.mono (n.less (h2:=[]) λk ob b=>by cases b).2⟩
variable{i:Env}{v:SV×RV}
abbrev TkT(s:SV)(x:XV)(w:WV):TA:=(x.1,x.2.1,x.2.2,w.1,w.2.1,w.2.2.1,w.2.2.2.1,w.2.2.2.2,s.1,s.2.1,s.2.2.1,s.2.2.2,0,0,[])
def W8{s:SV}{x:XV}{w:WV}(h:Gf (a+1) s x w=some v):
 (uk (a+1) s=some false/\v=(s,1,0,[]))\/(uk (a+1) s=some true/\
  ((∃l,l≠0/\Mx (a+1) (TkT s x w)=some l/\v=(s,l,0,[]))\/ED (a+2) (TkT s x w)=some (v.1.1,v.1.2.1,v.1.2.2.1,v.1.2.2.2,v.2.1,v.2.2.1,v.2.2.2))):=by
 obtain⟨n,j,B,G⟩:=s;obtain⟨k,C,F⟩:=x;obtain⟨z,A,g,P,y⟩:=w;unfold Gf at h;cases u:uk (a+1) (n,j,B,G)with
 |none=>rw[u]at h;cases h
 |some b=>
  rw[u]at h;cases b with
  |false=>exact .inl ⟨rfl,(av_ h).symm⟩
  |true=>
   refine .inr ⟨rfl,?_⟩;have f:eh (a+1) 0=some ():=by rw[ur];rfl
   unfold TkT;rw[adm];unfold Mx;simp only[aW,awv]at h⊢;generalize uo (a+1) (n,j,k,C,F,z,A,g,P,y)=D at h⊢;cases D with
   |none=>cases h
   |some c=>
    simp only at h⊢;by_cases m:c.2.1=0
    .rw[m]at h⊢
     simp only[axk,awv,awj,av8,f]at h⊢;generalize k9 (a+1) (wZ (((c.2.2.2.1.length:Nat):Int)+((c.2.2.2.2.length:Nat):Int)),g,P,y)=E at h⊢;cases E with
     |none=>cases h
     |some o=>
      simp only at h⊢;by_cases p:o.2.1=0
      .rw[p]at h⊢
       simp only[axk,awv,awj,av8,f]at h⊢;by_cases q:c.2.2.1=1
       .simp only[q,axk,awv]at h⊢
        generalize qN (a+1) (n,j,c.2.2.2.1)=i at h⊢;cases i with
        |none=>cases h
        |some d=>
         simp only at h⊢;by_cases e:d.2.1=0
         .rw[e]at h⊢
          simp only[axk,awv,f]at h⊢;cases h;exact .inr rfl
         .simp only[awz e,av8]at h
          cases h;exact .inl ⟨_,e,rfl,rfl⟩
       .simp only[awz q,av8]at h⊢
        by_cases r:c.2.2.1=2
        .simp only[r,axk,awv]at h⊢
         generalize wL (a+1) (n,j,c.2.2.2.1)=i at h⊢;cases i with
         |none=>cases h
         |some d=>
          simp only at h⊢;by_cases e:d.1=0
          .rw[e]at h⊢
           simp only[axk,awv,f]at h⊢;cases h;exact .inr rfl
          .simp only[awz e,av8]at h
           cases h;exact .inl ⟨_,e,rfl,rfl⟩
        .simp only[awz r,av8]at h⊢
         by_cases t:c.2.2.1=3
         .simp only[t,axk,awv]at h⊢
          generalize CU (a+1) (n,j,c.2.2.2.2)=i at h⊢;cases i with
          |none=>cases h
          |some d=>
           simp only at h⊢;by_cases e:d.1=0
           .rw[e]at h⊢
            simp only[axk,awv,f]at h⊢;cases h;exact .inr rfl
           .simp only[awz e,av8]at h
            cases h;exact .inl ⟨_,e,rfl,rfl⟩
         .simp only[awz t,av8]at h⊢
          cases h;exact .inr rfl
      .simp only[awz p,av8,axg,awv]at h⊢
       cases h;exact .inl ⟨_,p,rfl,rfl⟩
    .simp only[awz m,av8,axg,awv]at h⊢
     cases h;exact .inl ⟨_,m,rfl,rfl⟩
def apO(b:yA qD a=some h):(a=4294967296/\h=3)\/(a=4294967297/\h=6)\/(a=4294967298/\h=7)\/(a=4294967299/\h=4)\/(a=4294967300/\h=5):=by
 have:=gU b;unfold qD at this;simpa using this
def anp:PE 1000 qD=true:=d6
def xq{Rd:bL}{t:EQ}(h:OR Rd i b a (.box t A)):i.cX a=0:=h.1
def Ao{Rd:bL}(c:VR Rd (some i) (.pt a h) j):∃b,i.ca a=some b/\j=.pointer (some ⟨b,h,none⟩):=by
 cases c with
 |pt c=>exact⟨_,c,rfl⟩
def Px:Enters Tryz.prog 42:=⟨f42,func42,by kernel_rfl,by kernel_rfl⟩
def as3(w:GE)(c:∀b o u,GT b o u->w.cell? ⟨b,o,none⟩=some u)(a:ey):Ke Tryz.prog w {target:=.fn (.func 42) a,args:= #[]}:=
 (anm c).idle _ d6 a
noncomputable abbrev qB(e:Env)(w:GE)(D:Deferred):Bs:=(cB qD 1000 e w).CX [D]
abbrev qRd(B:Bs)(Rd:bL)(e:Env)(h:Hp)(w:GE):bL:=cRd qD 1000 B Rd e h w
section
variable{B:Bs}{Rd:bL}{e e2:Env}{h H:Hp}{w w':GE}{D:Deferred}
def as4(t:SR B Rd e h w)(s:Handed qD e h)(v:SR (qB e w D) (qRd B Rd e h w) e2 H w'){n:Int}{p:Do bm}{d m i f:Int}{c:aX}
 (x:VR (bT (qB e w D) (qRd B Rd e h w) e2 [] w') (some e2) (enc (rTk n p d m i f (.sc j6 c))) j):∃g,SR B Rd g [] w'/\VR (bT B Rd g [] w') (some g) (enc (rTk n p d m i f (.sc j6 c))) j:=by
 obtain⟨j1,j2,j3,j4⟩:=SR.eX t s anp (SR.Tz v.nil) rfl;obtain⟨y,z⟩:=j1.less (h2:=[]) λk ob r=>by cases r
 exact⟨_,y,((x.mono λb o u q=>z b o u (j3 b o u q))).KT rfl (λ_=>true) (as1 n p d m i f c) (λa l=>by cases l) (λa l=>by cases l)⟩
end
def auR{B:Bs}{Rd:bL}{e:Env}{h:Hp}{w:GE}(a:SR B Rd e h w){q r s t u:EQ}{j k l m n:Do AV}
 (b:bc h 3=some (.box q j)) (d:bc h 4=some (.box r k)) (f:bc h 5=some (.box s l)) (g:bc h 6=some (.box t m)) (i:bc h 7=some (.box u n)):Handed qD e h:=λp c o=>by
 rcases apO o with⟨_,rfl⟩|⟨_,rfl⟩|⟨_,rfl⟩|⟨_,rfl⟩|⟨_,rfl⟩
 .exact⟨⟨_,b⟩,xq (a.ob _ _ b)⟩
 .exact⟨⟨_,g⟩,xq (a.ob _ _ g)⟩
 .exact⟨⟨_,i⟩,xq (a.ob _ _ i)⟩
 .exact⟨⟨_,d⟩,xq (a.ob _ _ d)⟩
 .exact⟨⟨_,f⟩,xq (a.ob _ _ f)⟩
def auS{e:Env}{h:Hp}{w:GE}(n:Int)(o:Do bm)(f m k:Int)(i:bh)(l:lz)(b d g P:Int)(j:bh)
 (v:bc h 3=some (cA (.box 34 (gS n o f m)))) (x:bc h 4=some (cA (.box 48 [.sc j1 k,.sc iw i,.sc Gy l]))) (y:bc h 5=some (cA (.box 27 [.sc j1 b,.sc j1 d,.sc j1 g,.sc j1 P,.sc iw j])))
 (z:bc h 6=some (cA (.box 34 zS))) (A:bc h 7=some (cA (.box 42 zR))):
 ∀p ob,bc (bF (qH n o f m k i l b d g P j)) p=some ob->∃c u,yA qD p=some c/\bc h c=some u/\∀Rd,OR Rd e w c u->OR Rd e w c (ob.jh (gC qD 1000)):=by
 intro p ob t;have a:bc [(4294967296,some (cA (.box 34 (gS n o f m)))),(4294967297,some (cA (.box 34 zS))),(4294967298,some (cA (.box 42 zR))),(4294967299,some (cA (.box 48 [.sc j1 k,.sc iw i,.sc Gy l]))),(4294967300,some (cA (.box 27 [.sc j1 b,.sc j1 d,.sc j1 g,.sc j1 P,.sc iw j])))] p=some ob:=t;clear t;by_cases e0:p=4294967296
 .subst e0;rw[bf]at a;cases a;exact⟨3,_,rfl,v,λ_ h=>h⟩
 rw[bd e0]at a;by_cases q:p=4294967297
 .subst q;rw[bf]at a;cases a;exact⟨6,_,rfl,z,λ_ h=>h⟩
 rw[bd q]at a;by_cases e2:p=4294967298
 .subst e2;rw[bf]at a;cases a;exact⟨7,_,rfl,A,λ_ h=>h⟩
 rw[bd e2]at a;by_cases r:p=4294967299
 .subst r;rw[bf]at a;cases a;exact⟨4,_,rfl,x,λ_ h=>h⟩
 rw[bd r]at a;by_cases s:p=4294967300
 .subst s;rw[bf]at a;cases a;exact⟨5,_,rfl,y,λ_ h=>h⟩
 rw[bd s]at a;cases a
def amm{B:Bs}{Rd:bL}{e:Env}{t:Do (Nat×AV)}{h:Hp}{w:GE}{a:Act}{D:Deferred}(q:Ga (B.CX [D]) Rd e ⟨30,t,h⟩ a w)(n:Int)(A:Do bm)(l z k:Int)(m:bh)(v:lz)(f j g P:Int)(s:bh)
 (E:Handed qD e h) (C:∀p ob,bc (bF (qH n A l z k m v f j g P s)) p=some ob->∃c r,yA qD p=some c/\bc h c=some r/\∀Rd,OR Rd e w c r->OR Rd e w c (ob.jh (gC qD 1000)))
 (S:bO t 3=.pt 3 0) (U:bO t 4=.pt 4 0) (V:bO t 5=.pt 5 0) (W:bO t 6=.pt 6 0) (X:bO t 7=.pt 7 0):
 Ga (qB e w D) (qRd (B.CX [D]) Rd e h w) (e.pi qD 1000) (br (qE n A l z k m v f j g P s)) a w:=by
 have Q:=q.sr.qp E anp C;have L:∀b o u,bT (B.CX [D]) Rd e h w b o u->bT (cB qD 1000 e w) (qRd (B.CX [D]) Rd e h w) (e.pi qD 1000) (bF (qH n A l z k m v f j g P s)) w b o u:=λb o u N=>N.qp E λp ob O=>by
  obtain⟨c,r,x,y,_⟩:=C p ob O;exact⟨c,x,r,y⟩
 have d:∀i p c,bO t i=.pt c 0->gC qD 1000 p=c->VR (bT (qB e w D) (qRd (B.CX [D]) Rd e h w) (e.pi qD 1000) (bF (qH n A l z k m v f j g P s)) w) (some (e.pi qD 1000)) (.pt p 0) (a.tmps.getD i undef):=λi p c R M=>by
  have:=q.tr i;change VR _ _ (bO t i) _ at this;rw[R,<-M]at this;exact(this.ra (gC qD 1000) (e':=e.pi qD 1000) (λ_=>rfl) (λ_=>rfl) rfl (c:=.pt p 0) rfl).mono L
 refine⟨q.n,q.d,SR.CX Q [D],λi=>?_⟩;change VR _ _ (bO [(3,.pt 4294967296 0),(4,.pt 4294967299 0),(5,.pt 4294967300 0),(6,.pt 4294967297 0),(7,.pt 4294967298 0)] i) _;by_cases F:i=3
 .subst F;exact d 3 _ _ S rfl
 by_cases G:i=4
 .subst G;exact d 4 _ _ U rfl
 by_cases I:i=5
 .subst I;exact d 5 _ _ V rfl
 by_cases J:i=6
 .subst J;exact d 6 _ _ W rfl
 by_cases K:i=7
 .subst K;exact d 7 _ _ X rfl
 simp only[bO,F,G,I,J,K,aw1];exact .un
section
abbrev apP(B:Bs)(Rd:bL)(r:EV):Ending->GE->Prop:=λx b=>∃v a,x=.returned v/\SR B Rd a [] b/\VR (bT B Rd a [] b) (some a) (enc r) v
def as5{s:SV}{x:XV}{w:WV}{y:SV×RV}(hR:uk (a+1) s=some true)
 (h:(∃m,m≠0/\Mx (a+1) (TkT s x w)=some m/\y=(s,m,0,[]))\/ED (a+2) (TkT s x w)=some (y.1.1,y.1.2.1,y.1.2.2.1,y.1.2.2.2,y.2.1,y.2.2.1,y.2.2.2))
 {B:Bs} {Rd:bL} {t:Do (Nat×AV)} {g:Act} {D:Deferred} {u3 u6 u7:Id} (a1:D={target:=.fn (.func 42) #[u3,u6,u7],args:= #[]})
 (P:Ga (B.CX [D]) Rd i ⟨30,t,u⟩ g b) (hH:Handed qD i u) (hm:∀p ob,bc (bF (qH s.1 s.2.1 s.2.2.1 s.2.2.2 x.1 x.2.1 x.2.2 w.1 w.2.1 w.2.2.1 w.2.2.2.1 w.2.2.2.2)) p=some ob->∃c a4,yA qD p=some c/\bc u c=some a4/\∀Rd,OR Rd i b c a4->OR Rd i b c (ob.jh (gC qD 1000)))
 (t3:bO t 3=.pt 3 0) (t4:bO t 4=.pt 4 0) (t5:bO t 5=.pt 5 0) (t6:bO t 6=.pt 6 0) (t7:bO t 7=.pt 7 0)
 (v3:VR (λ_ _ _=>True) (some i) (.pt 3 0) u3) (v6:VR (λ_ _ _=>True) (some i) (.pt 6 0) u6) (v7:VR (λ_ _ _=>True) (some i) (.pt 7 0) u7):
 (Code.seq (pq [1,1,1,0]) (.seq (pq [1,1,1,1,0]) qy)).wp Tryz.prog (bodyPostD Tryz.prog f8 (apP B Rd (rTk y.1.1 y.1.2.1 y.1.2.2.1 y.1.2.2.2 y.2.1 y.2.2.1 (.sc j6 y.2.2.2)))) g b:=by
 have a2:=amm P s.1 s.2.1 s.2.2.1 s.2.2.2 x.1 x.2.1 x.2.2 w.1 w.2.1 w.2.2.1 w.2.2.2.1 w.2.2.2.2 hH hm t3 t4 t5 t6 t7;have ad:∀f o e,GT f o e->bT (B.CX [D]) Rd i u b f o e:=λf o e R=>P.sr.HO R;have a0:∀{E:Env} {H:Hp} {J:GE} {m ch:Int} {n:Int} {ts:Do bm} {bt st:Int} {an:aX} {v:Id},SR (qB i b D) (qRd (B.CX [D]) Rd i u b) E H J->VR (bT (qB i b D) (qRd (B.CX [D]) Rd i u b) E [] J) (some E) (enc (rTk n ts bt st m ch (.sc j6 an))) v->apP B Rd (rTk n ts bt st m ch (.sc j6 an)) (.returned v) J:=λab F=>by
  obtain⟨E,k1,k2⟩:=as4 (B:=B.CX [D]) P.sr hH ab F;exact⟨_,E,rfl,k1.Tz,k2⟩
 have I:∀{A G:Env} {H6 K:Hp} {q w7:GE} {k:Nat} {e:Id},SR (qB i b D) (qRd (B.CX [D]) Rd i u b) A H6 q->SR (qB i b D) (qRd (B.CX [D]) Rd i u b) G K w7->4294967296<=k->VR (bT (qB i b D) (qRd (B.CX [D]) Rd i u b) A H6 q) (some A) (.pt k 0) e->VR (bT (qB i b D) (qRd (B.CX [D]) Rd i u b) G K w7) (some G) (.pt k 0) e:=λh6 h7 l F=>by
  obtain⟨f,N,rfl⟩:=Ao F;exact .pt (by rw[(h7.yz _ l).1,<-(h6.yz _ l).1];exact N)
 rcases h with⟨m,a7,hE,rfl⟩|hM
 .refine alm s.1 s.2.1 s.2.2.1 s.2.2.2 x.1 x.2.1 x.2.2 w.1 w.2.1 w.2.2.1 w.2.2.2.1 w.2.2.2.2 hE a7 _ _ _ _ _ _ a2 λex s6 S A z q j=>?_
  obtain⟨rfl,g0,L,M,X,Y,Q⟩:=S;show Leaves _ _ _ _ z.defers (.panicking [{v:=o4 m,recovered:=false}]) q;have C:z.defers=[D]:=j.d;rw[C,a1];have a3:=(j.sr.less (h2:=bF (gH s.1 s.2.1 s.2.2.1 s.2.2.2 zS zR)) λk ob l=>by
   change bc [(4294967296,some (cA (.box 34 (gS s.1 s.2.1 s.2.2.1 s.2.2.2)))),(4294967297,some (cA (.box 34 zS))),(4294967298,some (cA (.box 42 zR)))] k=some ob at l;by_cases e0:k=4294967296
   .subst e0;rw[bf]at l;rw[g0];exact l
   rw[bd e0]at l;by_cases e1:k=4294967297
   .subst e1;rw[bf]at l;rw[L];exact l
   rw[bd e1]at l;by_cases e2:k=4294967298
   .subst e2;rw[bf]at l;rw[M];exact l
   rw[bd e2]at l;cases l).1
  have W:∀{p c:Nat} {e:Id} {a5:bL},4294967296<=p->gC qD 1000 p=c->VR (λ_ _ _=>True) (some i) (.pt c 0) e->VR a5 (some A) (.pt p 0) e:=λl O F=>by
   obtain⟨f,N,rfl⟩:=Ao F;refine .pt ?_;rw[(a3.yz _ l).1];show i.ca (gC qD 1000 _)=_;rw[O];exact N
  have aa:LR (VR (bT (qB i b D) (qRd (B.CX [D]) Rd i u b) A (bF (gH s.1 s.2.1 s.2.2.1 s.2.2.2 zS zR)) q) (some A)) (cw gAv) [u3,u6,u7]:=
   LR.cons (W d6 rfl v3) (LR.cons (W d6 rfl v6) (LR.cons (W d6 rfl v7) LR.nil))
  refine leaves_cons (by intro h;cases h) (hX (Px) _ _) ?_;have O:=ado m s.1 s.2.1 s.2.2.1 s.2.2.2 _ _ _ _ _ a3 aa;refine O.mono λex u' J hx=>?_;obtain⟨⟨v,rfl⟩,rfl,G,K,hK,r⟩:=hx;obtain⟨Z,U,V⟩:=W7 (tm:=z.tmps) r (j.n.1.trans Q) (ann s.1 s.2.1 s.2.2.1 s.2.2.2 m 0 .nil) (I j.sr r d6 (by have:=j.tr 6;rw[X]at this;exact this)) (I j.sr r d6 (by have:=j.tr 7;rw[Y]at this;exact this)) hK.1 hK.2;exact⟨Z,U,a0 r (ano V)⟩
 .refine ao5 s.1 s.2.1 s.2.2.1 s.2.2.2 x.1 x.2.1 x.2.2 w.1 w.2.1 w.2.2.1 w.2.2.2.1 w.2.2.2.2 hM _ _ _ _ _ _ a2 λex s6 S A z q j=>?_
  obtain⟨a8,L,M,X,Y,Q⟩:=S;have a9:Leaves Tryz.prog f8 z.tmps (apP B Rd (rTk y.1.1 y.1.2.1 y.1.2.2.1 y.1.2.2.2 y.2.1 y.2.2.1 (.sc j6 y.2.2.2))) z.defers .returning q:=by
   have C:z.defers=[D]:=j.d;rw[C];refine xo (w0:=q) [D] q (Ext.refl _) (λd C=>?_) λw7 ac=>?_
   .rw[awq]at C
    subst C;rw[a1];exact as3 q (λf o e R=>(j.sr.HO R).1) _
   .have r:=(j.sr.later ac).1
    obtain⟨Z,U,V⟩:=W7 (tm:=z.tmps) r (j.n.1.trans Q) (ann y.1.1 y.1.2.1 y.1.2.2.1 y.1.2.2.2 y.2.1 y.2.2.1 (.sc j6 y.2.2.2)) (I j.sr r d6 (by have:=j.tr 6;rw[X]at this;exact this)) (I j.sr r d6 (by have:=j.tr 7;rw[Y]at this;exact this)) L M;exact⟨Z,U,a0 r V⟩
  rcases a8 with rfl|rfl<;>exact a9
def as6{s:SV}{x:XV}{w:WV}(h:Gf (a+1) s x w=some v):Gq Tryz.prog 8 [] (cw (pAv s.1 s.2.1 s.2.2.1 s.2.2.2 x.1 x.2.1 x.2.2 w.1 w.2.1 w.2.2.1 w.2.2.2.1 w.2.2.2.2)) [] (enc (rTk v.1.1 v.1.2.1 v.1.2.2.1 v.1.2.2.2 v.2.1 v.2.2.1 (.sc j6 v.2.2.2))):=by
 refine⟨⟨f8,func8,by kernel_rfl,by kernel_rfl⟩,λB Rd e w0 vs a5 hv=>aAn (c:=pb) func8 ci ?_⟩;have C:=Ej oG (a+1);have U:Fp (pq [0])=true:=ci
 have V:Fp (pq [1,0])=true:=ci
 have K:=Ga.enter (fn:=f8) (B:=B.CX []) (H0:=[]) (vs:=vs) rfl (by show _<=30;rw[show(cw (pAv s.1 s.2.1 s.2.2.1 s.2.2.2 x.1 x.2.1 x.2.2 w.1 w.2.1 w.2.2.1 w.2.2.2.1 w.2.2.2.2)).length=3 from rfl];decide) (by show(30:Nat)<=1000000;decide) (a5.CX []) hv;have hE:(⟨f8.ntmps,vu 0 (cw (pAv s.1 s.2.1 s.2.2.1 s.2.2.2 x.1 x.2.1 x.2.2 w.1 w.2.1 w.2.2.1 w.2.2.2.1 w.2.2.2.2)),[]⟩:St)=br (pE s.1 s.2.1 s.2.2.1 s.2.2.2 x.1 x.2.1 x.2.2 w.1 w.2.1 w.2.2.1 w.2.2.2.1 w.2.2.2.2):=by
  unfold br pE;simp only[vM];rfl
 rw[hE]at K;have t:=asZ (a+1) s.1 s.2.1 s.2.2.1 s.2.2.2 x.1 x.2.1 x.2.2 w.1 w.2.1 w.2.2.1 w.2.2.2.1 w.2.2.2.2;have a4:(s.1,s.2.1,s.2.2.1,s.2.2.2)=s:=rfl;rw[a4]at t;rw[ar8];rcases W8 h with⟨A,rfl⟩|⟨A,h2⟩
 .rw[A]at t
  refine ax6 (TC.ex C U t _ _ _ _ _ _ K λp a6 q e1 a1 w1 J=>?_);obtain⟨G,rfl,L,g⟩:=q;cases p with
  |normal=>
   refine ax6 (TC.ex (N:=a+1) (pl:=.z) (E:=G) (R:=Sum AK1 AK2) (k:=aK) C V g _ _ _ _ _ _ J λp a7 q I n w2 m=>?_);obtain⟨d,rfl,M,j⟩:=q;cases p with
   |ret=>
    have f:=Sum.inr.inj (av_ j);have D:dj d.t 6=_:=awh (λz=>z.1) f;have F:dj d.t 7=_:=awh (λz=>z.2.1) f;have u:bH d.h 6=_:=awh (λz=>z.2.2.1) f;have y:bH d.h 7=_:=awh (λz=>z.2.2.2) f;show Leaves _ _ _ _ n.defers .returning w2;rw[show n.defers=[]from m.d];obtain⟨b,v1,v2⟩:=W7 (tm:=n.tmps) m.sr (m.n.1.trans (M.trans L)) (as0 s.1 s.2.1 s.2.2.1 s.2.2.2 1 0 .nil)
     (by have:=m.tr 6;rw[show bO (br d).t 6=_ from cU _ _,D]at this;exact this) (by have:=m.tr 7;rw[show bO (br d).t 7=_ from cU _ _,F]at this;exact this)
     ((dw _ _).trans (by rw[u];rfl)) ((dw _ _).trans (by rw[y];rfl))
    exact⟨b,v1,b,I,rfl,m.sr.Tz.nil,ano v2⟩
   |_=>cases j
  |_=>cases g
 .rw[A]at t
  refine ax6 (TC.ex C U t _ _ _ _ _ _ K λp a6 q e1 a1 w1 J=>?_);obtain⟨G,rfl,L,g⟩:=q;cases p with
  |normal=>
   refine ax6 (TC.ex (N:=a+1) (pl:=.z) (E:=G) (R:=Sum AK1 AK2) (k:=aK) C V g _ _ _ _ _ _ J λp a7 q I n w2 m=>?_);obtain⟨d,rfl,M,j⟩:=q;cases p with
   |normal=>
    have f:=Sum.inl.inj (av_ j);have q3:dj d.t 3=_:=awh (λz=>z.1.1) f;have q4:dj d.t 4=_:=awh (λz=>z.1.2.1) f;have q5:dj d.t 5=_:=awh (λz=>z.1.2.2.1) f;have D:dj d.t 6=_:=awh (λz=>z.1.2.2.2.1) f;have F:dj d.t 7=_:=awh (λz=>z.1.2.2.2.2) f;have N:bH d.h 3=_:=awh (λz=>z.2.1) f;have O:bH d.h 4=_:=awh (λz=>z.2.2.1) f;have P:bH d.h 5=_:=awh (λz=>z.2.2.2.1) f;have u:bH d.h 6=_:=awh (λz=>z.2.2.2.2.1) f;have y:bH d.h 7=_:=awh (λz=>z.2.2.2.2.2) f;have S:d.n=30:=M.trans L;obtain⟨En,o,r⟩:=d;simp only at S q3 q4 q5 D F N O P u y;subst S;obtain⟨id,aa,ab,p1,p2,a8,a9,tt,a0⟩:=alj;rw[a0];refine ax6 (adn rfl m (by show 14<30;decide) λa3 Q=>?_);have w3:bO (hP o) 3=.pt 3 0:=(cU _ _).trans (by rw[q3];rfl);have w4:bO (hP o) 4=.pt 4 0:=(cU _ _).trans (by rw[q4];rfl);have w5:bO (hP o) 5=.pt 5 0:=(cU _ _).trans (by rw[q5];rfl);have w6:bO (hP o) 6=.pt 6 0:=(cU _ _).trans (by rw[D];rfl);have w7:bO (hP o) 7=.pt 7 0:=(cU _ _).trans (by rw[F];rfl);have W:bc (bF r) 3=some (cA (.box 34 (gS s.1 s.2.1 s.2.2.1 s.2.2.2))):=(dw _ _).trans (by rw[N];rfl);have X:bc (bF r) 4=some (cA (.box 48 [.sc j1 x.1,.sc iw x.2.1,.sc Gy x.2.2])):=(dw _ _).trans (by rw[O];rfl);have Y:bc (bF r) 5=some (cA (.box 27 [.sc j1 w.1,.sc j1 w.2.1,.sc j1 w.2.2.1,.sc j1 w.2.2.2.1,.sc iw w.2.2.2.2])):=(dw _ _).trans (by rw[P];rfl);have Z:bc (bF r) 6=some (cA (.box 34 zS)):=(dw _ _).trans (by rw[u];rfl);have o7:bc (bF r) 7=some (cA (.box 42 zR)):=(dw _ _).trans (by rw[y];rfl);have vt:∀i k,bO (hP o) i=.pt k 0->VR (λ_ _ _=>True) (some I) (.pt k 0) (n.tmps.getD i undef):=λi k hk=>by
     have:=m.tr i;rw[show bO (br ⟨30,o,r⟩).t i=_ from hk]at this;exact this.mono λ_ _ _ _=>trivial
    refine as5 (B:=B) (u3:=n.tmps.getD 3 undef) (u6:=n.tmps.getD 6 undef) (u7:=n.tmps.getD 7 undef) A h2 ?_ Q (auR Q.sr W X Y Z o7) (auS s.1 s.2.1 s.2.2.1 s.2.2.2 x.1 x.2.1 x.2.2 w.1 w.2.1 w.2.2.1 w.2.2.2.1 w.2.2.2.2 W X Y Z o7) w3 w4 w5 w6 w7 (vt 3 3 w3) (vt 6 6 w6) (vt 7 7 w7);simp[Act.eval]
   |_=>cases j
  |_=>cases g
noncomputable def tR:Nat->mq [j1,kB,j1,j1,j1,iw,Gy,j1,j1,j1,j1,iw]->At (Int×Do bm×Int×Int×Int×Int×aX):=λN (n,e,a,d,k,b,c,w)=>(Gf (N+1) (n,e,a,d) (k,b,c) w).map λy=>(y.1.1,y.1.2.1,y.1.2.2.1,y.1.2.2.2,y.2.1,y.2.2.1,y.2.2.2)
noncomputable def Py:CO:=⟨λN=>⟨8,[.ag [.h j1,.h kB,.h j1,.h j1],.ag [.h j1,.h iw,.h Gy],.ag [.h j1,.h j1,.h j1,.h j1,.h iw]],[],[j1,kB,j1,j1,j1,iw,Gy,j1,j1,j1,j1,iw],Int×Do bm×Int×Int×Int×Int×aX,tR N,λy _ k=>k (rTk y.1 y.2.1 y.2.2.1 y.2.2.2.1 y.2.2.2.2.1 y.2.2.2.2.2.1 (.sc j6 y.2.2.2.2.2.2)) [],false,false⟩,λN=>by
 refine⟨λ_=>rfl,λx y i=>⟨rTk y.1 y.2.1 y.2.2.1 y.2.2.2.1 y.2.2.2.2.1 y.2.2.2.2.2.1 (.sc j6 y.2.2.2.2.2.2),[],λR k=>rfl,λ_=>rfl,λh=>(by cases h),?_⟩⟩;obtain⟨n,o,c,m,k,d,l,a,b,g,P,j⟩:=x;obtain⟨p,e,f⟩:=awC.1 (show(Gf (N+1) (n,o,c,m) (k,d,l) (a,b,g,P,j)).map _=some y from i);subst f;exact as6 e⟩
