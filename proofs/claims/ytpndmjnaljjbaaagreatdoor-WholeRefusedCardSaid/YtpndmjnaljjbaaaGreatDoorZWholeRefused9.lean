/- part 9 -/
import Derived.Test.YtpndmjnaljjbaaaGreatDoorZWholeRefused8
set_option linter.all false
noncomputable section
open Go Go.RowKit
set_option maxRecDepth 100000
open Go.Proofs.Tryz
namespace Go.Proofs.YtpndmjnaljjbaaaGreatDoor
section
open Go Go.RowKit MapKept
section
variable{P:Fd}{Dk:Deferred->Prop}{w0:GE}{T:EQ->bz}
section
variable{ops:bs}{ts:Nat->Tr CV}{hs:Nat->Tr c5}{ns:Nat->Nat}{ρ0 ρ ρ1:Nm}{a0 a:Act}{ws w w1:GE}{S:Nat->In}{C:KH}{j:Nat}{o:Oper}{c:CV}{v:Id}{D:AO}
def k5.ak1(hx:TX ops)(l:Of P Dk w0 ops ts hs ns)(n:k5 P Dk w0 ops ts hs ns ρ0 a0 ws S ρ C a w)(I:Rdy ops S j)(z:ops[j]? =some o)(hp:Hh o.dst c (ts j) (ts (j+1)))(a3:e_ o.op≠2){nb:At c5}(t:ns (j+1)=DD (ns j) nb)
 (hh:∀k,(hs (j+1)).get k=yo (hs j).get (ns j) nb k) (a8:nb≠none->e_ o.op=0) (B:KP P w0 (Nm.cut ρ (ns j)) (λ_=>none) (ns j) w ρ1 (yo (λ_=>none) (ns j) nb) (DD (ns j) nb) w1)
 (hv:KR ρ1 c v) (hD:∀d∈D,Dk d):∃ρ2 Z,k5 P Dk w0 ops ts hs ns ρ0 a0 ws (λi=>S i||i==j) ρ2 Z (({a with defers:=D++a.defers}:Act).put o.dst v) w1:=by
 have J:=(axs.1 z).1;have a4:=n.free l I J;have ad:=l.mono j J;have a1:=l.le (axT j) bv;have a5:=l.le (a:=j+1) bv (axp _);rw[<-t]at B;obtain⟨kp,l1,l2⟩:=n.kp.add B a1 a5 a4;have W:∀{i},zj ops i->i≠j:=λ{i} f e=>by
  subst e;obtain⟨o',r,V⟩:=f;obtain rfl:=axt (z.symm.trans r);exact a3 V
 have M:∀k,¬(ns j<=k/\k<ns (j+1))->AA (ns (j+1)) ρ1 ρ k=ρ k:=λk g=>by
  by_cases h:k<ns (j+1)
  .rw[eD h,B.ro k bv,Nm.ji bv]
  .rw[ig bv]
 have U:∀{k x},Gd ops ns (λi=>S i||i==j) k x->Gd ops ns S k x:=λ{k x} ⟨O,Q,R,G⟩=>⟨O,Q,λi f L=>R i f (by simp[L]),λi f m L=>G i f m (by simp[L,W f])⟩;have Y:∀{k x},ns j<=k->k<ns (j+1)->Gd ops ns (λi=>S i||i==j) k x->j+1<=x/\(hs x).get k=yo (λ_=>none) (ns j) nb k:=λ{k x} r V ⟨O,Q,R,G⟩=>by
  have X:j+1<=x:=by
   by_cases h:x<=j
   .have:=l.le h bv;omega
   .omega
  cases u:nb with
  |none=>rw[u]at t;simp only[DD]at t;omega
  |some b=>
   have g:k=ns j:=by rw[u]at t;simp only[DD]at t;omega
   have h0:=a8 (by rw[u];simp);refine⟨X,?_⟩;have N:(hs (j+1)).get k=some b:=by rw[hh,u];exact axn g
   have ac:∀y,j+1<=y->y<=x->(hs y).get k=some b:=by
    intro y A ae
    induction y with
    |zero=>omega
    |succ y ih=>
     by_cases e:y=j
     .subst e;exact N
     .have ab:=ih bv bv
      have a7:y<ops.length:=bv
      have K:ops[y]? =some ops[y]:=axz a7;have a6:k<ns y:=by have:=l.le (a:=j+1) (b:=y) bv bv;omega
      by_cases H:e_ (ops[y]).op=2
      .have f:zj ops y:=⟨_,K,H⟩
       have a9:S y=true:=by
        cases h:S y with
        |true=>rfl
        |false=>have:=G y f bv (by simp[h,e]);omega
       rcases l.made j y o _ z K h0 H bv (I.be y a9)with h|h
       .omega
       .rw[<-g]at h
        rw[<-h];exact N
      .rw[(l.k6 y _ K).keep H a6];exact ab
   rw[ac x X (axp _)];exact(axn g).symm
 refine⟨_,_,n.next hx l I z hp l2 (hv.mono λk p g=>?_) hD kp (λk x m s=>?_) (λk x y m s A=>?_) (λx aa a2=>n.Ir x aa λi r f=>?_) (λk g=>?_)⟩
 .have:=B.hr.lt g
  rw[Nm.ji this];exact l1 k p g
 .by_cases h:ns j<=k/\k<ns (j+1)
  .rw[axn h]
   exact(Y h.1 h.2 s).2.symm
  .rw[axm h]
   rw[M k h]at m;exact n.hg k x m (U s)
 .by_cases h:ns j<=k/\k<ns (j+1)
  .obtain⟨E,F⟩:=Y h.1 h.2 s
   rw[eD h.2]at m;rw[F]at A;obtain⟨q,hq⟩:=aAB.1 m;exact((B.hr.ob k y q.1 q.2 A hq).LN B.hr.top).mono (l.le E s.1)
  .rw[M k h]at m
   exact n.hb k x y m (U s) A
 .have:=a2 i r f
  simpa[W f]using this
 .by_cases h:ns j<=k/\k<ns (j+1)
  .exact .inr ⟨j,J,d5,h.1,h.2⟩
  .rw[M k h]at g
   rcases n.own k g with r|⟨i,E,F,e3⟩
   .exact .inl r
   .exact .inr ⟨i,E,by simp[F],e3⟩
def Rdy.row(g:TX ops)(f:Rdy ops S j)(b:zj ops j):(∀i,zj ops i->S i=true->i<j)/\∀i,i<j->zj ops i->S i=true:=by
 obtain⟨o,q,m⟩:=b;have h:∀i,zj ops i->i=j\/qd ops i j=true:=λi ⟨p,k,l⟩=>g.row i j p o k q l m;refine⟨λi b d=>?_,λi r b=>?_⟩
 .rcases h i b with e|e
  .subst e;rw[f.no]at d;cases d
  .simp only[qd,ayo]at e
   rcases e with e|e
   .by_cases n:i=j
    .subst n;rw[f.no]at d;cases d
    .have:=g.le e;omega
   .rw[f.be i d]at e;cases e
 .rcases h i b with e|e
  .omega
  .simp only[qd,ayo]at e
   rcases e with e|e
   .exact f.ah i e bv
   .have:=g.le e;omega
def k5.aoG(R:TX ops)(l:Of P Dk w0 ops ts hs ns)(m:k5 P Dk w0 ops ts hs ns ρ0 a0 ws S ρ C a w)(I:Rdy ops S j)(K:ops[j]? =some o)(hp:Hh o.dst c (ts j) (ts (j+1)))(a3:e_ o.op=2)
 (B:KP P w0 (Nm.cut ρ (ns j)) (hs j).get (ns j) w ρ1 (hs (j+1)).get (ns (j+1)) w1)
 (hv:KR ρ1 c v) (hD:∀d∈D,Dk d):∃ρ2 Y,k5 P Dk w0 ops ts hs ns ρ0 a0 ws (λi=>S i||i==j) ρ2 Y (({a with defers:=D++a.defers}:Act).put o.dst v) w1:=by
 have J:=(axs.1 K).1;have Q:zj ops j:=⟨o,K,a3⟩;have a4:=m.free l I J;have a6:=l.mono j J;have a1:=l.le (axT j) bv;have a5:=l.le (a:=j+1) bv (axp _);obtain⟨M,r2⟩:=I.row R Q;obtain⟨a2,_,_⟩:=m.at l (by omega:j<=ops.length) M r2;obtain⟨kp,l1,l2⟩:=m.kp.merge B a1 a5 a2 a4;have X:∀{k x},k<ns (j+1)->Gd ops ns (λi=>S i||i==j) k x->j+1<=x/\(hs x).get k=(hs (j+1)).get k:=λ{k x} g ⟨E,N,F,G⟩=>by
  have U:j<x:=F j Q d5;refine⟨U,l.Yr U E (λi r H f=>?_) g⟩;have z:S i=false:=by
   cases h:S i with
   |false=>rfl
   |true=>have:=M i f h;omega
  have:=G i f H (by simp[z];omega);have:=l.le (a:=j+1) (b:=i) r bv;omega
 have W:∀{k x},ns (j+1)<=k->Gd ops ns (λi=>S i||i==j) k x->Gd ops ns S k x:=λ{k x} g ⟨E,N,F,G⟩=>⟨E,N,λi f z=>F i f (by simp[z]),λi f n z=>by
  by_cases e:i=j
  .subst e;omega
  .exact G i f n (by simp[z,e])⟩
 refine⟨_,_,m.next R l I K hp l2 (hv.mono λk p g=>?_) hD kp (λk x n s=>?_) (λk x y n s L=>?_) (λx V O=>?_) (λk g=>?_)⟩
 .have:=B.hr.lt g
  rw[Nm.ji this];exact l1 k p g
 .by_cases h:k<ns (j+1)
  .rw[eD h]
   exact(X h s).2.symm
  .rw[ig bv]at n⊢
   exact m.hg k x n (W bv s)
 .by_cases h:k<ns (j+1)
  .obtain⟨t,u⟩:=X h s
   rw[eD h]at n;rw[u]at L;obtain⟨q,hq⟩:=aAB.1 n;exact((B.hr.ob k y q.1 q.2 L hq).LN B.hr.top).mono (l.le t s.1)
  .rw[ig bv]at n
   exact m.hb k x y n (W bv s) L
 .by_cases h:x<=j
  .exact m.Ir x V λi r f=>by
    have:=O i r f;have e:i≠j:=bv
    simpa[e]using this
  .refine l.aoF (a:=j+1) bv V (λi r H f=>?_) B.hr.Ir
   have:=O i H f;have e:i≠j:=bv
   have:S i=true:=by simpa[e]using this
   have:=M i f this;omega
 .by_cases h:k<ns (j+1)
  .by_cases Z:ns j<=k
   .exact .inr ⟨j,J,d5,Z,h⟩
   .rw[eD h,B.ro k bv,Nm.ji bv]at g
    rcases m.own k g with r|⟨i,t,u,A⟩
    .exact .inl r
    .exact .inr ⟨i,t,by simp[u],A⟩
  .rw[ig bv]at g
   rcases m.own k g with r|⟨i,t,u,A⟩
   .exact .inl r
   .exact .inr ⟨i,t,by simp[u],A⟩
def k5.reads(n:TX ops)(t:Of P Dk w0 ops ts hs ns)(O:k5 P Dk w0 ops ts hs ns ρ0 a0 ws S ρ C a w)(H:Rdy ops S j)(s:ops[j]? =some o)(hp:Hh o.dst c (ts j) (ts (j+1)))(L:e_ o.op=1)(hw:GO ops o.guard ((ts j).res (oK ops o)) true)
 (hf:PK P w0 o ((ts j).res (oK ops o)) (hs j) c):∃v,(execOp a.eval o).run P w=.ok (.value v) w/\KR (Nm.cut ρ (ns j)) c v:=by
 have aj:=(axs.1 s).1;have W:=O.aun n t H s;by_cases K:(∀i,zj ops i->S i=true->i<j)/\∀i,i<j->zj ops i->S i=true
 .exact hf _ a w _ W (O.at t (by omega:j<=ops.length) K.1 K.2).2.1
 have ac:∀{i},zj ops i->i≠j:=λ{i} Q e=>by
  subst e;obtain⟨o',f,k⟩:=Q;obtain rfl:=axt (s.symm.trans f);omega
 have a4:∀i b,zj ops i->zj ops b->i<b->S b=true->S i=true:=λi b ⟨p,f,k⟩ ⟨G,a5,a6⟩ E ae=>by
  rcases n.row i b p G f a5 k a6 with e|e
  .omega
  .simp only[qd,ayo]at e
   rcases e with e|e
   .exact H.cl i b ae e
   .have:=n.le e;omega
 obtain⟨m,x,Q,ah,M,e1,e2⟩:∃m x,zj ops m/\(x=m\/x=m+1)/\qd ops j m=false/\(∀i,zj ops i->S i=true->i<x)/\∀i,i<x->zj ops i->S i=true:=by
  by_cases Y:∃i,i<ops.length/\(zj ops i/\S i=true/\j<i)
  .obtain⟨m,ab,⟨F,A,ak⟩,a9⟩:=Ov (λi=>zj ops i/\S i=true/\j<i) ops.length Y
   refine⟨m,m+1,F,.inr rfl,?_,λi l z=>?_,λi E l=>?_⟩
   .cases h:qd ops j m with
    |false=>rfl
    |true=>
     simp only[qd,ayo]at h;rcases h with h|h
     .rw[H.be m A]at h;cases h
     .have:=n.le h;omega
   .by_cases h:i<m+1
    .exact h
    .exact absurd ⟨l,z,bv⟩ (a9 i bv (by obtain⟨p,f,_⟩:=l;exact(axs.1 f).1))
   .by_cases h:i=m
    .subst h;exact A
    .exact a4 i m l F bv A
  .have a1:∀i,zj ops i->S i=true->i<j:=λi l z=>by
    by_cases h:i<j
    .exact h
    .exact absurd ⟨i,by obtain⟨p,f,_⟩:=l;exact(axs.1 f).1,l,z,by have:=ac l;omega⟩ Y
   obtain⟨i0,h0⟩:∃i,i<j/\zj ops i/\S i=false:=by
    apply aBU;intro R;refine K ⟨a1,λi E l=>?_⟩;cases h:S i with
    |true=>rfl
    |false=>exact absurd ⟨i,E,l,h⟩ R
   have ai:∀i,(i<j/\zj ops i/\S i=false)->∃m,(m<j/\zj ops m/\S m=false)/\∀b,b<m->¬(b<j/\zj ops b/\S b=false):=by
    intro i
    induction i using Nat.strongRecOn with
    |_ i ih=>
     intro h;by_cases hh:∃b,b<i/\(b<j/\zj ops b/\S b=false)
     .obtain⟨b,f,k⟩:=hh
      exact ih b f k
     .exact⟨i,h,λb f k=>hh ⟨b,f,k⟩⟩
   obtain⟨m,⟨al,F,A⟩,aa⟩:=ai i0 h0;refine⟨m,m,F,.inl rfl,?_,λi l z=>?_,λi E l=>?_⟩
   .cases h:qd ops j m with
    |false=>rfl
    |true=>
     simp only[qd,ayo]at h;rcases h with h|h
     .have:=n.le h;omega
     .have:=H.ah m h bv;rw[A]at this;cases this
   .rcases ayZ i m with h|h|h
    .exact h
    .subst h;rw[A]at z;cases z
    .have:=a4 m i F l h z
     rw[A]at this;cases this
   .cases h:S i with
    |true=>rfl
    |false=>exact absurd ⟨bv,l,h⟩ (aa i E)
 obtain⟨p,I,U⟩:=Q;have ab:=(axs.1 I).1;have af:GP P w0 ops o (ts ops.length) (hs x):=by
  have:=t.rd j m o p s I L U M;rcases ah with e|e
  .subst e;exact this.1
  .subst e;exact this.2
 have a7:=(O.at t (by omega:x<=ops.length) e1 e2).2.2;have a3:oJ ρ ((ts ops.length).res (oK ops o)) a:=by
  intro y c' B;rw[Tr.o4]at B;have V:oK ops o y=true:=by
   cases h:oK ops o y with
   |true=>rfl
   |false=>rw[h]at B;cases B
  rw[axn V]at B;have ag:∀(i:Nat) q,ops[i]? =some q->q.dst=some y->i<j:=λi q hq a2=>by
   have k:=V;unfold oK at k;rw[ayo]at k;rcases k with h|h
   .have r:=n.rd j m o p s I L U M i q y hq (aBX.1 h) a2
    have:=n.le r.1;omega
   .split at h
    next g hg=>obtain⟨G,f,k⟩:=azJ.1 (by simpa using h:rb ops g.1=some y);have r:=n.gd j o g s hg;obtain rfl:i=g.1:=hQ n.inj i g.1 q G y hq f a2 k;have:=n.le r.1;omega
    .cases h
  rw[t.yx (a:=j) bv (axp _) λi f k q r J=>by have:=ag i q r J;omega]at B;obtain⟨u,f,k⟩:=W y c' (by rw[Tr.o4,axn V];exact B);exact⟨u,f,k.mono (Nm.Qs ρ _)⟩
 rcases af with R|⟨d,X,N,Z,ad⟩
 .have f:=hw _ a W o rfl
  have k:=R _ a a3 o rfl;rw[f]at k;cases k
 .obtain⟨v,f,k⟩:=ad ρ a w _ a3 a7
  have a8:X=c:=by
   have r:=Z;rw[t.yx (a:=j+1) bv (axp _) λb f k G r J=>by have:=hQ n.inj b j G o d r s J N;omega,(hp.2 d N).2 d,axn rfl]at r;cases r;rfl
  subst a8;exact⟨v,f,t.bl j m o p d X s I L U M N Z ρ v k⟩
end
end
end
variable{h:Nat}{B:Tr c5}{m:Tr CV}
section
open Go Go.RowKit MapKept
section
variable{P:Fd}{Dk:Deferred->Prop}{w0:GE}{T:EQ->bz}
def X7.inv{ops:bs}{o:Oper}{t g:Tr CV}{h b:Tr c5}{n f:Nat}(hs:X7 P Dk w0 ops o t h n g b f):
 (∃c,GO ops o.guard (t.res (oK ops o)) true/\kg P Dk w0 o (t.res (oK ops o)) h n c b f/\Hh o.dst c t g)\/(b=h/\f=n/\GO ops o.guard (t.res (oK ops o)) false/\Hh o.dst (.v undef) t g):=by
 cases hs with
 |run c l m k e i d=>exact .inl ⟨c,e,i,d⟩
 |skip k e d=>exact .inr ⟨rfl,rfl,e,d⟩
section
variable{ops:bs}{ts:Nat->Tr CV}{hs:Nat->Tr c5}{ns:Nat->Nat}{ρ0 ρ:Nm}{a0 a:Act}{ws w:GE}{S:Nat->In}{C:KH}{j:Nat}{o:Oper}
def k5.step(l:TX ops)(f:Of P Dk w0 ops ts hs ns)(b:k5 P Dk w0 ops ts hs ns ρ0 a0 ws S ρ C a w)(g:Rdy ops S j)(d:ops[j]? =some o){next:Act->GE->Prop}{Q:IR->Act->GE->Prop}
 (q:∀Y L I y,k5 P Dk w0 ops ts hs ns ρ0 a0 ws (λi=>S i||i==j) Y L I y->next I y):wpOp P ops.toArray Q j next a w:=by
 have a1:=(axs.1 d).1;have u:=b.aun l f g d;have V:ops.toArray[j]? =some o:=by simpa using d
 unfold wpOp;rw[V];simp only;rcases(f.k6 j o d).inv with⟨c,x,m,n⟩|⟨s,t,x,n⟩
 .rw[x _ a u o rfl,axn rfl]
  refine .inl ?_;by_cases J:e_ o.op=0
  .unfold kg at m
   rw[J]at m;obtain⟨cf,nb,O,U,R,X⟩:=m;refine X _ a w (λ_=>none) (ns j) u (.empty b.kp.hr.ext) next Q λv y D ⟨Z,B,F⟩ A=>?_
   obtain⟨z,r,e⟩:=b.ak1 l f g d n bv U R (λ_=>J) B (by rw[O];exact F) A;exact q _ _ _ _ e
  .by_cases K:e_ o.op=1
   .unfold kg at m
    rw[K]at m;obtain⟨s,t,W⟩:=m;obtain⟨v,M,N⟩:=b.reads l f g d n K x W;refine eA M ?_;obtain⟨z,r,e⟩:=b.ak1 (nb:=none) (D:=[]) l f g d n bv t (λk=>by rw[s];rfl) (λh=>absurd rfl h) (.refl (.empty b.kp.hr.ext)) N d5;exact q _ _ _ _ e
   .have e:e_ o.op=2:=by
     have:e_ o.op=0\/e_ o.op=1\/e_ o.op=2:=by
      unfold e_;split<;>simp
     omega
    obtain⟨G,H⟩:=g.row l ⟨o,d,e⟩;have E:=(b.at f (by omega:j<=ops.length) G H).2.1;refine m.fk _ a w u E next Q λv y D ⟨Z,B,F⟩ A=>?_
    obtain⟨z,r,p⟩:=b.aoG l f g d n e B F A;exact q _ _ _ _ p
 .rw[x _ a u o rfl,axm d5]
  by_cases e:e_ o.op=2
  .obtain⟨G,H⟩:=g.row l ⟨o,d,e⟩
   have E:=(b.at f (by omega:j<=ops.length) G H).2.1;obtain⟨z,r,p⟩:=b.aoG (D:=[]) (v:=undef) l f g d n e (by rw[s,t];exact .refl E) .v d5;exact q _ _ _ _ p
  .obtain⟨z,r,p⟩:=b.ak1 (nb:=none) (D:=[]) (v:=undef) l f g d n e t (λk=>by rw[s];rfl) (λh=>absurd rfl h) (.refl (.empty b.kp.hr.ext)) .v d5
   exact q _ _ _ _ p
def k5.fin(G:TX ops)(s:Of P Dk w0 ops ts hs ns)(d:k5 P Dk w0 ops ts hs ns ρ0 a0 ws S ρ C a w)(l:∀i,i<ops.length->S i=true):
 oJ ρ (ts ops.length) a/\KP P w0 ρ0 (hs 0).get (ns 0) ws ρ (hs ops.length).get (ns ops.length) w/\Df Dk a0 a:=by
 have F:∀i,zj ops i->i<ops.length:=λi ⟨p,b,_⟩=>(axs.1 b).1;obtain⟨b,_,_⟩:=d.at s (axp _) (λi B _=>F i B) (λi r _=>l i r);refine⟨λx c m=>?_,d.kp.agree (λk y=>?_) (d.Ir _ (axp _) λi r _=>l i r),d.df⟩
 .by_cases n:∃(i:Nat) (p:Oper),ops[i]? =some p/\p.dst=some x
  .obtain⟨i,p,z,D⟩:=n
   obtain⟨v,b,e⟩:=d.t1 i p x c z D (l i (axs.1 z).1) m;exact⟨v,b,e.mono (Nm.Qs ρ _)⟩
  .rw[s.yx (axT _) (axp _) λt b e u f g=>n ⟨t,u,f,g⟩]at m
   obtain⟨v,b,e⟩:=d.t0 x c (λt u f g=>absurd ⟨t,u,f,g⟩ n) m;exact⟨v,b,e.mono (Nm.Qs ρ _)⟩
 .have A:k<ns ops.length:=by
   rcases y with h|h
   .have:=s.le (axT ops.length) (axp _);omega
   .obtain⟨q,E⟩:=aAB.1 h
    exact d.kp.hr.lt E
  exact b k A y
def k5.any(D:TX ops)(M:Of P Dk w0 ops ts hs ns){Q:IR->Act->GE->Prop}(Z:∀v p u,oJ v (ts ops.length) p->KP P w0 ρ0 (hs 0).get (ns 0) ws v (hs ops.length).get (ns ops.length) u->Df Dk a0 p->Q .normal p u):
 ∀(k:Nat) (c:Array In) (ρ:Nm) (C:KH) (a:Act) (w:GE),c.size=ops.length->rF ops (λi=>c.getD i false)->(∀m,m=(c.toList.filter (·==false)).length->m=k)->k5 P Dk w0 ops ts hs ns ρ0 a0 ws (λi=>c.getD i false) ρ C a w->
 wpAny P .any ops.toArray Q k c a w:=by
 intro k
 induction k with
 |zero=>
  intro c ρ C a w B x s y;have H:∀j,j<ops.length->c.getD j false=true:=λj g=>by
   have X:(c.toList.filter (·==false)).length=0:=s _ rfl;have f:c.toList.filter (·==false)=[]:=ayn X;have z:j<c.size:=bv
   have:c[j]∈c.toList:=d5
   have d:=aB4.1 f _ this;have:c[j]=true:=by simpa using d
   simp[z,this]
  obtain⟨R,U,V⟩:=y.fin D M H;refine⟨?_,Z _ _ _ R U V⟩;rw[aAI];intro j g;obtain⟨f,o,q,_⟩:=az0.1 g;have J:j<ops.length:=by
   have:=(ax7.1 q).1;simp at this;exact this
  have d:=H j J;rw[aAJ f]at d;cases d
 |succ k ih=>
  intro c ρ C a w B x s y;have aa:∃j,j<ops.length/\c.getD j false=false:=by
   have f:(c.toList.filter (·==false)).length=k+1:=s _ rfl;have d:c.toList.filter (·==false)≠[]:=λh=>by rw[h]at f;simp at f
   obtain⟨b,l⟩:=aAm _ d;obtain⟨a1,a2⟩:=ay8.1 l;obtain⟨j,g,a6⟩:=ayb a1;refine⟨j,by rw[<-B];simp at g;exact g,?_⟩;have z:j<c.size:=by simp at g;exact g
   have:c[j]=b:=by simpa using a6
   have a3:b=false:=by simpa using a2
   simp[z,this,a3]
  refine⟨λa9=>?_,λj g=>?_⟩
  .exfalso
   obtain⟨j,a4,a5⟩:=aa;have:∀j,j<ops.length->c.getD j false=false->False:=by
    intro j
    induction j using Nat.strongRecOn with
    |_ j ae=>
     intro f d;have q:ops[j]? =some ops[j]:=axz f;by_cases A:∀e∈(ops[j]).after,Region.binds .any e=true->c.getD e.on false=true
     .have:j∈Region.ready .any ops.toArray c:=az0.2 ⟨getD_in bv d,ops[j],d5,A⟩
      rw[a9]at this;cases this
     .simp only[aB5]at A
      obtain⟨e,he,l,a8⟩:=A;have r:=D.back j _ q e he l;exact ae e.on r bv (by simpa using a8)
   exact this j a4 a5
  .obtain⟨f,o,q,N⟩:=az0.1 g
   have t:ops[j]? =some o:=by simpa using q
   have J:j<ops.length:=(axs.1 t).1;have I:c.getD j false=false:=aAJ f;refine y.step D M (Rdy.of t x I N) t λv O p u W=>?_;have F:(λi=>(c.setIfInBounds j true).getD i false)=λi=>c.getD i false||i==j:=by
    funext i;by_cases n:i=j
    .subst n
     simp[ayH,show i<c.size by omega]
    .have d:¬j=i:=λh=>n h.symm
     simp[ayH,aA9,d,n]
   refine ih _ v O p u (by simpa using B) ?_ ?_ (by rw[F];exact W)
   .rw[F]
    intro i oi K ab E G l;by_cases n:i=j
    .subst n
     obtain rfl:=axt (t.symm.trans K);simp[N E G l]
    .have ac:c.getD i false=true:=by simpa[n]using ab
     have:=x i oi K ac E G l;simp[this]
   .intro m a7
    have d:(c.toList.filter (·==false)).length=k+1:=s _ rfl;have Y:∀(L:bh) (j:Nat),L[j]? =some false->((L.set j true).filter (·==false)).length+1=(L.filter (·==false)).length:=by
     intro L
     induction L with
     |nil=>intro j h;simp at h
     |cons b L ad=>
      intro j h;cases j with
      |zero=>simp at h;subst h;simp
      |succ j=>
       have:=ad j (by simpa using h);cases b<;>simp_all<;>omega
    have h4:=Y c.toList j (by
     have r:j<c.size:=bv
     have:c[j]=false:=by simpa[r]using I
     simp[r,this])
    rw[az_]at a7;omega
def k5.init(J:TX ops)(f:Of P Dk w0 ops ts hs ns)(F:oJ ρ (ts 0) a)(d:HR P w0 ρ (hs 0).get (ns 0) w)(m:∀i,S i=false):k5 P Dk w0 ops ts hs ns ρ a w S ρ (hs 0).get a w:=by
 have s:∀k,ρ k≠none->k<ns 0:=λk b=>by
  obtain⟨q,r⟩:=aAB.1 b;exact d.lt r
 have z:∀{k x},k<ns 0->Gd ops ns S k x->(hs x).get k=(hs 0).get k:=λ{k x} b ⟨A,H,I,B⟩=>f.Yr (axT _) A (λi l e n=>by
  have:=B i n e (m i);have:=f.le (axT i) bv;omega) b
 refine⟨.wide d (f.le (axT _) (axp _)),λi o x c _ _ t=>?_,λx c _ E=>?_,λk x h g=>?_,λk x y h g u=>?_,λx G D=>?_,λk b=>.inl (s k b),.refl a⟩
 .rw[m i]at t;cases t
 .obtain⟨v,l,e⟩:=F x c E
  exact⟨v,l,e.mono λk p b=>by rw[Nm.ji (d.lt b)];exact b⟩
 .exact(z (h.elim id (s k)) g).symm
 .rw[z (s k h) g]at u
  obtain⟨q,r⟩:=aAB.1 h;exact((d.ob k y q.1 q.2 u r).LN d.top).mono (f.le (axT _) g.1)
 .exact f.aoF (axT _) G (λi l e n=>by have:=D i e n;rw[m i]at this;cases this) d.Ir
end
def ak2{R:Type}{r:R}{l:FuncId->In}{n:KC R}(L:P.follows .mixedOrders=true)(F:gJ P T)(D:∀b o u,GT b o u->w0.cell? ⟨b,o,none⟩=some u)(E:kQ Dk l)(G:gT P w0 n){ops:yu}{k:KK R}(J:acO T l n ops.toList k m B h=some r):
 ∃x p v,k x p v=some r/\∀id ρ a w Q,oJ ρ m a->HR P w0 ρ B.get h w->(∀g d f,oJ g x d->KP P w0 ρ B.get h w g p.get v f->Df Dk a d->Q .normal d f)->(Code.region id ops true).wp P Q a w:=by
 obtain⟨t,ts,hs,ns,rfl,rfl,rfl,s,K⟩:=afl F D E G J;refine⟨_,_,_,K,λid ρ a w Q O q N=>wp_region_any L ?_⟩;have H:HR P w0 ρ (hs 0).get (ns 0) w.drew:=q.drew;have I:=k5.init (S:=λi=>(Array.replicate ops.size false).getD i false) t s O H λi=>aAn ..;refine k5.any (ρ0:=ρ) (a0:=a) (ws:=w.drew) t s (λg d f y z A=>N g d f y ((KP.drew q).trans z) A) _ _ ρ _ a _ d5 ?_ ?_ I
 .intro j o U e
  have e:(Array.replicate ops.size false).getD j false=true:=e;rw[aAn]at e;cases e
 .intro c M
  rw[M];simp
end
end
variable{a:Nat}
section
open Go Go.RowKit MapKept
section
variable{P:Fd}{Dk:Deferred->Prop}{w0:GE}{T:EQ->bz}{R:Type}{r:R}
def aoH(a:KK R)(c:Nat->KK R)(b:KK R):IR->KK R
 |.normal=>a
 |.exit i=>c i
 |.ret=>b
 |_=>λ_ _ _=>none
def CK(P:Fd)(Dk:Deferred->Prop)(w0:GE)(c:Code)(t:Tr CV)(h:Tr c5)(n:Nat)(x:IR)(i:Tr CV)(f:Tr c5)(g:Nat):Prop:=
 ∀ρ a w Q,oJ ρ t a->HR P w0 ρ h.get n w->(∀e b d,oJ e i b->KP P w0 ρ h.get n w e f.get g d->Df Dk a b->Q x b d)->c.wp P Q a w
def VN{M:FuncId->In}{O:KC R}(hm:P.follows .mixedOrders=true)(hT:gJ P T)(hG:∀b o u,GT b o u->w0.cell? ⟨b,o,none⟩=some u)(ac:kQ Dk M)(hc:gT P w0 O)(c:Code):
 ∀{A:KK R} {B:Nat->KK R} {D:KK R} {t:Tr CV} {h:Tr c5} {n:Nat},VH T M O a c A B D t h n=some r->∃x J G I,aoH A B D x J G I=some r/\CK P Dk w0 c t h n x J G I:=by
 induction c with
 |skip=>intro A B D t h n k;exact⟨.normal,t,h,n,k,λρ d w Q f g j=>wp_skip (j ρ d w f (.refl g) (.refl d))⟩
 |label l=>intro A B D t h n k;exact⟨.normal,t,h,n,k,λρ d w Q f g j=>wp_label (j ρ d w f (.refl g) (.refl d))⟩
 |exit i=>intro A B D t h n k;exact⟨.exit i,t,h,n,k,λρ d w Q f g j=>wp_exit (j ρ d w f (.refl g) (.refl d))⟩
 |ret=>intro A B D t h n k;exact⟨.ret,t,h,n,k,λρ d w Q f g j=>wp_ret (j ρ d w f (.refl g) (.refl d))⟩
 |region id a0 dr=>
  intro A B D t h n k;cases dr with
  |true=>
   have q:acO T M O a0.toList A t h n=some r:=k;obtain⟨J,G,I,C,hw⟩:=ak2 hm hT hG ac hc q;exact⟨.normal,J,G,I,C,λρ d w Q f g j=>hw id ρ d w Q f g j⟩
  |false=>
   have q:afg T M O a0.toList a0.toList A t h n=some r:=k;obtain⟨J,G,I,C,hw⟩:=acS hT hG ac hc a0.toList 0 rfl q;refine⟨.normal,J,G,I,C,λρ d w Q f g j=>wp_region ?_⟩;have:=hw ρ d w Q f g j;rw[<-aBH]at this;simpa using this
 |seq d b a9 aa=>
  intro A B D t h n k;obtain⟨E,y,p,s,q,z⟩:=a9 k;cases E with
  |normal=>
   obtain⟨X,W,H,V,C,N⟩:=aa q;exact⟨X,W,H,V,C,λρ d w Q f g j=>azo (z ρ d w _ f g λρ1 a1 w1 a7 U a3=>N ρ1 a1 w1 Q a7 U.hr λρ2 a2 w2 a8 ab a4=>j ρ2 a2 w2 a8 (U.trans ab) (a3.trans a4))⟩
  |exit i=>exact⟨.exit i,y,p,s,q,λρ d w Q f g j=>azo (z ρ d w _ f g j)⟩
  |ret=>exact⟨.ret,y,p,s,q,λρ d w Q f g j=>azo (z ρ d w _ f g j)⟩
  |_=>cases q
 |cond x d b a9 aa=>
  intro A B D t h n k;obtain⟨v,hv,q⟩:=cz k;obtain⟨bb,rfl,C⟩:=XT q;rcases dE C with⟨rfl,a5⟩|⟨rfl,a5⟩
  .obtain⟨E,y,p,s,a6,z⟩:=a9 a5
   exact⟨E,y,p,s,a6,λρ d w Q f g j=>wp_cond_true (hv ρ d f).bR (z ρ d w Q f g j)⟩
  .obtain⟨E,y,p,s,a6,z⟩:=aa a5
   exact⟨E,y,p,s,a6,λρ d w Q f g j=>wp_cond_false (hv ρ d f).bR (z ρ d w Q f g j)⟩
 |block id b S=>
  intro A B D t h n k;obtain⟨E,y,p,s,q,z⟩:=S k;cases E with
  |normal=>exact⟨.normal,y,p,s,q,λρ d w Q f g j=>wp_block (z ρ d w _ f g j)⟩
  |exit i=>
   have Z:bB (Nat.beq i id) A (B i) y p s=some r:=q;rcases hb:Nat.beq i id with _|_
   .have e:=hb
    rw[e]at Z;have C:B i y p s=some r:=Z;have ad:=jK e;exact⟨.exit i,y,p,s,C,λρ d w Q f g j=>wp_block (z ρ d w _ f g λL F K p H h3=>by
     show(if i=id then Q .normal F K else Q (.exit i) F K);rw[axm ad];exact j L F K p H h3)⟩
   .have e:=hb
    rw[e]at Z;have C:A y p s=some r:=Z;obtain rfl:=eu e;exact⟨.normal,y,p,s,C,λρ d w Q f g j=>wp_block (z ρ d w _ f g λL F K p H h3=>by
     show(if i=i then Q .normal F K else _);rw[axn rfl];exact j L F K p H h3)⟩
  |ret=>exact⟨.ret,y,p,s,q,λρ d w Q f g j=>wp_block (z ρ d w _ f g j)⟩
  |_=>cases q
 |loop b S=>
  intro A B D t h n k;have ag:∀(Y:Nat) {t:Tr CV} {h:Tr c5} {n:Nat},akW Y (VH T M O a b) B D t h n=some r->
   ∃m x J G I,x≠.normal/\aoH A B D x J G I=some r/\∀ρ d w Q,oJ ρ t d->HR P w0 ρ h.get n w->(∀L F K,oJ L J F->KP P w0 ρ h.get n w L G.get I K->Df Dk d F->Q x F K)->Code.rounds P b Q m d w:=by
   intro Y
   induction Y with
   |zero=>intro t h n k;cases k
   |succ Y af=>
    intro t h n k;obtain⟨E,y,p,s,q,z⟩:=S k;cases E with
    |normal=>
     obtain⟨m,X,W,H,V,ae,C,N⟩:=af q;exact⟨m+1,X,W,H,V,ae,C,λρ d w Q f g j=>z ρ d w _ f g λρ1 a1 w1 a7 U a3=>N ρ1 a1 w1 Q a7 U.hr λρ2 a2 w2 a8 ab a4=>j ρ2 a2 w2 a8 (U.trans ab) (a3.trans a4)⟩
    |exit i=>exact⟨1,.exit i,y,p,s,d5,q,λρ d w Q f g j=>z ρ d w _ f g j⟩
    |ret=>exact⟨1,.ret,y,p,s,d5,q,λρ d w Q f g j=>z ρ d w _ f g j⟩
    |_=>cases q
  obtain⟨m,X,W,H,V,_,C,N⟩:=ag a k;exact⟨X,W,H,V,C,λρ d w Q f g j=>wp_loop_rounds m (N ρ d w Q f g j)⟩
 |scope b S=>
  intro A B D t h n k;obtain⟨E,y,p,s,q,z⟩:=S k;cases E with
  |normal=>exact⟨.normal,y,p,s,q,λρ d w Q f g j=>aBY (z ρ d w _ f g j)⟩
  |exit i=>exact⟨.exit i,y,p,s,q,λρ d w Q f g j=>aBY (z ρ d w _ f g j)⟩
  |ret=>exact⟨.ret,y,p,s,q,λρ d w Q f g j=>aBY (z ρ d w _ f g j)⟩
  |_=>cases q
 |_=>intro A B D t h n k;cases k
end
end
variable{s:Func}{y:Do CV}{t:Nm}{b:GE}
section
open Go Go.RowKit MapKept
section
variable{P:Fd}{Dk:Deferred->Prop}{w0:GE}{T:EQ->bz}{R:Type}{r:R}
def KP.later{h:KH}{w i:GE}(c:HR P w0 t h a w)(d:Ext w i):KP P w0 t h a w t h a i:=by
 have k:=KP.refl c;exact⟨⟨c.ext.trans d,λx y b m g f=>(c.ob x y b m g f).mono (Fh.refl t) (d.bX b (c.ob x y b m g f).lt),c.lo,c.inj,c.top,c.Ir⟩,axp _,λ_ _=>rfl,d.size,
  λb e j=>⟨d.bX b e,(k.fr b e j).2⟩,k.ol,k.fz⟩
def xb{g:Func}{k:ea}{Q:Ending->GE->Prop}:∀(D:AO) (w:GE),Ext w0 w->(∀d∈D,K6 P w0 d)->(∀a,Ext w a->∃v,(results g k).run P a=.ok v a/\Q (.returned v) a)->Leaves P g k Q D .returning w
 |[],w,_,_,b=>b w (Ext.refl w)
 |d::D,w,h,i,b=>by
  obtain⟨p,m,f,l,y,z⟩:=i d d5;obtain⟨q,s⟩:=z w h;refine⟨d8,p,m,f,l,y,q,λc n u=>?_⟩;obtain⟨e,C,a,o,⟨⟨v,rfl⟩,rfl,j⟩,t⟩:=s c n u;exact⟨.returned v,.returning,a,o,xb D a (h.trans j) (λd x=>i d (by simp[x])) λB A=>b B (j.trans A),t⟩
def acW:∀{l:Do CV} {i:Nat} {t:Tr CV} {k:Tr CV->At R},aul l i t k=some r->∃g,k g=some r/\(∀j,g.get j=if i<=j/\j<i+l.length then l[j - i]? else t.get j)/\∀j,i<=j->j<i+l.length->∃x,t.get j=some x
 |[],i,t,k,h=>⟨t,h,λj=>by rw[axm (by simp only[ayq];omega)],λj d b=>by simp at b;omega⟩
 |c::l,i,t,k,h=>by
  obtain⟨u,d,⟨x,p⟩,e⟩:=Tr.od h;obtain⟨q,b,n,o⟩:=acW (l:=l) d;refine⟨q,b,λj=>?_,λj s m=>?_⟩
  .rw[n,e]
   simp only[axN];by_cases a:j=i
   .subst a
    rw[axm bv,axn rfl,axn bv];simp
   .by_cases f:i+1<=j/\j<i+1+l.length
    .rw[axn f,axn bv,show j - i=(j - (i+1))+1 by omega]
     rfl
    .rw[axm f,axm a,axm bv]
  .by_cases a:j=i
   .subst a;exact⟨x,p⟩
   .have:=o j bv (by simp at m;omega)
    rw[e,axm a]at this;exact this
def anH{cs:Do CV}{d:bH}(f:LR (KR t) cs d)(bc:∀j,m.get j=if 0<=j/\j<0+cs.length then cs[j - 0]? else(Tr.fill (.v undef) 64 a).get j)(eX:∀j,0<=j->j<0+cs.length->∃x,(Tr.fill (CV.v undef) 64 a).get j=some x):
 oJ t m {tmps:=d.toArray++Array.replicate (a - d.toArray.size) undef,defers:=[]}:=by
 intro i c b;rw[bc]at b;have l:=f.1;by_cases k:i<cs.length
 .rw[axn bv]at b
  obtain⟨u,g,h⟩:=f.get (by simpa using b);refine⟨u,?_,h⟩;have e:i<d.length:=bv
  simp[aAk,e];rw[axz e]at g;simpa using g
 .rw[axm bv]at b
  obtain⟨rfl,n⟩:=Tr.ku b;refine⟨undef,?_,.v⟩;have e:¬i<d.length:=bv
  simp only[aAk,azc,axm e,Array.getElem?_replicate];rw[axn bv]
def Qv(q:gJ P T)(n:∀b o u,GT b o u->w0.cell? ⟨b,o,none⟩=some u){h:Tr c5}{t:Tr CV}:∀{rs:Do ResultVar} {k:Do CV->At R},aq9 T h t rs k=some r->
 ∃d,(∀ρ a w N,oJ ρ t a->HR P w0 ρ h.get N w->∃f,(rs.mapM (mr a.tmps)).run P w=.ok f w/\LR (KR ρ) d f)/\k d=some r
 |[],k,g=>⟨[],λ_ _ _ _ _ _=>⟨[],d5,LR.nil⟩,g⟩
 |.tmp i::rs,k,g=>by
  obtain⟨c,s,z⟩:=bF g;obtain⟨d,v,A⟩:=Qv q n (rs:=rs) z;refine⟨c::d,λρ a w N j l=>?_,A⟩;obtain⟨f,D,B⟩:=v ρ a w N j l;obtain⟨u,E,C⟩:=j i c s;refine⟨u::f,?_,LR.cons C B⟩;have e:a.tmps.getD i undef=u:=by simp[ayH,E]
  rw[aAi];simp only[mr,axE,axH,axF,D,e]
 |.cell x O::rs,k,g=>by
  obtain⟨p,I,z⟩:=bF g;obtain⟨⟨M,m⟩,J,A⟩:=bF z;obtain⟨c,s,F⟩:=akC (h:=h) n (q.ty _ _ J) A;obtain⟨d,v,G⟩:=Qv q n (rs:=rs) F;refine⟨c::d,λρ a w N j l=>?_,G⟩;obtain⟨f,D,B⟩:=v ρ a w N j l;obtain⟨u,E,C⟩:=j x p I;obtain⟨b,o,y,K,H,L⟩:=s ρ w u N l C;refine⟨y::f,?_,LR.cons L B⟩;have e:a.tmps.getD x undef=u:=by simp[ayH,E]
  rw[aAi];simp only[mr,axE,e,K,asAddr,axH,axF,H,D]
def anI{b:bH}(a:LR (KR t) y b):KR t (afh y) (if h:b.toArray.size=1 then b.toArray[0]else .tuple b.toArray):=by
 match y,b,a with
 |[],[],a=>exact .tu [] rfl d5
 |[c],[u],a=>simpa[afh]using a.2 0 c u rfl rfl
 |c::d::y,u::e::b,a=>
  have:¬(u::e::b).toArray.size=1:=d5
  rw[dif_neg this];exact .tu _ a.1 a.2
 |[],u::b,a=>have:=a.1;simp at this
 |[c],[],a=>have:=a.1;simp at this
 |[c],u::e::b,a=>have:=a.1;simp at this
 |c::d::y,[],a=>have:=a.1;simp at this
 |c::d::y,[u],a=>have:=a.1;simp at this
def Lg{a:ea}{us:bH}(h:(s.results.toList.mapM (mr a)).run P b=.ok us b):(results s a).run P b=.ok (if h:us.toArray.size=1 then us.toArray[0]else .tuple us.toArray) b:=by
 have c:(s.results.mapM (mr a)).run P b=.ok us.toArray b:=by
  rw[aBo];simp only[aAl,h];rfl
 rw[z7];simp only[axE,c,axF,axH]
def Ya{α:Type}:∀(l:Do α) (i:Nat),atL l i=l[i]?
 |[],i=>by cases i<;>rfl
 |x::l,0=>rfl
 |x::l,i+1=>by
  show atL l i=l[i]?;exact Ya l i
structure EOk(P:Program)(w0:World)(E:VI):Prop where
 fs:P.funcs.toList=E.fs
 may:∀f,Nat.testBit E.may f=true->Enters P f
 idle:kQ (K6 P w0) λf=>Nat.testBit E.idle f
def VO{E:VI}{C:KC R}(hm:P.follows .mixedOrders=true)(G:gJ P T)(F:∀b o u,GT b o u->w0.cell? ⟨b,o,none⟩=some u)(q:EOk P w0 E)(M:gT P w0 C):gT P w0 (VJ (R:=R) T E a C):=by
 intro f cs h n k r S;obtain⟨a0,U⟩:=bp S;obtain⟨p,H,V⟩:=bF U;obtain⟨c,L,W⟩:=bF V;obtain⟨t,X,bc,eX⟩:=acW W;obtain⟨x,t',j,l,s,N⟩:=VN hm G F q.idle M c X;have Q:P.funcs[f]? =some p:=by
  rw[Ya,<-q.fs]at H;simpa using H
 have A:(x=.normal\/x=.ret)/\(aq9 T j t' p.results.toList λm=>k (afh m) j l)=some r:=by
  cases x with
  |normal=>exact⟨.inl rfl,s⟩
  |ret=>exact⟨.inr rfl,s⟩
  |_=>cases s
 obtain⟨A,Y⟩:=A;obtain⟨m,a1,Z⟩:=Qv G F Y;refine⟨afh m,j,l,⟨q.may f a0,λρ w vs hs z=>aBB Q L (N ρ _ w _ (anH z bc eX) hs λg i B a3 y ⟨D,J,O⟩=>?_)⟩,Z⟩;have K:∀d∈i.defers,K6 P w0 d:=by rw[O];simpa using J
 have:Leaves P p i.tmps (λe B=>∃v g,e=.returned v/\KP P w0 ρ h.get n w g j.get l B/\KR g (afh m) v) i.defers .returning B:=by
  refine xb _ _ y.hr.ext K λa5 a4=>?_;have I:=KP.later y.hr a4;obtain⟨us,a2,z⟩:=a1 g i a5 l a3 I.hr;exact⟨_,Lg a2,_,g,rfl,y.trans I,anI z⟩
 rcases A with rfl|rfl<;>exact this
end
end
variable{e:Nat->ca}
section
open Go Go.RowKit MapKept
section
variable{P:Fd}{Dk:Deferred->Prop}{w0:GE}{T:EQ->bz}{R:Type}{r:R}
inductive qe(m:Nat->ca):CV->CV->Prop
 |v {x}:qe m (.v x) (.v x)
 |pt {k o k'} (h:m k=some k'):qe m (.pt k o) (.pt k' o)
 |sl {k o n c k'} (h:m k=some k'):qe m (.sl k o n c) (.sl k' o n c)
 |gl {g o}:qe m (.gl g o) (.gl g o)
 |ag {cs} (ds:List CV) (hl:ds.length=cs.length) (hc:∀(j:Nat) c d,cs[j]? =some c->ds[j]? =some d->qe m c d):qe m (.ag cs) (.ag ds)
 |tu {cs} (ds:List CV) (hl:ds.length=cs.length) (hc:∀(j:Nat) c d,cs[j]? =some c->ds[j]? =some d->qe m c d):qe m (.tu cs) (.tu ds)
 |cl {fn fs cs} (es ds:List CV) (hl:es.length=fs.length) (hl2:ds.length=cs.length) (hc:∀(j:Nat) c d,fs[j]? =some c->es[j]? =some d->qe m c d)
  (hc2:∀(j:Nat) c d,cs[j]? =some c->ds[j]? =some d->qe m c d):qe m (.cl fn fs cs) (.cl fn es ds)
def MLe(m a:Nat->ca):Prop:=∀j i,m j=some i->a j=some i
def qe.mono{m j:Nat->ca}(i:MLe m j){c d:CV}(h:qe m c d):qe j c d:=by
 induction h with
 |v=>exact .v
 |pt h=>exact .pt (i _ _ h)
 |sl h=>exact .sl (i _ _ h)
 |gl=>exact .gl
 |ag a b g e=>exact .ag a b e
 |tu a b g e=>exact .tu a b e
 |cl k a b l g o e n=>exact .cl k a b l e n
def qe.one{c d:CV}(h:qe e c d):d.one=c.one:=by cases h<;>rfl
def qe.kr{ρ y:Nm}(x:∀j i,e j=some i->∀p,ρ j=some p->y i=some p){c d:CV}(h:qe e c d):∀{u:Id},KR ρ c u->KR y d u:=by
 induction h with
 |v=>intro u a;cases a;exact .v
 |pt h=>intro u a;cases a with|pt q=>exact .pt (x _ _ h _ q)
 |sl h=>intro u a;cases a with|sl q E z A B=>exact .sl (x _ _ h _ q) E z A B
 |gl=>intro u a;cases a;exact .gl
 |ag s k t n=>
  intro u a;cases a with
  |ag o m l=>
   refine .ag o (m.trans k.symm) λj d u g a=>?_;have b:=(axs.1 g).1;rw[k]at b;exact n j _ d (axz b) g (l j _ u (axz b) a)
 |tu s k t n=>
  intro u a;cases a with
  |tu o m l=>
   refine .tu o (m.trans k.symm) λj d u g a=>?_;have b:=(axs.1 g).1;rw[k]at b;exact n j _ d (axz b) g (l j _ u (axz b) a)
 |cl H s k w t I n F=>
  intro u a;cases a with
  |cl o G m D l C=>
   refine .cl o G (m.trans k.symm) (D.trans w.symm) (λj d u g a=>?_) (λj d u g a=>?_)
   .have b:=(axs.1 g).1
    rw[k]at b;exact n j _ d (axz b) g (l j _ u (axz b) a)
   .have b:=(axs.1 g).1
    rw[w]at b;exact F j _ d (axz b) g (C j _ u (axz b) a)
def Qw(m:Nat->ca)(t b:Tr CV):Prop:=∀q a,b.get q=some a->∃c,t.get q=some c/\qe m c a
def Qw.mono{m a:Nat->ca}(j:MLe m a){t b:Tr CV}(h:Qw m t b):Qw a t b:=λq c i=>let⟨d,e,g⟩:=h q c i;⟨d,e,g.mono j⟩
structure Sn(src:Tr c5)(fz:Bool)(d0:Tr c5)(n0:Nat)(m0 b0:Tr Nat)(d:Tr c5)(n:Nat)(m b:Tr Nat):Prop where
 le:n0<=n
 ml:MLe m0.get m.get
 nw:∀j i,m.get j=some i->m0.get j=some i\/(n0<=i/\i<n/\m0.get j=none/\b.get i=some j/\∃cs N e wr cs',src.get j=some (.ce cs N e wr)/\d.get i=some (.ce cs' N e (bB fz false wr))/\Qw m.get cs cs')
 bn:∀i,n0<=i->i<n->∃j,b.get i=some j/\m.get j=some i/\m0.get j=none
 bo:∀i,¬(n0<=i/\i<n)->b.get i=b0.get i
 dd:∀i,¬(n0<=i/\i<n)->d.get i=d0.get i
section
variable{src:Tr c5}{fz:In}{d0:Tr c5}{n0:Nat}{m0 b0:Tr Nat}
def Sn.refl:Sn src fz d0 n0 m0 b0 d0 n0 m0 b0:=⟨axp _,λ_ _ h=>h,λ_ _ h=>.inl h,λi a b=>by omega,λ_ _=>rfl,λ_ _=>rfl⟩
def anJ(src:Tr c5)(fz:In)(d0:Tr c5)(n0:Nat)(m0 b0:Tr Nat)(f:CV->Tr c5->Nat->Tr Nat->Tr Nat->X5 R CV->At R):Prop:=
 ∀c d n m b k (r:R),Sn src fz d0 n0 m0 b0 d n m b->f c d n m b k=some r->∃g h i a e,Sn src fz d0 n0 m0 b0 h i a e/\MLe m.get a.get/\qe a.get c g/\k g h i a e=some r
variable{f:CV->Tr c5->Nat->Tr Nat->Tr Nat->X5 R CV->At R}
def Fo(v:anJ src fz d0 n0 m0 b0 f):∀{l:Do CV} {d n m b} {k:X5 R (Do CV)} {r:R},Sn src fz d0 n0 m0 b0 d n m b->snL f l d n m b k=some r->
 ∃a u z g t,Sn src fz d0 n0 m0 b0 u z g t/\MLe m.get g.get/\(a.length=l.length/\∀(j:Nat) c e,l[j]? =some c->a[j]? =some e->qe g.get c e)/\k a u z g t=some r
 |[],d,n,m,b,k,r,p,o=>⟨[],d,n,m,b,p,λ_ _ h=>h,⟨rfl,d5⟩,o⟩
 |c::l,d,n,m,b,k,r,p,o=>by
  obtain⟨e,N,Q,O,M,E,I,L,G⟩:=v _ _ _ _ _ _ _ p o;obtain⟨a,B,K,J,A,F,w,⟨C,D⟩,H⟩:=Fo v (l:=l) E G;refine⟨e::a,B,K,J,A,F,λj i h=>w _ _ (I _ _ h),⟨by simp[C],λj x y q s=>?_⟩,H⟩;cases j with
  |zero=>simp at q s;subst q;subst s;exact L.mono w
  |succ j=>exact D j x y (by simpa using q) (by simpa using s)
def Qx(o:anJ src fz d0 n0 m0 b0 f):∀{t:Tr CV} {d n m b} {k:X5 R (Tr CV)} {r:R},Sn src fz d0 n0 m0 b0 d n m b->snT f t d n m b k=some r->
 ∃U I O p H,Sn src fz d0 n0 m0 b0 I O p H/\MLe m.get p.get/\Qw p.get t U/\k U I O p H=some r
 |.lf,d,n,m,b,k,r,B,A=>⟨.lf,d,n,m,b,B,λ_ _ h=>h,λq c h=>(by cases h),A⟩
 |.nd l x S,d,n,m,b,k,r,B,A=>by
  obtain⟨N,d1,n1,m1,Y,L,J,Q,M⟩:=Qx o (t:=l) B A;cases x with
  |none=>
   obtain⟨F,u,E,D,s,z,e,G,C⟩:=Qx o (t:=S) L M;refine⟨.nd N none F,u,E,D,s,z,λj i h=>e _ _ (J _ _ h),λq c h=>?_,C⟩;rw[Tr.jh]at h⊢;by_cases g:q=0
   .rw[axn g]at h;cases h
   .rw[axm g]at h⊢
    by_cases a:q % 2=1
    .rw[axn a]at h⊢;obtain⟨y,v,w⟩:=Q _ c h;exact⟨y,v,w.mono e⟩
    .rw[axm a]at h⊢;exact G _ c h
  |some x=>
   obtain⟨X,d3,n3,m3,Z,a,K,W,V⟩:=o _ _ _ _ _ _ _ L M;obtain⟨F,u,E,D,s,z,e,G,C⟩:=Qx o (t:=S) a V;refine⟨.nd N (some X) F,u,E,D,s,z,λj i h=>e _ _ (K _ _ (J _ _ h)),λq c h=>?_,C⟩;rw[Tr.jh]at h⊢;by_cases g:q=0
   .rw[axn g]at h⊢;cases h;exact⟨x,rfl,W.mono e⟩
   .rw[axm g]at h⊢
    by_cases a:q % 2=1
    .rw[axn a]at h⊢;obtain⟨y,v,w⟩:=Q _ c h;exact⟨y,v,w.mono λj i h=>e _ _ (K _ _ h)⟩
    .rw[axm a]at h⊢;exact G _ c h
def acX(hf:anJ src fz d0 n0 m0 b0 f){d n m b}{k:X5 R Nat}{r:R}(I:Sn src fz d0 n0 m0 b0 d n m b)(q:anC src fz f a d n m b k=some r):
 ∃i D L u C,Sn src fz d0 n0 m0 b0 D L u C/\MLe m.get u.get/\u.get a=some i/\k i D L u C=some r:=by
 unfold anC at q;cases A:m.get a with
 |some i=>rw[A]at q;exact⟨i,d,n,m,b,I,λ_ _ h=>h,A,q⟩
 |none=>
  rw[A]at q;obtain⟨Q,N,e,wr,a5,a0⟩:=Fi q;obtain⟨S,d1,B,J,b1,l,l1,r1,a1⟩:=Qx hf I a0;obtain⟨t,a2⟩:=bp a1;have t:J.get a=none:=by simpa using t
  obtain⟨W,a3,y⟩:=Tr.qc a2;obtain⟨K,a4,s⟩:=Tr.qc a3;obtain⟨O,G,p⟩:=Tr.qc a4;rw[fG]at G;have a7:=l.le;have o:MLe J.get K.get:=λj c x=>by
   rw[s,axm]
   .exact x
   .intro e;subst e;rw[t]at x;cases x
  have H:m0.get a=none:=by
   cases h:m0.get a with
   |none=>rfl
   |some i=>have:=l.ml _ _ h;rw[t]at this;cases this
  refine⟨B,W,B+1,K,O,⟨bv,λj c h=>o _ _ (l.ml _ _ h),λj c h=>?_,λi z a6=>?_,λi z=>?_,λi z=>?_⟩,λj c h=>o _ _ (l1 _ _ h),by rw[s,axn rfl],G⟩
  .rw[s]at h
   by_cases F:j=a
   .subst F
    rw[axn rfl]at h;cases h;exact .inr ⟨bv,bv,H,by rw[p,axn rfl],Q,N,e,wr,S,a5,by rw[y,axn rfl],r1.mono o⟩
   .rw[axm F]at h
    rcases l.nw j c h with g|⟨v,E,w,Y,U,M,X,wr2,V,Z,g6,g7⟩
    .exact .inl g
    .exact .inr ⟨v,bv,w,by rw[p,axm bv];exact Y,U,M,X,wr2,V,Z,by rw[y,axm bv];exact g6,g7.mono o⟩
  .by_cases eX:i=B
   .subst eX
    exact⟨a,by rw[p,axn rfl],by rw[s,axn rfl],H⟩
   .obtain⟨j,v,E,w⟩:=l.bn i z bv
    exact⟨j,by rw[p,axm eX];exact v,o _ _ E,w⟩
  .rw[p,axm bv];exact l.bo i bv
  .rw[y,axm bv];exact l.dd i bv
def Yb:∀N,anJ src fz d0 n0 m0 b0 (snC (R:=R) src fz N)
 |0=>λc d n m b k r w e=>by cases e
 |N+1=>λc d n m b k r w e=>by
  have B:=Yb N;cases c with
  |v x=>
   have:k (.v x) d n m b=some r:=by
    cases x with
    |int F z=>rw[<-e];show k (.v (.int F z)) d n m b=kI z λz=>k (.v (.int F z)) d n m b;rw[DC]
    |_=>exact e
   exact⟨_,d,n,m,b,w,λ_ _ h=>h,.v,this⟩
  |gl g o=>exact⟨_,d,n,m,b,w,λ_ _ h=>h,.gl,e⟩
  |pt j o=>
   obtain⟨i,u,A,y,t,p,s,l,a⟩:=acX B w e;rw[fG]at a;exact⟨_,u,A,y,t,p,s,.pt l,a⟩
  |sl j o q c=>
   obtain⟨i,u,A,y,t,p,s,l,a⟩:=acX B w e;rw[fG,fG]at a;refine⟨.sl i o q c,u,A,y,t,p,s,.sl l,?_⟩;cases c with
   |none=>exact a
   |some c=>simp only[fG]at a;exact a
  |ag E=>
   obtain⟨D,u,A,y,t,p,s,⟨l,C⟩,a⟩:=Fo B w e;exact⟨_,u,A,y,t,p,s,.ag D l C,a⟩
  |tu E=>
   obtain⟨D,u,A,y,t,p,s,⟨l,C⟩,a⟩:=Fo B w e;exact⟨_,u,A,y,t,p,s,.tu D l C,a⟩
  |cl W X E=>
   obtain⟨D,u,A,y,t,p,s,⟨l,C⟩,a⟩:=Fo B w e;obtain⟨S,I,V,U,H,L,G,⟨J,K⟩,Q⟩:=Fo B p a;exact⟨_,I,V,U,H,L,λ_ _ h=>G _ _ (s _ _ h),.cl D S l J (λj c d M O=>(C j c d M O).mono G) K,Q⟩
  |mp j=>cases e
end
end
end
section
open Go Go.RowKit MapKept
section
variable{P:Fd}{Dk:Deferred->Prop}{w0:GE}{T:EQ->bz}{R:Type}{r:R}
def BR.auo{m:Nat->ca}{ρ ρ':Nm}(B:∀j i,m j=some i->∀p,ρ j=some p->ρ' i=some p){w w':GE}{b k:Nat}{d f:Tr CV}{e:ca}{wr F:In}(h:BR P ρ w b k (.ce d a e wr))(A:Qw m d f)(D:w'.heap[b]? =w.heap[b]?):BR P ρ' w' b k (.ce f a e F):=by
 obtain⟨t,E,q,h2,h3,s⟩:=h;refine⟨t,E,by rw[D];exact q,h2,λj c v=>?_,s⟩;obtain⟨l,o,g⟩:=A j c v;obtain⟨y,u,C,x,z⟩:=h3 j l o;exact⟨y,u,C,g.kr B x,by rw[g.one];exact z⟩
def Qy(bk:Tr Nat)(ρ:Nm):Nm:=λi=>(bk.get i).bind ρ
section
variable{h hs h2 h3:Tr c5}{n m n2 n3:Nat}{mp bk m3 b3:Tr Nat}{ρ ρ':Nm}{w w':GE}
def Sn.fwd(q:Sn h true .lf 0 .lf .lf hs m mp bk)(u:HR P w0 ρ h.get n w):HR P w0 (Qy bk ρ) hs.get m w/\(∀j i,mp.get j=some i->∀p,ρ j=some p->Qy bk ρ i=some p)/\∀i x,hs.get i=some x->x.wr=false:=by
 have y:∀j i,mp.get j=some i->i<m/\bk.get i=some j/\∃c N e wr d,h.get j=some (.ce c N e wr)/\hs.get i=some (.ce d N e false)/\Qw mp.get c d:=λj i t=>by
  rcases q.nw j i t with g|⟨_,f,_,o,D⟩
  .cases g
  .exact⟨f,o,D⟩
 have z:∀j i,mp.get j=some i->∀p,ρ j=some p->Qy bk ρ i=some p:=λj i t p E=>by
  unfold Qy;rw[(y j i t).2.1];exact E
 have G:∀i x,hs.get i=some x->i<m:=λi x a=>by
  by_cases s:i<m
  .exact s
  .rw[q.dd i bv]at a;cases a
 have one:∀i x,hs.get i=some x->∃j c N e wr d,bk.get i=some j/\h.get j=some (.ce c N e wr)/\x=.ce d N e false/\Qw mp.get c d:=λi x a=>by
  obtain⟨j,l,f,_⟩:=q.bn i (axT _) (G i x a);obtain⟨_,_,c,N,e,wr,d,A,B,C⟩:=y j i f;rw[B]at a;cases a;exact⟨j,c,N,e,wr,d,l,A,rfl,C⟩
 refine⟨⟨u.ext,λi x b v a k=>?_,λi x b v a k=>?_,λi J x M b K L a I k H F=>?_,λi s=>?_,λi s=>?_⟩,z,λi x a=>?_⟩
 .obtain⟨j,c,N,e,wr,d,l,f,rfl,o⟩:=one i x a
  unfold Qy at k;rw[l]at k;exact(u.ob j _ b v f k).auo z o rfl
 .obtain⟨j,c,N,e,wr,d,l,f,rfl,o⟩:=one i x a
  unfold Qy at k;rw[l]at k;exact u.lo j _ b v f k
 .obtain⟨j,c,N,e,wr,d,l,f,rfl,o⟩:=one i x a
  cases F
 .unfold Qy
  rw[q.bo i bv];rfl
 .rw[q.dd i bv];rfl
 .obtain⟨j,c,N,e,wr,d,l,f,rfl,o⟩:=one i x a
  rfl
def Sn.bwd(K:Sn h true .lf 0 .lf .lf hs m mp bk)(s:HR P w0 ρ h.get n w)(B:KP P w0 (Qy bk ρ) hs.get m w ρ' h2.get n2 w')(E:Sn h2 false h n bk .lf h3 n3 m3 b3):
 ∃o,KP P w0 ρ h.get n w o h3.get n3 w'/\∀j i,m3.get j=some i->∀p,ρ' j=some p->o i=some p:=by
 obtain⟨hf,aa,a3⟩:=K.fwd s;have a1:∀b,akA (Qy bk ρ) hs.get b:=λb k x l c O=>by rw[a3 k x c]at O;cases O
 have bX:∀b,b<w.heap.size->w'.heap[b]? =w.heap[b]? :=λb y=>(B.fr b y (a1 b)).1;have a0:∀j i,bk.get j=some i->j<m/\i<n:=λj i L=>by
  have V:j<m:=by
   by_cases d:j<m
   .exact d
   .rw[K.bo j bv]at L;cases L
  obtain⟨i',q,f,_⟩:=K.bn j (axT _) V;obtain rfl:=axt (q.symm.trans L);rcases K.nw i' j f with g|⟨_,_,_,_,t,N,e,wr,u,F,_⟩
  .cases g
  .exact⟨V,s.lth F⟩
 have a6:=E.le;obtain⟨o,hρ⟩:∃o:Nm,o=λk=>if k<n then ρ k else Qy b3 ρ' k:=⟨_,rfl⟩
 have A:∀{k},k<n->o k=ρ k:=λ{k} a=>by rw[hρ];exact axn a
 have G:∀{k},n<=k->o k=Qy b3 ρ' k:=λ{k} a=>by rw[hρ];exact axm bv
 have le:Fh ρ o:=λk p a=>by rw[A (s.lt a)];exact a
 have D:∀{k},k<n->h3.get k=h.get k:=λ{k} a=>E.dd k bv;have tr:∀j i,m3.get j=some i->∀p,ρ' j=some p->o i=some p:=λj i L p M=>by
  rcases E.nw j i L with g|⟨q,f,C,v,_⟩
  .obtain⟨F,S⟩:=a0 j i g
   rw[B.ro j F]at M;unfold Qy at M;rw[g]at M;rw[A S];exact M
  .rw[G q]
   unfold Qy;rw[v];exact M
 have Q:∀k x,n<=k->h3.get k=some x->∃j t N e wr u,m<=j/\b3.get k=some j/\m3.get j=some k/\h2.get j=some (.ce t N e wr)/\x=.ce u N e wr/\Qw m3.get t u:=λk x a c=>by
  have a4:k<n3:=by
   by_cases d:k<n3
   .exact d
   .rw[E.dd k bv,s.Ir k a]at c;cases c
  obtain⟨j,q,f,C⟩:=E.bn k a a4;have V:m<=j:=by
   by_cases d:j<m
   .obtain⟨i',F,_⟩:=K.bn j (axT _) d
    rw[F]at C;cases C
   .omega
  rcases E.nw j k f with g|⟨_,_,_,_,t,N,e,wr,u,F,S,e3⟩
  .have:=(a0 j k g).2;omega
  .rw[S]at c
   cases c;exact⟨j,t,N,e,wr,u,V,q,f,F,by cases wr<;>rfl,e3⟩
 have Z:∀k x b l,n<=k->h3.get k=some x->o k=some (b,l)->¬b<w.heap.size:=λk x b l a c y a5=>by
  obtain⟨j,t,N,e,wr,u,q,f,C,v,rfl,U⟩:=Q k x a c;rw[G a]at y;unfold Qy at y;rw[f]at y;exact(B.fr b a5 (a1 b)).2 j _ l q v y
 refine⟨o,⟨⟨B.hr.ext,λk x b l c a=>?_,λk x b l c a=>?_,λk I x Y b W X c H a z O=>?_,λk a=>?_,λk a=>?_⟩,a6,λk a=>A a,B.sz,λb y a9=>⟨bX b y,λk x l a c a2=>Z k x b l a c a2 y⟩,λk x a c=>⟨x,by rw[<-D a];exact c,rfl⟩,λk x a c _=>by rw[D a];exact c⟩,tr⟩
 .by_cases d:k<n
  .rw[A d]at a
   rw[D d]at c;have:=s.ob k x b l c a;exact this.mono le (bX b this.lt)
  .obtain⟨j,t,N,e,wr,u,q,f,C,v,rfl,U⟩:=Q k x bv c
   rw[G bv]at a;unfold Qy at a;rw[f]at a;exact(B.hr.ob j _ b l v a).auo tr U rfl
 .by_cases d:k<n
  .rw[A d]at a
   rw[D d]at c;exact s.lo k x b l c a
  .obtain⟨j,t,N,e,wr,u,q,f,C,v,rfl,U⟩:=Q k x bv c
   rw[G bv]at a;unfold Qy at a;rw[f]at a;exact B.hr.lo j _ b l v a
 .by_cases d:k<n
  .by_cases J:I<n
   .rw[A d]at a
    rw[D d]at c;rw[A J]at z;rw[D J]at H;exact s.inj k I x Y b W X c H a z O
   .rw[A d]at a
    rw[D d]at c;exact absurd (s.ob k x b W c a).lt (Z I Y b X bv H z)
  .by_cases J:I<n
   .rw[A J]at z
    rw[D J]at H;exact absurd (s.ob I Y b X H z).lt (Z k x b W bv c a)
   .obtain⟨j,t,N,e,wr,u,q,f,C,v,rfl,U⟩:=Q k x bv c
    obtain⟨j',a7,N2,S,wr2,a8,f1,f2,f3,f4,rfl,f6⟩:=Q I Y bv H;rw[G bv]at a z;unfold Qy at a z;rw[f]at a;rw[f2]at z;have:=B.hr.inj j j' _ _ b W X v f4 a z O;subst this;exact axt (C.symm.trans f3)
 .rw[G bv]
  unfold Qy;rw[E.bo k bv];rfl
 .rw[E.dd k bv]
  exact s.Ir k bv
end
def MOk(P:Fd)(w0:GE)(M:Mem):Prop:=∀f a h n r b c,M f a h n=some (r,b,c)->FC P w0 f a h n r b c
def anK{M:Mem}{l:KC (CV×Tr c5×Nat)}(D:MOk P w0 M)(E:gT P w0 l):gT P w0 (aq_ (R:=R) M l):=by
 intro f Y h n k r I;obtain⟨a,hs,m,mp,bk,o,_,⟨t,S⟩,K⟩:=Fo (Yb 64) Sn.refl I;obtain⟨p,d,L⟩:=bF K;obtain⟨A,h3,n3,m3,b3,C,_,F,N⟩:=Yb (src:=p.2.1) (fz:=false) (d0:=h) (n0:=n) (m0:=bk) (b0:=.lf) 64 _ _ _ _ _ _ _ Sn.refl L;have b:FC P w0 f a hs m p.1 p.2.1 p.2.2:=by
  cases g:M f a hs m with
  |some q=>
   rw[g]at d;cases d;exact D f a hs m p.1 p.2.1 p.2.2 g
  |none=>
   rw[g]at d;obtain⟨c,Z,n',b,J⟩:=E _ _ _ _ _ _ d;cases J;exact b
 refine⟨A,h3,n3,⟨b.1,λρ w z y x=>?_⟩,N⟩;obtain⟨H,U,_⟩:=o.fwd y;have Q:LR (KR (Qy bk ρ)) a z:=⟨x.1.trans t.symm,λj c u s V=>by
  have i:=(axs.1 s).1;rw[t]at i;exact(S j _ c (axz i) s).kr U (x.2 j _ u (axz i) V)⟩
 refine(b.2 _ w z H Q).mono λe w' ⟨v,ρ',G,O,W⟩=>?_;obtain⟨X,B,h2⟩:=o.bwd y O C;exact⟨v,X,G,B,F.kr h2 W⟩
def xc{E:VI}{M:Mem}(e:P.follows .mixedOrders=true)(d:gJ P T)(c:∀b o u,GT b o u->w0.cell? ⟨b,o,none⟩=some u)(a:EOk P w0 E)(i:MOk P w0 M):∀(N:Nat) {R:Type},gT P w0 (hA T E M N (R:=R))
 |0,R=>λf g h n k r j=>by cases j
 |N+1,R=>λf g h n k r j=>by
  rcases dE (show bB (Nat.testBit E.pic f) (aq_ M (VJ T E N (hA T E M N)) f g h n k) (VJ T E N (hA T E M N) f g h n k)=some r from j)with⟨_,l⟩|⟨_,l⟩
  .exact anK i (VO e d c a (xc e d c a i N)) _ _ _ _ _ _ l
  .exact VO e d c a (xc e d c a i N) _ _ _ _ _ _ l
end
end
variable{C:FuncId}
section
open Go Go.RowKit MapKept
section
variable{P:Fd}{Dk:Deferred->Prop}{w0:GE}{T:EQ->bz}{R:Type}{r:R}
def Tr.ofF{α:Type}:Nat->(Nat->α)->Nat->Tr α:=Nat.rec (motive:=λ_=>(Nat->α)->Nat->Tr α) (λ_ _=>.lf)
 (λ_ a u n=>bB (Nat.beq n 0) .lf (.nd (a (λp=>u (Nat.succ (Nat.mul 2 p))) (Nat.div n 2)) (some (u 0)) (a (λp=>u (Nat.succ (Nat.succ (Nat.mul 2 p)))) (Nat.div (Nat.sub n 1) 2))))
def Tr.Qz{α:Type}:∀{N n i:Nat} {u:Nat->α} {x:α},(Tr.ofF N u n).get i=some x->x=u i/\i<n
 |0,n,i,u,x,h=>by cases h
 |N+1,n,i,u,x,h=>by
  change(bB (Nat.beq n 0) Tr.lf (Tr.nd (Tr.ofF N (λp=>u (2*p+1)) (n/2)) (some (u 0)) (Tr.ofF N (λp=>u (2*p+2)) ((n - 1)/2)))).get i=_ at h;cases a:Nat.beq n 0 with
  |true=>rw[a]at h;cases h
  |false=>
   rw[a]at h;have f:=jK a;change(Tr.nd _ _ _).get i=_ at h;rw[Tr.jh]at h;split at h
   next b=>cases h;subst b;exact⟨rfl,bv⟩
   .split at h
    next d=>obtain⟨e,c⟩:=Tr.Qz h;exact⟨by rw[e];exact axD u bv,bv⟩
    .obtain⟨e,c⟩:=Tr.Qz h
     exact⟨by rw[e];exact axD u bv,bv⟩
def acY{x:FuncId->In}{y:KC R}(C:gJ P T)(A:∀b o u,GT b o u->w0.cell? ⟨b,o,none⟩=some u)(B:kQ Dk x)(D:gT P w0 y){ops:bs}{k:KK R}:∀(l:bs) (i:Nat) {t:Tr CV} {h:Tr c5} {n:Nat},ops.drop i=l->afg T x y ops l k t h n=some r->
 ∃G z F,k G z F=some r/\∀ρ a f w Q,oJ ρ t a->HR P w0 ρ h.get n w->(∀g c d,oJ g G c->KP P w0 ρ h.get n w g z.get F d->Df Dk a c->Q .normal c f d)->wpOpsS P ops.toArray Q (List.range' i l.length) a f w
 |[],i,t,h,n,j,m=>⟨t,h,n,m,λρ a f w Q s q p=>p ρ a w s (.refl q) (Df.refl a)⟩
 |o::l,i,t,h,n,j,m=>by
  obtain⟨t1,h1,n1,W,M⟩:=Le C A B D m;have J:ops.drop (i+1)=l:=by rw[<-azu,j];rfl
  have S:ops[i]? =some o:=by
   have:=axD (·[0]?) j;simpa using this
  obtain⟨t2,I,Z,N,V⟩:=acY C A B D l (i+1) J M;refine⟨t2,I,Z,N,λρ a f w Q s q p=>?_⟩;rw[axN,aAX];unfold wpOpsS;have U:ops.toArray[i]? =some o:=by simpa using S
  simp only[U];have:=W.wp (P:=P) s q (next:=λc d=>wpOpsS P ops.toArray Q (List.range' (i+1) l.length) c f d) (Q:=λe c d=>Q e c f d) λg c d X E K=>V g c f d Q X E.hr λa1 H a0 Y O L=>p a1 H a0 Y (E.trans O) (K.trans L);split
  next v=>
   rw[axn v]at this;unfold Oper.wp at this;split
   next d e=>rw[e]at this;exact this.elim
   .exact this
  next v=>rw[axm v]at this;exact this
def ak4(w:GE):HR P w (λ_=>none) (Tr.lf:Tr c5).get 0 w:=
 ⟨Ext.refl w,λk x b m h _=>(by cases h),λk x b m h _=>(by cases h),λk a x d b m c h _ _ _ _=>(by cases h),λ_ _=>rfl,λ_ _=>rfl⟩
def VP(hm:P.follows .mixedOrders=true)(I:gJ P T)(S:∀b o u,GT b o u->w0.cell? ⟨b,o,none⟩=some u){p:KC Nat}{N:Nat}(f:∀w,Ext w0 w->gT P w p)
 {ts:jk} {id:Nat} {B:yu} {o:Oper} {l:bs} {d:Tmp} {k:Code} (he:Enters P C) (hf:P.funcs[C]? =some s) (V:s.body=some (.seq (.region id B false) k)) (a8:B.toList=o::l) (ho:o.op=.call ⟨.builtin .recover, #[],ts⟩) (hg:o.guard=none) (X:o.dst=some d) (ad:s.results.toList=[])
 (ae:∀u:Nat->Id,(Tr.put (.v .nilIface) (Tr.ofF 64 (λi=>.v (u i)) s.ntmps) d λt=>afg T (λ_=>false) p (o::l) l (VH T (λ_=>false) p N k (λ_ _ _=>some 0) (λ_ _ _ _=>none) (λ_ _ _=>some 0)) t .lf 0)=some 0):
 ∀cap,K6 P w0 {target:=.fn (.func C) cap,args:= #[]}:=by
 intro cap;refine⟨.func C,cap,C, #[]++cap,rfl,λw z=>⟨gN he _ w,?_⟩⟩;have H:∀b o u,GT b o u->w.cell? ⟨b,o,none⟩=some u:=λb o u h=>z.cell (S b o u h);refine callsD_of_wpS hf V λg j m=>?_;obtain⟨a,q⟩:∃a:Act,a={tmps:=(#[]++cap)++Array.replicate (s.ntmps - (#[]++cap).size) undef,defers:=[]}:=⟨_,rfl⟩;rw[<-q];obtain⟨t,a4,⟨x0,ak⟩,U⟩:=Tr.od (ae λi=>a.tmps.getD i undef);have G:kQ (λ_=>False) (λ_=>false):=λC h=>by cases h
 obtain⟨t1,h1,n1,a5,ac⟩:=acY (Dk:=λ_=>False) (w0:=w) I H G (f w z) (ops:=o::l) l 1 rfl a4;obtain⟨x,t2,h2,n2,a6,W⟩:=VN (Dk:=λ_=>False) (w0:=w) hm I H G (f w z) k a5;have A:x=.normal\/x=.ret:=by
  cases x with
  |normal=>exact .inl rfl
  |ret=>exact .inr rfl
  |_=>cases a6
 have af:s.ntmps<=a.tmps.size:=by rw[q];simp;omega
 have ai:oJ (λ_=>none) (Tr.ofF 64 (λi=>CV.v (a.tmps.getD i undef)) s.ntmps) a:=λi c f=>by
  obtain⟨rfl,y⟩:=Tr.Qz f;have J:i<a.tmps.size:=bv
  refine⟨a.tmps[i],ax_ J,?_⟩;rw[ayH,ax_ J];exact .v
 have ah:oJ (λ_=>none) t (a.put o.dst .nilIface):=by
  rw[X];intro i c f;rw[U]at f;have Z:d<a.tmps.size:=by
   have a7:=(Tr.Qz ak).2;exact azr a7 af
  by_cases y:i=d
  .subst y
   rw[axn rfl]at f;cases f;exact⟨.nilIface,by simp[Act.put,Z],.v⟩
  .rw[axm y]at f
   obtain⟨u,m,hk⟩:=ai i c f;exact⟨u,by simp only[Act.put];rw[aAE bv];exact m,hk⟩
 refine wpS_seq (wpS_region ?_);have a9:B=(o::l).toArray:=by rw[<-a8]
 rw[a9,show List.range (o::l).toArray.size=0::List.range' 1 l.length by rw[aBH];simp[aAX]];have ab:recoverD (g::j)=none:=by
  unfold recoverD;simp only[m]
 unfold wpOpsS;have aj:Region.wanted o (yielded (o::l).toArray a.tmps)=true:=by simp[Region.wanted,hg]
 have aa:(execOp a.eval o).run P w=.ok .recover w:=by simp[execOp,ho,resolve,invoke,builtin]
 simp only[ayV,aAU,aj,ax0,aa,ab];refine ac (λ_=>none) _ (g::j) w _ ah (ak4 w) λρ1 F L ag al M=>?_;show k.wpS P _ F (g::j) L;refine wpS_of_wp (W ρ1 F L _ ag al.hr λρ2 n E an am O=>?_);have Y:n.defers=[]:=by
  obtain⟨D,Q,e⟩:=M.trans O;have:D=[]:=aAI.2 λx A=>Q x A;rw[e,this,put_defers,q];rfl
 have a3:n.defers=[]/\∃K,(g::j)={g with mode:=K}::j/\∃v,(results s n.tmps).run P E=.ok v E/\((∃v',Ending.returned v=.returned v')/\K=.returning/\Ext w E):=by
  refine⟨Y,.returning,by rw[<-m],_,Lg (us:=[]) (by rw[ad];simp),⟨_,rfl⟩,rfl,?_⟩;exact am.hr.ext
 rcases A with rfl|rfl<;>exact a3
end
end
section
open Go Go.RowKit MapKept
section
variable{P:Fd}{Dk:Deferred->Prop}{w0:GE}{T:EQ->bz}{R:Type}{r:R}
def ak5:Do CV->Do CV->In
 |[],[]=>true
 |a::l,b::m=>bB (cEq a b) (ak5 l m) false
 |_,_=>false
def hEq:Tr c5->Tr c5->In
 |.lf,.lf=>true
 |.nd l x r,.nd b a c=>bB (hEq l b) (bB (match x,a with
  |none,none=>true
  |x,a=>anB x a) (hEq r c) false) false
 |_,_=>false
def acZ:∀{l m:Do CV},ak5 l m=true->l=m
 |[],[],_=>rfl
 |a::l,b::m,h=>by
  unfold ak5 at h;cases c:cEq a b with
  |false=>rw[c]at h;cases h
  |true=>rw[c]at h;rw[ak0 c,acZ h]
 |[],_::_,h=>by cases h
 |_::_,[],h=>by cases h
def Yc:∀{l m:Tr c5},hEq l m=true->l=m
 |.lf,.lf,_=>rfl
 |.nd l x r,.nd g i c,h=>by
  unfold hEq at h;cases a:hEq l g with
  |false=>rw[a]at h;cases h
  |true=>
   rw[a]at h;change bB _ (hEq r c) false=true at h;have f:∀b:In,bB b (hEq r c) false=true->b=true/\hEq r c=true:=λb h=>by
    cases b with
    |false=>cases h
    |true=>exact⟨rfl,h⟩
   obtain⟨d,e⟩:=f _ h;rw[Yc a,Yc e];split at d
   .rfl
   .rw[acT d]
 |.lf,.nd _ _ _,h=>by cases h
 |.nd _ _ _,.lf,h=>by cases h
abbrev rf:=FuncId×(Do CV×Tr c5×Nat)×(CV×Tr c5×Nat)
def kj(L:Do rf):Mem:=λf b h n=>List.rec (motive:=λ_=>At (CV×Tr c5×Nat)) none (λe _ a=>bB (Nat.beq e.1 f) (bB (Nat.beq e.2.1.2.2 n) (bB (ak5 e.2.1.1 b) (bB (hEq e.2.1.2.1 h) (some e.2.2) a) a) a) a) L
def MOk.nil:MOk P w0 (kj []):=λf b h n r c d a=>by cases a
def MOk.cons{L:Do rf}{e:rf}(s:MOk P w0 (kj L))(k:FC P w0 e.1 e.2.1.1 e.2.1.2.1 e.2.1.2.2 e.2.2.1 e.2.2.2.1 e.2.2.2.2):MOk P w0 (kj (e::L)):=λf c h n r i j a=>by
 have d:∀{b:In} {x y:At (CV×Tr c5×Nat)} {z},bB b x y=some z->(b=true/\x=some z)\/y=some z:=λ{b x y z} h=>by
  cases b with
  |true=>exact .inl ⟨rfl,h⟩
  |false=>exact .inr h
 have g:kj L f c h n=some (r,i,j)->FC P w0 f c h n r i j:=s f c h n r i j;change bB (Nat.beq e.1 f) (bB (Nat.beq e.2.1.2.2 n) (bB (ak5 e.2.1.1 c) (bB (hEq e.2.1.2.1 h) (some e.2.2) (kj L f c h n)) (kj L f c h n)) (kj L f c h n)) (kj L f c h n)=_ at a;rcases d a with⟨m,t⟩|a
 .rcases d t with⟨o,u⟩|a
  .rcases d u with⟨p,v⟩|a
   .rcases d v with⟨q,w⟩|a
    .obtain rfl:=eu m
     obtain rfl:=eu o;obtain rfl:=acZ p;obtain rfl:=Yc q;have l:=axt w;rw[l]at k;exact k
    .exact g a
   .exact g a
  .exact g a
 .exact g a
def sO:CV->Tr c5->Nat->At (CV×Tr c5×Nat):=λr h n=>some (r,h,n)
def eC{E:VI}{M:Mem}(l:P.follows .mixedOrders=true)(g:gJ P T)(e:∀b o u,GT b o u->w0.cell? ⟨b,o,none⟩=some u)(d:EOk P w0 E)(f:MOk P w0 M){p:CV×Tr c5×Nat}(j:hA T E M a C y B h sO=some p):FC P w0 C y B h p.1 p.2.1 p.2.2:=by
 obtain⟨c,m,n,i,k⟩:=xc l g e d f a C y B h sO p j;cases k;exact i
def It(T:EQ->bz)(b:KC Nat)(N:Nat)(a:Func)(u:Nat->Id):ca:=match a.body with
 |some (.seq (.region _ e false) c)=>(match e.toList with
  |o::l=>(match o.op,o.guard,o.dst with
   |.call ⟨.builtin .recover,⟨[]⟩,_⟩,none,some d=>bB a.results.toList.isEmpty (Tr.put (.v .nilIface) (Tr.ofF 64 (λi=>.v (u i)) a.ntmps) d λt=>afg T (λ_=>false) b (o::l) l (VH T (λ_=>false) b N c (λ_ _ _=>some 0) (λ_ _ _ _=>none) (λ_ _ _=>some 0)) t .lf 0) none
   |_,_,_=>none)
  |[]=>none)
 |_=>none
def DI(y:P.follows .mixedOrders=true)(q:gJ P T)(p:∀b o u,GT b o u->w0.cell? ⟨b,o,none⟩=some u){f:KC Nat}(t:∀w,Ext w0 w->gT P w f)
 (v:Enters P C) (x:P.funcs[C]? =some s) (e:∀u:Nat->Id,It T f a s u=some 0):∀n,K6 P w0 {target:=.fn (.func C) n,args:= #[]}:=by
 have c:=e λ_=>undef;unfold It at c e;split at c
 next id B A h=>
  split at c
  next o l m=>
   split at c
   next D d k j i=>obtain⟨z,_⟩:=bp c;refine VP (N:=a) y q p t v x h m k j i (by simpa using z) λu=>?_;have g:=e u;simp only[h,m,k,j,i]at g;exact(bp g).2
   .cases c
  .cases c
 .cases c
def ak6(b:Do Func)(m:Nat):In:=(List.range b.length).all λf=> !(Nat.testBit m f)||(match atL b f with
 |some a=> !(a.name== "runtime.NumGoroutine") && a.body.isSome
 |none=>false)
def lD(h:ak6 P.funcs.toList a=true)(l:a<2^P.funcs.toList.length):∀f,Nat.testBit a f=true->Enters P f:=by
 intro f d;have j:f<P.funcs.toList.length:=by
  by_cases e:f<P.funcs.toList.length
  .exact e
  .rw[aCw (azr l (aBW bv bv))]at d
   cases d
 have:=axO.1 h f (ayi.2 j);rw[d]at this;simp only[axA,aBg]at this;rw[Ya]at this;split at this
 next b k=>
  simp only[axo,ayC]at this;have i:P.funcs[f]? =some b:=by simpa using k
  refine⟨b,i,this.1,?_⟩;cases g:b.body with
  |none=>rw[g]at this;simp at this
  |some c=>rfl
 .cases this
def aoJ{b:Do Func}{a i c:Nat}(e:P.funcs.toList=b)(h:ak6 P.funcs.toList a=true)(g:a<2^P.funcs.toList.length)(d:kQ (K6 P w0) λf=>Nat.testBit c f):EOk P w0 ⟨b,a,i,c⟩:=⟨e,lD h g,d⟩
end
end
abbrev vi(n:Int):CV:=.v (.int .i64 n)
abbrev vb(b:In):CV:=.v (.bool b)
abbrev vn:CV:=.v (.slice none 0 0)
noncomputable def tC(l:Do CV):Tr CV:=Tr.ofF 64 (λi=>l.getD i vn) l.length
noncomputable def tI(l:aX):Tr CV:=tC (l.map vi)
noncomputable def wFs:Do Func:=Tryz.prog.funcs.toList
def wE:VI:=⟨wFs,9619639593036084861721358967732705672478558906588434863541558769751285714560940538366543377458225048121551880188,56552909565601881243515870150220532105225145520205002087882852452304437280,166153499473114484112984678628065280⟩
def wE0:VI:=⟨wFs,9619639593036084861721358967732705672478558906588434863541558769751285714560940538366543377458225048121551880188,56552909565601881243515870150220532105225145520205002087882852452304437280,0⟩
def axd:Do CV:=[(vi 8),(vi 3),(vi 2),(vi 3),(.sl 1 0 3 (some 3))]
def a0b:At c5:=(some (.ce (tI [0,1,1,0,2,0]) 6 none false))
def aw5:Tr c5:=(.nd .lf a0b .lf)
def a0u:At c5:=(some (.ce (tI [0,1,1,2,2,0,3,2]) 8 (some 2) false))
def a0y:Do CV:=[(.sl 2 0 4 none),(vi 13),(vi 0)]
def a0p:Tr c5:=(.nd .lf (some (.ce (tI [0,1,0,2,1,2,2,3]) 8 (some 2) true)) .lf)
def Lh:rf:=(30,([(.sl 0 0 4 none),(.ag axd)],(.nd aw5 a0u .lf),2),((.tu a0y),(.nd aw5 a0u a0p),3))
def axe:At c5:=(some (.ce (tI [1,0]) 2 (some 2) false))
def LM:rf:=(30,([(.sl 0 0 1 none),(.ag axd)],(.nd aw5 axe .lf),2),((.tu [(.sl 2 0 1 none),(vi 11),(vi 0)]),(.nd aw5 axe (.nd .lf (some (.ce (tI [0,1]) 2 (some 2) true)) .lf)),3))
def a0v:At c5:=(some (.ce (tI [0,1,1,2,2,0,3,2]) 8 none false))
def L5:rf:=(30,([(.sl 0 0 4 (some 4)),(.ag axd)],(.nd aw5 a0v .lf),2),((.tu a0y),(.nd aw5 a0v a0p),3))
def Oh:rf:=(33,([(vi 4),(.ag [(vi 2),(vi 3),(.sl 0 0 3 (some 3))])],aw5,1),((.tu [(.sl 1 0 4 none),(vi 3),(vi 0)]),(.nd (.nd .lf (some (.ce (tI [2,3,0,1]) 4 (some 1) true)) .lf) a0b .lf),2))
def aw6:At c5:=(some (.ce (tC [(vi 0),(vi 1),(vi 0),(vb true),(vi 0),(vi 2),(vi 0),(vb true),(vi 1),(vi 2),(vi 0),(vb false),(vi 2),(vi 3),(vi 0),(vb true)]) 16 (some 4) false))
def QA:rf:=(64,([(.ag [(vi 5),(.sl 0 0 4 none)])],(.nd .lf aw6 .lf),1),((vb true),(.nd .lf aw6 .lf),1))
def a0a:Do CV:=[(vi 5),(.sl 0 0 3 none)]
def axc:Tr c5:=(.nd .lf (some (.ce (tC [(vi 0),(vi 2),(vi 0),(vb true),(vi 1),(vi 2),(vi 0),(vb false),(vi 2),(vi 3),(vi 0),(vb true)]) 12 (some 4) false)) .lf)
def QX:rf:=(64,([(.ag a0a)],axc,1),((vb true),axc,1))
def aw8:Do CV:=[(vi 0),(vi 2),(vi 0),(vb true),(vi 1),(vi 2),(vi 0),(vb true),(vi 2),(vi 3),(vi 0),(vb true)]
def aw3:At c5:=(some (.ce (tC aw8) 12 (some 4) false))
def a0s:Tr c5:=(.nd .lf aw3 .lf)
def VQ:rf:=(64,([(.ag a0a)],a0s,1),((vb true),a0s,1))
def a0q:At c5:=(some (.ce (tI [0,7,16,1,12,2,18,3,22,15]) 10 (some 1) true))
def V5:rf:=(23,([(.ag a0a),(vi 0)],a0s,1),((.tu [(.ag [(vi 5),(.sl 3 0 2 none)]),(vi 0)]),(.nd (.nd (.nd .lf (some (.ce (tC [(.sl 2 0 10 none),(.sl 1 0 1 (some 1))]) 2 (some 1) true)) .lf) (some (.ce (tI [4]) 1 none true)) .lf) aw3 (.nd .lf a0q .lf)),4))
def a0l:At c5:=(some (.ce (tC aw8) 12 (some 4) true))
def Yd:rf:=(5,([(.ag [(vi 5),(.sl 0 0 4 none),(vi 1),(vi 16)]),(.ag [(vi 2),(.sl 1 0 1 none),vn]),(.ag [(vi 8),(vi 3),(vi 2),(vi 3),(.sl 2 0 3 (some 3))])],(.nd (.nd .lf axe .lf) aw6 aw5),3),((.tu [(.ag [(vi 5),(.sl 3 0 3 none),(vi 2),(vi 28)]),(.ag [(vi 0),(vi 1),vn])]),(.nd (.nd (.nd .lf a0l .lf) axe .lf) aw6 aw5),4))
def aw4:At c5:=(some (.ce (tC [(.v (.int .u8 1)),(.v (.int .u8 0)),(.v (.int .u8 4)),(.v (.int .u8 0)),(.v (.int .u8 0)),(.v (.int .u8 0)),(.v (.int .u8 1)),(.v (.int .u8 0)),(.v (.int .u8 1)),(.v (.int .u8 0)),(.v (.int .u8 2)),(.v (.int .u8 0)),(.v (.int .u8 2)),(.v (.int .u8 0)),(.v (.int .u8 0)),(.v (.int .u8 0)),(.v (.int .u8 3)),(.v (.int .u8 0)),(.v (.int .u8 2)),(.v (.int .u8 2)),(.v (.int .u8 0)),(.v (.int .u8 1)),(.v (.int .u8 0)),(.v (.int .u8 1)),(.v (.int .u8 0)),(.v (.int .u8 0)),(.v (.int .u8 3)),(.v (.int .u8 0)),(.v (.int .u8 2)),(.v (.int .u8 3)),(.v (.int .u8 0)),(.v (.int .u8 3)),(.v (.int .u8 0)),(.v (.int .u8 0)),(.v (.int .u8 4)),(.v (.int .u8 0)),(.v (.int .u8 0)),(.v (.int .u8 0)),(.v (.int .u8 0))]) 39 (some 1) false))
def we9:rf:=(14,([(.ag [(vi 5),vn,(vi 0),(vi 0)]),(.sl 0 0 39 none),(.ag axd)],(.nd aw5 aw4 .lf),2),((.tu [(.ag [(vi 5),(.sl 2 0 3 none),(vi 3),(vi 29)]),(.sl 4 0 3 none),(vi 0)]),(.nd (.nd (.nd .lf (some (.ce (tI [4,2]) 2 (some 1) true)) .lf) a0b .lf) aw4 (.nd (.nd .lf (some (.ce (tC [(vi 0),(vi 4),vn,(vi 0),(vi 1),vn,(vi 0),(vi 0),(.sl 3 0 2 none)]) 9 (some 3) true)) .lf) a0l .lf)),5))
def Fp:rf:=(38,([(.ag a0a)],a0s,1),((vb true),a0s,1))
def axh:At c5:=(some (.ce (tC [(.v (.int .u32 1)),(.v (.int .u32 2)),(.v (.int .u32 4)),(.v (.int .u32 8))]) 4 none false))
def a0x:At c5:=(some (.ce (tI [1]) 1 (some 1) true))
def axj:At c5:=(some (.ce (tI [0]) 1 (some 1) true))
def Hl:rf:=(18,([(.ag [(vi 5),(.sl 0 0 3 none),(vi 3),(vi 29)]),(.sl 1 0 4 (some 4))],(.nd (.nd .lf axh .lf) aw3 .lf),2),((.tu [(.sl 19 0 2 none),(vi 0)]),(.nd (.nd (.nd (.nd (.nd .lf (some (.ce (tI [5]) 1 (some 1) true)) .lf) a0x .lf) (some (.ce (tI [1,4,1,2,1,3,3,4,3,4]) 10 (some 1) true)) (.nd (.nd .lf (some (.ce (tC [(.sl 6 0 10 none),(.sl 3 0 10 none),(.sl 18 0 10 (some 10)),(.sl 2 0 1 none),(.sl 7 0 1 none),(.sl 5 0 1 (some 1))]) 6 (some 3) true)) .lf) (some (.ce (tI [0,1,1,1]) 4 (some 1) true)) .lf)) axh (.nd (.nd (.nd .lf (some (.ce (tI [7,7,7]) 3 (some 1) true)) .lf) (some (.ce (tI [4,5]) 2 (some 1) true)) .lf) (some (.ce (tC [(.sl 4 0 1 none)]) 1 none true)) (.nd .lf a0x .lf))) aw3 (.nd (.nd (.nd (.nd .lf (some (.ce (tI [3]) 1 (some 1) true)) .lf) (some (.ce (tI [8,8,8,9]) 4 (some 1) true)) .lf) axj (.nd .lf (some (.ce (tI [6,6,6]) 3 (some 1) true)) .lf)) (some (.ce (tI [4]) 1 (some 1) true)) (.nd (.nd (.nd .lf (some (.ce (tC [(.sl 13 0 1 none),(.sl 10 0 4 none),(.sl 16 0 1 none),(.sl 9 0 2 none),(.sl 15 0 1 none),(.sl 12 0 3 none),(.sl 17 0 3 none),(.sl 8 0 4 none),(.sl 14 0 3 none),(.sl 11 0 4 none)]) 10 none true)) .lf) (some (.ce (tI [2,3,5,7]) 4 (some 1) true)) .lf) a0q (.nd .lf (some (.ce (tI [9,9,9]) 3 (some 1) true)) .lf)))),20))
def a0r:Do CV:=[(.sl 0 0 10 none),(.sl 1 0 10 none),(.sl 12 0 10 (some 10))]
def a0m:At c5:=(some (.ce (tI [1]) 1 (some 1) false))
def a0k:At c5:=(some (.ce (tI [4,5]) 2 (some 1) false))
def a0h:At c5:=(some (.ce (tI [7,7,7]) 3 (some 1) false))
def axf:At c5:=(some (.ce (tI [1,4,1,2,1,3,3,4,3,4]) 10 (some 1) false))
def a0n:At c5:=(some (.ce (tI [5]) 1 (some 1) false))
def a0c:At c5:=(some (.ce (tI [0,1,1,1]) 4 (some 1) false))
def a0t:At c5:=(some (.ce (tI [0,0,0,0,0,0,0,0,0,0]) 10 none false))
def axa:At c5:=(some (.ce (tI [0,7,16,1,12,2,18,3,22,15]) 10 (some 1) false))
def a0i:At c5:=(some (.ce (tI [9,9,9]) 3 (some 1) false))
def a0d:At c5:=(some (.ce (tI [2,3,5,7]) 4 (some 1) false))
def aw7:At c5:=(some (.ce (tC [(.sl 7 0 1 none),(.sl 4 0 4 none),(.sl 10 0 1 none),(.sl 3 0 2 none),(.sl 9 0 1 none),(.sl 6 0 3 none),(.sl 11 0 3 none),(.sl 2 0 4 none),(.sl 8 0 3 none),(.sl 5 0 4 none)]) 10 none false))
def a0e:At c5:=(some (.ce (tI [8,8,8,9]) 4 (some 1) false))
def a0o:At c5:=(some (.ce (tI [3]) 1 (some 1) false))
def a0j:At c5:=(some (.ce (tI [6,6,6]) 3 (some 1) false))
def axi:Tr c5:=(.nd .lf (some (.ce (tI [0,0,0]) 3 (some 1) true)) .lf)
def a0z:Tr c5:=(.nd .lf axj .lf)
def a0g:At c5:=(some (.ce (tI [0,0,0,0]) 4 (some 1) true))
def Li:rf:=(19,([(.ag a0r),(.sl 13 0 10 (some 10))],(.nd (.nd (.nd (.nd .lf a0m .lf) a0k (.nd .lf a0h .lf)) axf (.nd (.nd .lf a0n .lf) a0c (.nd .lf a0t .lf))) axa (.nd (.nd (.nd .lf a0i .lf) a0d (.nd .lf aw7 .lf)) a0e (.nd (.nd .lf a0o .lf) a0j .lf))),14),((.tu [(.sl 24 0 10 (some 10)),(vi 0)]),(.nd (.nd (.nd (.nd (.nd .lf (some (.ce (tI [0,0]) 2 (some 1) true)) .lf) a0m axi) a0k (.nd a0z a0h .lf)) axf (.nd (.nd (.nd .lf a0g .lf) a0n .lf) a0c (.nd a0z a0t .lf))) axa (.nd (.nd (.nd (.nd .lf a0g .lf) a0i (.nd .lf (some (.ce (tC [(.sl 19 0 1 none),(.sl 16 0 4 none),(.sl 22 0 1 none),(.sl 15 0 2 none),(.sl 21 0 1 none),(.sl 18 0 3 none),(.sl 23 0 3 none),(.sl 14 0 4 none),(.sl 20 0 3 none),(.sl 17 0 4 none)]) 10 none true)) .lf)) a0d (.nd axi aw7 .lf)) a0e (.nd (.nd axi a0o .lf) a0j (.nd a0z a0g .lf)))),25))
def a0f:At c5:=(some (.ce (tI [0,0,0,0]) 4 (some 1) false))
def axg:Tr c5:=(.nd .lf (some (.ce (tI [0,0,0]) 3 (some 1) false)) .lf)
def axl:Tr c5:=(.nd .lf (some (.ce (tI [0]) 1 (some 1) false)) .lf)
def aw2:Tr c5:=(.nd (.nd (.nd (.nd (.nd .lf a0f .lf) a0m (.nd .lf (some (.ce (tC [(.sl 18 0 1 none),(.sl 15 0 4 none),(.sl 21 0 1 none),(.sl 14 0 2 none),(.sl 20 0 1 none),(.sl 17 0 3 none),(.sl 22 0 3 none),(.sl 13 0 4 none),(.sl 19 0 3 none),(.sl 16 0 4 none)]) 10 none false)) .lf)) a0k (.nd axg a0h .lf)) axf (.nd (.nd axg a0n .lf) a0c (.nd axl a0f .lf))) axa (.nd (.nd (.nd (.nd .lf a0f .lf) a0i .lf) a0d (.nd axl aw7 .lf)) a0e (.nd (.nd axl a0o .lf) a0j (.nd axg (some (.ce (tI [0,0]) 2 (some 1) false)) .lf))))
def L6:rf:=(21,([(.ag a0r),(.sl 23 0 10 (some 10))],aw2,24),((.tu [(vi 0),(vi 0)]),aw2,24))
def axb:Tr c5:=(.nd (.nd .lf axa .lf) (some (.ce (tI [4]) 1 none false)) (.nd .lf (some (.ce (tC [(.sl 1 0 10 none),(.sl 0 0 1 (some 1))]) 2 (some 1) false)) .lf))
def QB:rf:=(24,([(.ag [(vi 5),(.sl 2 0 2 none)]),(vi 3)],axb,3),((.tu [(vi 4),(vi 0)]),axb,3))
def axk:At c5:=(some (.ce (tI [1,0]) 2 none false))
def a00:Tr c5:=(.nd .lf axk .lf)
def aw9:Do CV:=[(vi 0),(vi 1),(vi 0),(vb false),(vi 0),(vi 2),(vi 0),(vb true),(vi 1),(vi 2),(vi 0),(vb true),(vi 2),(vi 3),(vi 0),(vb true)]
def VS:rf:=(31,([(.ag a0a),(.sl 1 0 1 (some 1))],(.nd a00 aw3 .lf),2),((.tu [(.ag [(vi 5),(.sl 2 0 4 none)]),(vi 1),(vi 0)]),(.nd a00 aw3 (.nd .lf (some (.ce (tC aw9) 16 (some 4) true)) .lf)),3))
def a0w:At c5:=(some (.ce (tC aw9) 16 (some 4) false))
def Ye:rf:=(32,([(.ag [(vi 5),(.sl 0 0 4 none)]),(.sl 1 0 1 (some 1))],(.nd a00 a0w .lf),2),((.tu [(.ag [(vi 5),(.sl 2 0 3 none)]),(.sl 3 0 1 none),(vi 0)]),(.nd (.nd (.nd .lf (some (.ce (tC [(vb false),(vb false),(vi 0),(vi 0),(vi 0)]) 5 (some 5) true)) .lf) axk .lf) a0w (.nd .lf a0l .lf)),4))
def DJ:ak6 Tryz.prog.funcs.toList 9619639593036084861721358967732705672478558906588434863541558769751285714560940538366543377458225048121551880188=true:=ci
def DK:(9619639593036084861721358967732705672478558906588434863541558769751285714560940538366543377458225048121551880188:Nat)<2^Tryz.prog.funcs.toList.length:=ayh ci
def aup:Func:=(atL wFs 43).getD default
def anL:Tryz.prog.funcs[43]? =some aup:=ci
def awb u:It T (hA T wE0 (kj []) 100) 100 aup u=some 0:=ci
def aoK:Func:=(atL wFs 117).getD default
def ak7:Tryz.prog.funcs[117]? =some aoK:=ci
def auq u:It T (hA T wE0 (kj []) 100) 100 aoK u=some 0:=ci
def are(w:GE):EOk Tryz.prog w wE0:=aoJ rfl DJ DK λf h=>by
 have:(Nat.testBit 0 f)=true:=h;simp at this
def aoL(d:∀a o u,GT a o u->b.cell? ⟨a,o,none⟩=some u):EOk Tryz.prog b wE:=aoJ rfl DJ DK λf h e=>by
 have i:∀w,Ext b w->gT Tryz.prog w (hA T wE0 (kj []) 100 (R:=Nat)):=λw l=>xc mixed Bl (λa o u h=>l.cell (d a o u h)) (are w) MOk.nil 100;have j:f=43\/f=117:=by
  have c:Nat.testBit (2^43+2^117) f=true:=h;have k:f<128:=by
   by_cases g:f<128
   .exact g
   .rw[aCw (azr (by decide:2^43+2^117<2^128) (aBW d6 (azW g)))]at c
    cases c
  have m:∀f,f<128->Nat.testBit (2^43+2^117) f=true->f=43\/f=117:=d6
  exact m f k c
 rcases j with rfl|rfl
 .exact DI mixed Bl d i (lD DJ DK 43 d6) anL awb e
 .exact DI mixed Bl d i (lD DJ DK 117 d6) ak7 auq e
variable{u:Hp}{A:Do AV}{j:Id}
noncomputable def qD:bw:=[(4294967296,3),(4294967297,6),(4294967298,7),(4294967299,4),(4294967300,5)]
abbrev AK1:Type:=(EV×EV×EV×EV×EV)×At eh×At eh×At eh×At eh×At eh
abbrev AK2:Type:=EV×EV×At eh×At eh
noncomputable def aK:IR->cT->At (Sum AK1 AK2)
 |.normal,E=>some (.inl ((c6 E.t 3,c6 E.t 4,c6 E.t 5,c6 E.t 6,c6 E.t 7),bG E.h 3,bG E.h 4,bG E.h 5,bG E.h 6,bG E.h 7))
 |.ret,E=>some (.inr (c6 E.t 6,c6 E.t 7,bG E.h 6,bG E.h 7))
 |_,_=>none
def aut N n d c st k j m f i g P l:px N (Sum AK1 AK2) (pq [0]) (pE n d c st k j m f i g P l) (λE=>yB T (Y1 nV N) N (pq [1,0]) .z E (Sum AK1 AK2) aK)=
 aW (tp N (n,d,c,st)) λb=>cond (!b)
  (some (.inr (.pt 6 0,.pt 7 0,some (.box 26 (gS n d c st)),some (.box 40 [.sc j1 1,.sc j1 0,.nil]))))
  (some (.inl ((.pt 3 0,.pt 4 0,.pt 5 0,.pt 6 0,.pt 7 0),some (.box 26 (gS n d c st)),some (.box 30 [.sc j1 k,.sc hS j,.sc Ha m]),some (.box 35 [.sc j1 f,.sc j1 i,.sc j1 g,.sc j1 P,.sc hS l]),some (.box 26 zS),some (.box 40 zR)))):=ci
noncomputable def ak8(b c:Nat)(d f:Do EV):cT:=⟨30,[(6,.pt b 0),(7,.pt c 0)],[(b,some (.box 26 d)),(c,some (.box 40 f))]⟩
def auu n d b st e c z:ED T (ak8 6 7 (gS n d b st) [.sc j1 e,.sc j1 c,z]) Tryz.f5.results.toList=some [.ag (gS n d b st),.ag [.sc j1 e,.sc j1 c,z]]:=ci
def aoM n d b st e c z:ED T (ak8 4294967297 4294967298 (gS n d b st) [.sc j1 e,.sc j1 c,z]) Tryz.f5.results.toList=some [.ag (gS n d b st),.ag [.sc j1 e,.sc j1 c,z]]:=ci
section
variable{P:Fd}{B:Bs}{Rd:bI}{e:Env}{h h2:Hp}{w:GE}{st:St}{a:Act}
def SR.less(d:SR B Rd e h w)(g:∀k ob,bc h2 k=some ob->bc h k=some ob):SR B Rd e h2 w/\∀b o u,bS B Rd e h w b o u->bS B Rd e h2 w b o u:=by
 have i:∀b o u,bS B Rd e h w b o u->bS B Rd e h2 w b o u:=λb o u ⟨m,h2,n⟩=>⟨m,h2,λk ob c f=>n k ob (g k ob c) f⟩;exact⟨⟨d.ext,d.kW,λk ob c=>(d.ob k ob (g k ob c)).mono i,λk ob b c f=>d.base k ob b (g k ob c) f,λk j ob l b c q f p=>d.inj k j ob l b (g k ob c) (g j l q) f p,d.yv⟩,i⟩
def arf(i:Ga B Rd e st a w)(k:IL P st s.results.toList=some A):∃v,(results s a.tmps).run P w=.ok v w/\VR (bS B Rd e st.h w) (some e) (Q_ A) v:=by
 obtain⟨d,l,b⟩:=Hz (P:=P) i _ _ k;have j:(s.results.mapM (mr a.tmps)).run P w=.ok d.toArray w:=by
  rw[aBo];simp only[aAl,l];rfl
 rw[z7];simp only[axE,j,axF,axH];refine⟨_,rfl,?_⟩
 match A,d,b with
 |[],[],b=>exact .tu [] rfl d5
 |[c],[u],b=>simpa[Q_]using b.2 0 c u rfl rfl
 |c::f::A,u::g::d,b=>
  have:¬(u::g::d).toArray.size=1:=d5
  rw[dif_neg this];exact .tu _ b.1 b.2
 |[],u::d,b=>have:=b.1;simp at this
 |[c],[],b=>have:=b.1;simp at this
 |[c],u::g::d,b=>have:=b.1;simp at this
 |c::f::A,[],b=>have:=b.1;simp at this
 |c::f::A,[u],b=>have:=b.1;simp at this
end
noncomputable def rTk(n:Int)(d:Do bq)(b st e c:Int)(z:EV):EV:=.tu [.ag (gS n d b st),.ag [.sc j1 e,.sc j1 c,z]]
def anM{Rd:bI}{E:At Env}(h:VR Rd E (enc .nil) j):VR Rd E (enc (.sc j6 [])) j:=by
 change VR Rd E (.sl true 0 []) j at h;cases h with
 |sl d m f c k b h2 g i=>
  have l:d=[]:=by simpa using c
  exact .sl (rows:=[]) [] d5 d5 rfl d5 b h2 (λh=>by cases h) d5
def aoN{Rd:bI}{E:At Env}{n:Int}{m:Do bq}{k st e c:Int}(h:VR Rd E (enc (rTk n m k st e c .nil)) j):VR Rd E (enc (rTk n m k st e c (.sc j6 []))) j:=by
 obtain⟨o,rfl,l⟩:=h.Iy (cs:=cg [.ag (gS n m k st),.ag [.sc j1 e,.sc j1 c,.nil]]);refine .tu o l.1 λb x u d f=>?_
 match b with
 |0=>exact l.2 0 x u d f
 |1=>
  have d:enc (.ag [.sc j1 e,.sc j1 c,.sc j6 []])=x:=axt d;subst d;obtain⟨p,rfl,g⟩:=(l.2 1 (enc (.ag [.sc j1 e,.sc j1 c,.nil])) u rfl f).ff (cs:=cg [.sc j1 e,.sc j1 c,.nil]);refine .ag p g.1 λi x u d f=>?_
  match i with
  |0=>exact g.2 0 x u d f
  |1=>exact g.2 1 x u d f
  |2=>
   have d:enc (.sc j6 [])=x:=axt d;subst d;exact anM (g.2 2 (enc .nil) u rfl f)
  |i+3=>cases d
 |b+2=>cases d
def auv(n:Int)(f:Do bq)(d st e c:Int)(b:aX):(enc (rTk n f d st e c (.sc j6 b))).gC (λ_=>true)=true:=by rfl
def Yf{B:Bs}{Rd:bI}{e:Env}{w:GE}{tm:ea}{c d:Nat}{f g:Do EV}{r:Do EV}(A:SR B Rd e u w)(C:tm.size=30)
 (z:ED T (ak8 c d f g) Tryz.f5.results.toList=some r) (s:VR (bS B Rd e u w) (some e) (.pt c 0) (tm.getD 6 undef)) (t:VR (bS B Rd e u w) (some e) (.pt d 0) (tm.getD 7 undef))
 (o:bc u c=some (cx (.box 26 f))) (p:bc u d=some (cx (.box 40 g))):
 ∃v,(results Tryz.f5 tm).run Tryz.prog w=.ok v w/\VR (bS B Rd e [] w) (some e) (Q_ (cg r)) v:=by
 have y:∀k ob,bc (bE (ak8 c d f g).h) k=some ob->bc u k=some ob:=λk ob b=>by
  change bc [(c,some (cx (.box 26 f))),(d,some (cx (.box 40 g)))] k=some ob at b;by_cases j:k=c
  .subst j;rw[bf]at b;rw[o];exact b
  .rw[bd j]at b
   by_cases l:k=d
   .subst l;rw[bf]at b;rw[p];exact b
   .rw[bd l]at b;cases b
 obtain⟨n,m⟩:=A.less y;have x:Ga B Rd e (bu (ak8 c d f g)) ⟨tm,B.df⟩ w:=⟨⟨C,by show(30:Nat)<=1000000;decide⟩,rfl,n,λi=>by
  change VR _ _ (bM [(6,.pt c 0),(7,.pt d 0)] i) (tm.getD i undef);by_cases j:i=6
  .subst j;exact s.mono m
  .by_cases l:i=7
   .subst l;exact t.mono m
   .simp only[bM,j,l,ayl];exact .un⟩
 obtain⟨v,q,h2⟩:=arf (P:=Tryz.prog) x (HH Bl z);exact⟨v,q,h2.mono (n.less (h2:=[]) λk ob b=>by cases b).2⟩
variable{i:Env}{v:SV×RV}
abbrev TkT(s:SV)(x:XV)(w:WV):TA:=(x.1,x.2.1,x.2.2,w.1,w.2.1,w.2.2.1,w.2.2.2.1,w.2.2.2.2,s.1,s.2.1,s.2.2.1,s.2.2.2,0,0,[])
def Yg{s:SV}{x:XV}{w:WV}(h:GM (a+1) s x w=some v):
 (tp (a+1) s=some false/\v=(s,1,0,[]))\/(tp (a+1) s=some true/\
  ((∃l,l≠0/\NF (a+1) (TkT s x w)=some l/\v=(s,l,0,[]))\/E2 (a+2) (TkT s x w)=some (v.1.1,v.1.2.1,v.1.2.2.1,v.1.2.2.2,v.2.1,v.2.2.1,v.2.2.2))):=by
 obtain⟨n,j,B,G⟩:=s;obtain⟨k,C,F⟩:=x;obtain⟨z,A,g,P,y⟩:=w;unfold GM at h;cases u:tp (a+1) (n,j,B,G)with
 |none=>rw[u]at h;cases h
 |some b=>
  rw[u]at h;cases b with
  |false=>exact .inl ⟨rfl,(axt h).symm⟩
  |true=>
   refine .inr ⟨rfl,?_⟩;have f:dV (a+1) 0=some ():=by rw[tB];rfl
   unfold TkT;rw[aeD];unfold NF;simp only[aW,axL]at h⊢;generalize tw (a+1) (n,j,k,C,F,z,A,g,P,y)=D at h⊢;cases D with
   |none=>cases h
   |some c=>
    simp only at h⊢;by_cases m:c.2.1=0
    .rw[m]at h⊢
     simp only[ayD,axL,axA,axr,f]at h⊢;generalize kH (a+1) (wZ (((c.2.2.2.1.length:Nat):Int)+((c.2.2.2.2.length:Nat):Int)),g,P,y)=E at h⊢;cases E with
     |none=>cases h
     |some o=>
      simp only at h⊢;by_cases p:o.2.1=0
      .rw[p]at h⊢
       simp only[ayD,axL,axA,axr,f]at h⊢;by_cases q:c.2.2.1=1
       .simp only[q,ayD,axL]at h⊢
        generalize p_ (a+1) (n,j,c.2.2.2.1)=i at h⊢;cases i with
        |none=>cases h
        |some d=>
         simp only at h⊢;by_cases e:d.2.1=0
         .rw[e]at h⊢
          simp only[ayD,axL,f]at h⊢;cases h;exact .inr rfl
         .simp only[axU e,axr]at h
          cases h;exact .inl ⟨_,e,rfl,rfl⟩
       .simp only[axU q,axr]at h⊢
        by_cases r:c.2.2.1=2
        .simp only[r,ayD,axL]at h⊢
         generalize wz (a+1) (n,j,c.2.2.2.1)=i at h⊢;cases i with
         |none=>cases h
         |some d=>
          simp only at h⊢;by_cases e:d.1=0
          .rw[e]at h⊢
           simp only[ayD,axL,f]at h⊢;cases h;exact .inr rfl
          .simp only[axU e,axr]at h
           cases h;exact .inl ⟨_,e,rfl,rfl⟩
        .simp only[axU r,axr]at h⊢
         by_cases t:c.2.2.1=3
         .simp only[t,ayD,axL]at h⊢
          generalize CZ (a+1) (n,j,c.2.2.2.2)=i at h⊢;cases i with
          |none=>cases h
          |some d=>
           simp only at h⊢;by_cases e:d.1=0
           .rw[e]at h⊢
            simp only[ayD,axL,f]at h⊢;cases h;exact .inr rfl
           .simp only[axU e,axr]at h
            cases h;exact .inl ⟨_,e,rfl,rfl⟩
         .simp only[axU t,axr]at h⊢
          cases h;exact .inr rfl
      .simp only[axU p,axr,ayf,axL]at h⊢
       cases h;exact .inl ⟨_,p,rfl,rfl⟩
    .simp only[axU m,axr,ayf,axL]at h⊢
     cases h;exact .inl ⟨_,m,rfl,rfl⟩
def arh(b:yw qD a=some h):(a=4294967296/\h=3)\/(a=4294967297/\h=6)\/(a=4294967298/\h=7)\/(a=4294967299/\h=4)\/(a=4294967300/\h=5):=by
 have:=gp b;unfold qD at this;simpa using this
def aoO:QU 1000 qD=true:=d6
def xd{Rd:bI}{t:EQ}(h:OR Rd i b a (.box t A)):i.cS a=0:=h.1
def Ay{Rd:bI}(c:VR Rd (some i) (.pt a h) j):∃b,i.bX a=some b/\j=.pointer (some ⟨b,h,none⟩):=by
 cases c with
 |pt c=>exact⟨_,c,rfl⟩
def QC:Enters Tryz.prog 43:=⟨f43,func43,by kernel_rfl,by kernel_rfl⟩
def auy(w:GE)(c:∀b o u,GT b o u->w.cell? ⟨b,o,none⟩=some u)(a:ea):K6 Tryz.prog w {target:=.fn (.func 43) a,args:= #[]}:=
 (aoL c).idle _ d6 a
noncomputable abbrev qB(e:Env)(w:GE)(D:Deferred):Bs:=(cB qD 1000 e w).C5 [D]
abbrev qRd(B:Bs)(Rd:bI)(e:Env)(h:Hp)(w:GE):bI:=cRd qD 1000 B Rd e h w
section
variable{B:Bs}{Rd:bI}{e e2:Env}{h H:Hp}{w w':GE}{D:Deferred}
def auz(t:SR B Rd e h w)(s:Handed qD e h)(v:SR (qB e w D) (qRd B Rd e h w) e2 H w'){n:Int}{p:Do bq}{d m i f:Int}{c:aX}
 (x:VR (bS (qB e w D) (qRd B Rd e h w) e2 [] w') (some e2) (enc (rTk n p d m i f (.sc j6 c))) j):∃g,SR B Rd g [] w'/\VR (bS B Rd g [] w') (some g) (enc (rTk n p d m i f (.sc j6 c))) j:=by
 obtain⟨j1,j2,j3,j4⟩:=SR.eJ t s aoO (SR.UM v.nil) rfl;obtain⟨y,z⟩:=j1.less (h2:=[]) λk ob r=>by cases r
 exact⟨_,y,((x.mono λb o u q=>z b o u (j3 b o u q))).LO rfl (λ_=>true) (auv n p d m i f c) (λa l=>by cases l) (λa l=>by cases l)⟩
end
def awc{B:Bs}{Rd:bI}{e:Env}{h:Hp}{w:GE}(a:SR B Rd e h w){q r s t u:EQ}{j k l m n:Do AV}
 (b:bc h 3=some (.box q j)) (d:bc h 4=some (.box r k)) (f:bc h 5=some (.box s l)) (g:bc h 6=some (.box t m)) (i:bc h 7=some (.box u n)):Handed qD e h:=λp c o=>by
 rcases arh o with⟨_,rfl⟩|⟨_,rfl⟩|⟨_,rfl⟩|⟨_,rfl⟩|⟨_,rfl⟩
 .exact⟨⟨_,b⟩,xd (a.ob _ _ b)⟩
 .exact⟨⟨_,g⟩,xd (a.ob _ _ g)⟩
 .exact⟨⟨_,i⟩,xd (a.ob _ _ i)⟩
 .exact⟨⟨_,d⟩,xd (a.ob _ _ d)⟩
 .exact⟨⟨_,f⟩,xd (a.ob _ _ f)⟩
def awd{e:Env}{h:Hp}{w:GE}(n:Int)(o:Do bq)(f m k:Int)(i:bj)(l:lP)(b d g P:Int)(j:bj)
 (v:bc h 3=some (cx (.box 26 (gS n o f m)))) (x:bc h 4=some (cx (.box 30 [.sc j1 k,.sc hS i,.sc Ha l]))) (y:bc h 5=some (cx (.box 35 [.sc j1 b,.sc j1 d,.sc j1 g,.sc j1 P,.sc hS j])))
 (z:bc h 6=some (cx (.box 26 zS))) (A:bc h 7=some (cx (.box 40 zR))):
 ∀p ob,bc (bE (qH n o f m k i l b d g P j)) p=some ob->∃c u,yw qD p=some c/\bc h c=some u/\∀Rd,OR Rd e w c u->OR Rd e w c (ob.iL (fW qD 1000)):=by
 intro p ob t;have a:bc [(4294967296,some (cx (.box 26 (gS n o f m)))),(4294967297,some (cx (.box 26 zS))),(4294967298,some (cx (.box 40 zR))),(4294967299,some (cx (.box 30 [.sc j1 k,.sc hS i,.sc Ha l]))),(4294967300,some (cx (.box 35 [.sc j1 b,.sc j1 d,.sc j1 g,.sc j1 P,.sc hS j])))] p=some ob:=t;clear t;by_cases e0:p=4294967296
 .subst e0;rw[bf]at a;cases a;exact⟨3,_,rfl,v,λ_ h=>h⟩
 rw[bd e0]at a;by_cases q:p=4294967297
 .subst q;rw[bf]at a;cases a;exact⟨6,_,rfl,z,λ_ h=>h⟩
 rw[bd q]at a;by_cases e2:p=4294967298
 .subst e2;rw[bf]at a;cases a;exact⟨7,_,rfl,A,λ_ h=>h⟩
 rw[bd e2]at a;by_cases r:p=4294967299
 .subst r;rw[bf]at a;cases a;exact⟨4,_,rfl,x,λ_ h=>h⟩
 rw[bd r]at a;by_cases s:p=4294967300
 .subst s;rw[bf]at a;cases a;exact⟨5,_,rfl,y,λ_ h=>h⟩
 rw[bd s]at a;cases a
def anN{B:Bs}{Rd:bI}{e:Env}{t:Do (Nat×AV)}{h:Hp}{w:GE}{a:Act}{D:Deferred}(q:Ga (B.C5 [D]) Rd e ⟨30,t,h⟩ a w)(n:Int)(A:Do bq)(l z k:Int)(m:bj)(v:lP)(f j g P:Int)(s:bj)
 (E:Handed qD e h) (C:∀p ob,bc (bE (qH n A l z k m v f j g P s)) p=some ob->∃c r,yw qD p=some c/\bc h c=some r/\∀Rd,OR Rd e w c r->OR Rd e w c (ob.iL (fW qD 1000)))
 (S:bM t 3=.pt 3 0) (U:bM t 4=.pt 4 0) (V:bM t 5=.pt 5 0) (W:bM t 6=.pt 6 0) (X:bM t 7=.pt 7 0):
 Ga (qB e w D) (qRd (B.C5 [D]) Rd e h w) (e.pi qD 1000) (bu (qE n A l z k m v f j g P s)) a w:=by
 have Q:=q.sr.pK E aoO C;have L:∀b o u,bS (B.C5 [D]) Rd e h w b o u->bS (cB qD 1000 e w) (qRd (B.C5 [D]) Rd e h w) (e.pi qD 1000) (bE (qH n A l z k m v f j g P s)) w b o u:=λb o u N=>N.pK E λp ob O=>by
  obtain⟨c,r,x,y,_⟩:=C p ob O;exact⟨c,x,r,y⟩
 have d:∀i p c,bM t i=.pt c 0->fW qD 1000 p=c->VR (bS (qB e w D) (qRd (B.C5 [D]) Rd e h w) (e.pi qD 1000) (bE (qH n A l z k m v f j g P s)) w) (some (e.pi qD 1000)) (.pt p 0) (a.tmps.getD i undef):=λi p c R M=>by
  have:=q.tr i;change VR _ _ (bM t i) _ at this;rw[R,<-M]at this;exact(this.qv (fW qD 1000) (e':=e.pi qD 1000) (λ_=>rfl) (λ_=>rfl) rfl (c:=.pt p 0) rfl).mono L
 refine⟨q.n,q.d,SR.C5 Q [D],λi=>?_⟩;change VR _ _ (bM [(3,.pt 4294967296 0),(4,.pt 4294967299 0),(5,.pt 4294967300 0),(6,.pt 4294967297 0),(7,.pt 4294967298 0)] i) _;by_cases F:i=3
 .subst F;exact d 3 _ _ S rfl
 by_cases G:i=4
 .subst G;exact d 4 _ _ U rfl
 by_cases I:i=5
 .subst I;exact d 5 _ _ V rfl
 by_cases J:i=6
 .subst J;exact d 6 _ _ W rfl
 by_cases K:i=7
 .subst K;exact d 7 _ _ X rfl
 simp only[bM,F,G,I,J,K,ayl];exact .un
section
abbrev ari(B:Bs)(Rd:bI)(r:EV):Ending->GE->Prop:=λx b=>∃v a,x=.returned v/\SR B Rd a [] b/\VR (bS B Rd a [] b) (some a) (enc r) v
def auA{s:SV}{x:XV}{w:WV}{y:SV×RV}(hR:tp (a+1) s=some true)
 (h:(∃m,m≠0/\NF (a+1) (TkT s x w)=some m/\y=(s,m,0,[]))\/E2 (a+2) (TkT s x w)=some (y.1.1,y.1.2.1,y.1.2.2.1,y.1.2.2.2,y.2.1,y.2.2.1,y.2.2.2))
 {B:Bs} {Rd:bI} {t:Do (Nat×AV)} {g:Act} {D:Deferred} {u3 u6 u7:Id} (a1:D={target:=.fn (.func 43) #[u3,u6,u7],args:= #[]})
 (P:Ga (B.C5 [D]) Rd i ⟨30,t,u⟩ g b) (hH:Handed qD i u) (hm:∀p ob,bc (bE (qH s.1 s.2.1 s.2.2.1 s.2.2.2 x.1 x.2.1 x.2.2 w.1 w.2.1 w.2.2.1 w.2.2.2.1 w.2.2.2.2)) p=some ob->∃c a4,yw qD p=some c/\bc u c=some a4/\∀Rd,OR Rd i b c a4->OR Rd i b c (ob.iL (fW qD 1000)))
 (t3:bM t 3=.pt 3 0) (t4:bM t 4=.pt 4 0) (t5:bM t 5=.pt 5 0) (t6:bM t 6=.pt 6 0) (t7:bM t 7=.pt 7 0)
 (v3:VR (λ_ _ _=>True) (some i) (.pt 3 0) u3) (v6:VR (λ_ _ _=>True) (some i) (.pt 6 0) u6) (v7:VR (λ_ _ _=>True) (some i) (.pt 7 0) u7):
 (Code.seq (pq [1,1,1,0]) (.seq (pq [1,1,1,1,0]) qy)).wp Tryz.prog (bodyPostD Tryz.prog Tryz.f5 (ari B Rd (rTk y.1.1 y.1.2.1 y.1.2.2.1 y.1.2.2.2 y.2.1 y.2.2.1 (.sc j6 y.2.2.2)))) g b:=by
 have a2:=anN P s.1 s.2.1 s.2.2.1 s.2.2.2 x.1 x.2.1 x.2.2 w.1 w.2.1 w.2.2.1 w.2.2.2.1 w.2.2.2.2 hH hm t3 t4 t5 t6 t7;have ad:∀f o e,GT f o e->bS (B.C5 [D]) Rd i u b f o e:=λf o e R=>P.sr.IA R;have a0:∀{E:Env} {H:Hp} {J:GE} {m ch:Int} {n:Int} {ts:Do bq} {bt st:Int} {an:aX} {v:Id},SR (qB i b D) (qRd (B.C5 [D]) Rd i u b) E H J->VR (bS (qB i b D) (qRd (B.C5 [D]) Rd i u b) E [] J) (some E) (enc (rTk n ts bt st m ch (.sc j6 an))) v->ari B Rd (rTk n ts bt st m ch (.sc j6 an)) (.returned v) J:=λab F=>by
  obtain⟨E,k1,k2⟩:=auz (B:=B.C5 [D]) P.sr hH ab F;exact⟨_,E,rfl,k1.UM,k2⟩
 have I:∀{A G:Env} {H6 K:Hp} {q w7:GE} {k:Nat} {e:Id},SR (qB i b D) (qRd (B.C5 [D]) Rd i u b) A H6 q->SR (qB i b D) (qRd (B.C5 [D]) Rd i u b) G K w7->4294967296<=k->VR (bS (qB i b D) (qRd (B.C5 [D]) Rd i u b) A H6 q) (some A) (.pt k 0) e->VR (bS (qB i b D) (qRd (B.C5 [D]) Rd i u b) G K w7) (some G) (.pt k 0) e:=λh6 h7 l F=>by
  obtain⟨f,N,rfl⟩:=Ay F;exact .pt (by rw[(h7.yv _ l).1,<-(h6.yv _ l).1];exact N)
 rcases h with⟨m,a7,hE,rfl⟩|hM
 .refine amO s.1 s.2.1 s.2.2.1 s.2.2.2 x.1 x.2.1 x.2.2 w.1 w.2.1 w.2.2.1 w.2.2.2.1 w.2.2.2.2 hE a7 _ _ _ _ _ _ a2 λex s6 S A z q j=>?_
  obtain⟨rfl,g0,L,M,X,Y,Q⟩:=S;show Leaves _ _ _ _ z.defers (.panicking [{v:=oE m,recovered:=false}]) q;have C:z.defers=[D]:=j.d;rw[C,a1];have a3:=(j.sr.less (h2:=bE (gH s.1 s.2.1 s.2.2.1 s.2.2.2 zS zR)) λk ob l=>by
   change bc [(4294967296,some (cx (.box 26 (gS s.1 s.2.1 s.2.2.1 s.2.2.2)))),(4294967297,some (cx (.box 26 zS))),(4294967298,some (cx (.box 40 zR)))] k=some ob at l;by_cases e0:k=4294967296
   .subst e0;rw[bf]at l;rw[g0];exact l
   rw[bd e0]at l;by_cases e1:k=4294967297
   .subst e1;rw[bf]at l;rw[L];exact l
   rw[bd e1]at l;by_cases e2:k=4294967298
   .subst e2;rw[bf]at l;rw[M];exact l
   rw[bd e2]at l;cases l).1
  have W:∀{p c:Nat} {e:Id} {a5:bI},4294967296<=p->fW qD 1000 p=c->VR (λ_ _ _=>True) (some i) (.pt c 0) e->VR a5 (some A) (.pt p 0) e:=λl O F=>by
   obtain⟨f,N,rfl⟩:=Ay F;refine .pt ?_;rw[(a3.yv _ l).1];show i.bX (fW qD 1000 _)=_;rw[O];exact N
  have aa:LR (VR (bS (qB i b D) (qRd (B.C5 [D]) Rd i u b) A (bE (gH s.1 s.2.1 s.2.2.1 s.2.2.2 zS zR)) q) (some A)) (cg gAv) [u3,u6,u7]:=
   LR.cons (W d6 rfl v3) (LR.cons (W d6 rfl v6) (LR.cons (W d6 rfl v7) LR.nil))
  refine leaves_cons (by intro h;cases h) (gN (QC) _ _) ?_;have O:=aeF m s.1 s.2.1 s.2.2.1 s.2.2.2 _ _ _ _ _ a3 aa;refine O.mono λex u' J hx=>?_;obtain⟨⟨v,rfl⟩,rfl,G,K,hK,r⟩:=hx;obtain⟨Z,U,V⟩:=Yf (tm:=z.tmps) r (j.n.1.trans Q) (aoM s.1 s.2.1 s.2.2.1 s.2.2.2 m 0 .nil) (I j.sr r d6 (by have:=j.tr 6;rw[X]at this;exact this)) (I j.sr r d6 (by have:=j.tr 7;rw[Y]at this;exact this)) hK.1 hK.2;exact⟨Z,U,a0 r (aoN V)⟩
 .refine aqz s.1 s.2.1 s.2.2.1 s.2.2.2 x.1 x.2.1 x.2.2 w.1 w.2.1 w.2.2.1 w.2.2.2.1 w.2.2.2.2 hM _ _ _ _ _ _ a2 λex s6 S A z q j=>?_
  obtain⟨a8,L,M,X,Y,Q⟩:=S;have a9:Leaves Tryz.prog Tryz.f5 z.tmps (ari B Rd (rTk y.1.1 y.1.2.1 y.1.2.2.1 y.1.2.2.2 y.2.1 y.2.2.1 (.sc j6 y.2.2.2))) z.defers .returning q:=by
   have C:z.defers=[D]:=j.d;rw[C];refine xb (w0:=q) [D] q (Ext.refl _) (λd C=>?_) λw7 ac=>?_
   .rw[axK]at C
    subst C;rw[a1];exact auy q (λf o e R=>(j.sr.IA R).1) _
   .have r:=(j.sr.later ac).1
    obtain⟨Z,U,V⟩:=Yf (tm:=z.tmps) r (j.n.1.trans Q) (aoM y.1.1 y.1.2.1 y.1.2.2.1 y.1.2.2.2 y.2.1 y.2.2.1 (.sc j6 y.2.2.2)) (I j.sr r d6 (by have:=j.tr 6;rw[X]at this;exact this)) (I j.sr r d6 (by have:=j.tr 7;rw[Y]at this;exact this)) L M;exact⟨Z,U,a0 r V⟩
  rcases a8 with rfl|rfl<;>exact a9
def auB{s:SV}{x:XV}{w:WV}(h:GM (a+1) s x w=some v):G3 Tryz.prog 5 [] (cg (pAv s.1 s.2.1 s.2.2.1 s.2.2.2 x.1 x.2.1 x.2.2 w.1 w.2.1 w.2.2.1 w.2.2.2.1 w.2.2.2.2)) [] (enc (rTk v.1.1 v.1.2.1 v.1.2.2.1 v.1.2.2.2 v.2.1 v.2.2.1 (.sc j6 v.2.2.2))):=by
 refine⟨⟨Tryz.f5,func5,by kernel_rfl,by kernel_rfl⟩,λB Rd e w0 vs a5 hv=>aBB (c:=pb) func5 ci ?_⟩;have C:=EJ nV (a+1);have U:FZ (pq [0])=true:=ci
 have V:FZ (pq [1,0])=true:=ci
 have K:=Ga.enter (fn:=Tryz.f5) (B:=B.C5 []) (H0:=[]) (vs:=vs) rfl (by show _<=30;rw[show(cg (pAv s.1 s.2.1 s.2.2.1 s.2.2.2 x.1 x.2.1 x.2.2 w.1 w.2.1 w.2.2.1 w.2.2.2.1 w.2.2.2.2)).length=3 from rfl];decide) (by show(30:Nat)<=1000000;decide) (a5.C5 []) hv;have hE:(⟨Tryz.f5.ntmps,vf 0 (cg (pAv s.1 s.2.1 s.2.2.1 s.2.2.2 x.1 x.2.1 x.2.2 w.1 w.2.1 w.2.2.1 w.2.2.2.1 w.2.2.2.2)),[]⟩:St)=bu (pE s.1 s.2.1 s.2.2.1 s.2.2.2 x.1 x.2.1 x.2.2 w.1 w.2.1 w.2.2.1 w.2.2.2.1 w.2.2.2.2):=by
  unfold bu pE;simp only[vA];rfl
 rw[hE]at K;have t:=aut (a+1) s.1 s.2.1 s.2.2.1 s.2.2.2 x.1 x.2.1 x.2.2 w.1 w.2.1 w.2.2.1 w.2.2.2.1 w.2.2.2.2;have a4:(s.1,s.2.1,s.2.2.1,s.2.2.2)=s:=rfl;rw[a4]at t;rw[atJ];rcases Yg h with⟨A,rfl⟩|⟨A,h2⟩
 .rw[A]at t
  refine azo (TC.ex C U t _ _ _ _ _ _ K λp a6 q e1 a1 w1 J=>?_);obtain⟨G,rfl,L,g⟩:=q;cases p with
  |normal=>
   refine azo (TC.ex (N:=a+1) (pl:=.z) (E:=G) (R:=Sum AK1 AK2) (k:=aK) C V g _ _ _ _ _ _ J λp a7 q I n w2 m=>?_);obtain⟨d,rfl,M,j⟩:=q;cases p with
   |ret=>
    have f:=Sum.inr.inj (axt j);have D:c6 d.t 6=_:=axD (λz=>z.1) f;have F:c6 d.t 7=_:=axD (λz=>z.2.1) f;have u:bG d.h 6=_:=axD (λz=>z.2.2.1) f;have y:bG d.h 7=_:=axD (λz=>z.2.2.2) f;show Leaves _ _ _ _ n.defers .returning w2;rw[show n.defers=[]from m.d];obtain⟨b,v1,v2⟩:=Yf (tm:=n.tmps) m.sr (m.n.1.trans (M.trans L)) (auu s.1 s.2.1 s.2.2.1 s.2.2.2 1 0 .nil)
     (by have:=m.tr 6;rw[show bM (bu d).t 6=_ from cN _ _,D]at this;exact this) (by have:=m.tr 7;rw[show bM (bu d).t 7=_ from cN _ _,F]at this;exact this)
     ((dc _ _).trans (by rw[u];rfl)) ((dc _ _).trans (by rw[y];rfl))
    exact⟨b,v1,b,I,rfl,m.sr.UM.nil,aoN v2⟩
   |_=>cases j
  |_=>cases g
 .rw[A]at t
  refine azo (TC.ex C U t _ _ _ _ _ _ K λp a6 q e1 a1 w1 J=>?_);obtain⟨G,rfl,L,g⟩:=q;cases p with
  |normal=>
   refine azo (TC.ex (N:=a+1) (pl:=.z) (E:=G) (R:=Sum AK1 AK2) (k:=aK) C V g _ _ _ _ _ _ J λp a7 q I n w2 m=>?_);obtain⟨d,rfl,M,j⟩:=q;cases p with
   |normal=>
    have f:=Sum.inl.inj (axt j);have q3:c6 d.t 3=_:=axD (λz=>z.1.1) f;have q4:c6 d.t 4=_:=axD (λz=>z.1.2.1) f;have q5:c6 d.t 5=_:=axD (λz=>z.1.2.2.1) f;have D:c6 d.t 6=_:=axD (λz=>z.1.2.2.2.1) f;have F:c6 d.t 7=_:=axD (λz=>z.1.2.2.2.2) f;have N:bG d.h 3=_:=axD (λz=>z.2.1) f;have O:bG d.h 4=_:=axD (λz=>z.2.2.1) f;have P:bG d.h 5=_:=axD (λz=>z.2.2.2.1) f;have u:bG d.h 6=_:=axD (λz=>z.2.2.2.2.1) f;have y:bG d.h 7=_:=axD (λz=>z.2.2.2.2.2) f;have S:d.n=30:=M.trans L;obtain⟨En,o,r⟩:=d;simp only at S q3 q4 q5 D F N O P u y;subst S;obtain⟨id,aa,ab,p1,p2,a8,a9,tt,a0⟩:=amM;rw[a0];refine azo (aeE rfl m (by show 14<30;decide) λa3 Q=>?_);have w3:bM (gD o) 3=.pt 3 0:=(cN _ _).trans (by rw[q3];rfl);have w4:bM (gD o) 4=.pt 4 0:=(cN _ _).trans (by rw[q4];rfl);have w5:bM (gD o) 5=.pt 5 0:=(cN _ _).trans (by rw[q5];rfl);have w6:bM (gD o) 6=.pt 6 0:=(cN _ _).trans (by rw[D];rfl);have w7:bM (gD o) 7=.pt 7 0:=(cN _ _).trans (by rw[F];rfl);have W:bc (bE r) 3=some (cx (.box 26 (gS s.1 s.2.1 s.2.2.1 s.2.2.2))):=(dc _ _).trans (by rw[N];rfl);have X:bc (bE r) 4=some (cx (.box 30 [.sc j1 x.1,.sc hS x.2.1,.sc Ha x.2.2])):=(dc _ _).trans (by rw[O];rfl);have Y:bc (bE r) 5=some (cx (.box 35 [.sc j1 w.1,.sc j1 w.2.1,.sc j1 w.2.2.1,.sc j1 w.2.2.2.1,.sc hS w.2.2.2.2])):=(dc _ _).trans (by rw[P];rfl);have Z:bc (bE r) 6=some (cx (.box 26 zS)):=(dc _ _).trans (by rw[u];rfl);have o7:bc (bE r) 7=some (cx (.box 40 zR)):=(dc _ _).trans (by rw[y];rfl);have vt:∀i k,bM (gD o) i=.pt k 0->VR (λ_ _ _=>True) (some I) (.pt k 0) (n.tmps.getD i undef):=λi k hk=>by
     have:=m.tr i;rw[show bM (bu ⟨30,o,r⟩).t i=_ from hk]at this;exact this.mono λ_ _ _ _=>trivial
    refine auA (B:=B) (u3:=n.tmps.getD 3 undef) (u6:=n.tmps.getD 6 undef) (u7:=n.tmps.getD 7 undef) A h2 ?_ Q (awc Q.sr W X Y Z o7) (awd s.1 s.2.1 s.2.2.1 s.2.2.2 x.1 x.2.1 x.2.2 w.1 w.2.1 w.2.2.1 w.2.2.2.1 w.2.2.2.2 W X Y Z o7) w3 w4 w5 w6 w7 (vt 3 3 w3) (vt 6 6 w6) (vt 7 7 w7);simp[Act.eval]
   |_=>cases j
  |_=>cases g
noncomputable def sP:Nat->lW [j1,iU,j1,j1,j1,hS,Ha,j1,j1,j1,j1,hS]->At (Int×Do bq×Int×Int×Int×Int×aX):=λN (n,e,a,d,k,b,c,w)=>(GM (N+1) (n,e,a,d) (k,b,c) w).map λy=>(y.1.1,y.1.2.1,y.1.2.2.1,y.1.2.2.2,y.2.1,y.2.2.1,y.2.2.2)
noncomputable def QD:CO:=⟨λN=>⟨5,[.ag [.h j1,.h iU,.h j1,.h j1],.ag [.h j1,.h hS,.h Ha],.ag [.h j1,.h j1,.h j1,.h j1,.h hS]],[],[j1,iU,j1,j1,j1,hS,Ha,j1,j1,j1,j1,hS],Int×Do bq×Int×Int×Int×Int×aX,sP N,λy _ k=>k (rTk y.1 y.2.1 y.2.2.1 y.2.2.2.1 y.2.2.2.2.1 y.2.2.2.2.2.1 (.sc j6 y.2.2.2.2.2.2)) [],false,false⟩,λN=>by
 refine⟨λ_=>rfl,λx y i=>⟨rTk y.1 y.2.1 y.2.2.1 y.2.2.2.1 y.2.2.2.2.1 y.2.2.2.2.2.1 (.sc j6 y.2.2.2.2.2.2),[],λR k=>rfl,λ_=>rfl,λh=>(by cases h),?_⟩⟩;obtain⟨n,o,c,m,k,d,l,a,b,g,P,j⟩:=x;obtain⟨p,e,f⟩:=axW.1 (show(GM (N+1) (n,o,c,m) (k,d,l) (a,b,g,P,j)).map _=some y from i);subst f;exact auB e⟩
