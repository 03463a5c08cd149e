/- part 3 -/
import Derived.Test.YtillffjlojlhoaaGreatDoorZWholeSound2
set_option linter.all false
noncomputable section
open Go Go.RowKit
set_option maxRecDepth 100000
open Nat (beq blt)
namespace Go.Proofs.YtillffjlojlhoaaGreatDoor
variable{h o:If}{b:Type}{a:EQ}{s:Id}
def ab0(a:Do b)(l m:Int)(z:b):At (Do b):=if 0<=l/\0<=m/\l+m<=a.length then some (Qt a l.toNat m.toNat z)else none
def NG(T:EQ->bz)(ev:Nat->EV)(hg:Nat->At eD)(t:EQ)(x:If)(k:fv->a_->At b):At b:=
 match e7 ev x with
 |.sw j l m a=>match hg j with
  |some (.arr e r f wr)=>match(T t).el with
   |some (_,c,_,z)=>cond (beq a r.w && beq c r.w && blt 0 a && wr) (match vf r z with
    |some []=>aW (ab0 f l m (zeroV r)) λg=>k [(j,some (.arr e r g true))] [j]
    |_=>none) none
   |none=>none
  |_=>none
 |_=>none
def NH(s:Sc){β:Type}:Do (s.dp×β)->s.dp->Nat
 |[],_=>0
 |p::a,x=>cond (jE s p.1 x) 0 (NH s a x+1)
def aeN(a:Sc)(z:Id):In:=match a with
 |.i k=>match z with
  |.int l n=>decide (k=l/\n=0)
  |_=>false
 |_=>false
def GQ(T:EQ->bz)(ev:Nat->EV)(hg:Nat->At eD)(t:EQ)(x y:If)(k:EV->fv->a_->At b):At b:=
 match e7 ev x with
 |.mp j=>match hg j with
  |some (.mp d c e f)=>match(T t).mp with
   |some (g,z)=>match NA c (e7 ev y)with
    |some a=>cond (mo d c && mo g c && aeN e z) (k (.tu [kg e ((bN c f a).getD (zeroV e)),.sc (.i .i64) ((NH c f a:Nat):Int)]) [(j,some (.mp d c e (d_ c f a ((bN c f a).getD (zeroV e)))))] [j]) none
    |none=>none
   |none=>none
  |_=>none
 |_=>none
def Vp{α β:Type}(a:Do (α×β))(i:Int)(b:β):At (Do (α×β)):=if 0<=i then(a[i.toNat]?).map λp=>a.set i.toNat (p.1,b)else none
def Ec(T:EQ->bz)(ev:Nat->EV)(hg:Nat->At eD)(t:EQ)(x y v:If)(k:fv->a_->At b):At b:=
 match e7 ev x with
 |.mp j=>match hg j with
  |some (.mp d c e f)=>match(T t).mp with
   |some (h,_)=>match vg ev y with
    |some i=>match abX e (e7 ev v)with
     |some a=>cond (mo d c && mo h c) (aW (Vp f i a) λg=>k [(j,some (.mp d c e g))] [j]) none
     |none=>none
    |none=>none
   |none=>none
  |_=>none
 |_=>none
section
variable{P:Fd}{T:EQ->bz}{ev:Nat->EV}{hg:Nat->At eD}{n d:Nat}{ty:EQ}{pos:String}{af:dY}{gd:gg}
def akp{α β:Type}(f:α->β)(a:Do α)(l m:Nat)(z:α):(Qt a l m z).map f=Qt (a.map f) l m (f z):=by
 simp[Qt,ays,ayI]
def sA.append{a b a' b':Do (Do AV)}(h:sA a b)(k:sA a' b'):sA (a++a') (b++b'):=by
 induction h with
 |nil=>exact k
 |cons c _ e=>exact .cons c e
def sA.same:∀a:Do (Do AV),sA a a
 |[]=>.nil
 |r::a=>.cons (qv.refl r) (sA.same a)
def Vq(G:hS P T){k:fv->a_->At b}{r:b}(c:NG T ev hg a h k=some r):
 ∃x y,FS P ⟨none,.call ⟨.builtin .clear, #[h], #[a]⟩,ty,pos,af,gd⟩ n ev hg .un x y .no/\k x y=some r:=by
 unfold NG at c;split at c
 next j l m N w=>
  split at c
  next e f A wr H=>
   split at c
   next E V O z L=>
    obtain⟨v,t⟩:=aY c;simp only[av4]at v;obtain⟨⟨⟨p,q⟩,g⟩,B⟩:=v;have p:=awb p;have q:=awb q;have g:0<N:=awd g;subst B;split at t
    next M=>
     obtain⟨W,i,I⟩:=bp t;unfold ab0 at i;split at i
     next R=>cases i;refine⟨_,_,λo U J F S=>?_,I⟩;obtain⟨X,u,C,Q,D⟩:=pc f M;rw[awN]at u;subst u;subst q;rw[p]at w g;have:=SS.clear (P:=P) (K:=λs=>s=⟨o.n,o.t,(j,some (.arr e f.w (Qt (List.map (bM f) A) l.toNat m.toNat (z.map na)) true))::o.h⟩) (ty:=ty) (pos:=pos) (af:=af) (gd:=gd) (G.el _ _ L) (J.is w d8) (F.at d5 H) (by rw[awa];omega) g D rfl;refine this.nF ?_;refine cG.AX (h:=o.h) (rows':=List.map (bM f) (Qt A l.toNat m.toNat (zeroV f))) ?_ (fm f _);rw[akp];exact(sA.same _).append ((sA.rep C m.toNat).append (sA.same _))
     .cases i
    .cases t
   .cases c
  .cases c
 .cases c
def Qx{a g:Sc}(c:a.key=true):∀(b:Do (a.dp×g.dp)) (x:a.dp),KW (o0 a g b) (sB a x)=NH a b x
 |[],_=>rfl
 |p::b,x=>by
  rw[o0,awo,KW,NH];by_cases h:p.1=x
  .rw[av3 (by rw[h]),(fT a _ _ c).2 h];rfl
  .rw[av2 (λe=>h (H9 a _ _ c e))]
   have:jE a p.1 x=false:=by
    cases i:jE a p.1 x with
    |false=>rfl
    |true=>exact absurd ((fT a _ _ c).1 i) h
   rw[this];have f:=Qx c b x;rw[o0]at f;rw[f];rfl
def aeO{a:Sc}(h:aeN a s=true):PH s=enc (kg a (zeroV a)):=by
 unfold aeN at h;split at h
 .split at h
  .obtain⟨rfl,rfl⟩:=awX h
   rfl
  .cases h
 .cases h
def Ij(C:hS P T){k:EV->fv->a_->At b}{r:b}(K:d<n)(g:GQ T ev hg a h o k=some r):
 ∃c j p i m l f,hg j=some (.mp p i m l)/\FS P ⟨some d,.mapEntry a h o,ty,pos,af,gd⟩ n ev hg c [(j,some (.mp p i m (d_ i l f ((bN i l f).getD (zeroV m)))))] [j] .no/\k c [(j,some (.mp p i m (d_ i l f ((bN i l f).getD (zeroV m)))))] [j]=some r:=by
 unfold GQ at g;split at g
 next j F=>
  split at g
  next p i m l v=>
   split at g
   next N z E=>
    split at g
    next f s=>
     obtain⟨u,A⟩:=aY g;simp only[av4]at u;obtain⟨⟨q,x⟩,y⟩:=u;have D:=rp q x;subst D;obtain⟨I,t⟩:=vy q f;have H:=aeO y;refine⟨_,_,_,_,_,_,f,v,λJ M w B L=>?_,A⟩;have G:J.ev o=enc (e7 ev o):=w.is rfl (λe=>by rw[e]at s;cases i<;>simp[NA,Lp]at s);have look:(fM (o0 i m l) (sB i f)).getD (PH z)=enc (kg m ((bN i l f).getD (zeroV m))):=by
      rw[ri t,H];cases bN i l f<;>rfl
     refine SS.mapEntry (C.mp _ _ E) (w.is F d8) (B.at d5 v) (by rw[G];exact AW q s) I bv ?_;rw[look,H_ t,Qx t];rfl
    .cases g
   .cases g
  .cases g
 .cases g
def NI(F:hS P T){x y v:If}{k:fv->a_->At b}{r:b}(h:Ec T ev hg a x y v k=some r):
 ∃w B,FS P ⟨none,.entryStore a x y v,ty,pos,af,gd⟩ n ev hg .un w B .no/\k w B=some r:=by
 unfold Ec at h;split at h
 next j O=>
  split at h
  next Q l g o J=>
   split at h
   next X z M=>
    split at h
    next i H=>
     split at h
     next f t=>
      obtain⟨s,D⟩:=aY h;simp only[av4]at s;have G:=rp s.1 s.2;subst G;obtain⟨R,m,K⟩:=bp D;unfold Vp at m;split at m
      next S=>
       obtain⟨p,L,rfl⟩:=awC.1 m;refine⟨_,_,λA V u E U=>?_,K⟩;have C:enc (e7 ev v)=enc (kg g f):=by rcases Xr t with h|h<;>exact h.1
       have N:A.ev v=enc (e7 ev v):=u.is rfl (λe=>by rw[e]at t;cases g<;>simp[abX]at t);obtain⟨W,q⟩:=kY H u;have I:((i.toNat:Nat):Int)=i:=bv
       refine SS.entryStore (i:=i.toNat) (kv:=sB l p.1) (c0:=enc (kg g p.2)) (F.mp _ _ M) (u.is O d8) (by rw[I];exact q) (h1:=A.h) (c:=enc (kg g f)) (by rw[N,C];exact Ih g f) (E.at d5 J) ?_ ?_
       .show(o0 l g o)[i.toNat]? =_
        rw[o0,awp,L];rfl
       .simp only[bF,Option.map,cA]
        have:(o0 l g o).set i.toNat (sB l p.1,enc (kg g f))=o0 l g (o.set i.toNat (p.1,f)):=by
         rw[o0,o0,ax3]
        rw[this];rfl
      .cases m
     .cases h
    .cases h
   .cases h
  .cases h
 .cases h
end
variable{H:Bs}{t:Env}{C:Hp}{J:Do (Nat×AV)}{B:Nat}{M:At Env}{u:EQ}{m:GE}{j:bL}{F:bI}
section
variable{P:Fd}
def SR.Vr(f:SR H j t C m){b:Nat}{o o':Ob}(B:bc C b=some o)(D:OR (bT H j t C m) t m b o'):
 SR H j t ((b,some o')::C) m/\∀e g u,bT H j t C m e g u->bT H j t ((b,some o')::C) m e g u:=by
 have k:∀a ob,bc ((b,some o')::C) a=some ob->∃i,bc C a=some i:=λa ob c=>by
  by_cases h:a=b
  .subst h;exact⟨o,B⟩
  .rw[bd h]at c;exact⟨ob,c⟩
 have r:∀e g u,bT H j t C m e g u->bT H j t ((b,some o')::C) m e g u:=λe g u q=>⟨q.1,q.2.1,λa ob c p=>by
  obtain⟨i,l⟩:=k a ob c;exact q.2.2 a i l p⟩
 refine⟨⟨f.ext,f.lA,λa ob c=>?_,λa ob e c p=>?_,λa s ob E e z A v w=>?_,f.yz⟩,r⟩
 .refine OR.mono r ?_
  by_cases h:a=b
  .subst h
   rw[bf]at c;cases c;exact D
  .rw[bd h]at c
   exact f.ob a ob c
 .obtain⟨i,l⟩:=k a ob c
  exact f.base a i e l p
 .obtain⟨F,x⟩:=k a ob z
  obtain⟨G,y⟩:=k s E A;exact f.inj a s F G e x y v w
def KX(c:AV):Prop:=∃q i s,c=.pe q i s 0/\4294967296<=q
def KX.cell{c:AV}(h:KX c){Rd:bL}(b:VR Rd M c s):s.oneCell'=true:=by
 obtain⟨q,i,a,rfl,_⟩:=h;cases b;rfl
def KX.vr{w t:GE}{b Rd j:bL}{e f:Env}{h k:Hp}{c:AV}(p:KX c)(l:SR H b e h w)(m:SR H b f k t)(r:VR Rd (some e) c s):VR j (some f) c s:=by
 obtain⟨q,i,a,rfl,g⟩:=p;cases r with
 |pe o=>exact .pe (by rw[(m.yz q g).1,<-(l.yz q g).1];exact o)
def Vs(a:bI):(a.map λu=>([.v u]:Do AV)).flatten=a.map AV.v:=by
 induction a with
 |nil=>rfl
 |cons u a b=>simp[b]
def LR.Xu{Rd:bL}{E:At Env}(b:bI):LR (VR Rd E) (b.map AV.v) b:=⟨d5,λj c u a e=>by
 rw[awp]at a;rw[e]at a;cases a;exact .v⟩
variable{st:St}
def Ga.toV{a:Act}(h:Ga H j t st a m){k:Nat}{E:EQ}{cs:Do AV}(w:bc st.h k=some (.nr E cs))(G:∀c∈cs,KX c):
 ∃f,LR (VR (bT H j t st.h m) (some t)) cs f/\Ga H j t ⟨st.n,st.t,(k,some (.arr E 1 (f.map λu=>[.v u]) true))::st.h⟩ a m:=by
 obtain⟨p,J⟩:=h.sr.ob _ _ w;obtain⟨f,D,F⟩:∃f,LR (VR (bT H j t st.h m) (some t)) cs f/\OR (bT H j t st.h m) t m k (.arr E 1 (f.map λu=>[.v u]) true):=by
  rcases J with⟨rfl,i,l⟩|⟨b,B,o,x,i,l,y,z,A,g⟩
  .exact⟨[],LR.nil,d5,d5,λ_=>p,.inl ⟨rfl,i,l⟩⟩
  .refine⟨o.toList.take cs.length,g,λr I=>?_,λc q=>?_,λ_=>p,.inr ⟨b,B,o,x,?_,?_,y,z,by rw[A,axy],?_,by rw[p];exact awy _⟩⟩
   .obtain⟨u,_,rfl⟩:=awe.1 I;rfl
   .rw[Vs]at q
    obtain⟨u,M,rfl⟩:=awe.1 q;obtain⟨e,s,rfl⟩:=awV M;have v:e<cs.length:=by rw[<-g.1];exact s
    exact(G _ (ayx v)).cell (g.2 e _ _ (awf v) (awf s))
   .rw[awa,g.1];exact i
   .rw[awa,g.1];exact l
   .rw[Vs,awa]
    have:=LR.Xu (Rd:=bT H j t st.h m) (E:=none) (o.toList.take cs.length);rw[g.1];exact this
 obtain⟨L,C⟩:=h.sr.Vr w F;exact⟨f,D,h.n,h.d,L,h.tr.mono C⟩
def Ga.ofV{e:Act}{n:Nat}{d:Nat}{cs:Do AV}
 (f:Ga H j t ⟨n,J,(d,some (.arr a 1 (F.map λu=>[.v u]) true))::C⟩ e m) (p:F.length=cs.length) (w:∀(b:Nat) c u,cs[b]? =some c->F[b]? =some u->∀Rd,VR Rd (some t) c u):
 Ga H j t ⟨n,J,(d,some (.nr a cs))::C⟩ e m:=by
 have i:=(f.sr.ob d _ bf).anx;rw[Vs]at i;have q:=i.atQ (cs':=cs) (by simp[p]) λb c k h o u s=>by
  rw[awp]at h;obtain⟨x,v,rfl⟩:=awC.1 h;rw[s.bS];exact w b k x o v _
 obtain⟨r,l⟩:=f.sr.Vr bf q;exact(⟨f.n,f.d,r,f.tr.mono l⟩:Ga H j t ⟨n,J,(d,some (.nr a cs))::(d,some (.arr a 1 (F.map λu=>[.v u]) true))::C⟩ e m).mh λb=>by
  by_cases g:b=d
  .subst g;rw[bf,bf]
  .rw[bd g,bd g,bd g]
variable{d:Nat}{ty:EQ}{pos:String}{af:dY}{gd:gg}{K:St->Prop}
def SS.atZ{t E:EQ}{x:If}{q i s J:Nat}(ht:KF P t=some (E,1,J,F))(h:st.ev x=.pe q i s 0)(Z:4294967296<=q)(O:d<st.n)
 (M:K ⟨st.n,(d,.ow d)::dm d st.t,(d,some (.nr E [.pe q i s 0]))::bx d st.h⟩):SS P ⟨some d,.buildSlice t 1 #[(0,x)],ty,pos,af,gd⟩ st K:=by
 intro y p e a w next Q l Y
 have r:KX (.pe q i s 0):=⟨q,i,s,rfl,Z⟩;have o:=l.ev x;rw[h]at o;have R:d≠q:=by have:=l.n.2;omega
 cases x with
 |tmp j=>
  obtain⟨u,G⟩:∃u,u=a.eval (.tmp j):=⟨_,rfl⟩;rw[<-G]at o;have z:=r.cell o;have V:a.tmps.getD j undef=u:=G.symm;have U:Ga y p e ⟨st.n,(j,.v u)::st.t,st.h⟩ a w:=⟨l.n,l.d,l.sr,λk=>by
   by_cases b:k=j
   .subst b;simp only[bO,awG];rw[V];exact .v
   .simp only[bO,av2 b];exact l.tr k⟩
  have S:(⟨st.n,(j,.v u)::st.t,st.h⟩:St).ev (.tmp j)=.v u:=by show bO ((j,.v u)::st.t) j=_;simp[bO]
  have N:cellsOf (.v u)=some [.v u]:=by simp[cellsOf,AV.one,z]
  have step:=SS.AU (P:=P) (st:=⟨st.n,(j,.v u)::st.t,st.h⟩) (t:=t) (len:=1) (parts:= #[(0,.tmp j)]) (h':=st.h) (aS:=[.v u]) (cs:=[.v u]) (qs:=[(0,[.v u])]) (d:=d) (ty:=ty) (pos:=pos) (af:=af) (gd:=gd)
   (K:=λs'=>s'=⟨st.n,(d,.ow d)::dm d ((j,.v u)::st.t),(d,some (.arr E 1 ([u].map λu=>[.v u]) true))::bx d st.h⟩) ht
   (by simp only[awo,axd,S];rfl) (by simp[mN,N]) rfl (by simp[AV.one,z]) bv bv O rfl
  refine step y p e a w next Q U λa2 a0 L I w' B=>?_
  subst a0;have H:VR (bT y p e st.h w) (some e) (.pe q i s 0) u:=o;have m:=B.ofV (cs:=[.pe q i s 0]) rfl λj c u' A a1 Rd=>by
   cases j with
   |zero=>cases A;cases a1;exact r.vr l.sr B.sr H
   |succ j=>simp at A
  refine Y _ M L I w' ⟨m.n,m.d,m.sr,λk=>?_⟩;have b:=m.tr k;by_cases C:k=d
  .subst C;simpa[bO]using b
  .simp only[bO,av2 C,dm]at b⊢
   by_cases D:k=j
   .subst D
    rw[av3 rfl]at b;have X:AV.kill d (.v u)=.v u:=by simp[AV.kill,AV.gW]
    rw[X]at b;rw[b.bS,xA];have:bO st.t k=.pe q i s 0:=h;rw[this];have W:AV.kill d (.pe q i s 0)=.pe q i s 0:=by simp[AV.kill,AV.gW,R.symm]
    rw[W];exact r.vr l.sr m.sr H
   .rwa[av2 D]at b
 |const v=>simp only[St.ev,na]at h;split at h<;>cases h
 |global g=>simp only[St.ev,gA]at h;split at h<;>cases h
 |func f=>cases h
def Ga.DX{a:Act}{n:Nat}{h h2:Hp}(hg:Ga H j t ⟨n,J,h⟩ a m)(r:∀k,bc h2 k=bc h k\/bc h2 k=none):Ga H j t ⟨n,J,h2⟩ a m:=by
 have f:∀k ob,bc h2 k=some ob->bc h k=some ob:=λk ob c=>by
  rcases r k with e|e
  .rw[<-e];exact c
  .rw[e]at c;cases c
 have g:∀b o u,bT H j t h m b o u->bT H j t h2 m b o u:=λb o u ⟨e,h2,p⟩=>⟨e,h2,λk ob c q=>p k ob (f k ob c) q⟩;exact⟨hg.n,hg.d,⟨hg.sr.ext,hg.sr.lA,λk ob c=>(hg.sr.ob k ob (f k ob c)).mono g,λk ob b c=>hg.sr.base k ob b (f k ob c),λk i ob l b e h2=>hg.sr.inj k i ob l b (f k ob e) (f i l h2),hg.sr.yz⟩,hg.tr.mono g⟩
def SS.at0{t E:EQ}{x y:If}{k l A:Nat}{cs ds:Do AV}(ht:KF P t=some (E,1,A,F))(hx:st.ev x=.ow k)(hy:st.ev y=.ow l)(Y:bc st.h k=some (.nr E cs))(Z:bc st.h l=some (.nr E ds))
 (v:k≠l) (V:d≠k) (C:∀c∈cs,KX c) (D:∀c∈ds,KX c) (hm:cs.length+ds.length<=maxLen) (S:(cs.length+ds.length)*A<=140737488355328) (U:d<st.n)
 (R:K ⟨st.n,(d,.ow d)::dm d st.t,(d,some (.nr E (cs++ds)))::(k,none)::(l,none)::bx d st.h⟩):SS P ⟨some d,.call ⟨.builtin .append, #[x,y], #[t,t]⟩,ty,pos,af,gd⟩ st K:=by
 intro w0 M e a w next Q s hn
 obtain⟨p,J,G⟩:=s.toV Y C;obtain⟨vs,L,H⟩:=G.toV (k:=l) (E:=E) (cs:=ds) (by show bc ((k,some _)::st.h) l=_;rw[bd (Ne.symm v)];exact Z) D;have a1:d<4294967296:=by have:=s.n.2;omega
 obtain⟨b,f⟩:∃b:St,b=⟨st.n,st.t,(l,some (.arr E 1 (vs.map λu=>[.v u]) true))::(k,some (.arr E 1 (p.map λu=>[.v u]) true))::st.h⟩:=⟨_,rfl⟩;rw[<-f]at H;have B:∀F:If,b.ev F=st.ev F:=λF=>by rw[f];cases F<;>rfl
 have o:p.length=cs.length:=J.1;have z:vs.length=ds.length:=L.1;have step:=SS.Qa (P:=P) (st:=b) (x:=x) (y:=y) (h1:=(l,some (.arr E 1 (vs.map λu=>[.v u]) false))::b.h) (rows:=p.map λu=>[.v u]) (ys:=vs.map λu=>[.v u]) (wr:=true) (tt:=false) (d:=d) (ty:=ty) (pos:=pos) (af:=af) (gd:=gd)
  (K:=λs'=>s'=⟨b.n,(d,.ow d)::dm d b.t,(d,some (.arr E 1 ((p++vs).map λu=>[.v u]) true))::(k,none)::bx d ((l,some (.arr E 1 (vs.map λu=>[.v u]) false))::b.h)⟩) ht (by rw[B];exact hx)
  (by rw[B,hy,f];simp only[iQ,bf]) (by rw[bd v,f];show bc ((l,some _)::(k,some _)::st.h) k=_;rw[bd v,bf]) V bv
  (by rw[awa,awa,o,z];exact hm) (by rw[awa,awa,o,z];exact S) (by rw[f];exact U) (by rw[awQ])
 refine step w0 M e a w next Q H λa2 a0 O N w' r=>?_
 subst a0;have W:=r.ofV (cs:=cs++ds) (by simp[o,z]) λj c u g h Rd=>by
  by_cases X:j<cs.length
  .rw[awY X]at g
   rw[awY bv]at h;exact(C c (awg g)).vr s.sr r.sr (J.2 j c u g h)
  .rw[axl bv]at g h
   rw[o]at h;exact(D c (awg g)).vr G.sr r.sr (L.2 _ c u g h)
 have I:=W.DX (h2:=(d,some (.nr E (cs++ds)))::(k,none)::(l,none)::bx d st.h) λj=>by
  by_cases q:j=d
  .subst q;exact .inl (by rw[bf,bf])
  .rw[bd q,bd q]
   by_cases i:j=k
   .subst i;exact .inr (by rw[bf])
   .rw[bd i,bd i]
    by_cases m:j=l
    .subst m;exact .inr (by rw[bf])
    .rw[bd m,f]
     refine .inl ?_;rw[dE,dE,bd m,bd m,bd i]
 rw[f]at I;exact hn _ R O N w' I
def SS.akq{t E:EQ}{x y:If}{l sz0 m:Nat}{ds:Do AV}(R:KF P t=some (E,1,m,F))(U:st.ev x=.sl true sz0 [])(V:st.ev y=.ow l)(L:bc st.h l=some (.nr E ds))
 (Z:d≠l) (q:∀c∈ds,KX c) (M:ds.length<=maxLen) (H:ds.length*m<=140737488355328) (I:d<st.n)
 (G:K ⟨st.n,(d,.ow d)::dm d st.t,(d,some (.nr E ds))::(l,none)::bx d st.h⟩):SS P ⟨some d,.call ⟨.builtin .append, #[x,y], #[t,t]⟩,ty,pos,af,gd⟩ st K:=by
 intro Y B e a w next Q z N
 obtain⟨g,A,s⟩:=z.toV L q;obtain⟨b,f⟩:∃b:St,b=⟨st.n,st.t,(l,some (.arr E 1 (g.map λu=>[.v u]) true))::st.h⟩:=⟨_,rfl⟩;rw[<-f]at s;have o:∀F:If,b.ev F=st.ev F:=λF=>by rw[f];cases F<;>rfl
 have k:g.length=ds.length:=A.1;have step:=SS.Ll (P:=P) (st:=b) (x:=x) (y:=y) (h1:=(l,some (.arr E 1 (g.map λu=>[.v u]) false))::b.h) (sz0:=sz0) (ys:=g.map λu=>[.v u]) (tt:=false) (d:=d) (ty:=ty) (pos:=pos) (af:=af) (gd:=gd)
  (K:=λW=>W=⟨b.n,(d,.ow d)::dm d b.t,(d,some (.arr E 1 (g.map λu=>[.v u]) true))::bx d ((l,some (.arr E 1 (g.map λu=>[.v u]) false))::b.h)⟩) R (by rw[o];exact U)
  (by rw[o,V,f];simp only[iQ,bf]) bv (by rw[awa,k];exact M) (by rw[awa,k];exact H) (by rw[f];exact I) rfl
 refine step Y B e a w next Q s λa0 O D C X r=>?_
 subst O;have J:=r.ofV (cs:=ds) k λj c u p S Rd=>(q c (awg p)).vr z.sr r.sr (A.2 _ c u p S);have v:=J.DX (h2:=(d,some (.nr E ds))::(l,none)::bx d st.h) λj=>by
  by_cases i:j=d
  .subst i;exact .inl (by rw[bf,bf])
  .rw[bd i,bd i]
   by_cases h:j=l
   .subst h;exact .inr (by rw[bf])
   .rw[bd h,f]
    refine .inl ?_;rw[dE,dE,bd h,bd h]
 rw[f]at v;exact N _ G D C X v
end
def aeP(ev:Nat->EV)(a:Nat)(b:AH):At (Nat×Int×Nat):=match b with
 |[(0,x)]=>match e7 ev x with
  |.pe q i s 0=>cond (beq a 1 && Nat.ble 4294967296 q) (some (q,i,s)) none
  |_=>none
 |_=>none
def Vt(T:EQ->bz)(d:Nat)(t:EQ)(p:Nat×Int×Nat)(k:EV->fv->a_->Fr->At b):At b:=match(T t).el with
 |some (e,a,_,_)=>cond (beq a 1) (k (.ow d) [(d,some (.qr e (some p.1) p.2.2 [p.2.1]))] [] (.one d)) none
 |none=>none
def aeQ(ev:Nat->EV)(hg:Nat->At eD)(a:gV):At (EQ×Nat×Nat×aX×Nat):=match a with
 |⟨[_,y]⟩=>match e7 ev y with
  |.ow l=>match hg l with
   |some (.qr t (some q) s b)=>cond (Nat.ble 4294967296 q) (some (t,q,s,b,l)) none
   |_=>none
  |_=>none
 |_=>none
def Vu(T:EQ->bz)(ev:Nat->EV)(hg:Nat->At eD)(d:Nat)(t i:EQ)(x:If)(p:EQ×Nat×Nat×aX×Nat)(k:EV->fv->a_->Fr->At b):At b:=match(T t).el with
 |some (e,h,a,_)=>cond (beq t i && beq h 1 && beq e p.1 && !(beq d p.2.2.2.2)) (match e7 ev x with
  |.nil=>aW (eG a ([]:aX) p.2.2.2.1) λc=>k (.ow d) [(d,some (.qr e (some p.2.1) p.2.2.1 c)),(p.2.2.2.2,none)] [p.2.2.2.2] (.one d)
  |.ow j=>match hg j with
   |some (.qr l (some f) g m)=>cond (beq l e && beq f p.2.1 && beq g p.2.2.1 && !(beq j p.2.2.2.2) && !(beq d j)) (aW (eG a m p.2.2.2.1) λc=>k (.ow d) [(d,some (.qr e (some p.2.1) p.2.2.1 c)),(j,none),(p.2.2.2.2,none)] [j,p.2.2.2.2] (.one d)) none
   |_=>none
  |_=>none) none
 |none=>none
section
variable{P:Fd}{T:EQ->bz}{ev:Nat->EV}{hg:Nat->At eD}{n d:Nat}{ty:EQ}{pos:String}{af:dY}{gd:gg}
def NJ{q s:Nat}(b:4294967296<=q)(e:aX):∀c∈e.map (qrA s (some q)),KX c:=λc a=>by
 obtain⟨i,_,rfl⟩:=awe.1 a;exact⟨q,i.toNat,s,rfl,b⟩
def ab1(D:hS P T){m:HL}{p:Nat×Int×Nat}{k:EV->fv->a_->Fr->At b}{r:b}(L:d<n)(g:aeP ev B m.toList=some p)(h:Vt T d a p k=some r):
 ∃c v w o,FS P ⟨some d,.buildSlice a B m,ty,pos,af,gd⟩ n ev hg c v w o/\k c v w o=some r:=by
 obtain⟨l⟩:=m;unfold aeP at g;split at g
 next x u=>
  simp only at u;subst u;split at g
  next q i s H=>
   obtain⟨j,y⟩:=aY g;cases y;simp only[av4]at j;obtain rfl:=awb j.1;have F:=awd j.2;unfold Vt at h;split at h
   next e N f z E=>obtain⟨A,C⟩:=aY h;obtain rfl:=awb A;refine⟨_,_,_,_,λst M G J t=>?_,C⟩;have:=SS.atZ (P:=P) (t:=a) (x:=x) (ty:=ty) (pos:=pos) (af:=af) (gd:=gd) (d:=d) (i:=i.toNat) (K:=λI=>I=⟨st.n,kX (some d) (.ow d) (dm d st.t),[(d,some (.nr e [.pe q i.toNat s 0]))]++bx d st.h⟩) (D.el _ _ E) (G.is H d8) F bv rfl;exact SS.fresh t.t t.h this
   .cases h
  .cases g
 .cases g
def ab2(Q:hS P T){D:gV}{p:EQ×Nat×Nat×aX×Nat}{k:EV->fv->a_->Fr->At b}{r:b}(hd:d<n)(m:aeQ ev hg D=some p)(R:D.toList.head?=some h)(f:Vu T ev hg d a u h p k=some r):
 ∃c W X M,FS P ⟨some d,.call ⟨.builtin .append,D, #[a,u]⟩,ty,pos,af,gd⟩ n ev hg c W X M/\k c W X M=some r:=by
 unfold aeQ at m;split at m
 next Y y=>
  simp only[List.head?_cons,av6]at R;subst R;split at m
  next l V=>
   split at m
   next t0 q s ys U=>
    obtain⟨h1,h2⟩:=aY m;cases h2;have F:=awd h1;unfold Vu at f;split at f
    next e sz g z S=>
     obtain⟨N,o⟩:=aY f;simp only[av4,axi]at N;obtain⟨⟨⟨Z,a2⟩,a3⟩,x⟩:=N;obtain rfl:=awb Z;obtain rfl:=awb a2;obtain rfl:=awb a3;have x:d≠l:=λe=>by rw[e,awD]at x;cases x
     split at o
     next G=>
      obtain⟨zs,i,E⟩:=bp o;unfold eG at i;split at i
      next t=>cases i;simp only[aw4,awB]at t;refine⟨_,_,_,_,λst hn w C v=>?_,E⟩;have:=SS.akq (P:=P) (t:=a) (x:=Y) (y:=y) (ty:=ty) (pos:=pos) (af:=af) (gd:=gd) (d:=d) (sz0:=0) (ds:=ys.map (qrA s (some q))) (K:=λI=>I=⟨st.n,kX (some d) (.ow d) (dm d st.t),[(d,some (.nr e (ys.map (qrA s (some q))))),(l,none)]++bx d st.h⟩) (Q.el _ _ S) (w.is G d8) (w.is V d8) (C.at d5 U) x (NJ F ys) (by rw[awa];exact t.2) (by rw[awa];exact t.1) bv rfl;exact SS.fresh v.t v.h this
      .cases i
     next j G=>
      split at o
      next t1 H J L hj=>
       obtain⟨O,h6⟩:=aY o;simp only[av4,axi]at O;obtain⟨⟨⟨⟨b1,b2⟩,b3⟩,A⟩,B⟩:=O;obtain rfl:=awb b1;obtain rfl:=awb b2;obtain rfl:=awb b3;have A:j≠l:=λe=>by rw[e,awD]at A;cases A
       have B:d≠j:=λe=>by rw[e,awD]at B;cases B
       obtain⟨zs,i,E⟩:=bp h6;unfold eG at i;split at i
       next t=>cases i;refine⟨_,_,_,_,λst hn w C v=>?_,E⟩;have:=SS.at0 (P:=P) (t:=a) (x:=Y) (y:=y) (ty:=ty) (pos:=pos) (af:=af) (gd:=gd) (d:=d) (cs:=L.map (qrA J (some H))) (ds:=ys.map (qrA J (some H))) (K:=λI=>I=⟨st.n,kX (some d) (.ow d) (dm d st.t),[(d,some (.nr t1 ((L++ys).map (qrA J (some H))))),(j,none),(l,none)]++bx d st.h⟩) (Q.el _ _ S) (w.is G d8) (w.is V d8) (C.at d5 hj) (C.at d5 U) A B (NJ F L) (NJ F ys) (by rw[awa,awa];exact t.2) (by rw[awa,awa];exact t.1) bv (by rw[awQ];rfl);exact SS.fresh v.t v.h this
       .cases i
      .cases o
     .cases o
    .cases f
   .cases m
  .cases m
 .cases m
end
def Vv(T:EQ->bz)(ev:Nat->EV)(hg:Nat->At eD)(t:EQ)(x y:If)(k:EV->a_->At b):At b:=match(T t).el with
 |some (e,c,_,_)=>match e7 ev x with
  |.ow j=>match hg j with
   |some (.arr f r a wr)=>match vg ev y with
    |some l=>cond (beq e f && beq c r.w && wr && !(oh a)) (aW (kj a l (a.length:Int)) λ_=>k (.sw j l ((a.length:Int) - l) c) [j]) none
    |none=>none
   |_=>none
  |_=>none
 |none=>none
section
variable{P:Fd}{T:EQ->bz}{ev:Nat->EV}{hg:Nat->At eD}{st:St}{dd:cn}{ty:EQ}{pos:String}{af:dY}{gd:gg}
def RS.aqk{k q x l:Nat}{p:IntKind}{rows:Do (Do AV)}{wr:In}(E:KF P a=some (u,q,x,F))(G:st.ev h=.ow k)(z:bc st.h k=some (.arr u q rows wr))(I:st.ev o=.v (.int p (l:Int)))
 (A:l<=rows.length) (B:rows≠[]):RS P ⟨dd,.slice a h (some o) none none,ty,pos,af,gd⟩ st (.sw k l (rows.length - l) q):=λY M e c w j=>by
 obtain⟨i,Z,p2,p3,p4,X,rfl,_,_⟩:=c_ E;have m:=j.ev h;have H:c.eval h=e.sv k:=by
  rw[G]at m;generalize c.eval h=f at m;cases m with
  |ow=>rfl
 have v:=j.ev o;rw[I]at v;have J:=v.bS;obtain⟨_,_,_,C⟩:=j.sr.ob _ _ z;rcases C with⟨y,_⟩|⟨b,g,N,r,D,s,U,Q,O,S,R⟩
 .exact absurd y B
 refine⟨.slice (if g=l then some ⟨b,0,none⟩else(some (⟨b,0,none⟩:Addr)).map (·.add (l*i.size))) (rows.length - l) (g - l),?_,λL W=>?_⟩
 .by_cases t:g=l
  .rw[av3 t]
   exact VR.sw r (λV=>by omega) bv bv
  .rw[av2 t]
   simp only[aw9,awT,awB];exact VR.sw r (λ_=>rfl) bv bv
 .have:=fK (P:=P) p2 p3 (some ⟨b,0,none⟩) rows.length g l rows.length none g (some (.int p (l:Int))) none none L (.inr ⟨p,rfl⟩) (.inl ⟨rfl,rfl⟩) (.inl ⟨rfl,rfl⟩) A (av5 _) s (av5 _) s
  simp[execOp,Instr.slice,H,D,J,this]
def ab3(B:hS P T){k:EV->a_->At b}{r:b}(f:Vv T ev hg a h o k=some r):
 ∃c t,UR P (.slice a h (some o) none none) ev hg c t/\k c t=some r:=by
 unfold Vv at f;split at f
 next e Q g z C=>
  split at f
  next j I=>
   split at f
   next M L i wr F=>
    split at f
    next l E=>
     obtain⟨q,A⟩:=aY f;simp only[av4,axi]at q;obtain⟨⟨⟨u,m⟩,v⟩,w⟩:=q;obtain rfl:=awb u;have m:=awb m;subst m;subst v;obtain⟨R,p,G⟩:=bp A;unfold kj at p;split at p
     next N=>
      refine⟨_,_,λst x ty pos af gd s D=>?_,G⟩;obtain⟨O,J⟩:=kY E s;have H:((l.toNat:Nat):Int)=l:=bv
      have:=RS.aqk (P:=P) (dd:=x) (ty:=ty) (pos:=pos) (af:=af) (gd:=gd) (l:=l.toNat) (rows:=List.map (bM L) i) (B.el _ _ C) (s.is I d8) (D.at d5 F) (by rw[H];exact J) (by rw[awa];omega) (λe=>by
       cases i with
       |nil=>cases w
       |cons _ _=>cases e)
      rw[awa]at this;have y:((i.length:Int) - l).toNat=i.length - l.toNat:=bv
      simp only[enc,y];exact this
     .cases p
    .cases f
   .cases f
  .cases f
 .cases f
end
variable{i:Do (Do AV)}
section
variable{P:Fd}{st:St}{d:Nat}{ty:EQ}{pos:String}{af:dY}{gd:gg}{K:St->Prop}
def SR.shrink(q:SR H j t C m){k e:Nat}(w:bc C B=some (.arr a k i true))(hn:qY B C=true)(Y:B<4294967296)(z:e<=i.length):
 ∃l h,t.sv B=.slice l i.length h/\i.length<=h/\(∀f,l=some f->f.off=0/\f.spot=none\/h=0)/\
 SR H j (t.cR B (t.ca B) (.slice l e h) 0) ((B,some (.arr a k (i.take e) true))::C) m/\
 ∀b o u,bT H j t C m b o u->bT H j (t.cR B (t.ca B) (.slice l e h) 0) ((B,some (.arr a k (i.take e) true))::C) m b o u:=by
 obtain⟨a6,N,Z,a4⟩:=q.ob _ _ w;have hl:=Z rfl;have I:∀r∈i.take e,r.length=k:=λr p=>a6 r (ax0 p);have F:(i.take e).flatten=i.flatten.take (e*k):=by
  have J:i.flatten=(i.take e).flatten++(i.drop e).flatten:=by rw[<-axM,axw]
  have L:(i.take e).flatten.length=e*k:=by rw[eM I,awM,axj z]
  rw[J,<-L,ayT]
 have O:∀c∈(i.take e).flatten,c.one=true:=λc n=>N c (by rw[F]at n;exact ax0 n);have E:∀l h,(∀Rd,(∀b o u,bT H j t C m b o u->Rd b o u)->OR Rd (t.cR B (t.ca B) (.slice l e h) 0) m B (.arr a k (i.take e) true))->
  SR H j (t.cR B (t.ca B) (.slice l e h) 0) ((B,some (.arr a k (i.take e) true))::C) m/\
  ∀b o u,bT H j t C m b o u->bT H j (t.cR B (t.ca B) (.slice l e h) 0) ((B,some (.arr a k (i.take e) true))::C) m b o u:=λl h a2=>
  q.yk B (t.ca B) (.slice l e h) 0 _ q.ext (.inl ⟨hn,Y⟩) (av5 _) (λ_ _ _=>rfl) (λb v _=>⟨(q.base _ _ _ w v).1,(q.base _ _ _ w v).2,.inl ⟨_,w,v⟩⟩)
   (λb o u ob ho v a8 a7=>by omega) (λRd s _ a9 a3=>by obtain rfl:=av_ a3;exact a2 Rd s)
 rcases a4 with⟨p,S,f,y⟩|⟨D,h,x,R,a5,U,a1,W,V,G,_⟩
 .subst p
  have a0:e=0:=by simpa using z
  subst a0;refine⟨f,0,by rw[y];rfl,av5 _,λ_ _=>.inr rfl,E f 0 λRd s=>⟨(λr p=>by cases p),(λc n=>by cases n),λ_=>Env.cq,.inl ⟨rfl,by rw[Env.cc];exact S,f,by rw[Env.dZ]⟩⟩⟩
 .refine⟨some ⟨D,0,none⟩,h,a5,U,λf y=>by cases y;exact .inl ⟨rfl,rfl⟩,E _ h λRd s=>⟨I,O,λ_=>Env.cq,.inr ⟨D,h,x,by rw[Env.cc];exact R,by rw[Env.dZ,awM,axj z],by rw[awM];omega,a1,W,V,?_,by rw[Env.cq];exact awy _⟩⟩⟩
  rw[F,awM];have M:x.toList.take (min (e*k) i.flatten.length)=(x.toList.take i.flatten.length).take (e*k):=by rw[ayo]
  rw[M];refine⟨by have Q:=G.1;simp only[awM]at Q⊢;omega,λg c u n A=>?_⟩;rw[awP]at n A;split at n
  next X=>rw[av3 X]at A;exact(G.2 g c u n A).mono s
  .cases n
def SS.aeR{t E:EQ}{x y:If}{k p B m:Nat}{o:IntKind}{rows:Do (Do AV)}(ht:KF P t=some (E,p,B,F))(hx:st.ev x=.ow k)(U:bc st.h k=some (.arr E p rows true))(hy:st.ev y=.v (.int o (m:Int)))
 (O:d≠k) (v:m<=rows.length) (N:d<st.n)
 (G:K ⟨st.n,(d,.ow d)::dm d st.t,(d,some (.arr E p (rows.take m) true))::(k,none)::bx d st.h⟩):SS P ⟨some d,.slice t x none (some y) none,ty,pos,af,gd⟩ st K:=by
 intro q l e a w next Q f W
 obtain⟨i,zv,p2,p3,p4,p5,rfl,rfl,_⟩:=c_ ht;have n:=f.ev x;have a3:a.eval x=e.sv k:=by
  rw[hx]at n;generalize a.eval x=u at n;cases n with
  |ow=>rfl
 have A:=f.ev y;rw[hy]at A;have a4:=A.bS;obtain⟨Z,H⟩:=f.sr.kill d;have V:bc (bx d st.h) k=some (.arr E i.size rows true):=by rw[dE,U];rfl
 obtain⟨a0,I⟩:=Z.No V O (eC d st.h) (by have:=f.n.2;omega);have X:qY d ((d,some (.arr E i.size rows true))::(k,none)::bx d st.h)=true:=by
  have:=abR (eC d st.h) k;simp only[qY,axb,av4]at this⊢;exact⟨by simp[Ob.gW],this⟩
 obtain⟨b,c,z,M,L,a1,J⟩:=a0.shrink bf X (by have:=f.n.2;omega) v;rw[Env.dZ]at z;have Y:(Instr.sliceAt t (a.eval x) none (some (a.eval y)) none).run P w=.ok (.slice b m c) w:=by
  rw[a3,z,a4];have:=fK (P:=P) p2 p3 b rows.length c 0 m none c none (some (.int o (m:Int))) none w (.inl ⟨rfl,rfl⟩) (.inr ⟨o,rfl⟩) (.inl ⟨rfl,rfl⟩) (awy _) v bv (av5 _) M;rw[this];congr 2;cases b with
  |none=>simp
  |some b=>
   rcases L b rfl with⟨r,s⟩|C
   .obtain⟨bb,oo,ss⟩:=b
    simp only at r s;subst r;subst s;split
    .rfl
    .simp[awT]
   .rw[av3 C]
 have S:∀j,bc ((d,some (.arr E i.size (rows.take m) true))::(k,none)::bx d st.h) j=bc ((d,some (.arr E i.size (rows.take m) true))::(d,some (.arr E i.size rows true))::(k,none)::bx d st.h) j:=λj=>by
  by_cases h:j=d
  .subst h;rw[bf,bf]
  .rw[bd h,bd h,bd h]
 have a2:TR (bT q l ((e.cR d (e.ca k) (e.sv k) (e.cX k)).cR d ((e.cR d (e.ca k) (e.sv k) (e.cX k)).ca d) (.slice b m c) 0) ((d,some (.arr E i.size (rows.take m) true))::(d,some (.arr E i.size rows true))::(k,none)::bx d st.h) w) ((e.cR d (e.ca k) (e.sv k) (e.cX k)).cR d ((e.cR d (e.ca k) (e.sv k) (e.cX k)).ca d) (.slice b m c) 0) ((d,.ow d)::dm d st.t) (a.tmps.setIfInBounds d (.slice b m c)):=by
  refine TR.put ?_ (by rw[f.n.1];exact N) ?_
  .have D:=(((((f.tr.kill d).mono H).mono I).env d (ef d st.t) (e':=e.cR d (e.ca k) (e.sv k) (e.cX k)) (λ_ g=>Env.bE g) (λ_ g=>Env.dy g)).mono J)
   exact D.env d (ef d st.t) (λ_ g=>Env.bE g) (λ_ g=>Env.dy g)
  .have:=VR.ow (Rd:=bT q l ((e.cR d (e.ca k) (e.sv k) (e.cX k)).cR d ((e.cR d (e.ca k) (e.sv k) (e.cX k)).ca d) (.slice b m c) 0) ((d,some (.arr E i.size (rows.take m) true))::(d,some (.arr E i.size rows true))::(k,none)::bx d st.h) w) (e:=(e.cR d (e.ca k) (e.sv k) (e.cX k)).cR d ((e.cR d (e.ca k) (e.sv k) (e.cX k)).ca d) (.slice b m c) 0) (k:=d)
   rw[Env.dZ]at this;exact this
 have R:Ga q l _ ⟨st.n,(d,.ow d)::dm d st.t,_⟩ (a.put (some d) (.slice b m c)) w:=⟨by simpa[Act.put]using f.n,f.d,a1,a2⟩;refine eO (w':=w) ?_ (W _ G _ _ _ (R.mh S));simp[execOp,Instr.slice,Y]
end
variable{R:fv}{Q:eD}{O:Fr}{v:FuncId}{I:Oper}
@[reducible] def mq:Do Sc->Type
 |[]=>Unit
 |[s]=>s.dp
 |s::t::r=>s.dp×mq (t::r)
def iU:(cs:Do Sc)->mq cs->Do EV
 |[],_=>[]
 |[s],x=>[.sc s x]
 |s::t::r,x=>.sc s x.1::iU (t::r) x.2
def yC:(cs:Do Sc)->Do EV->At (mq cs)
 |[],[]=>some ()
 |[],_::_=>none
 |[s],c::cs=>match c,cs with
  |.sc f x,[]=>eT f s x
  |_,_=>none
 |s::t::r,c::cs=>match c with
  |.sc f x=>match eT f s x with
   |some a=>match yC (t::r) cs with
    |some b=>some (a,b)
    |none=>none
   |none=>none
  |_=>none
 |_::_,[]=>none
def Ba:∀{cs:Do Sc} {l:Do EV} {x:mq cs},yC cs l=some x->l=iU cs x
 |[],[],x,h=>rfl
 |[],_::_,x,h=>by simp[yC]at h
 |[s],[],x,h=>by simp[yC]at h
 |[s],c::cs,x,h=>by
  simp only[yC]at h;split at h
  .obtain⟨rfl,rfl⟩:=dC h
   rfl
  .cases h
 |s::t::r,[],x,h=>by simp[yC]at h
 |s::t::r,c::cs,x,h=>by
  simp only[yC]at h;split at h
  .split at h
   next a f=>
    split at h
    next b g=>obtain⟨rfl,rfl⟩:=dC f;have:=Ba g;cases h;rw[this];rfl
    .cases h
   .cases h
  .cases h
inductive PV where
 |h (s:Sc)
 |t (r:Sc)
 |k (c:EV)
 |ag (l:List PV)
 |tu (l:List PV)
 |fp (l:List PV)
 |cl (fn:Fn) (fs cs:List PV)
 |pe (k sz o:Nat)
def peE(k a o:Nat):EV->EV
 |.sc s x=>match eT s (.i .i64) x with
  |some i=>.pe k i a o
  |none=>.un
 |_=>.un
def NK:EV->EV
 |.sc (.sl r) a=>.ts r a
 |_=>.un
mutual
def gj:PV->Do EV->EV×Do EV
 |.h _,cs=>(cs.headD .un,cs.tail)
 |.t _,cs=>(NK (cs.headD .un),cs.tail)
 |.k c,cs=>(c,cs)
 |.ag l,cs=>(.ag (du l cs).1,(du l cs).2)
 |.tu l,cs=>(.tu (du l cs).1,(du l cs).2)
 |.fp l,cs=>(.fp (du l cs).1,(du l cs).2)
 |.cl f a b,cs=>(.cl f (du a cs).1 (du b (du a cs).2).1,(du b (du a cs).2).2)
 |.pe k g o,cs=>(peE k g o (cs.headD .un),cs.tail)
def du:Do PV->Do EV->Do EV×Do EV
 |[],cs=>([],cs)
 |p::a,cs=>((gj p cs).1::(du a (gj p cs).2).1,(du a (gj p cs).2).2)
end
inductive PO where
 |box (t:TypeId) (l:List PV)
 |arr (t:TypeId) (r:Sc) (wr:Bool)
 |mp (d:TypeDesc) (kc vc:Sc)
 |nr (t:TypeId) (r:Sc) (ho:PL)
 |qr (t:TypeId) (k sz:Nat)
def qrE(t:EQ)(k a:Nat):EV->At eD
 |.sc s x=>match eT s (.sl (.i .i64)) x with
  |some b=>some (.qr t (some k) a b)
  |none=>none
 |_=>none
def akr(t:EQ)(r:Sc)(wr:In):EV->At eD
 |.sc s x=>match eT s (.sl r) x with
  |some a=>some (.arr t r a wr)
  |none=>none
 |_=>none
def mpE(d:TypeDesc)(a b:Sc):EV->At eD
 |.sc s x=>match eT s (.sl (.pr a b)) x with
  |some f=>some (.mp d a b f)
  |none=>none
 |_=>none
def nrE(t:EQ)(r:Sc):EV->At eD
 |.sc s x=>match eT s (.sl (.sl r)) x with
  |some a=>some (.nr t r a none)
  |none=>none
 |_=>none
def anH(t:EQ)(r:Sc)(p:Nat):EV->EV->At eD
 |.sc s x,.sc a y=>match eT s (.sl (.sl r)) x with
  |some b=>match eT a (.i .i64) y with
   |some i=>some (.nr t r b (some (i,some p)))
   |none=>none
  |none=>none
 |_,_=>none
def jv:PO->Do EV->At eD×Do EV
 |.box t l,cs=>(some (.box t (du l cs).1),(du l cs).2)
 |.arr t r wr,cs=>(akr t r wr (cs.headD .un),cs.tail)
 |.mp d a f,cs=>(mpE d a f (cs.headD .un),cs.tail)
 |.nr t r none,cs=>(nrE t r (cs.headD .un),cs.tail)
 |.nr t r (some (_,p)),cs=>(anH t r p (cs.headD .un) (cs.tail.headD .un),cs.tail.tail)
 |.qr t k b,cs=>(qrE t k b (cs.headD .un),cs.tail)
def vD:Do (Nat×PO)->Do EV->fv
 |[],_=>[]
 |(k,o)::h,cs=>(k,(jv o cs).1)::vD h (jv o cs).2
structure kS where
 f:FuncId
 ps:List PV
 hs:List (Nat×PO)
 cs:List Sc
 α:Type
 M:mq cs->Option α
 el:α->(R:Type)->(EV->fv->Option R)->Option R
 own:Bool
 pu:Bool
def kS.as(c:kS)(x:mq c.cs):Do EV:=(du c.ps (iU c.cs x)).1
def kS.H0(c:kS)(x:mq c.cs):fv:=vD c.hs (du c.ps (iU c.cs x)).2
def Sc.ns:Sc->In
 |.sl _=>false
 |.pr x y=>x.ns && y.ns
 |.i _=>true
 |.b=>true
 |.u=>true
mutual
def EV.pu:EV->In
 |.un=>true
 |.sc s x=>match s with
  |.sl _=>false
  |_=>true
 |.nil=>true
 |.ts r g=>false
 |.v x=>true
 |.ow k=>true
 |.pt k o=>true
 |.pe k i b o=>true
 |.sw k l n b=>true
 |.mp k=>true
 |.fp cs=>false
 |.ag cs=>EV.KI cs
 |.tu cs=>EV.KI cs
 |.cl f a cs=>EV.KI a && EV.KI cs
def EV.KI:Do EV->In
 |[]=>true
 |c::cs=>EV.pu c && EV.KI cs
end
def eD.pu:eD->In
 |.box t cs=>EV.KI cs
 |.arr t r g wr=>r.ns
 |.mp d f a b=>a.ns
 |.nr _ _ _ _=>false
 |.qr .. =>false
def puH(h:fv):In:=h.all λp=>match p.2 with
 |some o=>o.pu
 |none=>true
def kS.ok(P:Fd)(c:kS):Prop:=
 (c.own=false->c.hs=[])/\∀x y,c.M x=some y->∃e H,(∀(R:Type) (k:EV->fv->At R),c.el y R k=k e H)/\(c.own=false->H=[])/\(c.pu=true->e.pu=true/\puH H=true)/\
  Gq P c.f (bF (c.H0 x)) (cw (c.as x)) (bF H) (enc e)
mutual
def ym(π:Nat->Nat):EV->EV
 |.un=>.un
 |.sc s x=>.sc s x
 |.nil=>.nil
 |.ts r g=>.ts r g
 |.v x=>.v x
 |.ow k=>.ow (π k)
 |.pt k o=>.pt (π k) o
 |.pe k i a o=>.pe (π k) i a o
 |.sw k l n a=>.sw (π k) l n a
 |.mp k=>.mp (π k)
 |.fp cs=>.fp cs
 |.ag cs=>.ag (vE π cs)
 |.tu cs=>.tu (vE π cs)
 |.cl b f cs=>.cl b (vE π f) (vE π cs)
def vE(π:Nat->Nat):Do EV->Do EV
 |[]=>[]
 |c::cs=>ym π c::vE π cs
end
mutual
def GU(π:Nat->Nat):∀c:EV,enc (ym π c)=(enc c).jh π
 |.un=>rfl
 |.sc s x=>by cases s<;>rfl
 |.nil=>rfl
 |.ts r g=>rfl
 |.v x=>rfl
 |.ow k=>rfl
 |.pt k o=>rfl
 |.pe k i b o=>rfl
 |.sw k l n b=>rfl
 |.mp k=>rfl
 |.fp cs=>rfl
 |.ag cs=>by simp only[ym,enc,AV.jh,oj π cs]
 |.tu cs=>by simp only[ym,enc,AV.jh,oj π cs]
 |.cl f a cs=>by simp only[ym,enc,AV.jh,oj π cs,oj π a]
def oj(π:Nat->Nat):∀cs:Do EV,cw (vE π cs)=AV.vq π (cw cs)
 |[]=>rfl
 |c::cs=>by simp only[vE,cw,AV.vq,GU π c,oj π cs]
end
def Xv(π:Nat->Nat):Ni->Ni
 |some (i,some j)=>some (i,some (π j))
 |o=>o
def NL(π:Nat->Nat):eD->eD
 |.box t cs=>.box t (vE π cs)
 |.arr t r a wr=>.arr t r a wr
 |.mp d g i f=>.mp d g i f
 |.nr t r a b=>.nr t r a (Xv π b)
 |.qr t b h a=>.qr t (b.map π) h a
def aks(π:Nat->Nat)(r:Sc)(x:Do r.dp):(nrA r x).jh π=nrA r x:=by cases x<;>rfl
def akt(π:Nat->Nat)(r:Sc)(a:Do (Do r.dp))(f:Ni):zO r a (Xv π f)=AV.vq π (zO r a f):=by
 have b:(a.map (nrA r)).map (AV.jh π)=a.map (nrA r):=by
  rw[axe];exact aw3 λx _=>aks π r x
 rw[mi]
 match f with
 |none=>exact b.symm
 |some (i,none)=>simp only[Xv,zO,ax3,b];rfl
 |some (i,some j)=>simp only[Xv,zO,ax3,b];rfl
def Ik(π:Nat->Nat)(o:eD):cA (NL π o)=(cA o).jh π:=by
 cases o with
 |box t cs=>simp only[NL,cA,Ob.jh,oj]
 |arr=>rfl
 |mp=>rfl
 |nr t r b a=>simp only[NL,cA,Ob.jh,akt]
 |qr t a f b=>
  simp only[NL,cA,Ob.jh,mi,axe];congr 1;exact aw3 λi _=>by cases a<;>rfl
def Fj(π:Nat->Nat):fv->fv
 |[]=>[]
 |(k,o)::h=>(π k,match o with
  |some o=>some (NL π o)
  |none=>none)::Fj π h
def vF(π:Nat->Nat):∀h:fv,bF (Fj π h)=lO π (bF h)
 |[]=>rfl
 |(k,o)::h=>by
  have:∀o:eD,cA (NL π o)=(cA o).jh π:=Ik π;cases o with
  |none=>simp only[Fj,bF,lO,Option.map,vF π h]
  |some o=>simp only[Fj,bF,lO,Option.map,vF π h,this]
mutual
def KY(π:Nat->Nat):PV->PV
 |.h s=>.h s
 |.t r=>.t r
 |.k c=>.k (ym π c)
 |.ag l=>.ag (pd π l)
 |.tu l=>.tu (pd π l)
 |.fp l=>.fp l
 |.cl a b cs=>.cl a (pd π b) (pd π cs)
 |.pe k f o=>.pe (π k) f o
def pd(π:Nat->Nat):Do PV->Do PV
 |[]=>[]
 |p::a=>KY π p::pd π a
end
def vG(π:Nat->Nat):PO->PO
 |.box t l=>.box t (pd π l)
 |.arr t r wr=>.arr t r wr
 |.mp d a f=>.mp d a f
 |.nr t r none=>.nr t r none
 |.nr t r (some (s,p))=>.nr t r (some (s,π p))
 |.qr t k b=>.qr t (π k) b
def Xw(p k:Nat)(D:bu):bu:=cond (Nat.ble 4294967296 p) (match yA D p with
 |some _=>D
 |none=>D++[(p,k)]) D
mutual
def aql:PV->EV->bu->bu
 |.h _,_,D=>D
 |.t _,_,D=>D
 |.k a,c,D=>match a,c with
  |.ow p,.ow k=>Xw p k D
  |.pt p _,.pt k _=>Xw p k D
  |.mp p,.mp k=>Xw p k D
  |_,_=>D
 |.ag l,c,D=>match c with
  |.ag cs=>sJ l cs D
  |_=>D
 |.tu _,_,D=>D
 |.fp _,_,D=>D
 |.cl _ b g,c,D=>match c with
  |.cl _ f h=>sJ g h (sJ b f D)
  |_=>D
 |.pe p _ _,c,D=>match c with
  |.pe k _ _ _=>Xw p k D
  |_=>D
def sJ:Do PV->Do EV->bu->bu
 |[],_,D=>D
 |p::a,cs,D=>match cs with
  |[]=>D
  |c::cs=>sJ a cs (aql p c D)
end
def Qy(hg:Nat->At eD):Do (Nat×PO)->bu->bu
 |[],D=>D
 |(p,b)::a,D=>Qy hg a (match b with
  |.box _ l=>match yA D p with
   |some k=>match hg k with
    |some (.box _ cs)=>sJ l cs D
    |_=>D
   |none=>D
  |_=>D)
def aeS(hg:Nat->At eD)(s:Sc):EV->At (s.dp×a_)
 |.ow k=>match hg k with
  |some (.arr _ r a _)=>match eT (.sl r) s a with
   |some y=>some (y,[k])
   |none=>none
  |_=>none
 |c=>match Lp s c with
  |some y=>some (y,[])
  |none=>none
def Xx:EV->EV->In
 |.un,_=>true
 |.nil,.nil=>true
 |.ow a,.ow b=>beq a b
 |.pt a o,.pt b q=>beq a b && beq o q
 |.mp a,.mp b=>beq a b
 |.v (.func (.func f) ⟨[]⟩ ⟨[]⟩),.v (.func (.func g) ⟨[]⟩ ⟨[]⟩)=>beq f g
 |_,_=>false
def Qz{a b:EV}(h:Xx a b=true):Wk (enc b) (enc a):=by
 unfold Xx at h;split at h
 .exact Wk.un
 .exact Wk.refl _
 .rw[awb h];exact Wk.refl _
 .simp only[av4]at h
  rw[awb h.1,awb h.2];exact Wk.refl _
 .rw[awb h];exact Wk.refl _
 .rw[awb h];exact Wk.refl _
 .cases h
def Xy:EV->In
 |.un=>true
 |.nil=>true
 |.v _=>true
 |_=>false
def xJ:PV->In
 |.h _=>true
 |.t _=>true
 |.k c=>Xy c
 |_=>false
def fnB:Fn->Fn->In
 |.func f,.func g=>beq f g
 |_,_=>false
def aeT{a b:Fn}(h:fnB a b=true):a=b:=by
 unfold fnB at h;split at h
 .rw[awb h]
 .cases h
def Wk.fp{cs a:Do AV}(h:qv cs a):Wk (.fp cs) (.fp a):=by
 intro Rd E u k;cases k with
 |fp b i g f=>
  have j:LR (VR Rd none) cs b:=⟨i,g⟩;have:=h.lr j;exact .fp b this.1 this.2 f
def Wk.cl{fn:Fn}{fs g cs f:Do AV}(h:qv fs g)(k:qv cs f):Wk (.cl fn fs cs) (.cl fn g f):=by
 intro Rd E u q;cases q with
 |cl i j o p l m=>
  have a:LR (VR Rd E) fs i:=⟨o,l⟩;have b:LR (VR Rd E) cs j:=⟨p,m⟩;have a:=h.lr a;have b:=k.lr b;exact .cl i j a.1 b.1 a.2 b.2
mutual
def Il:PV->EV->At (Do EV)
 |.h s,c=>match Lp s c with
  |some x=>some [.sc s x]
  |none=>none
 |.t r,c=>match c with
  |.ts u f=>match eT (.sl u) (.sl r) f with
   |some z=>some [.sc (.sl r) z]
   |none=>none
  |.nil=>some [.sc (.sl r) (show Do r.dp from [])]
  |_=>none
 |.k g,c=>cond (Xx g c) (some []) none
 |.ag l,c=>match c with
  |.ag cs=>yD l cs
  |_=>none
 |.tu l,c=>match c with
  |.tu cs=>yD l cs
  |_=>none
 |.fp l,c=>match c with
  |.fp cs=>yD l cs
  |_=>none
 |.cl h m f,c=>match c with
  |.cl j p y=>cond (fnB h j) (match yD m p with
   |some a=>match yD f y with
    |some b=>some (a++b)
    |none=>none
   |none=>none) none
  |_=>none
 |.pe k v o,c=>match c with
  |.pe q i w t=>cond (beq k q && beq v w && beq o t) (some [.sc (.i .i64) i]) none
  |_=>none
def yD:Do PV->Do EV->At (Do EV)
 |[],cs=>match cs with
  |[]=>some []
  |_::_=>none
 |p::f,cs=>match cs with
  |[]=>none
  |c::cs=>match Il p c with
   |some a=>match yD f cs with
    |some b=>some (a++b)
    |none=>none
   |none=>none
end
def iV(s:Sc)(x:s.dp):eT s s x=some x:=by
 have j:∀s:Sc,Sc.eqP s s=some ⟨rfl⟩:=by
  intro s
  induction s with
  |i k=>simp[Sc.eqP]
  |b=>rfl
  |sl r f=>simp[Sc.eqP,f]
  |pr a l g h=>simp[Sc.eqP,g,h]
  |u=>rfl
 unfold eT;rw[j]
mutual
def Xz:∀(p:PV) {c:EV} {f:Do EV} (rest:Do EV),Il p c=some f->(gj p (f++rest)).2=rest/\Wk (enc c) (enc (gj p (f++rest)).1)
 |.h s,c,f,rest,h=>by
  simp only[Il]at h;split at h
  next x y=>cases h;exact⟨rfl,U9 y⟩
  .cases h
 |.t r,c,f,rest,h=>by
  simp only[Il]at h;split at h
  .split at h
   next F z=>cases h;obtain⟨e,rfl⟩:=dC z;cases e;exact⟨rfl,Wk.refl _⟩
   .cases h
  .cases h
   exact⟨rfl,Wk.U8⟩
  .cases h
 |.k B,c,f,rest,h=>by
  simp only[Il]at h;obtain⟨i,g⟩:=aY h;cases g;exact⟨rfl,Qz i⟩
 |.ag l,c,f,rest,h=>by
  simp only[Il]at h;split at h
  .obtain⟨a,b⟩:=om l rest h
   exact⟨a,Wk.ag b⟩
  .cases h
 |.tu l,c,f,rest,h=>by
  simp only[Il]at h;split at h
  .obtain⟨a,b⟩:=om l rest h
   exact⟨a,Wk.tu b⟩
  .cases h
 |.fp l,c,f,rest,h=>by
  simp only[Il]at h;split at h
  .obtain⟨a,b⟩:=om l rest h
   exact⟨a,Wk.fp b⟩
  .cases h
 |.cl C u A,c,f,rest,h=>by
  simp only[Il]at h;split at h
  .obtain⟨i,g⟩:=aY h
   obtain rfl:=aeT i;split at g
   next a v=>
    split at g
    next b w=>cases g;obtain⟨j,m⟩:=om u (b++rest) v;obtain⟨q,t⟩:=om A rest w;simp only[gj,awx,j];exact⟨q,Wk.cl m t⟩
    .cases g
   .cases g
  .cases h
 |.pe k E o,c,f,rest,h=>by
  simp only[Il]at h;split at h
  .obtain⟨i,g⟩:=aY h
   cases g;simp only[av4]at i;rw[awb i.1.1,awb i.1.2,awb i.2];refine⟨rfl,?_⟩;simp only[gj,axn,axB,peE,iV];exact Wk.refl _
  .cases h
def om:∀(g:Do PV) {cs:Do EV} {f:Do EV} (rest:Do EV),yD g cs=some f->(du g (f++rest)).2=rest/\qv (cw cs) (cw (du g (f++rest)).1)
 |[],cs,f,rest,h=>by
  simp only[yD]at h;split at h
  .cases h
   exact⟨rfl,.nil⟩
  .cases h
 |p::g,cs,f,rest,h=>by
  simp only[yD]at h;split at h
  .cases h
  next c cs=>
   split at h
   next a k=>
    split at h
    next b l=>cases h;have i:=Xz p (b++rest) k;have j:=om g rest l;simp only[du,awx,i.1];exact⟨j.1,.cons i.2 j.2⟩
    .cases h
   .cases h
end
def aku:PO->eD->At (Do EV)
 |.box t l,.box a cs=>cond (beq t a) (yD l cs) none
 |.arr t r wr,.arr a g b z=>cond (beq t a && (!wr||z)) (match eT (.sl g) (.sl r) b with
  |some f=>some [.sc (.sl r) f]
  |none=>none) none
 |.mp d h j,.mp m u y o=>cond (mo d h && mo m h) (match eT (.sl (.pr u y)) (.sl (.pr h j)) o with
  |some f=>some [.sc (.sl (.pr h j)) f]
  |none=>none) none
 |.nr t r none,.nr a g b none=>cond (beq t a) (match eT (.sl (.sl g)) (.sl (.sl r)) b with
  |some f=>some [.sc (.sl (.sl r)) f]
  |none=>none) none
 |.nr t r (some (_,p)),.nr a g b (some (i,some q))=>cond (beq t a && beq p q) (match eT (.sl (.sl g)) (.sl (.sl r)) b with
  |some f=>some [.sc (.sl (.sl r)) f,.sc (.i .i64) i]
  |none=>none) none
 |.arr t r wr,.nr a g b none=>cond (beq t a) (match eT (.sl (.sl g)) (.sl r) b with
  |some f=>some [.sc (.sl r) f]
  |none=>none) none
 |.qr t k v,.qr a (some s) w b=>cond (beq t a && beq k s && beq v w) (some [.sc (.sl (.i .i64)) (show aX from b)]) none
 |_,_=>none
def Vw(r:Sc):∀a:Do (Do r.dp),sA ((a.map (nrA r)).map λc=>[c]) (List.map (bM (.sl r)) a)
 |[]=>.nil
 |x::a=>by
  refine .cons (.cons ?_ .nil) (Vw r a);cases x with
  |nil=>exact Wk.empty rfl
  |cons y b=>exact Wk.refl _
def OR.aqm{Rd:bL}{e:Env}{cs g:Do AV}(l:qv cs g)(h:OR Rd e m B (.box a cs)):OR Rd e m B (.box a g):=by
 obtain⟨f,b,o,i,j,k⟩:=h;exact⟨f,b,o,i,j,l.lr k⟩
def XA(p:PO){B:Do EV}(rest:Do EV)(h:aku p Q=some B):(jv p (B++rest)).2=rest/\∃C,(jv p (B++rest)).1=some C/\∀Rd e w k,OR Rd e w k (cA Q)->OR Rd e w k (cA C):=by
 unfold aku at h;split at h
 next t l z cs=>obtain⟨f,g⟩:=aY h;have f:=awb f;subst f;obtain⟨a,b⟩:=om l rest g;exact⟨a,_,rfl,λRd e w k j=>OR.aqm b j⟩
 next t r wr z v m V=>
  obtain⟨f,g⟩:=aY h;simp only[av4]at f;have o:=awb f.1;subst o;split at g
  next A u=>
   cases g;obtain⟨e1,rfl⟩:=dC u;cases e1;refine⟨rfl,.arr t r m wr,?_,λRd e w k j=>?_⟩
   .simp only[jv,axn,axB,akr,iV]
   .obtain⟨E,F,G,H⟩:=j
    refine⟨E,F,λM=>G ?_,H⟩;have:=f.2;rw[M]at this;simpa using this
  .cases g
 next d N O R S U I=>
  obtain⟨f,g⟩:=aY h;simp only[av4]at f;have o:=rp f.1 f.2;subst o;split at g
  next A u=>cases g;obtain⟨e1,rfl⟩:=dC u;cases e1;refine⟨rfl,.mp d N O I,?_,λRd e w k j=>j⟩;simp only[jv,axn,axB,mpE,iV]
  .cases g
 next t r z v m=>
  obtain⟨f,g⟩:=aY h;have o:=awb f;subst o;split at g
  next A u=>cases g;obtain⟨e1,rfl⟩:=dC u;cases e1;refine⟨rfl,.nr t r m none,?_,λRd e w k j=>j⟩;simp only[jv,axn,axB,nrE,iV]
  .cases g
 next t r s p z v m i q=>
  obtain⟨f,g⟩:=aY h;simp only[av4]at f;have o:=awb f.1;have J:=awb f.2;subst o;subst J;split at g
  next A u=>cases g;obtain⟨e1,rfl⟩:=dC u;cases e1;refine⟨rfl,.nr t r m (some (i,some p)),?_,λRd e w k j=>j⟩;simp only[jv,axh,awL,axB,List.tail_cons,anH,iV]
  .cases g
 next t r wr z v m=>
  obtain⟨f,g⟩:=aY h;have o:=awb f;subst o;split at g
  next A u=>
   cases g;obtain⟨e1,rfl⟩:=dC u;cases e1;refine⟨rfl,.arr t (.sl v) m wr,?_,λRd e w k j=>?_⟩
   .simp only[jv,axn,axB,akr,iV]
   .have L:OR Rd e w k (.nr t (m.map (nrA v))):=j
    refine(L.aqh (λc y=>?_) (λc y=>?_) wr).AX (Vw v m) (λc y=>?_)
    .obtain⟨x,_,rfl⟩:=awe.1 y
     cases x<;>rfl
    .obtain⟨x,_,rfl⟩:=awe.1 y
     cases x<;>rfl
    .exact fm (.sl v) m c y
  .cases g
 .obtain⟨f,g⟩:=aY h
  cases g;simp only[av4]at f;rw[awb f.1.1,awb f.1.2,awb f.2];refine⟨rfl,_,?_,λRd e w k j=>j⟩;simp only[jv,axn,axB,qrE];rw[iV (.sl (.i .i64))]
 .cases h
mutual
def sK(hg:Nat->At eD)(bo:In):PV->EV->At (Do EV×a_)
 |.h s,c=>match aeS hg s c with
  |some (x,gs)=>some ([.sc s x],gs)
  |none=>none
 |.t r,c=>match c with
  |.ts w f=>match eT (.sl w) (.sl r) f with
   |some B=>some ([.sc (.sl r) B],[])
   |none=>none
  |.nil=>some ([.sc (.sl r) (show Do r.dp from [])],[])
  |_=>none
 |.k g,c=>cond (Xx g c) (some ([],[])) none
 |.ag l,c=>match c with
  |.ag cs=>nc hg bo l cs
  |_=>none
 |.tu _,_=>none
 |.fp l,c=>match c with
  |.fp cs=>cond (l.all xJ) (match nc hg bo l cs with
   |some (vs,[])=>some (vs,[])
   |_=>none) none
  |.pt k o=>cond (bo && beq o 0 && l.all xJ) (match hg k with
   |some (.box t cs)=>cond (!(beq t HN)) (match nc hg bo l cs with
    |some (vs,gs)=>some (vs,k::gs)
    |none=>none) none
   |_=>none) none
  |_=>none
 |.cl h m f,c=>match c with
  |.cl j p A=>cond (fnB h j) (match nc hg bo m p with
   |some (a,q)=>match nc hg bo f A with
    |some (b,g2)=>some (a++b,q++g2)
    |none=>none
   |none=>none) none
  |_=>none
 |.pe k y o,c=>match c with
  |.pe u i z v=>cond (beq k u && beq y z && beq o v) (some ([.sc (.i .i64) i],[])) none
  |_=>none
def nc(hg:Nat->At eD)(bo:In):Do PV->Do EV->At (Do EV×a_)
 |[],cs=>match cs with
  |[]=>some ([],[])
  |_::_=>none
 |p::g,cs=>match cs with
  |[]=>none
  |c::cs=>match sK hg bo p c with
   |some (a,f)=>match nc hg bo g cs with
    |some (b,g2)=>some (a++b,f++g2)
    |none=>none
   |none=>none
end
def kO(cs:Do EV):Prop:=∀c∈cs,∃s x,c=EV.sc s x
def vH:∀(cs:Do Sc) (x:mq cs),kO (iU cs x)
 |[],_=>λc h=>by cases h
 |[s],x=>λc h=>by simp only[iU,awq]at h;exact⟨_,_,h⟩
 |s::t::r,x=>λc h=>by
  simp only[iU]at h;rcases awr.1 h with h|h
  .exact⟨_,_,h⟩
  .exact vH (t::r) x.2 c h
def kO.tail{cs:Do EV}(h:kO cs):kO cs.tail:=λc a=>h c (List.mem_of_mem_tail a)
def aeU(π:Nat->Nat){cs:Do EV}(h:kO cs):ym π (cs.headD .un)=cs.headD .un:=by
 cases cs with
 |nil=>rfl
 |cons c cs=>obtain⟨s,x,rfl⟩:=h c d5;rfl
def ab4(π:Nat->Nat){cs:Do EV}(h:kO cs):ym π (NK (cs.headD .un))=NK (cs.headD .un):=by
 cases cs with
 |nil=>rfl
 |cons c cs=>
  obtain⟨s,x,rfl⟩:=h c d5;cases s<;>rfl
mutual
def Lv(π:Nat->Nat):∀(p:PV) {cs:Do EV},kO cs->(gj (KY π p) cs).1=ym π (gj p cs).1/\(gj (KY π p) cs).2=(gj p cs).2/\kO (gj p cs).2
 |.h s,cs,h=>⟨(aeU π h).symm,rfl,h.tail⟩
 |.t r,cs,h=>⟨(ab4 π h).symm,rfl,h.tail⟩
 |.k c,cs,h=>⟨rfl,rfl,h⟩
 |.ag l,cs,h=>by
  obtain⟨a,b,c⟩:=hZ π l h;exact⟨by simp only[KY,gj,ym,a],by simp only[KY,gj,b],c⟩
 |.tu l,cs,h=>by
  obtain⟨a,b,c⟩:=hZ π l h;exact⟨by simp only[KY,gj,ym,a],by simp only[KY,gj,b],c⟩
 |.fp l,cs,h=>⟨rfl,rfl,(hZ π l h).2.2⟩
 |.cl q j m,cs,h=>by
  obtain⟨a,b,c⟩:=hZ π j h;obtain⟨f,g,i⟩:=hZ π m c;exact⟨by simp only[KY,gj,ym,a,b,f],by simp only[KY,gj,b,g],i⟩
 |.pe k t o,cs,h=>by
  refine⟨?_,rfl,h.tail⟩;simp only[KY,gj];cases cs with
  |nil=>rfl
  |cons c cs=>
   obtain⟨s,x,rfl⟩:=h c d5;simp only[axB,peE];cases eT s (.i .i64) x<;>rfl
def hZ(π:Nat->Nat):∀(f:Do PV) {cs:Do EV},kO cs->(du (pd π f) cs).1=vE π (du f cs).1/\(du (pd π f) cs).2=(du f cs).2/\kO (du f cs).2
 |[],cs,h=>⟨rfl,rfl,h⟩
 |p::f,cs,h=>by
  obtain⟨a,b,c⟩:=Lv π p h;obtain⟨g,i,j⟩:=hZ π f c;exact⟨by simp only[pd,du,vE,a,b,g],by simp only[pd,du,b,i],j⟩
end
def VR.close{Rd:bL}{c:AV}(h:VR Rd M c s)(b:c.hL (λ_=>true)=true):VR Rd none c s:=by
 induction h with
 |un=>exact .un
 |v=>exact .v
 |sl i r o g l a f p m k=>exact .sl i r o g l a f p m
 |ow=>simp[AV.hL]at b
 |pt=>simp[AV.hL]at b
 |pe=>simp[AV.hL]at b
 |sw=>simp[AV.hL]at b
 |fp i g l m k=>exact .fp i g l m
 |ag i g l k=>exact .ag i g λj c s a f=>k j c s a f (fJ (by simpa[AV.hL]using b) j c a)
 |tu i g l k=>exact .tu i g λj c s a f=>k j c s a f (fJ (by simpa[AV.hL]using b) j c a)
 |mp=>simp[AV.hL]at b
 |cl i u g q l w k t=>
  simp only[AV.hL,av4]at b;exact .cl i u g q (λj c s a f=>k j c s a f (fJ b.1 j c a)) (λj c s a f=>t j c s a f (fJ b.2 j c a))
def aeV(s:Sc)(x:s.dp)(p:Nat->In):(encS s x).hL p=true:=by cases s<;>rfl
def Vx(c:EV)(a:c=.un\/∃s x,c=EV.sc s x)(p:Nat->In):(enc (NK c)).hL p=true:=by
 rcases a with rfl|⟨s,x,rfl⟩
 .rfl
 .cases s<;>rfl
def kz{cs:Do EV}(h:kO cs):cs.headD .un=.un\/∃s x,cs.headD .un=EV.sc s x:=by
 cases cs with
 |nil=>exact .inl rfl
 |cons c cs=>exact .inr (h c d5)
def QA{p:PV}(a:xJ p=true){cs:Do EV}(h:kO cs):(enc (gj p cs).1).hL (λ_=>true)=true:=by
 cases p with
 |h s=>
  rcases kz h with e|⟨b,x,e⟩
  .simp only[gj,e];rfl
  .simp only[gj,e];exact aeV _ _ _
 |t r=>exact Vx _ (kz h) _
 |k c=>cases c<;>first|rfl|(simp[xJ,Xy]at a)
 |_=>simp[xJ]at a
def sL:∀{f:Do PV} (_:f.all xJ=true) {cs:Do EV},kO cs->∀c∈cw (du f cs).1,c.hL (λ_=>true)=true
 |[],_,cs,h,c,a=>by cases a
 |p::f,b,cs,h,c,a=>by
  simp only[axb,av4]at b;simp only[du,cw]at a;rcases awr.1 a with rfl|a
  .exact QA b.1 h
  .exact sL b.2 (Lv id p h).2.2 c a
section
variable{hg:Nat->At eD}{bo:In}{R1 R2:bL}{e e1:Env}{gF:a_}
structure GF(hg:Nat->Option eD)(R1 R2:bL)(e e1:Env)(gF:a_):Prop where
 mono:∀b o u,R1 b o u->R2 b o u
 ca:∀j,e1.ca j=e.ca j
 sv:∀j,e1.sv j=e.sv j
 row:∀k,gF.contains k=true->∀t r xs wr,hg k=some (.arr t r xs wr)->VR R2 none (.sl false r.w (List.map (bM r) xs)) (e.sv k)
 box:∀k,gF.contains k=true->∀t cs,t≠HN->hg k=some (.box t cs)->∃b us,e.ca k=some b/\LR (VR R1 (some e)) (cw cs) us/\∀(j:Nat) u,us[j]? =some u->R2 b j u
def GF.carry(g:GF hg R1 R2 e e1 gF){c:AV}(h:VR R1 (some e) c s):VR R2 (some e1) c s:=(h.mono g.mono).jt rfl g.ca g.sv
def aeW(g:GF hg R1 R2 e e1 gF){a:Sc}{c:EV}{x:a.dp}{gs:a_}(h:aeS hg a c=some (x,gs))(i:∀k,gs.contains k=true->gF.contains k=true)(f:VR R1 (some e) (enc c) s):VR R2 (some e1) (encS a x) s:=by
 unfold aeS at h;split at h
 next k=>
  split at h
  next t r l wr j=>
   split at h
   next y b=>cases h;obtain⟨rfl,rfl⟩:=dC b;cases f;exact(g.row k (i k d5) t r _ wr j).c9
   .cases h
  .cases h
 .split at h
  next y b=>cases h;exact U9 b _ _ _ (g.carry f)
  .cases h
mutual
def ab5:∀(p:PV) {c:EV} {f:Do EV} {gs:a_},sK hg bo p c=some (f,gs)->kO f
 |.h s,c,f,gs,h=>by
  simp only[sK]at h;split at h
  .cases h
   intro c b;simp only[awq]at b;exact⟨_,_,b⟩
  .cases h
 |.t r,c,f,gs,h=>by
  simp only[sK]at h;split at h
  .split at h
   .cases h
    intro c b;simp only[awq]at b;exact⟨_,_,b⟩
   .cases h
  .cases h
   intro c b;simp only[awq]at b;exact⟨_,_,b⟩
  .cases h
 |.k t,c,f,gs,h=>by
  simp only[sK]at h;obtain⟨_,a⟩:=aY h;cases a;intro c b;cases b
 |.ag l,c,f,gs,h=>by
  simp only[sK]at h;split at h
  .exact gG l h
  .cases h
 |.tu l,c,f,gs,h=>by simp[sK]at h
 |.fp l,c,f,gs,h=>by
  simp only[sK]at h;split at h
  .obtain⟨_,a⟩:=aY h
   split at a
   next g=>cases a;exact gG l g
   .cases a
  .obtain⟨_,a⟩:=aY h
   split at a
   .obtain⟨_,a⟩:=aY a
    split at a
    next g=>cases a;exact gG l g
    .cases a
   .cases a
  .cases h
 |.cl u i q,c,f,gs,h=>by
  simp only[sK]at h;split at h
  .obtain⟨_,a⟩:=aY h
   split at a
   next j=>
    split at a
    next m=>
     cases a;intro c b;rcases awc.1 b with b|b
     .exact gG i j c b
     .exact gG q m c b
    .cases a
   .cases a
  .cases h
 |.pe k v o,c,f,gs,h=>by
  simp only[sK]at h;split at h
  .obtain⟨_,a⟩:=aY h
   cases a;intro c b;simp only[awq]at b;exact⟨_,_,b⟩
  .cases h
def gG:∀(f:Do PV) {cs:Do EV} {b:Do EV} {gs:a_},nc hg bo f cs=some (b,gs)->kO b
 |[],cs,b,gs,h=>by
  simp only[nc]at h;split at h
  .cases h;intro c a;cases a
  .cases h
 |p::f,cs,b,gs,h=>by
  simp only[nc]at h;split at h
  .cases h
  .split at h
   next g=>
    split at h
    next i=>
     cases h;intro c a;rcases awc.1 a with a|a
     .exact ab5 p g c a
     .exact gG f i c a
    .cases h
   .cases h
end
mutual
def akv(g:GF hg R1 R2 e e1 gF):∀(p:PV) {c:EV} {w:Do EV} {gs:a_} (rest:Do EV),kO rest->sK hg bo p c=some (w,gs)->(∀k,gs.contains k=true->gF.contains k=true)->(gj p (w++rest)).2=rest/\∀u,VR R1 (some e) (enc c) u->VR R2 (some e1) (enc (gj p (w++rest)).1) u
 |.h s,c,w,gs,rest,q,h,v=>by
  simp only[sK]at h;split at h
  next x X hx=>cases h;exact⟨rfl,λu i=>aeW g hx v i⟩
  .cases h
 |.t r,c,w,gs,rest,q,h,v=>by
  simp only[sK]at h;split at h
  .split at h
   next ys hy=>cases h;obtain⟨e,rfl⟩:=dC hy;cases e;exact⟨rfl,λu i=>g.carry i⟩
   .cases h
  .cases h
   exact⟨rfl,λu i=>Wk.U8 _ _ _ (g.carry i)⟩
  .cases h
 |.k c0,c,w,gs,rest,q,h,v=>by
  simp only[sK]at h;obtain⟨m,f⟩:=aY h;cases f;exact⟨rfl,λu i=>Qz m _ _ _ (g.carry i)⟩
 |.ag l,c,w,gs,rest,q,h,v=>by
  simp only[sK]at h;split at h
  .obtain⟨a,b⟩:=mr g l rest q h v
   refine⟨a,λu i=>?_⟩;obtain⟨z,rfl,H⟩:=VR.fI i;have:=b z H;exact .ag z this.1 this.2
  .cases h
 |.tu l,c,w,gs,rest,q,h,v=>by simp[sK]at h
 |.fp l,c,w,gs,rest,q,h,v=>by
  simp only[sK]at h;split at h
  next cs=>
   obtain⟨B,f⟩:=aY h;split at f
   next vs C=>
    cases f;obtain⟨a,b⟩:=mr g l rest q C (λk A=>by simp at A);have J:kO (w++rest):=λc y=>(awc.1 y).elim (gG l C c) (q c);refine⟨a,λu i=>?_⟩;cases i with
    |fp z G y F=>
     have:=b z ⟨G,λj c u m f=>(y j c u m f).c9⟩;exact .fp z this.1 (λj c u m f=>(this.2 j c u m f).close (sL B J c (awg m))) λj u I=>g.mono _ _ _ (F j u I)
   .cases f
  next k o=>
   obtain⟨B,f⟩:=aY h;simp only[av4]at B;have ho:=awb B.1.2;subst ho;split at f
   next t cs A=>
    obtain⟨a3,f⟩:=aY f;split at f
    next vs X C=>
     cases f;obtain⟨a,b⟩:=mr g l rest q C (λk' M=>v k' (by simp at M⊢;exact .inr M));have J:kO (w++rest):=λc y=>(awc.1 y).elim (gG l C c) (q c);refine⟨a,λu i=>?_⟩;obtain⟨bb,z,E,H,y⟩:=g.box k (v k d5) t cs (D5 a3) A;cases i with
     |pt L=>
      rw[E]at L;cases L;have:=b z H;exact .fp z this.1 (λj c u m f=>(this.2 j c u m f).close (sL B.2 J c (awg m))) λj u I=>by rw[awB];exact y j u I
    .cases f
   .cases f
  .cases h
 |.cl fn W Q,c,w,gs,rest,q,h,v=>by
  simp only[sK]at h;split at h
  .obtain⟨m,f⟩:=aY h
   obtain rfl:=aeT m;split at f
   next a g1 F=>
    split at f
    next b g2 E=>
     cases f;have a0:kO (b++rest):=λc y=>(awc.1 y).elim (gG Q E c) (q c);obtain⟨R,S⟩:=mr g W (b++rest) a0 F (λk A=>v k (by simp at A⊢;exact .inl A));obtain⟨U,V⟩:=mr g Q rest q E (λk A=>v k (by simp at A⊢;exact .inr A));simp only[gj,awx,R];refine⟨U,λu i=>?_⟩;cases i with
     |cl z vs G Z y Y=>
      have N:=S z ⟨G,y⟩;have O:=V vs ⟨Z,Y⟩;exact .cl z vs N.1 O.1 N.2 O.2
    .cases f
   .cases f
  .cases h
 |.pe k sz o,c,w,gs,rest,q,h,v=>by
  simp only[sK]at h;split at h
  .obtain⟨m,f⟩:=aY h
   cases f;simp only[av4]at m;rw[awb m.1.1,awb m.1.2,awb m.2];refine⟨rfl,λu i=>?_⟩;simp only[gj,axn,axB,peE,iV];exact g.carry i
  .cases h
def mr(g:GF hg R1 R2 e e1 gF):∀(l:Do PV) {cs:Do EV} {o:Do EV} {gs:a_} (rest:Do EV),kO rest->nc hg bo l cs=some (o,gs)->(∀k,gs.contains k=true->gF.contains k=true)->(du l (o++rest)).2=rest/\∀f,LR (VR R1 (some e)) (cw cs) f->LR (VR R2 (some e1)) (cw (du l (o++rest)).1) f
 |[],cs,o,gs,rest,r,h,q=>by
  simp only[nc]at h;split at h
  .cases h
   exact⟨rfl,λf i=>by
    have:f=[]:=aw6 (by simpa[cw]using i.1);subst this;exact LR.nil⟩
  .cases h
 |p::l,cs,o,gs,rest,r,h,q=>by
  simp only[nc]at h;split at h
  .cases h
  next c cs=>
   split at h
   next a G C=>
    split at h
    next b H s=>
     cases h;have F:kO (b++rest):=λc E=>(awc.1 E).elim (gG l s c) (r c);obtain⟨t,w⟩:=akv g p (b++rest) F C (λk m=>q k (by simp at m⊢;exact .inl m));obtain⟨y,z⟩:=mr g l rest r s (λk m=>q k (by simp at m⊢;exact .inr m));simp only[du,awx,t];refine⟨y,λf i=>?_⟩;cases f with
     |nil=>have:=i.1;simp[cw]at this
     |cons u f=>
      exact LR.cons (w u (i.2 0 _ u rfl rfl)) (z f ⟨by simpa[cw]using i.1,λj c v A B=>i.2 (j+1) c v (by simpa[cw]using A) (by simpa using B)⟩)
    .cases h
   .cases h
end
end
def QB:eD->In
 |.arr _ _ _ wr=>wr
 |_=>true
def Im(hg:Nat->At eD)(D:bu)(B:Nat):Do (Nat×PO)->At (Do EV)
 |[]=>some []
 |(p,g)::f=>match yA D p with
  |some k=>match hg k with
   |some o=>cond (QB o) (match aku (vG (gC D B) g) o with
    |some a=>match Im hg D B f with
     |some b=>some (a++b)
     |none=>none
    |none=>none) none
   |none=>none
  |none=>none
def h8(hg:Nat->At eD):a_->fv
 |[]=>[]
 |k::gs=>match hg k with
  |some (.arr t r a _)=>(k,some (.arr t r a false))::h8 hg gs
  |_=>h8 hg gs
def QC(hg:Nat->At eD)(k:Nat):In:=match hg k with
 |some (.arr _ _ _ _)=>true
 |_=>false
def aeX(D:bu):fv:=D.map λq=>(q.2,none)
def deW(hg:Nat->At eD):EV->EV×a_×In
 |.sw k l n a=>match hg k with
  |some (.arr _ r b _)=>cond (beq r.w a) (.sc (.sl r) (show Do r.dp from(b.drop l.toNat).take n.toNat),[k],Nat.ble (l.toNat+n.toNat) b.length) (.sw k l n a,[],true)
  |_=>(.sw k l n a,[],true)
 |c=>(c,[],true)
def Ed(hg:Nat->At eD):Do EV->Do EV×a_×In
 |[]=>([],[],true)
 |c::cs=>((deW hg c).1::(Ed hg cs).1,(deW hg c).2.1++(Ed hg cs).2.1,(deW hg c).2.2 && (Ed hg cs).2.2)
def aeY(e:Env)(R2:bL)(k:Nat)(r:Sc)(f:Do r.dp):Prop:=
 ∀b,e.ca k=some b->∃a,LR (VR R2 none) (List.map (bM r) f).flatten a/\∀(j:Nat) u,a[j]? =some u->R2 b j u
def anK{hg:Nat->At eD}{R1 R2:bL}{e:Env}(B:∀b o s,R1 b o s->R2 b o s)(c:EV)
 (v:∀k,(deW hg c).2.1.contains k=true->∀t r f wr,hg k=some (.arr t r f wr)->aeY e R2 k r f) (i:(deW hg c).2.2=true) (y:VR R1 (some e) (enc c) s):VR R2 (some e) (enc (deW hg c).1) s:=by
 unfold deW at v i⊢;split
 next k l n Y=>
  simp only at v i;split
  next t r f wr L=>
   rw[L]at v i;simp only at v i;cases w:beq r.w Y with
   |false=>exact y.mono B
   |true=>
    rw[w]at v i;simp only[awv]at v i⊢;have w:=awb w;subst w;have i:=awd i;cases y with
    | @sw e0 k0 l0 n0 a2 b o N h V O Q=>
     obtain⟨G,H,R⟩:=v k d5 t r f wr L b h;have C:∀q∈List.map (bM r) f,q.length=r.w:=by
      intro q u;obtain⟨z,_,rfl⟩:=awe.1 u;exact fy r z
     have M:((List.map (bM r) f).drop l.toNat|>.take n.toNat).length=n.toNat:=by
      rw[awM,axO,awa];omega
     have W:∀q∈((List.map (bM r) f).drop l.toNat|>.take n.toNat),q.length=r.w:=λq u=>C q (ayC (ax0 u));have I:((List.map (bM r) f).drop l.toNat|>.take n.toNat).flatten=((List.map (bM r) f).flatten.drop (l.toNat*r.w)).take (n.toNat*r.w):=by
      rw[mP _ _ (λq u=>C q (ayC u)),mQ _ _ C]
     have a1:(G.drop (l.toNat*r.w)).take (n.toNat*r.w)=(G.drop (l.toNat*r.w)).take (n.toNat*r.w):=rfl;have:=VR.sl (Rd:=R2) (E:=some e) (tight:=false) (sz:=r.w) (rows:=((List.map (bM r) f).drop l.toNat|>.take n.toNat)) (a:=some ⟨b,o,none⟩) (cap:=N)
      ((G.drop (l.toNat*r.w)).take (n.toNat*r.w)) W (fm r _|> λA=>by
       intro c g;obtain⟨q,u,S⟩:=ax5.1 g;exact A c (ax5.2 ⟨q,ayC (ax0 u),S⟩))
      (by rw[I,awM,awM,axO,axO,H.1])
      (λj c s g F=>by
       rw[I]at g;rw[awP]at g F;split at g
       next p=>rw[av3 p,axt]at F;rw[axt]at g;exact H.2 _ c s g F
       .cases g) (by rw[M];exact O) Q (λA=>by cases A)
      (λZ=>⟨b,o,rfl,λj s p=>by
       rw[awP]at p;split at p
       next J=>
        rw[axt]at p;have U:0<n.toNat:=by
         cases X:n.toNat with
         |zero=>rw[X]at J;simp at J
         |succ m=>omega
        rw[V U];exact R _ s p
       .cases p⟩)
     rw[M,<-ayI,<-ays]at this;exact this
  next a0=>exact y.mono B
 .exact y.mono B
def XB{hg:Nat->At eD}{R1 R2:bL}{e:Env}(l:∀b o u,R1 b o u->R2 b o u):∀(cs:Do EV) {f:bI}
 (i:∀k,(Ed hg cs).2.1.contains k=true->∀t r m wr,hg k=some (.arr t r m wr)->aeY e R2 k r m) (g:(Ed hg cs).2.2=true) (a:LR (VR R1 (some e)) (cw cs) f),LR (VR R2 (some e)) (cw (Ed hg cs).1) f
 |[],f,i,g,a=>by
  have:f=[]:=aw6 (by simpa[cw]using a.1);subst this;exact LR.nil
 |c::cs,f,i,g,a=>by
  simp only[Ed,av4]at g;cases f with
  |nil=>have:=a.1;simp[cw]at this
  |cons u f=>
   simp only[Ed,cw];exact LR.cons (anK l c (λk h=>i k (by simp only[Ed];simp at h⊢;exact .inl h)) g.1 (a.2 0 _ u rfl rfl))
    (XB l cs (λk h=>i k (by simp only[Ed];simp at h⊢;exact .inr h)) g.2 ⟨by simpa[cw]using a.1,λj c v p q=>a.2 (j+1) c v (by simpa[cw]using p) (by simpa using q)⟩)
def aeZ(hg:Nat->At eD)(d:Nat)(c:kS)(aS:Do EV)(D:bu)(k:EV->fv->a_->Fr->At b):At (At b):=
 match cond c.pu (Ed hg aS) (aS,[],true)with
 |(f,a,g)=>match nc hg c.pu (pd (gC D (1000*(d+1))) c.ps) f with
 |some (vs,gs)=>match Im hg D (1000*(d+1)) c.hs with
  |some ws=>match yC c.cs (vs++ws)with
   |some x=>cond (PE (1000*(d+1)) D && (a++gs).all (λk=>(UQ D k).isNone) && D.all (λq=>c.hs.any λr=>beq r.1 q.1) && (c.pu||(a++gs).all (QC hg)))
    (some (cond g (aW (c.M x) λy=>c.el y b λe H=>cond c.own
     (cond (od D (bF H) && (enc e).hL (λk=> !KG D k))
      (k (ym (gC D (1000*(d+1))) e) (Fj (gC D (1000*(d+1))) H++(aeX D++cond c.pu [] (h8 hg (a++gs)))) ((a++gs)++D.map (·.2)) (.ca (1000*(d+1)))) none)
     (cond ((enc e).hL (λ_=>true) && D.isEmpty) (k e (cond c.pu [] (h8 hg (a++gs))) (a++gs) .no) none)) none))
    none
   |none=>none
  |none=>none
 |none=>none
def ae0:EV->In
 |.un=>false
 |_=>true
def ae1(hg:Nat->At eD)(d:Nat)(c:kS)(aS:Do EV)(k:EV->fv->a_->Fr->At b):At (At b):=
 cond (aS.all ae0) (aeZ hg d c aS (Qy hg c.hs (sJ c.ps aS [])) k) none
def Io(hg:Nat->At eD)(d:Nat)(f:FuncId)(aS:Do EV){R:Type}(k:EV->fv->a_->Fr->At R):Do kS->At R
 |[]=>none
 |c::cs=>cond (beq c.f f) (match ae1 hg d c aS k with
  |some r=>r
  |none=>Io hg d f aS k cs) (Io hg d f aS k cs)
def fnE(ev:Nat->EV):If->At (FuncId×Do EV×Do EV)
 |.func f=>some (f,[],[])
 |.tmp i=>match ev i with
  |.v (.func (.func g) ⟨[]⟩ ⟨[]⟩)=>some (g,[],[])
  |.cl (.func g) a cs=>some (g,a,cs)
  |_=>none
 |_=>none
def akw:bu->Nat->Nat->In
 |[],_,_=>false
 |(m,e)::l,n,d=>cond (beq m n && beq e d) true (akw l n d)
def Ip(T:EQ->bz)(ev:Nat->EV)(hg:Nat->At eD)(d:Nat)(t:EQ)(x:If)(g f i:jO)(k:EV->fv->a_->Fr->At b):At b:=
 match g,f,i with
 |none,some y,none=>match(T t).el with
  |some (e,l,_,_)=>match e7 ev x with
   |.ow j=>match hg j with
    |some (.arr a r o wr)=>match vg ev y with
     |some h=>cond (beq e a && beq l r.w && wr && !(beq d j)) (aW (kj o 0 h) λp=>k (.ow d) [(d,some (.arr e r p true)),(j,none)] [j] (.one d)) none
     |none=>none
    |_=>none
   |_=>none
  |none=>none
 |some y,none,none=>Vv T ev hg t x y λc m=>k c [] m .no
 |_,_,_=>none
def exO(T:EQ->bz)(s:Do kS)(n:Nat)(ev:Nat->EV)(hg:Nat->At eD)(o:Oper)(k:EV->fv->a_->Fr->At b):At b:=
 match o.dst with
 |some d=>cond (blt d n) (match o.op with
  |.call ⟨.value f,h,_⟩=>match fnE ev f with
   |some (f,u,cs)=>Io hg d f (u++(h.toList.map (e7 ev)++cs)) k s
   |none=>none
  |.box t x=>exM T ev hg d (.box t x) k
  |.alloc t=>exM T ev hg d (.alloc t) k
  |.makeSlice t x y=>cond (akw gNr n d) (Ii T ev d t x y k) (exM T ev hg d (.makeSlice t x y) k)
  |.makeMap t x=>exM T ev hg d (.makeMap t x) k
  |.slice t x m l q=>cond (akw gNr n d) (Ip T ev hg d t x m l q k) (exM T ev hg d (.slice t x m l q) k)
  |.buildSlice t i j=>match aeP ev i j.toList with
   |some p=>Vt T d t p k
   |none=>cond (akw gNr n d) (Vn T ev hg d t i j.toList k) (exM T ev hg d (.buildSlice t i j) k)
  |.call ⟨.builtin .append,h,r⟩=>match aeQ ev hg h,h.toList.head?,r with
   |some p,some x,⟨[t,w]⟩=>Vu T ev hg d t w x p k
   |_,_,_=>exM T ev hg d (.call ⟨.builtin .append,h,r⟩) k
  |.mapEntry t x y=>GQ T ev hg t x y λc g a=>k c g a .no
  |op=>exR T ev hg op λc a=>k c [] a .no) none
 |none=>match o.op with
  |.store t x y=>NF T ev hg t x y λg a=>k .un g a .no
  |.mapUpdate t x y v=>AZ T ev hg t x y v λg a=>k .un g a .no
  |.insert t x y v=>AZ T ev hg t x y v λg a=>k .un g a .no
  |.entryStore t x y v=>Ec T ev hg t x y v λg a=>k .un g a .no
  |.call ⟨.builtin .clear,⟨[x]⟩,⟨[t]⟩⟩=>NG T ev hg t x λg a=>k .un g a .no
  |_=>none
section
variable{P:Fd}{T:EQ->bz}{ev:Nat->EV}{hg:Nat->At eD}{n d:Nat}{ty:EQ}{pos:String}{af:dY}{gd:gg}
variable{st:St}{K:St->Prop}
def anL{args:gV}(b:Sk ev st)(a:∀c∈args.toList.map (e7 ev),c≠.un):args.toList.map st.ev=cw (args.toList.map (e7 ev)):=by
 rw[ei,axe];refine aw3 λx f=>?_;exact b.is rfl (a _ (awe.2 ⟨x,f,rfl⟩))
def QD{p:Nat->In}:∀{os:fv} {h:Hp},Gs hg os->(∀k o,(k,o)∈os->p k=false)->iR p (bF os++h)=bF os++iR p h
 |[],h,_,_=>rfl
 |(k,o)::os,h,b,f=>by
  obtain⟨t,r,g,wr,j,rfl⟩:=b k o d5;have i:=QD (os:=os) (h:=h) (λk o a=>b k o (by simp[a])) (λk o a=>f k o (by simp[a]));simp only[bF,axh,iR,i,f k _ (by simp:(k,some (eD.arr t r g false))∈(k,some (eD.arr t r g false))::os)];rfl
def ab6(π:Nat->Nat)(f:PO){cs:Do EV}(h:kO cs):(jv (vG π f) cs).1=(jv f cs).1.map (NL π)/\(jv (vG π f) cs).2=(jv f cs).2/\kO (jv f cs).2:=by
 cases f with
 |box t l=>
  obtain⟨a,b,c⟩:=hZ π l h;exact⟨by simp only[vG,jv,a,Option.map,NL],by simp only[vG,jv,b],c⟩
 |arr t r wr=>
  refine⟨?_,rfl,h.tail⟩;simp only[vG,jv];rcases kz h with e|⟨s,x,e⟩
  .rw[e];rfl
  .rw[e]
   simp only[akr];cases eT s (.sl r) x<;>rfl
 |mp d j o=>
  refine⟨?_,rfl,h.tail⟩;simp only[vG,jv];rcases kz h with e|⟨s,x,e⟩
  .rw[e];rfl
  .rw[e]
   simp only[mpE];cases eT s (.sl (.pr j o)) x<;>rfl
 |nr t r i=>
  cases i with
  |none=>
   refine⟨?_,rfl,h.tail⟩;simp only[vG,jv];rcases kz h with e|⟨s,x,e⟩
   .rw[e];rfl
   .rw[e]
    simp only[nrE];cases eT s (.sl (.sl r)) x<;>rfl
  |some q=>
   obtain⟨v,p⟩:=q;refine⟨?_,rfl,h.tail.tail⟩;simp only[vG,jv];rcases kz h with e|⟨s,x,e⟩
   .rw[e];rfl
   .rw[e]
    rcases kz h.tail with g|⟨m,u,g⟩
    .rw[g];rfl
    .rw[g]
     simp only[anH];cases eT s (.sl (.sl r)) x with
     |none=>rfl
     |some y=>cases eT m (.i .i64) u<;>rfl
 |qr t k w=>
  refine⟨?_,rfl,h.tail⟩;simp only[vG,jv];rcases kz h with e|⟨s,x,e⟩
  .rw[e];rfl
  .rw[e]
   simp only[qrE];cases eT s (.sl (.i .i64)) x<;>rfl
def Iq{D:bu}{B:Nat}:∀(i:Do (Nat×PO)) {ws:Do EV} (rest:Do EV),Im hg D B i=some ws->kO (ws++rest)->
 (∀p j,bH (vD i (ws++rest)) p=some j->∃k o,yA D p=some k/\hg k=some o/\QB o=true/\∀Rd e w,OR Rd e w k (cA o)->OR Rd e w k (cA (NL (gC D B) j)))/\
 (∀p,i.any (λr=>beq r.1 p)=true->∃k o,yA D p=some k/\hg k=some o/\QB o=true)
 |[],ws,rest,h,u=>⟨λp j l=>(by cases l),λp F=>(by cases F)⟩
 |(p,y)::i,ws,rest,h,u=>by
  simp only[Im]at h;split at h
  next k t=>
   split at h
   next o l=>
    obtain⟨s,g⟩:=aY h;split at g
    next a A=>
     split at g
     next b C=>
      cases g;have v:kO (a++(b++rest)):=by rw[<-awx];exact u
      obtain⟨z,N,m,M⟩:=XA (vG (gC D B) y) (b++rest) A;obtain⟨J,L,O⟩:=ab6 (gC D B) y v;have G:kO (b++rest):=λc E=>v c (awc.2 (.inr E));obtain⟨H,I⟩:=Iq i rest C G;refine⟨λq j f=>?_,λq f=>?_⟩
      .simp only[vD,awx,bH]at f
       rw[L]at z;rw[z]at f;by_cases e:q=p
       .subst e
        rw[awD]at f;simp only[awv]at f;rw[J,f]at m;simp only[Option.map,av6]at m;subst m;exact⟨k,o,t,l,s,λRd e w=>M Rd e w k⟩
       .rw[jF e]at f
        exact H q j f
      .simp only[axY,aw2]at f
       rcases f with f|f
       .have:=awb f
        subst this;exact⟨k,o,t,l,s⟩
       .exact I q f
     .cases g
    .cases g
   .cases h
  .cases h
def xK(hg:Nat->At eD):∀gs:a_,Gs hg (h8 hg gs)/\∀p∈h8 hg gs,gs.contains p.1=true
 |[]=>⟨λk o h=>(by cases h),λp h=>(by cases h)⟩
 |k::gs=>by
  obtain⟨a,b⟩:=xK hg gs;simp only[h8];split
  next t r g wr f=>
   refine⟨λj o h=>?_,λp h=>?_⟩
   .rcases awr.1 h with h|h
    .cases h;exact⟨t,r,g,wr,f,rfl⟩
    .exact a j o h
   .rcases awr.1 h with rfl|h
    .simp
    .have:=b p h;simp at this⊢;exact .inr this
  .exact⟨a,λp h=>by have:=b p h;simp at this⊢;exact .inr this⟩
def ae2{q:Bs}{l:bL}{e:Env}{h:Hp}{w:GE}{p:a_}(z:SR q l e h w)(y:HC hg p h):∀gs:a_,(∀k,gs.contains k=true->p.contains k=true)->
 ∃e1,qn q l e h w e1 (bF (h8 hg gs)++h)/\∀k,gs.contains k=true->∀t r i wr,hg k=some (.arr t r i wr)->VR (bT q l e1 (bF (h8 hg gs)++h) w) none (.sl false r.w (List.map (bM r) i)) (e.sv k)
 |[],_=>⟨e,qn.refl z,λk f=>by simp at f⟩
 |k::gs,A=>by
  obtain⟨e1,g,B⟩:=ae2 z y gs (λj a=>A j (by simp at a⊢;exact .inr a));simp only[h8];split
  next t r i wr f=>
   have I:HC hg p (bF (h8 hg gs)++h):=y.put (xK hg gs).1 λ_ h=>h;obtain⟨M,L⟩:=I k (A k d5) t r i wr f;obtain⟨C,E,v,F,G,H⟩:=g.sr.UU L;refine⟨C,g.trans ⟨E,v,F,G⟩,λj a o m u s b=>?_⟩;by_cases e:j=k
   .subst e
    rw[f]at b;cases b;rw[<-g.sv j];exact H
   .have a:gs.contains j=true:=by simp at a⊢;exact a.resolve_left e
    exact(B j a o m u s b).mono v
  next J=>
   refine⟨e1,g,λj a o m u s b=>?_⟩;by_cases e:j=k
   .subst e
    exact absurd b (J _ _ _ _)
   .exact B j (by simp at a⊢;exact a.resolve_left e) o m u s b
def Vy{e:Env}(g:SR H j e C m)(f:bc C B=some (cA Q))(a:QB Q=true):e.cX B=0:=by
 have:=g.ob B _ f;cases Q with
 |box t cs=>exact this.1
 |arr t r b wr=>exact this.2.2.1 a
 |_=>exact this.1
def aky{h:Hp}(a:∀p∈R,p.1≠B):bc (bF R++h) B=bc h B:=by
 rw[eP,GO];rw[av2];simp only[axR,ayX,not_exists,not_and];exactλp b=>a p b
def QE{D:bu}{cs:Do EV}:cw (vE (gC D B) cs)=(cw cs).map (AV.jh (gC D B)):=by rw[oj,mi]
section
variable{c:kS}{aS:Do EV}{D:bu}{vs ws:Do EV}{gs:a_}{x:mq c.cs}
def Lw{e:Env}(t:SR H j e C m)(i:∀p,c.hs.any (λr=>beq r.1 p)=true->∃k o,yA D p=some k/\hg k=some o/\QB o=true)(l:D.all (λq=>c.hs.any λr=>beq r.1 q.1)=true)
 (s:∀k o,(∃p,yA D p=some k)->hg k=some o->bc C k=some (cA o)):Handed D e C:=by
 intro p k f;have h:=awt.1 l _ (gU f);obtain⟨u,o,a,b,g⟩:=i p h;rw[f]at a;cases a;have:=s k o ⟨p,f⟩ b;exact⟨⟨_,this⟩,Vy t this g⟩
def vJ(M:nc hg c.pu (pd (gC D (1000*(d+1))) c.ps) aS=some (vs,gs))(Z:Im hg D (1000*(d+1)) c.hs=some ws)(A:vs++ws=iU c.cs x)
 (H:gs.all (λk=>(UQ D k).isNone)=true) (I:D.all (λq=>c.hs.any λr=>beq r.1 q.1)=true) (m:(c.pu||gs.all (QC hg))=true) (U:c.pu=false) (Q:Gp (D.map (·.2))=true) {st:St} (s:Hk hg (gs++D.map (·.2)) st):
 Xb st D (1000*(d+1)) (bF (h8 hg gs)++st.h) (bF (c.H0 x)) (cw (c.as x)) (cw aS):=by
 intro E i e w us Y R;have y:kO (vs++ws):=by rw[A];exact vH _ _
 have z:kO ws:=λc O=>y c (awc.2 (.inr O));obtain⟨e1,b,v1⟩:=ae2 Y s.hc gs (λk a=>by simp at a⊢;exact .inl a);have X:∀k,gs.contains k=true->QC hg k=true:=λk a=>by
  rw[U]at m;exact awt.1 (by simpa using m) k (by simpa using a)
 have g:GF hg (bT E i e st.h w) (bT E i e1 (bF (h8 hg gs)++st.h) w) e e1 gs:=
  ⟨b.rd,b.ca,b.sv,v1,λk a t cs _ N=>by have:=X k a;unfold QC at this;rw[N]at this;cases this⟩
 obtain⟨j,l⟩:=mr g _ ws z M (λk h=>h);obtain⟨B,C,r3⟩:=hZ (gC D (1000*(d+1))) c.ps y;rw[A]at B C j l;have L:c.H0 x=vD c.hs ws:=by unfold kS.H0;rw[<-C,j]
 obtain⟨F,x2⟩:=Iq c.hs [] Z (by simpa using z);rw[awN]at F;have u:∀k o,(∃p,yA D p=some k)->hg k=some o->bc (bF (h8 hg gs)++st.h) k=some (cA o):=by
  rintro k o ⟨p,a⟩ f;have W:UQ D k=some p:=oe Q (gU a);rw[aky λq V=>?_]
  .exact s.at (by simp only[azv,awc,awJ];exact .inr (awe.2 ⟨_,gU a,rfl⟩)) f
  .rintro rfl
   have J:=(xK hg gs).2 q V;have:=awt.1 H q.1 (by simpa using J);rw[W]at this;cases this
 refine⟨e1,b,Lw b.sr x2 I u,λp ob v=>?_,?_⟩
 .rw[L,dw]at v
  obtain⟨o',S,rfl⟩:=awC.1 v;obtain⟨k,o,G,y2,y3,y4⟩:=F p o' S;refine⟨k,_,G,u k o ⟨p,G⟩ y2,λRd f=>?_⟩;rw[<-Ik];exact y4 Rd e1 w f
 .have:=l us R
  rw[B,QE]at this;exact this
def Bb{a0:Do EV}{B:a_}(S:Ed hg aS=(a0,B,true))(ha:nc hg c.pu (pd (gC D (1000*(d+1))) c.ps) a0=some (vs,gs))(hw:Im hg D (1000*(d+1)) c.hs=some ws)(hx:vs++ws=iU c.cs x)
 (h2:(B++gs).all (λk=>(UQ D k).isNone)=true) (h3:D.all (λq=>c.hs.any λr=>beq r.1 q.1)=true) (ah:Gp (D.map (·.2))=true) {st:St} (hH:Hk hg ((B++gs)++D.map (·.2)) st):
 U0 st D (1000*(d+1)) (bF (c.H0 x)) (cw (c.as x)) (cw aS):=by
 intro w0 ad e w us C I;have aa:kO (vs++ws):=by rw[hx];exact vH _ _
 have ab:kO ws:=λc l=>aa c (awc.2 (.inr l));obtain⟨x1,x2⟩:=Iq c.hs [] hw (by simpa using ab);rw[awN]at x1;have H:∀k o,(B++gs).contains k=true->hg k=some o->bc st.h k=some (cA o):=λk o f i=>hH.at (by simp at f⊢;rcases f with f|f<;>simp[f]) i;have X:∀k o,(∃p,yA D p=some k)->hg k=some o->bc st.h k=some (cA o):=by
  rintro k o ⟨p,f⟩ i;exact hH.at (by simp only[azv,awc,awJ];exact .inr (awe.2 ⟨_,gU f,rfl⟩)) i
 have Y:Handed D e st.h:=Lw C x2 h3 X;have W:∀k o b,(B++gs).contains k=true->hg k=some o->e.ca k=some b->¬(cB D (1000*(d+1)) e w).iP b:=by
  rintro k o b f i hb (V|⟨p,N,l,R⟩)
  .have:=(C.base k _ b (H k o f i) hb).2
   simp only[cB]at V;omega
  .obtain⟨⟨ob,aj⟩,_⟩:=Y p N l
   have:=C.inj _ _ _ _ _ (H k o f i) aj hb R;subst this;have h5:=awt.1 h2 k (by simpa using f);rw[oe ah (gU l)]at h5;cases h5
 have J:∀b o u,bT w0 ad e st.h w b o u->RB D (1000*(d+1)) e w b o u:=by
  rintro b o u ⟨y,M,E⟩;refine⟨y,?_⟩;rintro(V|⟨p,N,l,R⟩)
  .have:=ax7 w _ y
   simp only[cB]at V;simp only at this;omega
  .obtain⟨⟨ob,i⟩,I⟩:=Y p N l
   have:=E N ob i R;omega
 have al:∀k,(B++gs).contains k=true->∀t r z wr,hg k=some (.arr t r z wr)->aeY e (RB D (1000*(d+1)) e w) k r z:=λk f t r z wr i b' O=>by
  obtain⟨y,M,E,Z⟩:=C.ob k _ (H k _ f i);rcases Z with⟨m,v,a,F⟩|⟨b,ae,G,m,v,F,a4,Q,a6,A,a8⟩
  .rw[v]at O;cases O
  .rw[m]at O
   cases O;refine⟨G.toList.take (List.map (bM r) z).flatten.length,⟨A.1,λj c u l L=>(A.2 j c u l L).mono J⟩,λj u s=>?_⟩;have U:j<(List.map (bM r) z).flatten.length:=by
    have:=(av7.1 s).1;rw[A.1]at this;exact this
   rw[awP,av3 U]at s;exact⟨by rw[aw8 w b' j G t (0,0) Q];simpa using s,W k _ b' f i m⟩
 have g:GF hg (RB D (1000*(d+1)) e w) (RB D (1000*(d+1)) e w) e e (B++gs):=by
  refine⟨λ_ _ _ h=>h,λ_=>rfl,λ_=>rfl,λk f t r z wr i=>?_,λk f t cs ak i=>?_⟩
  .obtain⟨y,M,E,Z⟩:=C.ob k _ (H k _ f i)
   rcases Z with⟨m,v,a,F⟩|⟨b,ae,G,m,v,F,a4,Q,a6,A,a8⟩
   .rw[m,F]
    exact VR.sl (rows:=[]) [] d5 d5 rfl d5 (av5 _) (awy _) d5 d5
   .rw[v]
    refine VR.sl (G.toList.take (List.map (bM r) z).flatten.length) y M A.1 (λj c u l L=>(A.2 j c u l L).mono J) F a4 d5 (λ_=>⟨b,0,rfl,λj u s=>?_⟩);have U:j<(List.map (bM r) z).flatten.length:=by
     have:=(av7.1 s).1;rw[A.1]at this;exact this
    rw[awP,av3 U]at s;exact⟨by rw[awB,aw8 w b j G t (0,0) Q];simpa using s,W k _ b f i m⟩
  .obtain⟨q0,b,ac,y,M,E⟩:=C.ob k _ (H k _ f i)
   refine⟨b,ac,y,⟨E.1,λj c u l L=>(E.2 j c u l L).mono J⟩,λj u s=>⟨?_,W k _ b f i y⟩⟩;rw[aw8 w b j ac.toArray t (0,0) (M.cells ak)];simpa using s
 have I:=XB (hg:=hg) J aS (by rw[S];exactλk f=>al k (by simp at f⊢;exact .inl f)) (by rw[S]) I;rw[S]at I;obtain⟨m,v⟩:=mr g _ ws ab ha (λk h=>by simp at h⊢;exact .inr h);obtain⟨r1,r2,r3⟩:=hZ (gC D (1000*(d+1))) c.ps aa;rw[hx]at r1 r2 m v;have ag:c.H0 x=vD c.hs ws:=by unfold kS.H0;rw[<-r2,m]
 refine⟨Y,λp ob a9=>?_,?_⟩
 .rw[ag,dw]at a9
  obtain⟨o',ai,rfl⟩:=awC.1 a9;obtain⟨k,o,y1,y2,y3,y4⟩:=x1 p o' ai;refine⟨k,_,y1,X k o ⟨p,y1⟩ y2,?_⟩;rw[<-Ik];exact y4 _ e w ((C.ob k _ (X k o ⟨p,y1⟩ y2)).mono J)
 .have:=v us I
  rw[r1,QE]at this;exact this
end
def QF(D:bu):bF (aeX D)=qo D:=by
 induction D with
 |nil=>rfl
 |cons q D a=>simp only[aeX,awo,bF,qo,Option.map]at a⊢;rw[a]
mutual
def Vz:∀c:EV,c.pu=true->(enc c).pu=true
 |.un,_=>rfl
 |.sc s x,h=>by cases s<;>first|rfl|(simp[EV.pu]at h)
 |.nil,_=>rfl
 |.ts r g,h=>by simp[EV.pu]at h
 |.v x,_=>rfl
 |.ow k,_=>rfl
 |.pt k o,_=>rfl
 |.pe k i b o,_=>rfl
 |.sw k l n b,_=>rfl
 |.mp k,_=>rfl
 |.fp cs,h=>by simp[EV.pu]at h
 |.ag cs,h=>by simp only[EV.pu]at h;simp only[enc,AV.pu];exact xL cs h
 |.tu cs,h=>by simp only[EV.pu]at h;simp only[enc,AV.pu];exact xL cs h
 |.cl f a cs,h=>by simp only[EV.pu,av4]at h;simp only[enc,AV.pu,xL a h.1,xL cs h.2];rfl
def xL:∀cs:Do EV,EV.KI cs=true->AV.KI (cw cs)=true
 |[],_=>rfl
 |c::cs,h=>by simp only[EV.KI,av4]at h;simp only[cw,AV.KI,Vz c h.1,xL cs h.2];rfl
end
def GV:∀(s:Sc) (x:s.dp),s.ns=true->∀c∈bM s x,c.pu=true
 |.i _,_,_,c,h=>by simp only[bM,awq]at h;subst h;rfl
 |.b,_,_,c,h=>by simp only[bM,awq]at h;subst h;rfl
 |.sl _,_,b,c,h=>by simp[Sc.ns]at b
 |.pr a f,x,b,c,h=>by
  simp only[Sc.ns,av4]at b;simp only[bM,awc]at h;exact h.elim (GV a x.1 b.1 c) (GV f x.2 b.2 c)
 |.u,_,_,c,h=>by simp[bM]at h
def XC:∀{cs:Do AV},(∀c∈cs,c.pu=true)->AV.KI cs=true
 |[],_=>rfl
 |x::cs,a=>by simp[AV.KI,a x d5,XC (cs:=cs) λc b=>a c (by simp[b])]
def akz(s:Sc)(x:s.dp)(f:s.ns=true):(enc (kg s x)).pu=true:=by
 cases s with
 |i k=>rfl
 |b=>rfl
 |sl r=>simp[Sc.ns]at f
 |pr a g=>simp only[kg,enc,hY,AV.pu];exact XC (GV _ _ f)
 |u=>rfl
def anM(b:puH R=true):ans (bF R):=by
 intro k ob f;rw[dw]at f;obtain⟨o,a,rfl⟩:=awC.1 f;clear f;have:o.pu=true:=by
  induction R with
  |nil=>cases a
  |cons p R m=>
   obtain⟨j,w⟩:=p;simp only[puH,axb,av4]at b;simp only[bH]at a;by_cases e:k=j
   .subst e
    rw[awD]at a;simp only[awv]at a;subst a;exact b.1
   .rw[jF e]at a
    exact m (by simpa[puH]using b.2) a
 cases o with
 |box t cs=>exact xL cs this
 |arr t r g wr=>
  intro c h;obtain⟨q,l,i⟩:=ax5.1 h;obtain⟨z,_,rfl⟩:=awe.1 l;exact GV r z this c i
 |mp d v s u=>
  intro p b;obtain⟨q,_,rfl⟩:=awe.1 b;exact akz s q.2 this
 |_=>cases this
def ENE(P:Fd)(a:Op)(ev:Nat->EV)(f:FuncId)(aS:Do EV):Prop:=
 ∀(st:St) (d:Nat) (ty:EQ) (pos:String) (af:dY) (gd:gg),Sk ev st->PF P ⟨some d,a,ty,pos,af,gd⟩ st f (cw aS)
def ae3{c:kS}(A:c.ok P){L:Op}{aS:Do EV}(m:(∀c∈aS,c≠.un)->ENE P L ev c.f aS){k:EV->fv->a_->Fr->At b}{r:b}(hd:d<n)(h:ae1 hg d c aS k=some (some r)):
 ∃e os us U,FS P ⟨some d,L,ty,pos,af,gd⟩ n ev hg e os us U/\k e os us U=some r:=by
 unfold ae1 at h;obtain⟨a4,h⟩:=aY h;have a3:∀c∈aS,c≠.un:=λc A e=>by
  have:=awt.1 a4 c A;rw[e]at this;cases this
 have m:=m a3;generalize Qy hg c.hs (sJ c.ps aS [])=D at h;unfold aeZ at h;generalize a:cond c.pu (Ed hg aS) (aS,[],true)=aw at h;obtain⟨a5,M,ck⟩:=aw;simp only at h;split at h
 next vs gs z=>
  split at h
  next ws F=>
   split at h
   next x q=>
    have q:=Ba q;obtain⟨l,h⟩:=aY h;simp only[av4]at l;obtain⟨⟨⟨G,I⟩,J⟩,Z⟩:=l;have B:Gp (D.map (·.2))=true:=by simp only[PE,av4]at G;exact G.1.2
    have h:=av_ h;obtain⟨rfl,h⟩:=aY h;obtain⟨y,hy,l⟩:=bp h;obtain⟨e,H,a0,Q,Y,v⟩:=A.2 x y hy;rw[a0]at l;have C:=xK hg (M++gs);rcases bR l with⟨R,l⟩|⟨R,a2⟩
    .obtain⟨g,N⟩:=aY l
     simp only[av4]at g;refine⟨_,_,_,_,λst hn w u j=>?_,N⟩;have X:∀k o,(k,o)∈h8 hg (M++gs)->(Fr.ca (1000*(d+1))).p k=false:=λk o W=>by
      cases hp:(Fr.ca (1000*(d+1))).p k with
      |false=>rfl
      |true=>
       obtain⟨t,r',xs,wr,e1,_⟩:=C.1 k o W;have S:=u.at (by have:=C.2 (k,o) W;simp at this⊢;rcases this with this|this<;>simp[this]) e1;rw[j.k k hp]at S;cases S
     cases i:c.pu with
     |false=>
      rw[i]at a;simp only[av8,awn]at a;obtain⟨rfl,rfl,_⟩:=a;simp only[awL]at C X;have f:=vJ z F q I J Z i B u;have:=SS.ap_ (P:=P) (op:=L) (ty:=ty) (pos:=pos) (af:=af) (gd:=gd) (d:=d)
       (K:=λs=>s=⟨st.n,kX (some d) (enc (ym (gC D (1000*(d+1))) e)) (tZ (oY (1000*(d+1))) st.t),bF (Fj (gC D (1000*(d+1))) H++(aeX D++h8 hg gs))++iR (oY (1000*(d+1))) st.h⟩) v (m st d ty pos af gd w) f G g.1 g.2 bv (by
       rw[QD (p:=oY (1000*(d+1))) (h:=st.h) C.1 X,gi,gi,vF,GU,QF,awx,awx];rfl)
      exact SS.aep j.t j.h j.k this
     |true=>
      rw[i]at a;simp only[awv]at a;have f:=Bb a z F q I J B u;have E:=Y i;have:=SS.Xc (P:=P) (op:=L) (ty:=ty) (pos:=pos) (af:=af) (gd:=gd) (d:=d)
       (K:=λs=>s=⟨st.n,kX (some d) (enc (ym (gC D (1000*(d+1))) e)) (tZ (oY (1000*(d+1))) st.t),bF (Fj (gC D (1000*(d+1))) H++(aeX D++[]))++iR (oY (1000*(d+1))) st.h⟩) v (Vz _ E.1) (anM E.2) (m st d ty pos af gd w) f G g.1 g.2 bv (by
       rw[gi,gi,vF,GU,QF,awx,awx];rfl)
      exact SS.aep j.t j.h j.k this
    .have a1:=A.1 R
     have Q:=Q R;subst Q;obtain⟨g,N⟩:=aY a2;simp only[av4]at g;have hD:D=[]:=by simpa using g.2
     subst hD;have O:c.H0 x=[]:=by unfold kS.H0;rw[a1];rfl
     rw[O]at v;refine⟨_,_,_,_,λst hn w u j=>?_,N⟩;have V:Hk hg ((M++gs)++([]:bu).map (·.2)) st:=by simpa using u
     cases i:c.pu with
     |false=>
      rw[i]at a;simp only[av8,awn]at a;obtain⟨rfl,rfl,_⟩:=a;have f:=vJ z F q I J Z i B V;rw[O]at f;exact SS.aqc v (m st d ty pos af gd w) f g.1 bv rfl
     |true=>
      rw[i]at a;simp only[awv]at a;have f:=Bb a z F q I J B V;rw[O]at f;have E:=Y i;exact SS.anu v (Vz _ E.1) (m st d ty pos af gd w) f g.1 bv rfl
   .cases h
  .cases h
 .cases h
def ab7{f:Do kS}(i:∀c∈f,c.ok P){o:Op}{aS:Do EV}(t:(∀c∈aS,c≠.un)->ENE P o ev v aS){k:EV->fv->a_->Fr->At b}{r:b}(s:d<n)(h:Io hg d v aS k f=some r):
 ∃e p q l,FS P ⟨some d,o,ty,pos,af,gd⟩ n ev hg e p q l/\k e p q l=some r:=by
 induction f with
 |nil=>cases h
 |cons c cs m=>
  simp only[Io]at h;rcases bR h with⟨g,a⟩|⟨_,a⟩
  .have g:=awb g
   split at a
   next w u=>subst g;subst a;exact ae3 (i c d5) t s u
   .exact m (λc j=>i c (by simp[j])) a
  .exact m (λc j=>i c (by simp[j])) a
def anN{x:If}{h cs:Do EV}{b:gV}{f:jP}(a:fnE ev x=some (v,h,cs))(o:∀c∈h++(b.toList.map (e7 ev)++cs),c≠.un):ENE P (.call ⟨.value x,b,f⟩) ev v (h++(b.toList.map (e7 ev)++cs)):=by
 intro st d ty pos af gd k;have m:=anL (args:=b) k λc l=>o c (by simp only[awc];exact .inr (.inl l));rw[mn,mn,<-m];unfold fnE at a;split at a
 .cases a
  have:=PF.func (P:=P) (d:=d) (ty:=ty) (pos:=pos) (af:=af) (gd:=gd) (st:=st) (f:=v) (args:=b) (ts:=f);simpa only[cw,awL,awN]using this
 next i=>
  split at a
  next g j=>cases a;have:=PF.val (P:=P) (d:=d) (ty:=ty) (pos:=pos) (af:=af) (gd:=gd) (st:=st) (f:=v) (args:=b) (ts:=f) (k.is (x:=.tmp i) j d8);simpa only[cw,awL,awN]using this
  next g q p j=>cases a;have:=PF.cl (P:=P) (d:=d) (ty:=ty) (pos:=pos) (af:=af) (gd:=gd) (st:=st) (f:=v) (args:=b) (ts:=f) (k.is (x:=.tmp i) j d8);rw[<-awx];exact this
  .cases a
 .cases a
def QG(A:hS P T){x:If}{E i F:jO}{k:EV->fv->a_->Fr->At b}{r:b}(L:d<n)(h:Ip T ev hg d a x E i F k=some r):
 ∃c G p v,FS P ⟨some d,.slice a x E i F,ty,pos,af,gd⟩ n ev hg c G p v/\k c G p v=some r:=by
 unfold Ip at h;split at h
 next y=>
  split at h
  next e sz f z M=>
   split at h
   next j R=>
    split at h
    next W u H wr O=>
     split at h
     next N i=>
      obtain⟨q,I⟩:=aY h;simp only[av4,axi]at q;obtain⟨⟨⟨s,t⟩,U⟩,o⟩:=q;have s:=awb s;subst s;have t:=awb t;subst t;subst U;have o:d≠j:=λe=>by rw[e,awD]at o;cases o
      obtain⟨zs,l,Q⟩:=bp I;unfold kj at l;split at l
      next X=>
       obtain rfl:=av_ l;refine⟨_,_,_,_,?_,Q⟩;intro st Y C J B;obtain⟨Z,S⟩:=kY i C;obtain⟨m,rfl⟩:=nN N;have:=SS.aeR (P:=P) (t:=a) (x:=x) (y:=y) (ty:=ty) (pos:=pos) (af:=af) (gd:=gd) (d:=d) (k:=j) (m:=m) (rows:=List.map (bM u) H) (K:=λV=>V=⟨st.n,kX (some d) (.ow d) (dm d st.t),((d,some (.arr e u.w ((List.map (bM u) H).take m) true))::(j,none)::[])++bx d st.h⟩)
        (A.el _ _ M) (C.is R d8) (J.at d5 O) S o (by rw[awa];omega) bv rfl
       have w:=SS.fresh B.t B.h this;rw[<-ays]at w;exact w
      .cases l
     .cases h
    .cases h
   .cases h
  .cases h
 .obtain⟨c,p,g,f⟩:=ab3 A h
  exact⟨c,_,p,_,FS.read g L,f⟩
 .cases h
def FS.insert{x y v:If}{c:EV}{f:a_}(h:FS P ⟨none,.mapUpdate a x y v,ty,pos,af,gd⟩ n ev hg c R f O):FS P ⟨none,.insert a x y v,ty,pos,af,gd⟩ n ev hg c R f O:=by
 intro st i j k l p g e b w next Q m o
 have:=h st i j k l p g e b w next Q m o
 unfold Oper.wp at this⊢;simpa[execOp,Oper.upon]using this
def VA{z:Do kS}(l:hS P T)(C:∀c∈z,c.ok P){k:EV->fv->a_->Fr->At b}{r:b}(h:exO T z n ev hg I k=some r):
 ∃c s m u,FS P I n ev hg c s m u/\k c s m u=some r/\∀d,I.dst=some d->d<n:=by
 obtain⟨L,A,ty,pos,af,gd⟩:=I;unfold exO at h;split at h
 next d w=>
  simp only at w;subst w;obtain⟨B,j⟩:=aY h;have o:d<n:=awd B;have E:∀v,some d=some v->v<n:=λv e=>by cases e;exact o
  have q:(∃c s m u,FS P ⟨some d,A,ty,pos,af,gd⟩ n ev hg c s m u/\k c s m u=some r)->∃c s m u,FS P ⟨some d,A,ty,pos,af,gd⟩ n ev hg c s m u/\k c s m u=some r/\∀v,some d=some v->v<n:=by
   rintro⟨c,s,m,u,a,g⟩;exact⟨c,s,m,u,a,g,E⟩
  split at j
  next f J Q i=>
   simp only at i;subst i;split at j
   next M N cs F=>exact q (ab7 (ty:=ty) (pos:=pos) (af:=af) (gd:=gd) C (λG=>anN F G) o j)
   .cases j
  next i=>simp only at i;subst i;exact q (zV l o j)
  next i=>simp only at i;subst i;exact q (zV l o j)
  next i=>
   simp only at i;subst i;rcases bR j with⟨_,j⟩|⟨_,j⟩
   .exact q (Qp l o j)
   .exact q (zV l o j)
  next i=>simp only at i;subst i;exact q (zV l o j)
  next i=>
   simp only at i;subst i;rcases bR j with⟨_,j⟩|⟨_,j⟩
   .exact q (QG l o j)
   .exact q (zV l o j)
  next i=>
   simp only at i;subst i;split at j
   next p y=>exact q (ab1 (ty:=ty) (pos:=pos) (af:=af) (gd:=gd) l o y j)
   .rcases bR j with⟨_,j⟩|⟨_,j⟩
    .exact q (abZ l o j)
    .exact q (zV l o j)
  next i=>
   simp only at i;subst i
   split at j
   next p x t O y H=>exact q (ab2 (ty:=ty) (pos:=pos) (af:=af) (gd:=gd) l o y H j)
   .exact q (zV l o j)
  next i=>
   simp only at i;subst i
   obtain⟨c,_,_,_,_,_,_,_,a,g⟩:=Ij (ty:=ty) (pos:=pos) (af:=af) (gd:=gd) l o j;exact q ⟨c,_,_,_,a,g⟩
  .obtain⟨c,m,a,g⟩:=anE l j
   exact q ⟨c,_,m,_,FS.read a o,g⟩
 next w=>
  simp only at w;subst w;split at h
  next i=>
   simp only at i;subst i
   obtain⟨s,m,a,g⟩:=Vo (ty:=ty) (pos:=pos) (af:=af) (gd:=gd) l h;exact⟨_,_,_,_,a,g,λd e=>by cases e⟩
  next i=>
   simp only at i;subst i
   obtain⟨s,m,a,g⟩:=Fh (ty:=ty) (pos:=pos) (af:=af) (gd:=gd) l h;exact⟨_,_,_,_,a,g,λd e=>by cases e⟩
  next i=>
   simp only at i;subst i
   obtain⟨s,m,a,g⟩:=Fh (ty:=ty) (pos:=pos) (af:=af) (gd:=gd) l h;exact⟨_,_,_,_,FS.insert a,g,λd e=>by cases e⟩
  next i=>
   simp only at i;subst i
   obtain⟨s,m,a,g⟩:=NI (ty:=ty) (pos:=pos) (af:=af) (gd:=gd) l h;exact⟨_,_,_,_,a,g,λd e=>by cases e⟩
  next i=>
   simp only at i;subst i
   obtain⟨s,m,a,g⟩:=Vq (ty:=ty) (pos:=pos) (af:=af) (gd:=gd) l h;exact⟨_,_,_,_,a,g,λd e=>by cases e⟩
  .cases h
end
def ab8(P:Fd)(d:FuncId)(lb:ey)(c:Do ey)(Cl:GE->Prop):Prop:=
 ∀(l:Nat) (J:Nat->GE->Prop) (W:GE),(∀j W,J j W->Cl W)->(∀j W,J j W->J j W.drew)->
  (∀j b x,c[j]? =some x->J j b->YieldAt Fence.wide 0 P l x b λe a=>e=.returned (.bool true)/\J (j+1) a)->
  J 0 W->CallsIn Fence.wide 0 P d (#[.func (.yield l) #[] #[]]++lb) W λe a=>(∃v,e=.returned v)/\J c.length a
section
variable{P:Fd}{st:St}{dO:IR->St->Prop}
end
variable{g:In}{D:EV}{d:Nat}{G:Nat->At eD}{A:St}{E:bq}{K:a_}
def aqn{b x y:In}(h:cond b x y=true):(b=true/\x=true)\/(b=false/\y=true):=by
 cases b with
 |true=>exact .inl ⟨rfl,h⟩
 |false=>exact .inr ⟨rfl,h⟩
structure cY where
 n:Nat
 t:List (Nat×EV)
 h:fv
def br(E:cY):St:=⟨E.n,hP E.t,bF E.h⟩
def QH:cn->EV->Do (Nat×EV)->Do (Nat×EV)
 |some d,c,t=>(d,c)::t
 |none,_,t=>t
def QI(d:cn)(c:EV)(t:Do (Nat×EV)):hP (QH d c t)=kX d (enc c) (hP t):=by cases d<;>rfl
def aqo(p:Nat->In):eD->In
 |.nr _ _ _ a=>match a with
  |some (_,some j)=> !p j
  |_=>true
 |.qr _ a _ _=>match a with
  |some j=> !p j
  |none=>true
 |o=>(cA o).hL p
def Ir(p:Nat->In)(h:fv):In:=h.all λq=> !p q.1 && (match q.2 with
 |some o=>aqo p o
 |none=>true)
def akA{p:Nat->In}(h:aqo p Q=true):(cA Q).hL p=true:=by
 cases Q with
 |qr t d f e=>
  refine HU λc a=>?_;obtain⟨i,_,rfl⟩:=awe.1 a;cases d with
  |none=>rfl
  |some j=>exact h
 |nr t r e d=>
  refine HU λc a=>?_;have b:∀c∈e.map (nrA r),c.hL p=true:=λc a=>by
   obtain⟨x,_,rfl⟩:=awe.1 a;cases x<;>rfl
  match d,h,a with
  |none,_,a=>exact b c a
  |some (i,none),_,a=>
   rcases ayj a with a|rfl
   .exact b c a
   .rfl
  |some (i,some j),h,a=>
   rcases ayj a with a|rfl
   .exact b c a
   .exact h
 |_=>exact h
def oq{p:Nat->In}:∀{h:fv},Ir p h=true->sj p (bF h)=true
 |[],_=>rfl
 |(k,o)::h,a=>by
  simp only[Ir,axb,av4]at a;have b:=oq (p:=p) (h:=h) (by simpa[Ir]using a.2);unfold sj at b⊢;simp only[bF,axb,b,azi,av4];refine⟨a.1.1,?_⟩;cases o with
  |none=>rfl
  |some o=>exact akA a.1.2
def mT(a:Fr)(E:cY):In:=match a with
 |.no=>true
 |.one d=>DY (Fr.one d).p (hP E.t) && Ir (Fr.one d).p E.h
 |.ca B=>DY (Fr.ca B).p (hP E.t) && Ir (Fr.ca B).p E.h
def vx.no:vx .no A:=⟨λx=>zM _,λk ob _=>ob.zM,λk h=>by cases h⟩
def vx.of(c:DY O.p A.t=true)(b:sj O.p A.h=true):vx O A:=
 ⟨H3 c,λk ob a=>H4 b a,λk a=>qt (so b a)⟩
def ab9{E:cY}(h:mT O E=true):vx O (br E):=by
 cases O with
 |no=>exact vx.no
 |_=>simp only[mT,av4]at h;exact vx.of h.1 (oq h.2)
def Sk.enc(E:cY):Sk (dj E.t) (br E):=λi=>.inr (cU E.t i)
def Hk.enc(E:cY)(a:a_):Hk (bH E.h) a (br E):=λk _=>dw E.h k
noncomputable def aqp:Nat:=Classical.choose (⟨1,rfl⟩:∃n:Nat,n=1)
def akB:aqp=1:=Classical.choose_spec (⟨1,rfl⟩:∃n:Nat,n=1)
open Classical in
noncomputable def anO{R:Type}(f:In->At R):At R:=match f true,f false with
 |some a,some b=>if a=b then some a else none
 |_,_=>none
noncomputable def dem(f:In->At b):At b:=Nat.rec (motive:=λ_=>At b) none (λ_ _=>anO f) aqp
def anP(f:In->At b):dem f=anO f:=by
 unfold dem;rw[akB];rfl
def xM{f:In->At b}{r:b}:dem f=some r↔f true=some r/\f false=some r:=by
 rw[anP];unfold anO;cases d:f true with
 |none=>simp
 |some a=>
  cases g:f false with
  |none=>simp
  |some c=>
   simp only;split
   next h=>subst h;simp
   next h=>simp only[av6,reduceCtorEq,ayJ,not_and];rintro rfl e;exact h e.symm
inductive ItT where
 |go (d:Nat) (t:TypeId) (x:Operand)
 |nx (d:Nat) (x:Operand)
 |en (d:Nat) (x:Operand)
structure ItB where
 k:Nat
 km:Nat
 n0:Int
 m:Int
 c:Int
 kc:Sc
 vc:Sc
 es:List (kc.dp×vc.dp)
 d:TypeDesc
structure anQ where
 d:Nat
 t:TypeId
 x:Operand
 c:EV
 r:Sc
 xs:List r.dp
def anR(d:Nat)(t:EQ)(x:If):EV->At anQ
 |.sc (.sl r) a=>some ⟨d,t,x,.sc (.sl r) a,r,a⟩
 |.ts r a=>some ⟨d,t,x,.ts r a,r,a⟩
 |.nil=>some ⟨d,t,x,.nil,.b,[]⟩
 |_=>none
def aqq(o:Oper)(a:Nat->EV):At anQ:=match o.dst with
 |some d=>match o.op with
  |.binOp .eql t x (.const (.slice none 0 0)) _=>anR d t x (e7 a x)
  |_=>none
 |none=>none
section
variable(T:EQ->bz)(CT:Do kS)
noncomputable def sM(o:Oper)(E:cY)(k:cY->At b):At b:=
 match aqq o (dj E.t)with
 |some q=>cond (blt q.d E.n && blt 0 q.r.w && (T q.t).el.isSome) (cond (sG q.xs) (dem λa=>k ⟨E.n,(q.d,.sc .b a)::E.t,E.h⟩) (k ⟨E.n,(q.d,.sc .b false)::E.t,E.h⟩)) none
 |none=>exO T CT E.n (dj E.t) (bH E.h) o λc e f d=>cond (mT d E) (k ⟨E.n,QH o.dst c E.t,e++E.h⟩) none
def Is(d:cn)(E:cY):cY:=⟨E.n,QH d (.v (.tuple ⟨[]⟩)) E.t,E.h⟩
def Fk(d:cn)(n:Nat):In:=match d with
 |some d=>blt d n
 |none=>true
noncomputable def exG(d:bq)(o:Oper)(E:cY)(k:cY->At b):At b:=
 match o.guard with
 |none=>sM T CT o E k
 |some (j,a)=>match(d[j]?).bind (·.dst)with
  |some s=>match dj E.t s with
   |.sc .b c=>cond (blt s E.n && Fk o.dst E.n) (cond c
    (cond a (sM T CT o ⟨E.n,(s,.sc .b true)::E.t,E.h⟩ k) (k (Is o.dst ⟨E.n,(s,.sc .b true)::E.t,E.h⟩)))
    (cond a (k (Is o.dst ⟨E.n,(s,.sc .b false)::E.t,E.h⟩)) (sM T CT o ⟨E.n,(s,.sc .b false)::E.t,E.h⟩ k))) none
   |.v (.tuple ⟨[]⟩)=>cond (blt s E.n && Fk o.dst E.n) (k (Is o.dst E)) none
   |_=>none
  |none=>none
noncomputable def Gt(a:bq):bq->(E:cY)->{R:Type}->(cY->At R)->At R
 |[],E,_,k=>k E
 |o::l,E,_,k=>exG T CT a o E λb=>Gt a l b k
structure DN where
 d:cn
 c:EV
 os:fv
 us:a_
 fr:Fr
 sf:Option eD
def Fl(t:Do (Nat×EV)):Do DN->Do (Nat×EV)
 |[]=>t
 |u::a=>Fl (QH u.d u.c t) a
def ng(h:fv):Do DN->fv
 |[]=>h
 |u::a=>ng (u.os++h) a
def alE(s:At eD)(_:Nat)(ob:Ob):Prop:=∃d b e c a,s=some (.mp d b e c)/\ob=cA (.mp d b e (d_ b c a ((bN b c a).getD (zeroV e))))
def iW(u:DN):En:=⟨u.d,enc u.c,bF u.os,u.us,u.fr.p,alE u.sf⟩
def nwE(done:Do DN)(k:Nat):In:=done.all λw=> !fj k (bF w.os)
def sfE(E:cY)(o:Oper)(a:a_)(done:Do DN):At eD:=match o.op with
 |.lookup _ _ _ false=>match a with
  |[k]=>cond (nwE done k) (bH E.h k) none
  |_=>none
 |_=>none
def anT(o:Oper)(a:fv)(done:Do DN):In:=match o.op with
 |.mapEntry _ _ _=>a.all λp=>nwE done p.1
 |_=>false
def It(done:Do DN)(i:Nat):Do Edge->At EV
 |[]=>none
 |e::a=>cond (Region.binds .any e) (match done[e.on]? with
  |some u=>match u.d with
   |some d=>cond (beq d i) (some u.c) (It done i a)
   |none=>It done i a
  |none=>It done i a) (It done i a)
def nT(l:bq)(i:Nat):In:=match l with
 |[]=>true
 |o::l=>match o.dst with
  |some d=>cond (beq d i) false (nT l i)
  |none=>nT l i
def VB(l:bq)(t:Do (Nat×EV))(done:Do DN)(a:Do Edge)(i:Nat):EV:=
 match It done i a with
 |some c=>c
 |none=>cond (nT l i) (dj t i) (cond (aen l done.length i) (dj t i) .un)
def ae4(v u:DN):In:=v.os.all (λp=> !fj p.1 (bF u.os) && !u.us.contains p.1) && u.os.all (λp=> !v.us.contains p.1)
def ae5(v u:DN):In:=match u.fr with
 |.no=>true
 |.one d=>(enc v.c).hL (Fr.one d).p && Ir (Fr.one d).p v.os
 |.ca B=>(enc v.c).hL (Fr.ca B).p && Ir (Fr.ca B).p v.os
def Gu(a:In)(l:bq)(u:DN)(j:Nat):Nat->Do DN->In
 |_,[]=>true
 |i,v::done=>(ae4 v u||eF l j i||(a && (v.os.isEmpty && v.sf.isSome))) && ae5 v u && (ae5 u v||eF l j i) && Gu a l u j (i+1) done
def KJ(l:bq)(E:cY):bq->Do DN->{R:Type}->(cY->At R)->At R
 |[],done,_,k=>cond (Fe l && P9 0 l) (k ⟨E.n,Fl E.t done,ng E.h done⟩) none
 |o::g,done,_,k=>match o.guard with
  |none=>exO T CT E.n (VB l E.t done o.after.toList) (bH (ng E.h done)) o λc f d a=>
   cond (Gu (anT o f done) l ⟨o.dst,c,f,d,a,sfE E o d done⟩ done.length 0 done && mT a E) (KJ l E g (done++[⟨o.dst,c,f,d,a,sfE E o d done⟩]) k) none
  |some (j,b)=>match done[j]? with
   |some v=>match v.d with
    |some s=>match v.c with
     |.sc .b c=>cond (o.after.toList.any (λe=>beq e.on j && Region.binds .any e) && blt s E.n && Fk o.dst E.n) (cond c
      (cond b (exO T CT E.n (VB l E.t (done.set j ⟨v.d,.sc .b true,v.os,v.us,v.fr,v.sf⟩) o.after.toList) (bH (ng E.h done)) o λc f d a=>
       cond (Gu false l ⟨o.dst,c,f,d,a,none⟩ done.length 0 done && mT a E) (KJ l E g (done.set j ⟨v.d,.sc .b true,v.os,v.us,v.fr,v.sf⟩++[⟨o.dst,c,f,d,a,none⟩]) k) none)
       (cond (Gu false l ⟨o.dst,.v (.tuple ⟨[]⟩),[],[],.no,none⟩ done.length 0 done) (KJ l E g (done.set j ⟨v.d,.sc .b true,v.os,v.us,v.fr,v.sf⟩++[⟨o.dst,.v (.tuple ⟨[]⟩),[],[],.no,none⟩]) k) none))
      (cond b (cond (Gu false l ⟨o.dst,.v (.tuple ⟨[]⟩),[],[],.no,none⟩ done.length 0 done) (KJ l E g (done.set j ⟨v.d,.sc .b false,v.os,v.us,v.fr,v.sf⟩++[⟨o.dst,.v (.tuple ⟨[]⟩),[],[],.no,none⟩]) k) none)
       (exO T CT E.n (VB l E.t (done.set j ⟨v.d,.sc .b false,v.os,v.us,v.fr,v.sf⟩) o.after.toList) (bH (ng E.h done)) o λc f d a=>
        cond (Gu false l ⟨o.dst,c,f,d,a,none⟩ done.length 0 done && mT a E) (KJ l E g (done.set j ⟨v.d,.sc .b false,v.os,v.us,v.fr,v.sf⟩++[⟨o.dst,c,f,d,a,none⟩]) k) none))) none
     |.v (.tuple ⟨[]⟩)=>cond (o.after.toList.any (λe=>beq e.on j && Region.binds .any e) && blt s E.n && Fk o.dst E.n)
      (cond (Gu false l ⟨o.dst,.v (.tuple ⟨[]⟩),[],[],.no,none⟩ done.length 0 done) (KJ l E g (done++[⟨o.dst,.v (.tuple ⟨[]⟩),[],[],.no,none⟩]) k) none) none
     |_=>none
    |none=>none
   |none=>none
end
section
variable{P:Fd}{T:EQ->bz}{CT:Do kS}
def bwI(a:Do b):Do (Int×b):=((List.range a.length).zip a).reverse.map λp=>((p.1:Int),p.2)
@[reducible] def hdR:Sc:=.pr (.i .i64) (.i .i64)
def aqs(q:Int×hdR.dp):Do EV:=[.sc (.i .i64) q.1,kg hdR q.2]
structure aqt(P:Program)(gf:Nat):Prop where
 en:Enters P gf
 y:∀(Rd:bL) (us:bI) (xs:List hdR.dp),(∀b o u,GT b o u->Rd b o u)->LR (VR Rd none) [.fp [encS (.sl hdR) xs]] us->
  ∃es:List ey,es.length=xs.length/\(∀(j:Nat) it x,(bwI xs)[j]? =some it->es[j]? =some x->LR (VR Rd none) (cw (aqs it)) x.toList)/\ab8 P gf us.toArray es λW=>∀b o u,Rd b o u->W.cell? ⟨b,o,none⟩=some u
structure Place(P:Program)(T:TypeId->bz)(CT:List kS):Prop where
 t:hS P T
 c:∀c∈CT,c.ok P
 m:P.follows .mixedOrders=true
 b:∀q∈amw,aqt P q
variable(hp:Place P T CT)
include hp
omit hp in
def akD{q:anQ}(b:anR d a h D=some q):q.d=d/\q.t=a/\q.x=h/\D≠.un/\∃g f c,enc D=.sl g f c/\(c=[]\/f=q.r.w)/\(c=[]↔q.xs=[]):=by
 unfold anR at b;split at b
 .cases b
  exact⟨rfl,rfl,rfl,d8,_,_,_,rfl,.inr rfl,d5⟩
 .cases b
  exact⟨rfl,rfl,rfl,d8,_,_,_,rfl,.inr rfl,d5⟩
 .cases b
  exact⟨rfl,rfl,rfl,d8,_,_,_,rfl,.inl rfl,d5⟩
 .cases b
omit hp in
def VC(a:Do b):sG a=true↔a=[]:=by cases a<;>simp[sG]
def Lx{E:cY}{k:cY->At b}{r:b}(h:sM T CT I E k=some r):SS P I (br E) (λs=>∃o,s=br o/\k o=some r)/\∀d,I.dst=some d->d<E.n:=by
 unfold sM at h;split at h
 next q g=>
  obtain⟨i,l⟩:=aY h;simp only[av4]at i;obtain⟨X,op,ty,a0,V,gd⟩:=I;unfold aqq at g;simp only at g;split at g
  next d=>
   split at g
   next t x t2=>
    obtain⟨p,u,v,G,S,R,Q,F,L,H⟩:=akD g;subst p u v;obtain⟨⟨w,y⟩,z⟩:=i;have j:q.d<E.n:=awd w;have M:0<q.r.w:=awd y;obtain⟨⟨et,Z,Y,ez⟩,D⟩:=axQ.1 z;refine⟨?_,λW C=>by cases C;exact j⟩;have N:(br E).ev q.x=.sl S R Q:=by rw[(Sk.enc E).is rfl G,F]
    refine SS.aqf (hp.t.el _ _ D) N (L.imp id λe=>by rw[e];exact M) j λf A=>?_;rcases bR l with⟨n,m⟩|⟨n,m⟩
    .have:=xM.1 m
     refine⟨⟨E.n,(q.d,.sc .b f)::E.t,E.h⟩,rfl,?_⟩;cases f
     .exact this.2
     .exact this.1
    .have B:f=false:=by
      cases f with
      |false=>rfl
      |true=>
       have:=H.1 (A rfl);rw[(VC _).2 this]at n;cases n
     subst B;exact⟨_,rfl,m⟩
   .cases g
  .cases g
 .obtain⟨c,O,U,fr,a,f,j⟩:=VA hp.t hp.c h
  obtain⟨i,l⟩:=aY f;refine⟨SS.mono (K:=λs=>s=br ⟨E.n,QH I.dst c E.t,O++E.h⟩) ?_ λs J=>⟨_,by rw[J];exact cG.refl,_,rfl,l⟩,j⟩;have:=a (br E) rfl (Sk.enc E) (Hk.enc E U) (ab9 i);simp only[br,QI,gi]at this⊢;exact this
omit hp in
def cG.ae6{E:cY}(b:dj E.t d=.sc .b g):cG P (br E) (br ⟨E.n,(d,.sc .b g)::E.t,E.h⟩):=by
 refine cG.same (λi=>?_) λk=>rfl;rw[cU,cU];simp only[dj];by_cases a:i=d
 .rw[a,awD,b];rfl
 .rw[jF a];rfl
def ae7{a:cY}{k:cY->At b}{r:b}(h:exG T CT E I a k=some r):GS P E.toArray I (br a) (λs=>∃i,s=br i/\k i=some r):=by
 obtain⟨l,D,G,F,v,M⟩:=I;unfold exG at h;split at h
 next q=>simp only at q;subst q;exact GS.plain rfl (Lx hp h).1
 next j f q=>
  simp only at q;subst q;split at h
  next s J=>
   split at h
   next c A=>
    obtain⟨m,y⟩:=aY h;simp only[av4]at m;have t:(E.toArray[j]?).bind (·.dst)=some s:=by simpa using J
    have u:s<a.n:=awd m.1;have B:∀d,l=some d->d<a.n:=λd e=>by
     have:=m.2;simp only[e,Fk]at this;exact awd this
    have H:=cG.ae6 (P:=P) A;have L:∀(g:In),c=g->f=g->sM T CT ⟨l,D,G,F,v,some (j,f)⟩ ⟨a.n,(s,.sc .b g)::a.t,a.h⟩ k=some r->GS P E.toArray ⟨l,D,G,F,v,some (j,f)⟩ (br a) (λs=>∃i,s=br i/\k i=some r):=by
     intro g w x C;subst w x;exact GS.le H (GS.taken rfl t u (by simp[br,hP,bO,enc,encS]) (Lx hp C).1)
    have K:∀(g:In),c=g->(g==f)=false->k (Is l ⟨a.n,(s,.sc .b g)::a.t,a.h⟩)=some r->GS P E.toArray ⟨l,D,G,F,v,some (j,f)⟩ (br a) (λs=>∃i,s=br i/\k i=some r):=by
     intro g w x C;subst w;refine GS.le H (GS.left (b:=f) (c:=c) rfl t u (by simp[br,hP,bO,enc,encS]) x B ⟨_,?_,C⟩);cases l<;>rfl
    rcases bR y with⟨p,z⟩|⟨p,z⟩
    .rcases bR z with⟨o,n⟩|⟨o,n⟩
     .exact L true p o n
     .exact K true p (by rw[o];rfl) n
    .rcases bR z with⟨o,n⟩|⟨o,n⟩
     .exact K false p (by rw[o];rfl) n
     .exact L false p o n
   next A=>
    obtain⟨m,y⟩:=aY h;simp only[av4]at m;have t:(E.toArray[j]?).bind (·.dst)=some s:=by simpa using J
    have u:s<a.n:=awd m.1;have B:∀d,l=some d->d<a.n:=λd e=>by
     have:=m.2;simp only[e,Fk]at this;exact awd this
    refine GS.amz (b:=f) rfl t u ?_ B ⟨_,?_,y⟩
    .rw[show bO (br a).t s=enc (dj a.t s)from cU a.t s,A];rfl
    .cases l<;>rfl
   .cases h
  .cases h
def VD{d:bq}:∀{l:bq} {E:cY} {R:Type} {k:cY->At R} {r:R},Gt T CT d l E k=some r->AL P d.toArray l (br E) (λs=>∃c,s=br c/\k c=some r)
 |[],E,R,k,r,h=>AL.nil ⟨E,rfl,h⟩
 |o::l,E,R,k,r,h=>by
  simp only[Gt]at h;refine AL.cons λt j=>?_;have a:=ae7 hp h;intro q g e i w next Q m n
  refine a q g e i w next Q m λf p=>n f (j f ?_)
  obtain⟨c,rfl,b⟩:=p;exact VD b
omit hp in
def ae8(a:Do DN)(t:Do (Nat×EV)):hP (Fl t a)=Gr (hP t) (a.map iW):=by
 induction a generalizing t with
 |nil=>rfl
 |cons u a b=>simp only[Fl,awo,Gr,b,QI];rfl
omit hp in
def Iu(a:Do DN)(h:fv):bF (ng h a)=DZ (bF h) (a.map iW):=by
 induction a generalizing h with
 |nil=>rfl
 |cons u a b=>simp only[ng,awo,DZ,b,gi];rfl
omit hp in
def vK{done:Do DN}{i:Nat}:∀{g:Do Edge} {c:EV},It done i g=some c->∃e∈g,Region.binds .any e=true/\∃u,done[e.on]? =some u/\u.d=some i/\u.c=c
 |[],c,h=>by cases h
 |e::g,c,h=>by
  simp only[It]at h;rcases bR h with⟨j,h⟩|⟨j,h⟩
  .split at h
   next u m=>
    split at h
    next d k=>
     rcases bR h with⟨l,h⟩|⟨_,h⟩
     .cases h
      have:=awb l;subst this;exact⟨e,d5,j,u,m,k,rfl⟩
     .obtain⟨a,b,f⟩:=vK h
      exact⟨a,by simp[b],f⟩
    .obtain⟨a,b,f⟩:=vK h
     exact⟨a,by simp[b],f⟩
   .obtain⟨a,b,f⟩:=vK h
    exact⟨a,by simp[b],f⟩
  .obtain⟨a,b,f⟩:=vK h
   exact⟨a,by simp[b],f⟩
omit hp in
def sN:∀{l:bq} {i:Nat},nT l i=true->(l.all λo=>o.dst !=some i)=true
 |[],i,_=>rfl
 |o::l,i,h=>by
  simp only[nT]at h;simp only[axb,av4];split at h
  next d c=>
   rcases aqn h with⟨a,b⟩|⟨a,b⟩
   .cases b
   .refine⟨?_,sN b⟩
    rw[c];have:d≠i:=λe=>by rw[e,awD]at a;cases a
    simpa using this
  next c=>exact⟨by rw[c];rfl,sN h⟩
omit hp in
def Kn.sk{a:cY}{done:Do DN}{u:En}(b:Kn E (br a) (done.map iW) I u A):Sk (VB E a.t done I.after.toList) A:=by
 intro i;unfold VB;split
 next c h=>obtain⟨e,k,g,v,l,j,rfl⟩:=vK h;exact .inr (b.ts e (by simpa using k) g (iW v) i (by rw[awp,l];rfl) j)
 .cases d:nT E i with
  |true=>exact .inr ((b.t0 i (sN d)).trans (cU a.t i))
  |false=>
   cases f:aen E done.length i with
   |true=>exact .inr ((b.t1 i (by rw[awa];exact f)).trans (cU a.t i))
   |false=>exact .inl rfl
omit hp in
def ae9{e:Nat->EV}{i:String}{f:dY}{g:gg}{k:EV->fv->a_->Fr->At b}:
 exO T CT d e G ⟨some B,.lookup a h o false,u,i,f,g⟩ k=cond (blt B d) (rn T G a (e7 e h) (e7 e o) false λc j=>k c [] j .no) none:=rfl
omit hp in
def ae_{e:Nat->EV}{j:String}{f:dY}{g:gg}{k:EV->fv->a_->Fr->At b}:
 exO T CT d e G ⟨some B,.mapEntry a h o,u,j,f,g⟩ k=cond (blt B d) (GQ T e G a h o λc i l=>k c i l .no) none:=rfl
omit hp in
def Kn.hk{l:bq}{E:cY}{done:Do DN}{o:Oper}{u:DN}{b:St}(hk:Kn l (br E) (done.map iW) o (iW u) b)(e:u.sf=none):Hk (bH (ng E.h done)) u.us b:=by
 intro k c;rcases hk.h k c with h|⟨ob,_,d,g,i,f,a,h,_⟩
 .rw[h,<-dw,Iu];rfl
 .rw[e]at h;cases h
omit hp in
def VE{k:Nat}:∀{done:Do DN} {h:fv},nwE done k=true->bH (ng h done) k=bH h k
 |[],_,_=>rfl
 |u::done,h,c=>by
  simp only[nwE,axb,av4,axi]at c;rw[ng,VE (done:=done) (by simpa[nwE]using c.2)];have:∀a:fv,fj k (bF a)=false->bH (a++h) k=bH h k:=by
   intro a
   induction a with
   |nil=>intro _;rfl
   |cons p a f=>
    obtain⟨i,o⟩:=p;intro b;simp only[fj,bF,axY,ax8]at b;have d:¬k=i:=λe=>by have:=b.1;simp[e]at this
    simp only[axh,bH,jF d,av8];exact f b.2
  exact this _ c.1
omit hp in
def XD{v u:DN}(h:ae5 v u=true):(iW v).c.hL (iW u).fr=true/\sj (iW u).fr (iW v).os=true:=by
 obtain⟨d,c,b,e,a⟩:=u;cases a with
 |no=>exact⟨zM _,Xj _⟩
 |_=>simp only[ae5,av4]at h;exact⟨h.1,oq h.2⟩
omit hp in
def XE{E:cY}{t:In}{l:bq}{u:DN}{j:Nat}(y:t=true->∃k d b m c a,u.os=[(k,some (.mp d b m (d_ b c a ((bN b c a).getD (zeroV m)))))]/\bH E.h k=some (.mp d b m c)):∀{i:Nat} {done:Do DN},(∀v∈done,∀o,v.sf=some o->∀k∈v.us,bH E.h k=some o)->Gu t l u j i done=true->aj_ l (iW u) j i (done.map iW)
 |i,[],_,_=>trivial
 |i,v::done,A,h=>by
  simp only[Gu,av4,aw2]at h;obtain⟨⟨⟨G,H⟩,I⟩,J⟩:=h;refine⟨?_,⟨XD H,I.imp XD id⟩,XE y (λw O=>A w (aw5 _ O)) J⟩;rcases G with(h|h)|⟨h,K,L⟩
  .refine .inl ?_
   simp only[ae4,av4]at h;have C:∀(g:fv) (q:Nat->In),g.all (λp=>q p.1)=(bF g).all (λp=>q p.1):=by
    intro g q
    induction g with
    |nil=>rfl
    |cons p g Q=>obtain⟨k,o⟩:=p;simp only[bF,axb,Q]
   refine⟨by rw[show(iW v).os=bF v.os from rfl,<-C v.os (λk=> !fj k (iW u).os && !(iW u).us.contains k)];exact h.1,λk f e=>?_⟩;have x:=h.2;rw[C u.os (λk=> !v.us.contains k)]at x;obtain⟨p,N,n⟩:=axR.1 f;have n:p.1=k:=by simpa using n
   have:=awt.1 x p N;rw[n]at this;have e:v.us.contains k=true:=e;rw[e]at this;cases this
  .exact .inr h
  .refine .inl ⟨?_,λk f e=>?_⟩
   .have:v.os=[]:=by simpa using K
    rw[show(iW v).os=bF v.os from rfl,this];rfl
   .obtain⟨B,d,b,m,c,a,r,D⟩:=y h
    obtain⟨o,z⟩:=axQ.1 L;have F:k=B:=by
     rw[show(iW u).os=bF u.os from rfl,r]at f;simp only[fj,bF,axY,List.any_nil,Bool.or_false]at f;exact(by simpa using f:B=k).symm
    subst F;have M:v.us.contains k=true:=e;have s:=A v d5 o z k (by simpa using M);rw[D]at s;cases s;refine⟨_,?_,d,b,m,c,a,z,rfl⟩;rw[show(iW u).os=bF u.os from rfl,r];simp only[bF,bf];rfl
omit hp in
def PD.snoc{done:Do En}{u:En}(e:PD P E A done)(g:E[done.length]? =some I)(k:I.dst=u.d)(n:DS P E A done I u)(l:aj_ E u done.length 0 done)(m:DY u.fr A.t=true/\sj u.fr A.h=true):PD P E A (done++[u]):=by
 have p:done.length<E.length:=(av7.1 g).1;refine⟨by simp;omega,λj o c h a=>?_,λi j v c f d a=>?_,λj c a=>?_⟩
 .rcases axH j done.length with b|b|b
  .rw[awY b]at a
   rw[aAX bv];exact e.step j o c h a
  .subst b
   simp at a;subst a;obtain rfl:=av_ (g.symm.trans h);refine⟨k,?_⟩;rw[ayT];exact n
  .rw[awO d7]at a;cases a
 .rcases axH j done.length with b|b|b
  .rw[awY b]at a
   rw[awY bv]at d;exact e.fit i j v c f d a
  .subst b
   simp at a;subst a;rw[awY f]at d;have:=P6 l i v d;rwa[awB]at this
  .rw[awO d7]at a;cases a
 .rcases axH j done.length with b|b|b
  .rw[awY b]at a;exact e.P7 j c a
  .subst b
   simp at a;subst a;exact m
  .rw[awO d7]at a;cases a
omit hp in
def VF{E:cY}(h:mT O E=true):DY O.p (br E).t=true/\sj O.p (br E).h=true:=by
 cases O with
 |no=>exact⟨aka _,Xj _⟩
 |_=>simp only[mT,av4]at h;exact⟨h.1,oq h.2⟩
omit hp in
def FS.ds{a:cY}{done:Do DN}{st:St}(h:FS P I a.n (VB E a.t done I.after.toList) (bH (ng a.h done)) D R K O){c:At eD}(d:c=none)(b:Kn E (br a) (done.map iW) I (iW ⟨I.dst,D,R,K,O,c⟩) st):
 SS P I st (λs=>s=⟨st.n,kX I.dst (enc D) st.t,bF R++st.h⟩):=
 h st b.n b.sk (Kn.hk b d) ⟨b.ft,b.fh,b.fk⟩
def afa{l:bq}{E:cY}:∀{W:bq} {done:Do DN} {R:Type} {k:cY->At R} {r:R},KJ T CT l E W done k=some r->W=l.drop done.length->PD P l (br E) (done.map iW)->(∀v∈done,∀o,v.sf=some o->∀k∈v.us,bH E.h k=some o)->
 ∃m,Nl P l (br E) (m.map iW)/\k ⟨E.n,Fl E.t m,ng E.h m⟩=some r
 |[],done,R,k,r,h,hr,A,a9=>by
  simp only[KJ]at h;obtain⟨g,p⟩:=aY h;simp only[av4]at g;have ak:(done.map iW).length=l.length:=by
   have g:=A.len;have p:=awh List.length hr;simp at g p⊢;omega
  exact⟨done,⟨ak,A.step,A.fit,A.P7,g.1,λj o ho e Q ae=>by have:=D2 g.2 j o ho e Q ae;omega⟩,p⟩
 |o::W,done,R,k,r,h,hr,A,a9=>by
  have ho:l[done.length]? =some o:=by
   have:=awh (λx=>x[0]?) hr;simpa using this.symm
  have al:W=l.drop (done.length+1):=by
   have:l.drop (done.length+1)=(l.drop done.length).drop 1:=by rw[ayb]
   rw[this,<-hr];rfl
  have X:∀(u:DN) (en:In),o.dst=u.d->(en=true->∃k d B H J a,u.os=[(k,some (.mp d B H (d_ B J a ((bN B J a).getD (zeroV H)))))]/\bH E.h k=some (.mp d B H J))->(∀o,u.sf=some o->∀k∈u.us,bH E.h k=some o)->DS P l (br E) (done.map iW) o (iW u)->Gu en l u done.length 0 done=true->mT u.fr E=true->∀{R:Type} {k:cY->At R} {r:R},KJ T CT l E W (done++[u]) k=some r->∃m,Nl P l (br E) (m.map iW)/\k ⟨E.n,Fl E.t m,ng E.h m⟩=some r:=by
   intro u en hd hE am ag ah ai R k r f;refine afa f (by rw[awl];exact al) ?_ (λv q=>by
    rcases awc.1 q with q|q
    .exact a9 v q
    .rw[awq.1 q];exact am)
   rw[awQ];have hl:(done.map iW).length=done.length:=awa _;exact A.snoc (by rw[hl];exact ho) hd ag (by rw[hl];exact XE hE a9 ah) (VF ai)
  simp only[KJ]at h;split at h
  next U=>
   have aa:∀n o',sfE E o n done=some o'->∀k∈n,bH E.h k=some o':=λn o' z k f=>by
    unfold sfE at z;split at z
    .split at z
     next k'=>obtain rfl:=awq.1 f;exact(aY z).2
     .cases z
    .cases z
   by_cases hl:∃t x y,o.op=.lookup t x y false
   .obtain⟨t,x,y,G⟩:=hl
    obtain⟨K,op,ty,a3,Z,gd⟩:=o;simp only at G;subst G;cases K with
    |none=>cases h
    |some d=>
    rw[ae9]at h;obtain⟨O,h⟩:=aY h;obtain⟨j,dd,B,H,J,a,F,aj,b,c⟩:=NB hp.t h;obtain⟨g,p⟩:=aY b;simp only[av4]at g;refine X ⟨some d,_,[],[j],.no,_⟩ _ rfl (λe=>by cases e) (aa [j]) (λw f=>GS.plain U ?_) g.1 g.2 p;have D:d<w.n:=by rw[f.n];exact awd O
    have Q:∃a4,(bN B a4 a).getD (zeroV H)=(bN B J a).getD (zeroV H)/\bc w.h j=some (cA (.mp dd B H a4)):=by
     rcases f.h j (by simp[iW])with e|⟨ob,C,d2,ao,ap,an,a2,I,e3⟩
     .refine⟨J,rfl,?_⟩
      rw[e,show(br E).h=bF E.h from rfl,<-Iu,dw,F];rfl
     .simp only[sfE]at I
      obtain⟨n1,n2⟩:=aY I;rw[VE n1,n2]at F;cases F;exact⟨_,U_ aj _ _ _ _,by rw[C,e3]⟩
    obtain⟨a4,C,I⟩:=Q;exact SS.read (c w a4 (some d) ty a3 Z gd f.sk C I) D rfl
   have V:∀n,sfE E o n done=none:=λn=>by
    unfold sfE;split
    next t x y G=>exact absurd ⟨t,x,y,G⟩ hl
    .rfl
   by_cases hm:∃t x y,o.op=.mapEntry t x y
   .obtain⟨t,x,y,G⟩:=hm
    obtain⟨K,op,ty,a3,Z,gd⟩:=o;simp only at G;subst G;cases K with
    |none=>cases h
    |some d=>
    rw[ae_]at h;obtain⟨O,h⟩:=aY h;obtain⟨c,j,dd,B,H,J,a,F,fs,b⟩:=Ij (ty:=ty) (pos:=a3) (af:=Z) (gd:=gd) hp.t (awd O) h;obtain⟨g,p⟩:=aY b;simp only[av4]at g;refine X ⟨some d,_,_,[j],.no,_⟩ _ rfl (λe=>⟨j,dd,B,H,J,a,rfl,?_⟩) (aa [j]) (λw f=>GS.plain U (fs.ds (V [j]) f)) g.1 g.2 p;simp only[anT,axb,List.all_nil,azi]at e;rw[<-VE e];exact F
   obtain⟨c,Y,n,L,a,b,hd⟩:=VA hp.t hp.c h;obtain⟨g,p⟩:=aY b;simp only[av4]at g;refine X ⟨o.dst,c,Y,n,L,_⟩ _ rfl (λe=>?_) (aa n) (λw f=>GS.plain U (a.ds (V n) f)) g.1 g.2 p;unfold anT at e;split at e
   next t x y G=>exact absurd ⟨t,x,y,G⟩ hm
   .cases e
  next j b U=>
   split at h
   next v q=>
    split at h
    next s z=>
     split at h
     next c hc=>
      obtain⟨g,p⟩:=aY h;simp only[av4]at g;obtain⟨⟨q1,q2⟩,q3⟩:=g;have V:s<E.n:=awd q2;have O:∀d,o.dst=some d->d<E.n:=λd e=>by
       simp only[e,Fk]at q3;exact awd q3
      obtain⟨e,Q,S⟩:=axR.1 q1;simp only[av4]at S;have a7:=awb S.1;have ab:∀i,c=i->done.set j ⟨v.d,.sc .b i,v.os,v.us,v.fr,v.sf⟩=done:=λi e=>by
       subst e;rw[<-hc];obtain⟨F,rfl⟩:=av7.1 q;exact ax4 F
      have a5:(l.toArray[j]?).bind (·.dst)=some s:=by
       have F:=(av7.1 q).1;have a8:=A.len;rw[awa]at a8;have a1:l[j]? =some l[j]:=awf bv;have:=(A.step j _ (iW v) a1 (by rw[awp,q];rfl)).1;simp only[axD,a1,aAk,this];exact z
      have a6:∀{u:En} {w:St},Kn l (br E) (done.map iW) o u w->bO w.t s=.v (.bool c):=λf=>by
       have:=f.ts e (by simpa using Q) S.2 (iW v) s (by rw[awp,a7,q];rfl) z;rw[this];show enc v.c=_;rw[hc];rfl
      have ad:∀i,c=i->b=i->(exO T CT E.n (VB l E.t (done.set j ⟨v.d,.sc .b i,v.os,v.us,v.fr,v.sf⟩) o.after.toList) (bH (ng E.h done)) o λc Y n L=>
       cond (Gu false l ⟨o.dst,c,Y,n,L,none⟩ done.length 0 done && mT L E) (KJ T CT l E W (done.set j ⟨v.d,.sc .b i,v.os,v.us,v.fr,v.sf⟩++[⟨o.dst,c,Y,n,L,none⟩]) k) none)=some r->∃m,Nl P l (br E) (m.map iW)/\k ⟨E.n,Fl E.t m,ng E.h m⟩=some r:=by
       intro i C I hh;rw[ab i C]at hh;obtain⟨c2,Y,n,L,a,bb,hd⟩:=VA hp.t hp.c hh;obtain⟨M,g2⟩:=aY bb;simp only[av4]at M;exact X ⟨o.dst,c2,Y,n,L,none⟩ false rfl (λe=>by cases e) (λ_ e=>by cases e) (λw f=>GS.taken U a5 (by rw[f.n];exact V) (by rw[I,<-C];exact a6 f) (a.ds rfl f)) M.1 M.2 g2
      have ac:∀i,c=i->(i==b)=false->(cond (Gu false l ⟨o.dst,.v (.tuple ⟨[]⟩),[],[],.no,none⟩ done.length 0 done) (KJ T CT l E W (done.set j ⟨v.d,.sc .b i,v.os,v.us,v.fr,v.sf⟩++[⟨o.dst,.v (.tuple ⟨[]⟩),[],[],.no,none⟩]) k) none)=some r->∃m,Nl P l (br E) (m.map iW)/\k ⟨E.n,Fl E.t m,ng E.h m⟩=some r:=by
       intro i C I hh;rw[ab i C]at hh;obtain⟨M,g2⟩:=aY hh;refine X ⟨o.dst,.v (.tuple ⟨[]⟩),[],[],.no,none⟩ false rfl (λe=>by cases e) (λ_ e=>by cases e) (λw f=>?_) M rfl g2;obtain⟨K,op,ty,a3,Z,gd⟩:=o;refine GS.left (b:=b) (c:=c) U a5 (by rw[f.n];exact V) (a6 f) (by rw[C];exact I) (λd e=>by rw[f.n];exact O d e) ?_;cases K<;>rfl
      rcases bR p with⟨a0,h3⟩|⟨a0,h3⟩
      .rcases bR h3 with⟨D,N⟩|⟨D,N⟩
       .exact ad true a0 D N
       .exact ac true a0 (by rw[D];rfl) N
      .rcases bR h3 with⟨D,N⟩|⟨D,N⟩
       .exact ac false a0 (by rw[D];rfl) N
       .exact ad false a0 D N
     next hc=>
      obtain⟨g,p⟩:=aY h;simp only[av4]at g;obtain⟨⟨q1,q2⟩,q3⟩:=g;obtain⟨M,g2⟩:=aY p;have V:s<E.n:=awd q2;have O:∀d,o.dst=some d->d<E.n:=λd e=>by
       simp only[e,Fk]at q3;exact awd q3
      obtain⟨e,Q,S⟩:=axR.1 q1;simp only[av4]at S;have a7:=awb S.1;have a5:(l.toArray[j]?).bind (·.dst)=some s:=by
       have F:=(av7.1 q).1;have a8:=A.len;rw[awa]at a8;have a1:l[j]? =some l[j]:=awf bv;have:=(A.step j _ (iW v) a1 (by rw[awp,q];rfl)).1;simp only[axD,a1,aAk,this];exact z
      refine X ⟨o.dst,.v (.tuple ⟨[]⟩),[],[],.no,none⟩ false rfl (λe=>by cases e) (λ_ e=>by cases e) (λw f=>?_) M rfl g2;have a6:bO w.t s=.v undef:=by
       have:=f.ts e (by simpa using Q) S.2 (iW v) s (by rw[awp,a7,q];rfl) z;rw[this];show enc v.c=_;rw[hc];rfl
      obtain⟨K,op,ty,a3,Z,gd⟩:=o;refine GS.amz (b:=b) U a5 (by rw[f.n];exact V) a6 (λd e=>by rw[f.n];exact O d e) ?_;cases K<;>rfl
     .cases h
    .cases h
   .cases h
def VG{t:In}{l:bq}{E:cY}{k:cY->At b}{r:b}{id:Nat}(h:KJ T CT l E l [] k=some r):AC t P (.region id l.toArray true) (br E) (λx s=>x=.normal/\∃d,s=br d/\k d=some r):=by
 obtain⟨g,e,f⟩:=afa hp h rfl ⟨d5,λj o u _ a=>by simp at a,λi j v u _ c=>by simp at c,λj u a=>by simp at a⟩ (λv c=>by cases c);refine AC.atN hp.m e ⟨rfl,_,?_,f⟩;simp only[br,ae8,Iu]
def VH{t:In}{l:bq}{E:cY}{k:cY->At b}{r:b}{id:Nat}(h:Gt T CT l l E k=some r):AC t P (.region id l.toArray false) (br E) (λx s=>x=.normal/\∃c,s=br c/\k c=some r):=by
 refine AC.region ?_;have:=VD hp h;intro m d e a w Q f g;exact this m d e a w Q f λj i=>g j ⟨rfl,i⟩
end
variable{n:cY}{k:Do AV}{e:Do EV}
section
variable{P:Fd}
def cG.wk{t y:Do (Nat×AV)}{h q:Hp}(H:∀i,Wk (bO t i) (bO y i))(g:∀k n,bc q k=some n->∃ob,bc h k=some ob/\∀Rd e w,OR Rd e w k ob->OR Rd e w k n):cG P ⟨d,t,h⟩ ⟨d,y,q⟩:=by
 intro z s e a w c;have v:∀b o u,bT z s e h w b o u->bT z s e q w b o u:=λb o u r=>⟨r.1,r.2.1,λj ob l G=>by
  obtain⟨m,f,_⟩:=g j ob l;exact r.2.2 j m f G⟩
 refine⟨e,c.n,c.d,⟨c.sr.ext,c.sr.lA,λj ob l=>?_,λj ob b l F=>?_,λj x ob n b p E A B=>?_,c.sr.yz⟩,λi=>H i _ _ _ ((c.tr i).mono v)⟩
 .obtain⟨m,f,p⟩:=g j ob l
  exact(p _ _ _ (c.sr.ob j m f)).mono v
 .obtain⟨m,f,_⟩:=g j ob l
  exact c.sr.base j m b f F
 .obtain⟨I,C,_⟩:=g j ob p
  obtain⟨J,D,_⟩:=g x n E;exact c.sr.inj j x I J b C D A B
def XF{Rd:bL}(h:VR Rd M (.sl true d []) s):∃a,s=.slice a 0 0:=by
 obtain⟨a,e,f,b,_,_,_,_,_,c,_⟩:=h.n_;have:=c rfl;simp only[aw4]at this b;subst this;exact⟨a,b⟩
variable{st:St}
def cG.aqu(i j b:Nat)(H:b<4294967296)(t:EQ)(l:Nat)(f:bO st.t i=.ag k)(G:k[j]? =some (.sl true d [])):
 cG P st ⟨st.n,(i,.ag ((k.map (AV.kill b)).set j (.ow b)))::dm b st.t,(b,some (.arr t l [] true))::bx b st.h⟩:=by
 intro B r e a w h;have A:=h.tr i;rw[f]at A;obtain⟨n,N,p⟩:=VR.fI A;obtain⟨u,M,O⟩:=p.get G;obtain⟨g,rfl⟩:=XF O;obtain⟨K,v⟩:=h.sr.kill b;obtain⟨L,y⟩:=K.HP b t l g (eC b st.h) H;refine⟨_,h.n,h.d,L,λq=>?_⟩;simp only[bO];split
 next J=>
  subst J;rw[N];have C:LR (VR (bT B r (e.cR b none (.slice g 0 0) 0) ((b,some (.arr t l [] true))::bx b st.h) w) (some (e.cR b none (.slice g 0 0) 0))) (k.map (AV.kill b)) n:=
   ⟨by simpa using p.1,λm c x z Q=>by
    rw[awp]at z;obtain⟨s,E,rfl⟩:=awC.1 z;exact((((p.2 m s x E Q).kill b).mono v).mono y).env rfl b (lN b s) (λ_ f=>Env.bE f) (λ_ f=>Env.dy f)⟩
  have o:=C.set j (c:=.ow b) (u:=.slice g 0 0) (by
   have:=VR.ow (Rd:=bT B r (e.cR b none (.slice g 0 0) 0) ((b,some (.arr t l [] true))::bx b st.h) w) (e:=e.cR b none (.slice g 0 0) 0) (k:=b);rw[Env.dZ]at this;exact this)
  have D:n.set j (.slice g 0 0)=n:=by
   obtain⟨I,F⟩:=av7.1 M;rw[<-F];exact ax4 I
  rw[D]at o;exact .ag n o.1 o.2
 .exact((((h.tr.kill b).mono v).mono y).env b (ef b st.t) (λ_ f=>Env.bE f) (λ_ f=>Env.dy f)) q
def cG.aqv(b j f:Nat)(M:f<4294967296)(t:EQ)(n:Nat)(B:bc st.h b=some (.box a k))(L:k[j]? =some (.sl true d []))(q:b≠f):
 cG P st ⟨st.n,dm f st.t,(b,some (.box a ((k.map (AV.kill f)).set j (.ow f))))::(f,some (.arr t n [] true))::bx f st.h⟩:=by
 intro D s e g w l;obtain⟨O,E,p,I,V,r⟩:=l.sr.ob _ _ B;obtain⟨u,U,W⟩:=r.get L;obtain⟨h,rfl⟩:=XF W;obtain⟨Q,z⟩:=l.sr.kill f;obtain⟨R,A⟩:=Q.HP f t n h (eC f st.h) M;have F:LR (VR (bT D s (e.cR f none (.slice h 0 0) 0) ((f,some (.arr t n [] true))::bx f st.h) w) (some (e.cR f none (.slice h 0 0) 0))) (k.map (AV.kill f)) p:=
  ⟨by simpa using r.1,λm c x C X=>by
   rw[awp]at C;obtain⟨v,J,rfl⟩:=awC.1 C;exact((((r.2 m v x J X).kill f).mono z).mono A).env rfl f (lN f v) (λ_ i=>Env.bE i) (λ_ i=>Env.dy i)⟩
 have y:=F.set j (c:=.ow f) (u:=.slice h 0 0) (by
  have:=VR.ow (Rd:=bT D s (e.cR f none (.slice h 0 0) 0) ((f,some (.arr t n [] true))::bx f st.h) w) (e:=e.cR f none (.slice h 0 0) 0) (k:=f);rw[Env.dZ]at this;exact this)
 have G:p.set j (.slice h 0 0)=p:=by
  obtain⟨N,K⟩:=av7.1 U;rw[<-K];exact ax4 N
 rw[G]at y;obtain⟨S,H⟩:=R.Vr (b:=b) (o:=(Ob.kill f (.box a k))) (o':=.box a ((k.map (AV.kill f)).set j (.ow f))) (by rw[bd q,dE,B];rfl)
  ⟨by rw[Env.lM q];exact O,E,p,by rw[Env.bE q];exact I,V,y⟩
 exact⟨_,l.n,l.d,S,(((l.tr.kill f).mono z).mono A).env f (ef f st.t) (λ_ i=>Env.bE i) (λ_ i=>Env.dy i)|>.mono H⟩
def cG.anU(b j f p:Nat)(S:p<4294967296)(U:p≠f)(r:b≠p)(K:b≠f){wr:In}(C:bc st.h b=some (.box a k))(N:k[j]? =some (.ow f))(O:bc st.h f=some (.arr u B i wr)):
 cG P st ⟨st.n,dm p st.t,(b,some (.box a ((k.map (AV.kill p)).set j (.ow p))))::(p,some (.arr u B i wr))::(f,none)::bx p st.h⟩:=by
 intro E t e g w n;obtain⟨R,F,q,J,Z,s⟩:=n.sr.ob _ _ C;obtain⟨h,Y,a0⟩:=s.get N;cases a0;obtain⟨V,z⟩:=n.sr.kill p;obtain⟨W,A⟩:=V.No (k:=f) (d:=p) (ob:=.arr u B i wr) (by rw[dE,O];rfl) U (eC p st.h) S;have G:LR (VR (bT E t (e.cR p (e.ca f) (e.sv f) (e.cX f)) ((p,some (.arr u B i wr))::(f,none)::bx p st.h) w) (some (e.cR p (e.ca f) (e.sv f) (e.cX f)))) (k.map (AV.kill p)) q:=
  ⟨by simpa using s.1,λm c x D hx=>by
   rw[awp]at D;obtain⟨v,L,rfl⟩:=awC.1 D;exact((((s.2 m v x L hx).kill p).mono z).mono A).env rfl p (lN p v) (λ_ l=>Env.bE l) (λ_ l=>Env.dy l)⟩
 have y:=G.set j (c:=.ow p) (u:=e.sv f) (by
  have:=VR.ow (Rd:=bT E t (e.cR p (e.ca f) (e.sv f) (e.cX f)) ((p,some (.arr u B i wr))::(f,none)::bx p st.h) w) (e:=e.cR p (e.ca f) (e.sv f) (e.cX f)) (k:=p);rw[Env.dZ]at this;exact this)
 have H:q.set j (e.sv f)=q:=by
  obtain⟨Q,M⟩:=av7.1 Y;rw[<-M];exact ax4 Q
 rw[H]at y;obtain⟨X,I⟩:=W.Vr (b:=b) (o:=(Ob.kill p (.box a k))) (o':=.box a ((k.map (AV.kill p)).set j (.ow p))) (by rw[bd r,bd K,dE,C];rfl)
  ⟨by rw[Env.lM r];exact R,F,q,by rw[Env.bE r];exact J,Z,y⟩
 exact⟨_,n.n,n.d,X,(((n.tr.kill p).mono z).mono A).env p (ef p st.t) (λ_ l=>Env.bE l) (λ_ l=>Env.dy l)|>.mono I⟩
def cG.anV(b k p:Nat)(o:p<4294967296)(r:p≠k){wr:In}(g:bO st.t b=.ow k)(n:bc st.h k=some (.arr a B i wr)):
 cG P st ⟨st.n,(b,.ow p)::dm p st.t,(p,some (.arr a B i wr))::(k,none)::bx p st.h⟩:=by
 intro x j e c w f;have h:=f.tr b;rw[g]at h;obtain⟨t,l⟩:=f.sr.kill p;obtain⟨v,m⟩:=t.No (k:=k) (d:=p) (ob:=.arr a B i wr) (by rw[dE,n];rfl) r (eC p st.h) o;refine⟨_,f.n,f.d,v,λq=>?_⟩;simp only[bO];split
 next s=>subst s;generalize c.tmps.getD q undef=u at h;cases h;have:=VR.ow (Rd:=bT x j (e.cR p (e.ca k) (e.sv k) (e.cX k)) ((p,some (.arr a B i wr))::(k,none)::bx p st.h) w) (e:=e.cR p (e.ca k) (e.sv k) (e.cX k)) (k:=p);rw[Env.dZ]at this;exact this
 .exact((((f.tr.kill p).mono l).mono m).env p (ef p st.t) (λ_ g=>Env.bE g) (λ_ g=>Env.dy g)) q
def cG.anW(b j:Nat){wr:In}(C:bO st.t b=.ag k)(D:k[j]? =some (.ow d))(E:bc st.h d=some (.arr a B i wr)):
 cG P st ⟨st.n,(b,.ag (k.set j (.sl false B i)))::st.t,(d,some (.arr a B i false))::st.h⟩:=by
 intro v o e f w n;obtain⟨g,x,p,r,s,y⟩:=n.sr.UU E;have h:=n.cX (⟨x,p,r,s⟩:qn v o e st.h w g ((d,some (.arr a B i false))::st.h));refine⟨g,h.n,h.d,h.sr,λq=>?_⟩;simp only[bO];split
 next H=>
  subst H;have l:=n.tr q;rw[C]at l;obtain⟨m,J,t⟩:=VR.fI l;rw[J];obtain⟨u,I,K⟩:=t.get D;cases K;have G:LR (VR (bT v o g ((d,some (.arr a B i false))::st.h) w) (some g)) k m:=t.imp λ_ _ l=>(l.mono p).jt rfl r s;have:=G.set j (c:=.sl false B i) (u:=e.sv d) y.c9;have z:m.set j (e.sv d)=m:=by
   obtain⟨F,A⟩:=av7.1 I;rw[<-A];exact ax4 F
  rw[z]at this;exact .ag m this.1 this.2
 .exact h.tr q
def cG.anX(b j:Nat){wr:In}(m:bc st.h b=some (.box u k))(H:k[j]? =some (.ow d))(r:bc st.h d=some (.arr a B i wr)):
 cG P st ⟨st.n,st.t,(b,some (.box u (k.set j (.sl false B i))))::(d,some (.arr a B i false))::st.h⟩:=by
 intro O t e f w q;have F:b≠d:=λe=>by rw[e,r]at m;cases m
 obtain⟨l,x,y,z,o,A⟩:=q.sr.UU r;have h:=q.cX (⟨x,y,z,o⟩:qn O t e st.h w l ((d,some (.arr a B i false))::st.h));have p:bc ((d,some (Ob.arr a B i false))::st.h) b=some (.box u k):=by rw[bd F];exact m
 obtain⟨J,v,n,E,M,s⟩:=h.sr.ob _ _ p;obtain⟨g,L,N⟩:=s.get H;cases N;have:=s.set j (c:=.sl false B i) (u:=l.sv d) (by rw[o];exact A.c9);have C:n.set j (l.sv d)=n:=by
  obtain⟨I,G⟩:=av7.1 L;rw[<-G];exact ax4 I
 rw[C]at this;obtain⟨K,D⟩:=h.sr.Vr p (o':=.box u (k.set j (.sl false B i))) ⟨J,v,n,E,M,this⟩;exact⟨l,h.n,h.d,K,h.tr.mono D⟩
def cG.aqw(b j f:Nat)(U:f<4294967296)(t:EQ)(l:Nat)(E:bc st.h b=some (.nr a k))(G:k[j]? =some (.sl true d []))(p:b≠f):
 cG P st ⟨st.n,dm f st.t,(b,some (.nr a ((k.map (AV.kill f)).set j (.ow f))))::(f,some (.arr t l [] true))::bx f st.h⟩:=by
 intro y r e g w n;obtain⟨W,a1⟩:=n.sr.ob _ _ E;have S:j<k.length:=(av7.1 G).1;rcases a1 with⟨Y,_⟩|⟨H,I,o,M,a5,N,X,Q,O,v⟩
 .subst Y;simp at S
 obtain⟨u,a7,a8⟩:=v.get G;obtain⟨h,a9,aa,D,_,_,_,_,_,a6,_⟩:=a8.n_;have q:=a6 rfl;simp only[aw4]at q D;subst q;subst D;obtain⟨a2,B⟩:=n.sr.kill f;obtain⟨a3,C⟩:=a2.HP f t l h (eC f st.h) U;have J:LR (VR (bT y r (e.cR f none (.slice h 0 0) 0) ((f,some (.arr t l [] true))::bx f st.h) w) (some (e.cR f none (.slice h 0 0) 0))) (k.map (AV.kill f)) (o.toList.take k.length):=
  ⟨by simpa using v.1,λm c x F hx=>by
   rw[awp]at F;obtain⟨z,q,rfl⟩:=awC.1 F;exact((((v.2 m z x q hx).kill f).mono B).mono C).env rfl f (lN f z) (λ_ i=>Env.bE i) (λ_ i=>Env.dy i)⟩
 have A:=J.set j (c:=.ow f) (u:=.slice h 0 0) (by
  have:=VR.ow (Rd:=bT y r (e.cR f none (.slice h 0 0) 0) ((f,some (.arr t l [] true))::bx f st.h) w) (e:=e.cR f none (.slice h 0 0) 0) (k:=f);rw[Env.dZ]at this;exact this)
 have K:(o.toList.take k.length).set j (.slice h 0 0)=o.toList.take k.length:=by
  obtain⟨V,R⟩:=av7.1 a7;rw[<-R];exact ax4 V
 rw[K]at A;have s:((k.map (AV.kill f)).set j (.ow f)).length=k.length:=d5
 have a0:bc ((f,some (Ob.arr t l [] true))::bx f st.h) b=some (Ob.kill f (.nr a k)):=by rw[bd p,dE,E];rfl
 have Z:OR (bT y r (e.cR f none (.slice h 0 0) 0) ((f,some (.arr t l [] true))::bx f st.h) w) (e.cR f none (.slice h 0 0) 0) w b (.nr a ((k.map (AV.kill f)).set j (.ow f))):=
  ⟨by rw[Env.lM p];exact W,.inr ⟨H,I,o,by rw[Env.bE p];exact M,by rw[Env.dy p,s];exact a5,by rw[s];exact N,X,Q,O,by rw[s];exact A⟩⟩
 obtain⟨a4,L⟩:=a3.Vr a0 Z;exact⟨_,n.n,n.d,a4,(((n.tr.kill f).mono B).mono C).env f (ef f st.t) (λ_ i=>Env.bE i) (λ_ i=>Env.dy i)|>.mono L⟩
def cG.anY(b j:Nat){k:Nat}{wr:In}{h:Do AV}(o:bc st.h b=some (.nr u h))(t:h[j]? =some (.ow k))(v:bc st.h k=some (.arr a d i wr)):
 cG P st ⟨st.n,st.t,(b,some (.nr u (h.set j (.sl false d i))))::(k,some (.arr a d i false))::st.h⟩:=by
 intro Z y e f w s;have I:b≠k:=λe=>by rw[e,v]at o;cases o
 obtain⟨m,B,C,D,q,E⟩:=s.sr.UU v;have l:=s.cX (⟨B,C,D,q⟩:qn Z y e st.h w m ((k,some (.arr a d i false))::st.h));have r:bc ((k,some (Ob.arr a d i false))::st.h) b=some (.nr u h):=by rw[bd I];exact o
 obtain⟨Q,U⟩:=l.sr.ob _ _ r;have N:j<h.length:=(av7.1 t).1;rcases U with⟨S,_⟩|⟨z,A,n,H,W,J,R,L,K,x⟩
 .subst S;simp at N
 obtain⟨g,X,Y⟩:=x.get t;cases Y;have:=x.set j (c:=.sl false d i) (u:=m.sv k) (by rw[q];exact E.c9);have F:(n.toList.take h.length).set j (m.sv k)=n.toList.take h.length:=by
  obtain⟨O,M⟩:=av7.1 X;rw[<-M];exact ax4 O
 rw[F]at this;have p:(h.set j (.sl false d i)).length=h.length:=d5
 obtain⟨V,G⟩:=l.sr.Vr r (o':=.nr u (h.set j (.sl false d i))) ⟨Q,.inr ⟨z,A,n,H,by rw[p];exact W,by rw[p];exact J,R,L,K,by rw[p];exact this⟩⟩;exact⟨m,l.n,l.d,V,l.tr.mono G⟩
end
def akE(π:Nat->Nat):Do (Nat×EV)->Do (Nat×EV)
 |[]=>[]
 |(i,c)::t=>(i,ym π c)::akE π t
def QJ(π:Nat->Nat):∀t,hP (akE π t)=PR π (hP t)
 |[]=>rfl
 |(i,c)::t=>by simp only[akE,hP,PR,GU,QJ π t]
def akF(a b k:Nat):Nat:=cond (beq k a) b (cond (beq k b) a k)
def akG(a b:Nat):akF a b=swp a b:=by
 funext k;unfold akF swp;by_cases c:k=a
 .subst c;rw[awD];simp
 .rw[jF c,av2 c]
  by_cases d:k=b
  .subst d;rw[awD];simp
  .rw[jF d,av2 d];rfl
def afb(a b:Nat)(E:cY):cY:=⟨E.n,akE (akF a b) E.t,Fj (akF a b) E.h⟩
def Fm(k:Nat)(c:EV):EV:=cond ((enc c).gW k) .un c
def QL(k:Nat)(c:EV):enc (Fm k c)=(enc c).kill k:=by
 unfold Fm AV.kill;cases(enc c).gW k<;>rfl
def yE(k:Nat):Do (Nat×EV)->Do (Nat×EV)
 |[]=>[]
 |(i,c)::t=>(i,Fm k c)::yE k t
def kA(k:Nat):∀t,hP (yE k t)=dm k (hP t)
 |[]=>rfl
 |(i,c)::t=>by simp only[yE,hP,dm,QL,kA k t]
def NM(k:Nat):Ni->Ni
 |some (i,some j)=>cond (beq j k) (some (i,none)) (some (i,some j))
 |o=>o
def QM(k:Nat):eD->eD
 |.box t c=>.box t (c.map (Fm k))
 |.arr t r a wr=>.arr t r a wr
 |.mp d f h e=>.mp d f h e
 |.nr t r a b=>.nr t r a (NM k b)
 |.qr t b g a=>.qr t (match b with
  |some j=>cond (beq j k) none (some j)
  |none=>none) g a
def xN(k:Nat)(a:Do EV):cw (a.map (Fm k))=(cw a).map (AV.kill k):=by
 rw[ei,ei,axe,axe];exact aw3 λc _=>QL k c
def QN(k:Nat)(r:Sc)(a:Do (Do r.dp))(c:Ni):zO r a (NM k c)=(zO r a c).map (AV.kill k):=by
 have b:(a.map (nrA r)).map (AV.kill k)=a.map (nrA r):=by
  rw[axe];exact aw3 λx _=>by cases x<;>rfl
 match c with
 |none=>exact b.symm
 |some (i,none)=>simp only[NM,zO,ax3,b];rfl
 |some (i,some j)=>
  simp only[NM,zO,ax3,b];by_cases h:j=k
  .subst h
   rw[awD];simp[nrH,AV.kill,AV.gW]
  .rw[jF h]
   simp[nrH,AV.kill,AV.gW,h]
def ab_(k:Nat)(o:eD):cA (QM k o)=(cA o).kill k:=by
 cases o with
 |box t d=>simp only[QM,cA,Ob.kill,xN]
 |arr=>rfl
 |mp=>rfl
 |nr t r c a=>simp only[QM,cA,Ob.kill,QN]
 |qr t a b c=>
  simp only[QM,cA,Ob.kill,axe];congr 1;refine aw3 λi _=>?_;cases a with
  |none=>rfl
  |some j=>
   show qrA b (cond (beq j k) none (some j)) i=AV.kill k (.pe j i.toNat b 0);by_cases h:j=k
   .subst h
    simp[qrA,AV.kill,AV.gW,awD]
   .rw[jF h]
    simp[qrA,AV.kill,AV.gW,h]
def vL(k:Nat):fv->fv
 |[]=>[]
 |(j,o)::h=>(j,match o with
  |some o=>some (QM k o)
  |none=>none)::vL k h
def ji(k:Nat):∀h,bF (vL k h)=bx k (bF h)
 |[]=>rfl
 |(j,o)::h=>by
  cases o with
  |none=>simp only[vL,bF,bx,Option.map,ji k h]
  |some o=>simp only[vL,bF,bx,Option.map,ji k h,ab_]
def aqx(i p:Nat)(t:EQ)(r:Sc)(E:cY):cY:=⟨E.n,(i,.ow p)::yE p E.t,(p,some (.arr t r [] true))::vL p E.h⟩
def aqy(i p:Nat)(t:EQ)(k a:Nat)(E:cY):cY:=⟨E.n,(i,.ow p)::yE p E.t,(p,some (.qr t (some k) a []))::vL p E.h⟩
def afc:Do (Nat×PO)->Nat->At PO
 |[],_=>none
 |(j,o)::t,i=>cond (beq i j) (some o) (afc t i)
def fA(a b:Nat)(E:cY):cY:=cond (blt a 4294967296 && blt b 4294967296) (afb a b E) E
def QO(i k p:Nat)(E:cY):cY:=match bH E.h k with
 |some (.arr t r a wr)=>cond (blt k 4294967296|| !(blt p 4294967296)) (fA k p E) ⟨E.n,(i,.ow p)::yE p E.t,(p,some (.arr t r a wr))::(k,none)::vL p E.h⟩
 |_=>fA k p E
def QP(b j k p:Nat)(a:EQ)(c:Do EV)(E:cY):cY:=match bH E.h k with
 |some (.arr t r d wr)=>cond (blt k 4294967296|| !(blt p 4294967296)||beq b p||beq b k) (fA k p E) ⟨E.n,yE p E.t,(b,some (.box a ((c.map (Fm p)).set j (.ow p))))::(p,some (.arr t r d wr))::(k,none)::vL p E.h⟩
 |_=>fA k p E
def Lz(b:Do (Nat×PO))(i:Nat)(d:PV)(E:cY):cY:=
 match d with
 |.k c=>match c with
  |.ow p=>match dj E.t i with
   |.ow k=>cond (beq k p) E (QO i k p E)
   |.nil=>match afc b p with
    |some (.arr t r _)=>cond (blt i E.n && blt p 4294967296) (aqx i p t r E) E
    |some (.qr t k e)=>cond (blt i E.n && blt p 4294967296) (aqy i p t k e E) E
    |_=>E
   |_=>E
  |.pt p _=>match dj E.t i with
   |.pt k _=>cond (beq k p) E (fA k p E)
   |_=>E
  |.mp p=>match dj E.t i with
   |.mp k=>cond (beq k p) E (fA k p E)
   |_=>E
  |_=>E
 |.h _=>match dj E.t i with
  |.ow k=>match bH E.h k with
   |some (.arr t r a _)=>⟨E.n,(i,.sc (.sl r) a)::E.t,(k,some (.arr t r a false))::E.h⟩
   |_=>E
  |_=>E
 |_=>E
def QQ(e:Do (Nat×PO))(i j:Nat)(f:PV)(E:cY):cY:=
 match dj E.t i with
 |.ag a=>match a[j]? with
  |some c=>match f with
   |.k d=>match d with
    |.ow p=>match c with
     |.ow k=>cond (beq k p) E (fA k p E)
     |.nil=>match afc e p with
      |some (.arr t r _)=>cond (blt p 4294967296) ⟨E.n,(i,.ag ((a.map (Fm p)).set j (.ow p)))::yE p E.t,(p,some (.arr t r [] true))::vL p E.h⟩ E
      |_=>E
     |_=>E
    |_=>E
   |.h _=>match c with
    |.ow k=>match bH E.h k with
     |some (.arr t r b _)=>⟨E.n,(i,.ag (a.set j (.sc (.sl r) b)))::E.t,(k,some (.arr t r b false))::E.h⟩
     |_=>E
    |_=>E
   |_=>E
  |none=>E
 |_=>E
def QS(g:Do (Nat×PO))(b j:Nat)(h:PV)(E:cY):cY:=
 match bH E.h b with
 |some (.box d a)=>match a[j]? with
  |some c=>match h with
   |.k f=>match f with
    |.ow p=>match c with
     |.ow k=>cond (beq k p) E (QP b j k p d a E)
     |.nil=>match afc g p with
      |some (.arr t r _)=>cond (beq b p|| !(blt p 4294967296)) E ⟨E.n,yE p E.t,(b,some (.box d ((a.map (Fm p)).set j (.ow p))))::(p,some (.arr t r [] true))::vL p E.h⟩
      |_=>E
     |_=>E
    |.pt p _=>match c with
     |.pt k _=>cond (beq k p) E (fA k p E)
     |_=>E
    |.mp p=>match c with
     |.mp k=>cond (beq k p) E (fA k p E)
     |_=>E
    |_=>E
   |.h _=>match c with
    |.ow k=>match bH E.h k with
     |some (.arr t r e _)=>⟨E.n,E.t,(b,some (.box d (a.set j (.sc (.sl r) e))))::(k,some (.arr t r e false))::E.h⟩
     |_=>E
    |_=>E
   |_=>E
  |none=>E
 |_=>E
def afd(p:Nat)(E:cY):cY:=match bH E.h p with
 |some _=>fA p (4000000+p) E
 |none=>E
def VI(b:PV)(c:EV)(E:cY):cY:=match b with
 |.k a=>match a with
  |.ow p=>match c with
   |.nil=>afd p E
   |_=>E
  |_=>E
 |_=>E
def aqz(i j:Nat)(E:cY):EV:=match dj E.t i with
 |.ag a=>(a[j]?).getD .un
 |_=>.un
def aqA(b j:Nat)(E:cY):EV:=match bH E.h b with
 |some (.box _ a)=>(a[j]?).getD .un
 |_=>.un
def Iw(a:Do (Nat×PO))(i:Nat):Nat->Do PV->cY->cY
 |_,[],E=>E
 |j,p::b,E=>Iw a i (j+1) b (QQ a i j p (VI p (aqz i j E) E))
def Ix(a:Do (Nat×PO))(b:Nat):Nat->Do PV->cY->cY
 |_,[],E=>E
 |j,p::c,E=>Ix a b (j+1) c (QS a b j p (VI p (aqA b j E) E))
def afe(i j:Nat)(E:cY):EV:=match dj E.t i with
 |.cl _ a cs=>((a++cs)[j]?).getD .un
 |_=>.un
def QT(i j:Nat)(b:PV)(E:cY):cY:=match b with
 |.k a=>match a with
  |.ow p=>match afe i j E with
   |.ow k=>cond (beq k p) E (fA k p E)
   |_=>E
  |.pt p _=>match afe i j E with
   |.pt k _=>cond (beq k p) E (fA k p E)
   |_=>E
  |.mp p=>match afe i j E with
   |.mp k=>cond (beq k p) E (fA k p E)
   |_=>E
  |_=>E
 |_=>E
def NN(i:Nat):Nat->Do PV->cY->cY
 |_,[],E=>E
 |j,p::a,E=>NN i (j+1) a (QT i j p E)
def Iy(b:Do (Nat×PO)):Do (Nat×PV)->cY->cY
 |[],E=>E
 |(i,a)::t,E=>Iy b t (match a with
  |.ag l=>Iw b i 0 l E
  |.cl _ c cs=>NN i 0 (c++cs) E
  |a=>Lz b i a (VI a (dj E.t i) E))
def QU(k p:Nat)(E:cY):cY:=match bH E.h k with
 |some (.nr _ _ _ (some (_,some j)))=>cond (beq j p) E (fA j p E)
 |_=>E
def Iz(a:Do (Nat×PO)):Do (Nat×PO)->cY->cY
 |[],E=>E
 |(k,o)::h,E=>Iz a h (match o with
  |.box _ l=>Ix a k 0 l E
  |.nr _ _ (some (_,p))=>QU k p E
  |_=>E)
section
variable{P:Fd}
def cG.of_eq{a b:St}(h:a=b):cG P a b:=h▸cG.refl
def aca(a b:Nat)(c:a<4294967296)(d:b<4294967296)(E:cY):cG P (br E) (br (afb a b E)):=by
 have:=cG.swap (P:=P) (st:=br E) a b c d;simp only[br,afb,QJ,vF,akG]at this⊢;exact this
def ic(a b:Nat)(E:cY):cG P (br E) (br (fA a b E)):=by
 unfold fA;cases h:(blt a 4294967296 && blt b 4294967296)with
 |false=>exact cG.refl
 |true=>
  simp only[av4]at h;exact aca a b (awd h.1) (awd h.2) E
def IA{x y:cY}(a:cG P A (br x))(b:cG P A (br y)):cG P A (br (cond g x y)):=by
 cases g
 .exact b
 .exact a
def ie(h:bH n.h d=some Q):bc (br n).h d=some (cA Q):=by
 show bc (bF n.h) d=_;rw[dw,h];rfl
def xP(h:dj n.t d=D):bO (br n).t d=enc D:=by
 show bO (hP n.t) d=_;rw[cU,h]
def aff(i k p:Nat)(E:cY)(c:dj E.t i=.ow k)(b:(beq k p)=false):cG P (br E) (br (QO i k p E)):=by
 unfold QO;split
 next t r g wr d=>
  cases a:(blt k 4294967296|| !(blt p 4294967296))with
  |true=>exact ic _ _ _
  |false=>
   simp only[ax8,aAl]at a;have f:p≠k:=λe=>by rw[e,awD]at b;cases b
   have:=cG.anV (P:=P) (st:=br E) i k p (awd a.2) f (xP c) (ie d);simp only[br,hP,bF,kA,ji,Option.map,cA,enc,av8]at this⊢;exact this
 .exact ic _ _ _
def acb(h:e[d]? =some D):(cw e)[d]? =some (enc D):=by rw[ei,awp,h];rfl
def afg(b j k p:Nat)(d:EQ)(c:Do EV)(E:cY)(i:bH E.h b=some (.box d c))(l:c[j]? =some (.ow k))(f:(beq k p)=false):cG P (br E) (br (QP b j k p d c E)):=by
 unfold QP;split
 next t r o wr m=>
  cases a:(blt k 4294967296|| !(blt p 4294967296)||beq b p||beq b k)with
  |true=>exact ic _ _ _
  |false=>
   simp only[ax8,aAl]at a;have n:p≠k:=λe=>by rw[e,awD]at f;cases f
   have g:b≠p:=λe=>by have:=a.1.2;rw[e,awD]at this;cases this
   have h:b≠k:=λe=>by have:=a.2;rw[e,awD]at this;cases this
   have:=cG.anU (P:=P) (st:=br E) b j k p (awd a.1.1.2) n g h (ie i) (acb l) (ie m);simp only[br,hP,bF,kA,ji,Option.map,cA,enc,rl,xN,av8]at this⊢;exact this
 .exact ic _ _ _
def afh{x y:cY}(a:cG P A (br x))(b:g=false->cG P A (br y)):cG P A (br (cond g x y)):=by
 cases g with
 |true=>exact a
 |false=>exact b rfl
def QV(h:Do (Nat×PO))(i:Nat)(j:PV)(E:cY):cG P (br E) (br (Lz h i j E)):=by
 unfold Lz;split
 .split
  .split
   next k b=>exact afh cG.refl λg=>aff _ _ _ _ b g
   next f=>
    split
    next p _ _ t r wr _=>
     cases a:(blt i E.n && blt p 4294967296)with
     |false=>exact cG.refl
     |true=>
      simp only[av4]at a;have:=cG.own (P:=P) (st:=br E) i p (awd a.2) t r.w (xP f) (awd a.1);simp only[aqx,br,hP,bF,kA,ji,Option.map,cA,enc,axd,awv]at this⊢;exact this
    next p _ _ t k m _=>
     cases a:(blt i E.n && blt p 4294967296)with
     |false=>exact cG.refl
     |true=>
      simp only[av4]at a;have:=cG.own (P:=P) (st:=br E) i p (awd a.2) t 1 (xP f) (awd a.1);simp only[aqy,br,hP,bF,kA,ji,Option.map,cA,enc,axd,awv]at this⊢;exact this.trans (cG.akj λRd e w d=>d.anx)
    .exact cG.refl
   .exact cG.refl
  .split
   .exact IA cG.refl (ic _ _ _)
   .exact cG.refl
  .split
   .exact IA cG.refl (ic _ _ _)
   .exact cG.refl
  .exact cG.refl
 .split
  next k b=>
   split
   next t r l wr d=>refine cG.UU (P:=P) (st:=br E) i (c:=.sl false r.w (List.map (bM r) l)) ?_;rw[xP b];simp only[enc,kV,iQ,ie d,cA];rfl
   .exact cG.refl
  .exact cG.refl
 .exact cG.refl
def Bc(h:e[d]? =some D):(cw e)[d]? =some (enc D):=by rw[ei,awp,h];rfl
def afi(f:Do (Nat×PO))(i j:Nat)(g:PV)(E:cY):cG P (br E) (br (QQ f i j g E)):=by
 unfold QQ;split
 next h b=>
  split
  next c a=>
   split
   .split
    .split
     .exact IA cG.refl (ic _ _ _)
     .split
      next p _ _ t r wr _=>
       cases d:blt p 4294967296 with
       |false=>exact cG.refl
       |true=>
        have:=cG.aqu (P:=P) (st:=br E) i j p (awd d) t r.w (xP b) (Bc a);simp only[br,hP,bF,kA,ji,Option.map,cA,enc,axd,rl,xN,awv]at this⊢;exact this
      .exact cG.refl
     .exact cG.refl
    .exact cG.refl
   .split
    next k=>
     split
     next t r l wr e=>have:=cG.anW (P:=P) (st:=br E) i j (xP b) (Bc a) (ie e);simp only[br,hP,bF,Option.map,cA,enc,rl,encS]at this⊢;exact this
     .exact cG.refl
    .exact cG.refl
   .exact cG.refl
  .exact cG.refl
 .exact cG.refl
def afj(l:Do (Nat×PO))(b j:Nat)(m:PV)(E:cY):cG P (br E) (br (QS l b j m E)):=by
 unfold QS;split
 next n o f=>
  split
  next c d=>
   split
   .split
    .split
     .exact afh cG.refl λi=>afg _ _ _ _ _ _ _ f d i
     .split
      next p _ _ t r wr _=>
       cases a:(beq b p|| !(blt p 4294967296))with
       |true=>exact cG.refl
       |false=>
        simp only[ax8,aAl]at a;have g:b≠p:=λe=>by have:=a.1;rw[e,awD]at this;cases this
        have:=cG.aqv (P:=P) (st:=br E) b j p (awd a.2) t r.w (ie f) (Bc d) g;simp only[br,hP,bF,kA,ji,Option.map,cA,enc,axd,rl,xN,av8]at this⊢;exact this
      .exact cG.refl
     .exact cG.refl
    .split
     .exact IA cG.refl (ic _ _ _)
     .exact cG.refl
    .split
     .exact IA cG.refl (ic _ _ _)
     .exact cG.refl
    .exact cG.refl
   .split
    next k=>
     split
     next t r q wr h=>have:=cG.anX (P:=P) (st:=br E) b j (ie f) (Bc d) (ie h);simp only[br,hP,bF,Option.map,cA,enc,rl,encS]at this⊢;exact this
     .exact cG.refl
    .exact cG.refl
   .exact cG.refl
  .exact cG.refl
 .exact cG.refl
def NO(a:PV)(c:EV)(E:cY):cG P (br E) (br (VI a c E)):=by
 unfold VI;split
 .split
  .split
   .unfold afd
    split
    .exact ic _ _ _
    .exact cG.refl
   .exact cG.refl
  .exact cG.refl
 .exact cG.refl
def LA(a:Do (Nat×PO))(i:Nat):∀(b:Do PV) (j:Nat) (E:cY),cG P (br E) (br (Iw a i j b E))
 |[],_,_=>cG.refl
 |p::b,j,E=>((NO p _ E).trans (afi a i j p _)).trans (LA a i b (j+1) _)
def LB(a:Do (Nat×PO))(b:Nat):∀(c:Do PV) (j:Nat) (E:cY),cG P (br E) (br (Ix a b j c E))
 |[],_,_=>cG.refl
 |p::c,j,E=>((NO p _ E).trans (afj a b j p _)).trans (LB a b c (j+1) _)
def IB(k p:Nat)(E:cY):cG P (br E) (br (cond (beq k p) E (fA k p E))):=IA cG.refl (ic _ _ E)
def afk(i j:Nat)(a:PV)(E:cY):cG P (br E) (br (QT i j a E)):=by
 unfold QT;split
 .split
  .split
   .exact IB _ _ E
   .exact cG.refl
  .split
   .exact IB _ _ E
   .exact cG.refl
  .split
   .exact IB _ _ E
   .exact cG.refl
  .exact cG.refl
 .exact cG.refl
def LC(i:Nat):∀(a:Do PV) (j:Nat) (E:cY),cG P (br E) (br (NN i j a E))
 |[],_,_=>cG.refl
 |p::a,j,E=>(afk i j p E).trans (LC i a (j+1) _)
def QW(a:Do (Nat×PO)):∀(t:Do (Nat×PV)) (E:cY),cG P (br E) (br (Iy a t E))
 |[],_=>cG.refl
 |(i,b)::t,E=>by
  refine cG.trans ?_ (QW a t _);split
  .exact LA a i _ 0 E
  .exact LC i _ 0 E
  .exact(NO _ _ E).trans (QV a i _ _)
def afl(k p:Nat)(E:cY):cG P (br E) (br (QU k p E)):=by
 unfold QU;split
 .exact IA cG.refl (ic _ _ E)
 .exact cG.refl
def QX(a:Do (Nat×PO)):∀(h:Do (Nat×PO)) (E:cY),cG P (br E) (br (Iz a h E))
 |[],_=>cG.refl
 |(k,o)::h,E=>by
  refine cG.trans ?_ (QX a h _);split
  .exact LB a k _ 0 E
  .exact afl k _ E
  .exact cG.refl
end
def IC:Do (Nat×PV)->Do EV->Do (Nat×EV)×Do EV
 |[],a=>([],a)
 |(i,p)::t,a=>((i,(gj p a).1)::(IC t (gj p a).2).1,(IC t (gj p a).2).2)
def afm(c:Do (Nat×EV)):Do (Nat×PV)->At (Do EV)
 |[]=>some []
 |(i,p)::t=>match Il p (dj c i)with
  |some a=>match afm c t with
   |some b=>some (a++b)
   |none=>none
  |none=>none
def akH(c:fv):Do (Nat×PO)->At (Do EV)
 |[]=>some []
 |(k,p)::h=>match bH c k with
  |some o=>match aku p o with
   |some a=>match akH c h with
    |some b=>some (a++b)
    |none=>none
   |none=>none
  |none=>none
def XG{g:Do (Nat×EV)}:∀(t:Do (Nat×PV)) {c:Do EV} (rest:Do EV),afm g t=some c->(IC t (c++rest)).2=rest/\∀i,Wk (enc (dj g i)) (enc (dj (IC t (c++rest)).1 i))
 |[],c,rest,h=>by
  simp only[afm,av6]at h;subst h;exact⟨rfl,λi=>Wk.un⟩
 |(i,p)::t,c,rest,h=>by
  simp only[afm]at h;split at h
  next a k=>
   split at h
   next b l=>
    cases h;have d:=Xz p (b++rest) k;have e:=XG t rest l;simp only[IC,awx,d.1];refine⟨e.1,λj=>?_⟩;simp only[dj];by_cases f:j=i
    .subst f;rw[awD];exact d.2
    .rw[jF f];exact e.2 j
   .cases h
  .cases h
def XH{g:fv}:∀(t:Do (Nat×PO)) {f:Do EV} (rest:Do EV),akH g t=some f->
 ∀k d,bH (vD t (f++rest)) k=some d->∃o,bH g k=some o/\∀Rd e w,OR Rd e w k (cA o)->OR Rd e w k (cA d)
 |[],f,rest,h,k,d,c=>by cases c
 |(i,p)::t,f,rest,h,k,d,c=>by
  simp only[akH]at h;split at h
  next o s=>
   split at h
   next a q=>
    split at h
    next b r=>
     cases h;obtain⟨l,u,m,n⟩:=XA p (b++rest) q;simp only[vD,awx,l,m,bH]at c;by_cases j:k=i
     .subst j
      rw[awD]at c;cases c;exact⟨o,s,λRd e w=>n Rd e w k⟩
     .rw[jF j]at c
      exact XH t rest r k d c
    .cases h
   .cases h
  .cases h
structure PS where
 t:List (Nat×PV)
 h:List (Nat×PO)
 c:List Sc
def fN(n:Nat)(a:PS)(x:mq a.c):cY:=⟨n,(IC a.t (iU a.c x)).1,vD a.h (IC a.t (iU a.c x)).2⟩
def sO(a:Do (Nat×EV)):Do (Nat×PV)->Do (Nat×EV)
 |[]=>[]
 |(i,_)::t=>(i,dj a i)::sO a t
def canon(c:PS)(E:cY):At (mq c.c):=
 match afm (Iz c.h c.h (Iy c.h c.t ⟨E.n,sO E.t c.t,E.h⟩)).t c.t with
 |some a=>match akH (Iz c.h c.h (Iy c.h c.t ⟨E.n,sO E.t c.t,E.h⟩)).h c.h with
  |some b=>yC c.c (a++b)
  |none=>none
 |none=>none
def IE(a:Do (Nat×EV)):∀(t:Do (Nat×PV)) (i:Nat),dj (sO a t) i=dj a i\/dj (sO a t) i=.un
 |[],i=>.inr rfl
 |(j,p)::t,i=>by
  simp only[sO,dj];by_cases h:i=j
  .subst h;rw[awD];exact .inl rfl
  .rw[jF h];exact IE a t i
def akI(i k p:Nat)(E:cY):(QO i k p E).n=E.n:=by
 unfold QO;have c:∀(b:In) (x y:cY),x.n=E.n->y.n=E.n->(cond b x y).n=E.n:=λb x y e f=>by cases b<;>assumption
 have d:∀a b:Nat,(fA a b E).n=E.n:=λa b=>by unfold fA;exact c _ _ _ rfl rfl
 split
 .exact c _ _ _ (d _ _) rfl
 .exact d _ _
def akJ(b j k p:Nat)(e:EQ)(f:Do EV)(E:cY):(QP b j k p e f E).n=E.n:=by
 unfold QP;have c:∀(b:In) (x y:cY),x.n=E.n->y.n=E.n->(cond b x y).n=E.n:=λb x y g h=>by cases b<;>assumption
 have d:∀a b:Nat,(fA a b E).n=E.n:=λa b=>by unfold fA;exact c _ _ _ rfl rfl
 split
 .exact c _ _ _ (d _ _) rfl
 .exact d _ _
def XI(e:Do (Nat×PO))(i:Nat)(f:PV)(E:cY):(Lz e i f E).n=E.n:=by
 unfold Lz;have c:∀(b:In) (x y:cY),x.n=E.n->y.n=E.n->(cond b x y).n=E.n:=λb x y g h=>by cases b<;>assumption
 have d:∀a b:Nat,(fA a b E).n=E.n:=λa b=>by unfold fA;exact c _ _ _ rfl rfl
 repeat' (first|rfl|exact d _ _|exact c _ _ _ rfl rfl|exact c _ _ _ rfl (d _ _)|exact c _ _ _ rfl (akI _ _ _ _)|split)
def akK(e:Do (Nat×PO))(i j:Nat)(f:PV)(E:cY):(QQ e i j f E).n=E.n:=by
 unfold QQ;have c:∀(b:In) (x y:cY),x.n=E.n->y.n=E.n->(cond b x y).n=E.n:=λb x y g h=>by cases b<;>assumption
 have d:∀a b:Nat,(fA a b E).n=E.n:=λa b=>by unfold fA;exact c _ _ _ rfl rfl
 repeat' (first|rfl|exact d _ _|exact c _ _ _ rfl rfl|exact c _ _ _ rfl (d _ _)|split)
def akL(e:Do (Nat×PO))(i j:Nat)(f:PV)(E:cY):(QS e i j f E).n=E.n:=by
 unfold QS;have c:∀(b:In) (x y:cY),x.n=E.n->y.n=E.n->(cond b x y).n=E.n:=λb x y g h=>by cases b<;>assumption
 have d:∀a b:Nat,(fA a b E).n=E.n:=λa b=>by unfold fA;exact c _ _ _ rfl rfl
 repeat' (first|rfl|exact d _ _|exact c _ _ _ rfl rfl|exact c _ _ _ rfl (d _ _)|exact c _ _ _ rfl (akJ _ _ _ _ _ _ _)|split)
def VJ(a:PV)(c:EV)(E:cY):(VI a c E).n=E.n:=by
 unfold VI;split
 .split
  .split
   .unfold afd
    split
    .unfold fA;cases(blt _ 4294967296 && blt _ 4294967296)<;>rfl
    .rfl
   .rfl
  .rfl
 .rfl
def QY(b:Do (Nat×PO))(i:Nat):∀(a:Do PV) (j:Nat) (E:cY),(Iw b i j a E).n=E.n
 |[],_,_=>rfl
 |p::a,j,E=>by rw[Iw,QY b i a,akK,VJ]
def QZ(b:Do (Nat×PO))(i:Nat):∀(a:Do PV) (j:Nat) (E:cY),(Ix b i j a E).n=E.n
 |[],_,_=>rfl
 |p::a,j,E=>by rw[Ix,QZ b i a,akL,VJ]
def NP(k p:Nat)(E:cY):(cond (beq k p) E (fA k p E)).n=E.n:=by
 cases beq k p with
 |true=>rfl
 |false=>
  show(fA k p E).n=E.n;unfold fA;cases(blt k 4294967296 && blt p 4294967296)<;>rfl
def akM(i j:Nat)(a:PV)(E:cY):(QT i j a E).n=E.n:=by
 unfold QT;split
 .split
  .split
   .exact NP _ _ E
   .rfl
  .split
   .exact NP _ _ E
   .rfl
  .split
   .exact NP _ _ E
   .rfl
  .rfl
 .rfl
def Q0(i:Nat):∀(a:Do PV) (j:Nat) (E:cY),(NN i j a E).n=E.n
 |[],_,_=>rfl
 |p::a,j,E=>(Q0 i a (j+1) _).trans (akM i j p E)
def XJ(a:Do (Nat×PO)):∀(t:Do (Nat×PV)) (E:cY),(Iy a t E).n=E.n
 |[],_=>rfl
 |(i,b)::t,E=>by
  refine(XJ a t _).trans ?_;cases b with
  |ag l=>exact QY a i _ 0 E
  |cl d e c=>exact Q0 i _ 0 E
  |_=>exact(XI a i _ _).trans (VJ _ _ E)
def XK(a:Do (Nat×PO)):∀(t:Do (Nat×PO)) (E:cY),(Iz a t E).n=E.n
 |[],_=>rfl
 |(i,c)::t,E=>by
  refine(XK a t _).trans ?_;cases c with
  |box _ l=>exact QZ a i _ 0 E
  |nr t r b=>
   cases b with
   |none=>rfl
   |some q=>
    obtain⟨s,p⟩:=q;show(QU i p E).n=E.n;unfold QU;split
    next j _=>
     cases beq j p with
     |true=>rfl
     |false=>
      show(fA j p E).n=E.n;unfold fA;cases(blt j 4294967296 && blt p 4294967296)<;>rfl
    .rfl
  |_=>rfl
def afn{P:Fd}{c:PS}{x:mq c.c}(h:canon c n=some x):cG P (br n) (br (fN n.n c x)):=by
 unfold canon at h;have r:cG P (br n) (br ⟨n.n,sO n.t c.t,n.h⟩):=by
  refine cG.wk (λi=>?_) λk p d=>⟨p,d,λ_ _ _ h=>h⟩;rw[cU,cU];rcases IE n.t c.t i with h|h
  .rw[h];exact Wk.refl _
  .rw[h];exact Wk.un
 have f:=r.trans ((QW (P:=P) c.h c.t _).trans (QX c.h c.h _));have e:(Iz c.h c.h (Iy c.h c.t ⟨n.n,sO n.t c.t,n.h⟩)).n=n.n:=by rw[XK,XJ]
 generalize Iz c.h c.h (Iy c.h c.t ⟨n.n,sO n.t c.t,n.h⟩)=q at h f e;split at h
 next a u=>
  split at h
  next b v=>
   have j:=Ba h;have m:=XG c.t b u;have g:=XH c.h [] v;rw[awN]at g;refine f.trans ?_;obtain⟨z,A,y⟩:=q;simp only at e;subst e;refine cG.wk (λi=>?_) λk p d=>?_
   .rw[cU,cU]
    simp only[fN,<-j];exact m.2 i
   .rw[dw]at d
    obtain⟨w,l,rfl⟩:=awC.1 d;simp only[fN,<-j,m.1]at l;obtain⟨o,s,t⟩:=g k w l;exact⟨cA o,by rw[dw,s];rfl,t⟩
  .cases h
 .cases h
def afo:fv->cn
 |[]=>none
 |(k,o)::h=>match o with
  |some (.nr _ _ _ _)=>some k
  |_=>afo h
def afp:Do (Nat×PO)->Do (Nat×PO)->At (Nat×EQ)
 |_,[]=>none
 |a,(_,o)::h=>match o with
  |.nr _ _ (some (s,p))=>match afc a p with
   |some (.arr b _ _)=>some (s,b)
   |_=>none
  |_=>afp a h
def amH(b:Nat)(t a:EQ)(r:Sc)(c:Do (Do r.dp))(i:Int)(E:cY):cY:=
 ⟨E.n,yE (5000000+b) E.t,(b,some (.nr t r c (some (i,some (5000000+b)))))::(5000000+b,some (.arr a r [] true))::vL (5000000+b) E.h⟩
def anZ(e:PS)(E:cY){R:Type}(k:cY->At R):At R:=
 match afo E.h with
 |none=>k E
 |some b=>match bH E.h b with
  |some (.nr t r a d)=>match afp e.h e.h with
   |none=>match d with
    |some (i,some j)=>match bH E.h j with
     |some (.arr c f g wr)=>match eT (.sl f) (.sl r) g with
      |some h=>aW (aZ a i) λ_=>cond (oh (show Do r.dp from h)) none (k ⟨E.n,E.t,(b,some (.nr t r (a.set i.toNat h) none))::(j,some (.arr c f g false))::E.h⟩)
      |none=>none
     |_=>none
    |_=>k E
   |some (s,c)=>match d with
    |none=>match dj E.t s with
     |.sc (.i _) i=>cond (blt (5000000+b) 4294967296) (aW (aZ a i) λx=>cond (oh x) (k (amH b t c r a i E)) none) none
     |_=>k E
    |_=>k E
  |_=>k E
def akN{P:Fd}{G:PS}{R:Type}{k:cY->At R}{r:R}(h:anZ G n k=some r):∃f,cG P (br n) (br f)/\f.n=n.n/\k f=some r:=by
 unfold anZ at h;split at h
 .exact⟨n,cG.refl,rfl,h⟩
 next b _=>
  split at h
  next t c d H u=>
   have o:=ie u;split at h
   .split at h
    next i j=>
     split at h
     next p K m wr A=>
      split at h
      next e F=>
       obtain⟨q,l⟩:=dC F;cases q;have l:e=m:=l;subst l;obtain⟨x,a,h⟩:=bp h;obtain⟨z,a⟩:=e6 a;rcases bR h with⟨_,h⟩|⟨D,h⟩
       .cases h
       refine⟨_,?_,by rfl,h⟩;have C:i.toNat<d.length:=(av7.1 a).1;have:=cG.anY (P:=P) (st:=br n) b i.toNat (k:=j) o (by
        simp only[zO,nrH];rw[aAU (by simpa using C)]) (ie A)
       refine this.trans (cG.of_eq ?_);have g:(zO c d (some (i,some j))).set i.toNat (.sl false c.w (List.map (bM c) e))=zO c (d.set i.toNat e) none:=by
        simp only[zO,aAg,ax3];congr 1;cases e with
        |nil=>cases D
        |cons y m=>rfl
       simp only[br,bF,Option.map,cA,g]
      .cases h
     .cases h
    .exact⟨n,cG.refl,rfl,h⟩
   next s p _=>
    split at h
    .split at h
     next J i I=>
      obtain⟨v,h⟩:=aY h;obtain⟨x,a,h⟩:=bp h;obtain⟨z,a⟩:=e6 a;obtain⟨w,h⟩:=aY h;refine⟨_,?_,by rfl,h⟩;have E:x=[]:=by cases x with
       |nil=>rfl
       |cons y m=>cases w
      subst E;have B:5000000+b<4294967296:=awd v;have:=cG.aqw (P:=P) (st:=br n) b i.toNat (5000000+b) B p c.w o (by
       simp only[zO,awp,a];rfl) bv
      refine this.trans (cG.of_eq ?_);have g:((zO c d none).map (AV.kill (5000000+b))).set i.toNat (.ow (5000000+b))=zO c d (some (i,some (5000000+b))):=by
       rw[<-QN];rfl
      simp only[amH,br,bF,Option.map,cA,kA,ji,g];rfl
     .exact⟨n,cG.refl,rfl,h⟩
    .exact⟨n,cG.refl,rfl,h⟩
  .exact⟨n,cG.refl,rfl,h⟩
def aqB:Do (Nat×PO)->In
 |[]=>false
 |(_,o)::h=>match o with
  |.nr _ _ _=>true
  |_=>aqB h
def an0(c:PS)(E:cY)(k:cY->At b):At b:=match afo E.h with
 |none=>k E
 |some a=>cond (aqB c.h) (k E) (match bH E.h a with
  |some (.nr t r d none)=>k ⟨E.n,E.t,(a,some (.arr t (.sl r) d true))::E.h⟩
  |_=>k E)
def akO{P:Fd}{q:PS}{k:cY->At b}{r:b}(h:an0 q n k=some r):∃f,cG P (br n) (br f)/\f.n=n.n/\k f=some r:=by
 unfold an0 at h;split at h
 .exact⟨n,cG.refl,rfl,h⟩
 next a _=>
  rcases bR h with⟨_,h⟩|⟨_,h⟩
  .exact⟨n,cG.refl,rfl,h⟩
  split at h
  next t g i m=>
   have o:=ie m;refine⟨_,?_,by rfl,h⟩;have s:cG P (br n) ⟨n.n,hP n.t,(a,some (.nr t (i.map (nrA g))))::bF n.h⟩:=cG.same (λ_=>rfl) λj=>by
    by_cases l:j=a
    .subst l
     rw[bf];exact o.symm
    .rw[bd l]
   refine s.trans (cG.akj λRd e w p=>?_);refine(p.aqh (λc d=>?_) (λc d=>?_) true).AX (Vw g i) (λc d=>?_)
   .obtain⟨x,_,rfl⟩:=awe.1 d
    cases x<;>rfl
   .obtain⟨x,_,rfl⟩:=awe.1 d
    cases x<;>rfl
   .exact fm (.sl g) i c d
  .exact⟨n,cG.refl,rfl,h⟩
def sP(a:PS)(E:cY)(k:mq a.c->At b):At b:=anZ a E λc=>an0 a c λc=>aW (canon a c) k
def nU{P:Fd}{a:PS}{k:mq a.c->At b}{r:b}(h:sP a n k=some r):∃x,cG P (br n) (br (fN n.n a x))/\k x=some r:=by
 obtain⟨o,c,f,i⟩:=akN (P:=P) h;obtain⟨m,d,e,g⟩:=akO (P:=P) i;obtain⟨x,l,j⟩:=bp g;have:=afn (P:=P) l;rw[e,f]at this;exact⟨x,c.trans (d.trans this),j⟩
variable{L:Code}
def XL:IR->IR->In
 |.normal,.normal=>true
 |.ret,.ret=>true
 |.exit i,.exit j=>beq i j
 |_,_=>false
def Q1{x y:IR}(h:XL x y=true):x=y:=by
 unfold XL at h;split at h
 .rfl
 .rfl
 .rw[awb h]
 .cases h
@[reducible] def KZ:Do (IR×PS)->Type
 |[]=>Unit
 |[o]=>mq o.2.c
 |o::p::r=>Sum (mq o.2.c) (KZ (p::r))
def Fo:(c:Do (IR×PS))->IR->cY->At (KZ c)
 |[],_,_=>none
 |[o],x,E=>cond (XL o.1 x) (sP o.2 E some) none
 |o::p::r,x,E=>cond (XL o.1 x) (sP o.2 E λa=>some (.inl a)) (match Fo (p::r) x E with
  |some b=>some (.inr b)
  |none=>none)
def Q2(n:Nat):(c:Do (IR×PS))->KZ c->{R:Type}->(IR->cY->At R)->At R
 |[],_,_,_=>none
 |[o],v,_,k=>k o.1 (fN n o.2 v)
 |o::p::r,v,_,k=>match v with
  |.inl a=>k o.1 (fN n o.2 a)
  |.inr b=>Q2 n (p::r) b k
inductive Pl where
 |z
 |n (a b:Pl)
 |join (ins:PS) (outs:List (Exit×PS)) (p:Pl)
 |loop (ins:PS) (outs:List (Exit×PS)) (p:Pl)
def Pl.l:Pl->Pl
 |.n a _=>a
 |_=>.z
def Pl.r:Pl->Pl
 |.n _ b=>b
 |_=>.z
abbrev ExT:=Pl->cY->(R:Type)->(IR->cY->At R)->At R
def amI(f:ExT)(n:Nat)(a:PS)(b:Do (IR×PS))(p:Pl):Nat->mq a.c->At (KZ b)
 |0,_=>none
 |_+1,v=>f p (fN n a v) _ (Fo b)
def IF(f:ExT)(n:Nat)(a:PS)(b:Do (IR×PS))(p:Pl):Nat->mq a.c->At (KZ b)
 |0,_=>none
 |m+1,v=>f p (fN n a v) _ λx E=>match x with
  |.normal=>sP a E (IF f n a b p m)
  |x=>Fo b x E
def afq(N:Nat)(c:ExT):ExT:=λd E _ k=>match d with
 |.loop a b p=>sP a E λv=>aW (IF c E.n a b p N v) λo=>Q2 E.n b o k
 |_=>none
def LD(N:Nat)(f:ExT):ExT:=λa E _ k=>match a with
 |.join b c p=>sP b E λv=>aW (amI f E.n b c p N v) λo=>Q2 E.n c o k
 |a=>f a E _ k
def afr(i:Nat):bq->Nat
 |[]=>i
 |o::l=>match o.dst with
  |some d=>cond (beq d i) (match o.op with
   |.move (.tmp j)=>j
   |_=>i) (afr i l)
  |none=>afr i l
def Bd(a:bq):bq->a_
 |[]=>[]
 |o::l=>match o.op with
  |.slice _ (.tmp i) _ _ _=>afr i a::Bd a l
  |_=>Bd a l
def afs:a_->a_
 |[]=>[]
 |i::l=>cond (l.any (beq i)) (i::afs l) (afs l)
def akP:a_->cY->cY
 |[],E=>E
 |i::l,E=>akP l (Lz [] i (.h .u) E)
def acd(l:bq)(E:cY):cY:=akP (afs (Bd l l)) E
section
variable{P:Fd}
def GW:∀(l:a_) (E:cY),cG P (br E) (br (akP l E))/\(akP l E).n=E.n
 |[],E=>⟨cG.refl,rfl⟩
 |i::l,E=>⟨cG.trans (QV [] i _ E) (GW l _).1,(GW l _).2.trans (XI [] i _ E)⟩
end
def Fp:Code->In
 |.seq a b=>Fp a && Fp b
 |.cond _ a b=>Fp a && Fp b
 |.block _ a=>Fp a
 |.loop a=>Fp a
 |.scope a=>Fp a
 |.rangeFunc _ _ _ _=>false
 |_=>true
section
variable(T:EQ->bz)(CT:Do kS)(N:Nat)
noncomputable def yF(c:Code):ExT:=
 Code.rec (motive:=λ_=>ExT)
  (λ_ E _ k=>k .normal E)
  (λ_ f h=>LD N λ_ E _ k=>cond h (KJ T CT f.toList (acd f.toList E) f.toList [] (k .normal)) (Gt T CT f.toList f.toList E (k .normal)))
  (λ_ _ d g=>LD N λa E _ k=>d a.l E _ λx e=>match x with
   |.normal=>g a.r e _ k
   |x=>k x e)
  (λc _ _ d g=>LD N λa E _ k=>match e7 (dj E.t) c with
   |.sc .b b=>match c with
    |.tmp i=>cond b (d a.l ⟨E.n,(i,.sc .b true)::E.t,E.h⟩ _ k) (g a.r ⟨E.n,(i,.sc .b false)::E.t,E.h⟩ _ k)
    |_=>cond b (d a.l E _ k) (g a.r E _ k)
   |_=>none)
  (λid _ d=>LD N λa E _ k=>d a.l E _ λx e=>match x with
   |.exit i=>cond (beq i id) (k .normal e) (k (.exit i) e)
   |x=>k x e)
  (λ_ d=>afq N d)
  (λ_ _ _ _ _ _=>λ_ _ _ _=>none)
  (λid _ E _ k=>k (.exit id) E)
  (λ_ d=>λa E _ k=>d a.l E _ λx e=>match x with
   |.goto _=>none
   |x=>k x e)
  (λ_=>λ_ E _ k=>k .normal E)
  (λ_=>λ_ _ _ _=>none)
  (λ_ E _ k=>k .ret E)
  (λ_=>λ_ _ _ _=>none)
  c
end
section
variable{P:Fd}{T:EQ->bz}{CT:Do kS}{N:Nat}
def VK(t:In)(P:Fd)(c:Code)(f:ExT):Prop:=∀(b:Pl) (E:cY) (R:Type) (k:IR->cY->At R) (r:R),f b E R k=some r->AC t P c (br E) λx s=>∃a,s=br a/\a.n=E.n/\k x a=some r
def IG{n:Nat}:∀{os:Do (IR×PS)} {o:KZ os} {R:Type} {k:IR->cY->At R} {r:R},Q2 n os o k=some r->∀{x:IR} {E:cY},Fo os x E=some o->E.n=n->∃f,cG P (br E) (br f)/\f.n=n/\k x f=some r
 |[],o,R,k,r,h,x,E,c,d=>by cases c
 |[j],o,R,k,r,h,x,E,c,d=>by
  simp only[Fo]at c;obtain⟨e,a⟩:=aY c;have:=Q1 e;subst this;obtain⟨y,this,g⟩:=nU (P:=P) a;cases g;rw[d]at this;exact⟨_,this,rfl,h⟩
 |j::p::l,o,R,k,r,h,x,E,c,d=>by
  simp only[Fo]at c;rcases bR c with⟨e,a⟩|⟨e,a⟩
  .have:=Q1 e
   subst this;obtain⟨y,this,g⟩:=nU (P:=P) a;cases g;rw[d]at this;exact⟨_,this,rfl,h⟩
  .split at a
   next b i=>cases a;exact IG (os:=p::l) h i d
   .cases a
def VK.out{E0 E:cY}{c:Do (IR×PS)}{o:KZ c}{k:IR->cY->At b}{r:b}(h:AC g P L (br E) λx s=>∃a,s=br a/\a.n=E.n/\Fo c x a=some o)(d:Q2 E.n c o k=some r):
 AC g P L (br E) λx s=>∃a,cG P s (br a)/\a.n=E.n/\k x a=some r:=by
 refine h.mono λx s=>?_;rintro⟨a,rfl,e,f⟩;exact IG d f e
def AC.leK{c:IR->St->Prop}(h:AC g P L A λx s=>∃b,cG P s b/\c x b):AC g P L A c:=by
 intro r C k e a w Q z o v;refine h r C k e a w Q z o λx s B j d n l f i p t=>?_;obtain⟨b,u,y⟩:=B;obtain⟨m,q⟩:=u j d l f i p;exact v x b y j d n m f i q t
def Be{f:ExT}(a:VK g P L f):VK g P L (LD N f):=by
 intro u E R k r h;unfold LD at h;split at h
 next c t p=>
  obtain⟨v,l,e⟩:=nU (P:=P) h;obtain⟨o,b,i⟩:=bp e;cases N with
  |zero=>cases b
  |succ M=>
   have:=a p (fN E.n c v) _ _ _ b;have j:=VK.out (E:=fN E.n c v) (E0:=E) (k:=k) (r:=r) this i;refine AC.le l (AC.leK (j.mono λx s=>?_));rintro⟨d,n,q,m⟩;exact⟨_,n,d,rfl,q,m⟩
 .exact a _ E R k r h
def aft{f:ExT}(r:VK g P L f)(n:Nat)(b:PS)(e:Do (IR×PS))(p:Pl)(o:KZ e)(m:Nat)(v:mq b.c)(h:IF f n b e p m v=some o):
 AC g P (.loop L) (br (fN n b v)) λx s=>∃a,s=br a/\a.n=n/\Fo e x a=some o:=by
 refine AC.loop (α:={q:Nat×mq b.c//IF f n b e p q.1 q.2=some o}) (λq=>br (fN n b q.1.2)) (λq=>q.1.1) ⟨(m,v),h⟩ cG.refl ?_;rintro⟨⟨m,v⟩,h⟩;cases m with
 |zero=>cases h
 |succ m=>
  simp only[IF]at h;have:=r p (fN n b v) _ _ _ h;refine AC.mono this λx s=>?_;rintro⟨a,rfl,d,c⟩;cases x with
  |normal=>
   obtain⟨t,j,k⟩:=nU (P:=P) c;rw[d]at j;exact⟨⟨(m,t),k⟩,j,azl m⟩
  |_=>exact⟨a,rfl,d,c⟩
def VL{ops:bq}:∀{l:bq} {E:cY} {n:Nat} {R:Type} {k:cY->At R},E.n=n->Gt T CT ops l E (λa=>cond (beq a.n n) (k a) none)=Gt T CT ops l E k
 |[],E,n,R,k,f=>by simp only[Gt,f,awD,awv]
 |o::l,E,n,R,k,f=>by
  subst f;have step:∀(b:cY),b.n=E.n->sM T CT o b (λa=>Gt T CT ops l a λa=>cond (beq a.n E.n) (k a) none)=sM T CT o b (λa=>Gt T CT ops l a k):=by
   intro b d;unfold sM;have e:=λ(t:Do (Nat×EV)) (h:fv)=>VL (ops:=ops) (l:=l) (k:=k) (E:=⟨b.n,t,h⟩) d;split<;>simp only[e]
  have skip:∀(b:cY),b.n=E.n->(Gt T CT ops l (Is o.dst b) λa=>cond (beq a.n E.n) (k a) none)=Gt T CT ops l (Is o.dst b) k:=λb d=>VL (E:=Is o.dst b) d;simp only[Gt,exG];split
  .exact step E rfl
  .split
   .split
    next s _ _ c _=>rw[step ⟨E.n,(s,.sc .b true)::E.t,E.h⟩ rfl,step ⟨E.n,(s,.sc .b false)::E.t,E.h⟩ rfl,skip ⟨E.n,(s,.sc .b true)::E.t,E.h⟩ rfl,skip ⟨E.n,(s,.sc .b false)::E.t,E.h⟩ rfl]
    .rw[skip E rfl]
    .rfl
   .rfl
def aqC{c l:bq}{k:cY->At b}{r:b}(h:Gt T CT c l n k=some r):Gt T CT c l n (λa=>cond (beq a.n n.n) (k a) none)=some r:=by rw[VL rfl];exact h
def afu{l:bq}{E:cY}:∀{rest:bq} {done:Do DN} {R:Type} {k:cY->At R},KJ T CT l E rest done (λa=>cond (beq a.n E.n) (k a) none)=KJ T CT l E rest done k
 |[],done,R,k=>by simp only[KJ,awD,awv]
 |o::rest,done,R,k=>by
  simp only[KJ,afu (rest:=rest)]
def aqD{l c:bq}{done:Do DN}{k:cY->At b}{r:b}(h:KJ T CT l n c done k=some r):KJ T CT l n c done (λa=>cond (beq a.n n.n) (k a) none)=some r:=by rw[afu];exact h
def afv(J:Place P T CT)(c:Code):∀t,(t=false->Fp c=true)->VK t P c (yF T CT N c):=by
 induction c with
 |skip=>
  intro t _ j E R k r h;exact AC.skip ⟨E,rfl,rfl,h⟩
 |region id w H=>
  intro t _;refine Be (f:=λ_ E _ k=>cond H (KJ T CT w.toList (acd w.toList E) w.toList [] (k .normal)) (Gt T CT w.toList w.toList E (k .normal))) ?_;intro j E R k r h;have I:w=w.toList.toArray:=d5
  cases H with
  |true=>
   have:=VG (t:=t) J (id:=id) (k:=λd=>cond (beq d.n (acd w.toList E).n) (k .normal d) none) (l:=w.toList) (E:=acd w.toList E) (r:=r) (by
    exact aqD h)
   rw[I];refine AC.le (GW (P:=P) (afs (Bd w.toList w.toList)) E).1 ?_;rw[show(acd w.toList E).n=E.n from(GW (P:=P) (afs (Bd w.toList w.toList)) E).2]at this;refine this.mono λx s=>?_;rintro⟨rfl,d,rfl,m⟩;obtain⟨u,z⟩:=aY m;exact⟨d,rfl,awb u,z⟩
  |false=>
   have:=VH (t:=t) J (id:=id) (k:=λd=>cond (beq d.n E.n) (k .normal d) none) (l:=w.toList) (E:=E) (r:=r) (aqC h);rw[I];refine this.mono λx s=>?_;rintro⟨rfl,d,rfl,m⟩;obtain⟨u,z⟩:=aY m;exact⟨d,rfl,awb u,z⟩
 |seq a b q A=>
  intro t y;have q:=q t λe=>by(have:=y e;simp only[Fp,av4]at this;exact this.1)
  have A:=A t λe=>by(have:=y e;simp only[Fp,av4]at this;exact this.2)
  clear y;refine Be (f:=λj E _ k=>yF T CT N a j.l E _ λx d=>match x with
   |.normal=>yF T CT N b j.r d _ k
   |x=>k x d) ?_
  intro j E R k r h;refine AC.seq ((q j.l E R _ r h).mono λx s=>?_);rintro⟨d,rfl,n,m⟩;cases x with
  |normal=>
   refine(A j.r d R k r m).mono λx s=>?_;rintro⟨L,rfl,S,O⟩;exact⟨L,rfl,S.trans n,O⟩
  |_=>exact⟨d,rfl,n,m⟩
 |cond c a b q A=>
  intro t y;have q:=q t λe=>by(have:=y e;simp only[Fp,av4]at this;exact this.1)
  have A:=A t λe=>by(have:=y e;simp only[Fp,av4]at this;exact this.2)
  clear y;refine Be (f:=λj E _ k=>match e7 (dj E.t) c with
   |.sc .b F=>match c with
    |.tmp i=>cond F (yF T CT N a j.l ⟨E.n,(i,.sc .b true)::E.t,E.h⟩ _ k) (yF T CT N b j.r ⟨E.n,(i,.sc .b false)::E.t,E.h⟩ _ k)
    |_=>cond F (yF T CT N a j.l E _ k) (yF T CT N b j.r E _ k)
   |_=>none) ?_
  intro j E R k r h;simp only at h;split at h
  next F C=>
   have D:=(Sk.enc E).is C d8;split at h
   next i=>
    rcases bR h with⟨B,u⟩|⟨B,u⟩
    .subst B
     exact AC.amA D (AC.le (cG.ae6 (P:=P) C) (q j.l _ R k r u))
    .subst B
     exact AC.amB D (AC.le (cG.ae6 (P:=P) C) (A j.r _ R k r u))
   .rcases bR h with⟨B,u⟩|⟨B,u⟩
    .subst B
     exact AC.amA D (q j.l _ R k r u)
    .subst B
     exact AC.amB D (A j.r _ R k r u)
  .cases h
 |block id a q=>
  intro t y;have q:=q t y;refine Be (f:=λj E _ k=>yF T CT N a j.l E _ λx d=>match x with
   |.exit i=>cond (beq i id) (k .normal d) (k (.exit i) d)
   |x=>k x d) ?_
  intro j E R k r h;refine AC.block ((q j.l E R _ r h).mono λx s=>?_);rintro⟨d,rfl,n,m⟩;cases x with
  |exit i=>
   simp only[U2];rcases bR m with⟨u,z⟩|⟨u,z⟩
   .rw[av3 (awb u)]
    exact⟨d,rfl,n,z⟩
   .rw[av2 (λe=>by rw[e,awD]at u;cases u)]
    exact⟨d,rfl,n,z⟩
  |_=>exact⟨d,rfl,n,m⟩
 |loop a q=>
  intro t y;have q:=q t y;intro j E R k r h;change afq N (yF T CT N a) j E R k=some r at h;unfold afq at h;split at h
  next K V p=>obtain⟨v,C,u⟩:=nU (P:=P) h;obtain⟨o,U,z⟩:=bp u;have:=aft q E.n K V p o N v U;have M:=VK.out (E:=fN E.n K v) (E0:=E) (k:=k) (r:=r) this z;refine AC.le C (AC.leK (M.mono λx s=>?_));rintro⟨d,Q,n,m⟩;exact⟨_,Q,d,rfl,n,m⟩
  .cases h
 |exit id=>
  intro t _ j E R k r h;exact AC.exit ⟨E,rfl,rfl,h⟩
 |scope a q=>
  intro t y;have q:=q t y;intro j E R k r h;refine AC.scope ((q j.l E R _ r h).mono λx s=>?_);rintro⟨d,rfl,n,m⟩;cases x with
  |goto l=>cases m
  |_=>exact⟨λl e=>(by cases e),d,rfl,n,m⟩
 |label l=>
  intro t _ j E R k r h;exact AC.label ⟨E,rfl,rfl,h⟩
 |ret=>
  intro t _ j E R k r h;exact AC.ret ⟨E,rfl,rfl,h⟩
 |rangeFunc g X W cb q A=>
  intro t y j E R k r h;cases h
 |_=>
  intro t _ j E R k r h;cases h
end
variable{P:AV}{N:Func}{c:Fd}
def K0:Nat->Do EV->Do (Nat×EV)
 |_,[]=>[]
 |i,c::a=>(i,c)::K0 (i+1) a
def vM:∀(a:Do EV) (i:Nat),hP (K0 i a)=vu i (cw a)
 |[],_=>rfl
 |c::a,i=>by simp only[K0,hP,cw,vu,vM a (i+1)]
def akQ(a:PS)(x:IR)(E:cY):At (mq a.c):=match x with
 |.normal=>sP a E some
 |.ret=>sP a E some
 |_=>none
noncomputable def exF(T:EQ->bz)(e:Nat->Do kS)(N:Nat)(c:Code)(n:Nat)(g:Pl)(d:Do PV)(f:Do (Nat×PO))(a:Do Sc)(b:PS)(x:mq a):At (mq b.c):=
 Nat.rec (motive:=λ_=>At (mq b.c)) none (λM _=>yF T (e M) M c g ⟨n,K0 0 (du d (iU a x)).1,vD f (du d (iU a x)).2⟩ _ (akQ b)) N
def afw(T:EQ->bz)(h:fv)(t:EQ):EV->At EV
 |.pt j o=>match(T t).ty with
  |some (b,m)=>match bH h j with
   |some (.box c a)=>cond (!(beq c HN) && Nat.ble (o+m) a.length) (Xn b ((a.drop o).take m)) none
   |_=>none
  |none=>none
 |_=>none
def Ee(T:EQ->bz)(E:cY):Do ResultVar->At (Do EV)
 |[]=>some []
 |r::d=>match r with
  |.tmp i=>match Ee T E d with
   |some b=>some (dj E.t i::b)
   |none=>none
  |.cell a t=>match afw T E.h t (dj E.t a)with
   |some c=>match Ee T E d with
    |some b=>some (c::b)
    |none=>none
   |none=>none
def aqE:Do EV->EV
 |[c]=>c
 |a=>.tu a
def Bf(T:EQ->bz)(E:cY)(b:Do ResultVar):EV:=match Ee T E b with
 |some a=>aqE a
 |none=>.un
def gI(a:a_):fv->fv
 |[]=>[]
 |(k,o)::h=>cond (a.contains k) ((k,o)::gI a h) (gI a h)
def jG:a_->Code->Code
 |[],c=>c
 |0::p,.seq a _=>jG p a
 |_::p,.seq _ b=>jG p b
 |0::p,.cond _ a _=>jG p a
 |_::p,.cond _ _ b=>jG p b
 |_::p,.block _ a=>jG p a
 |_::p,.loop a=>jG p a
 |_::p,.scope a=>jG p a
 |0::p,.rangeFunc _ _ a _=>jG p a
 |_::p,.rangeFunc _ _ _ b=>jG p b
 |_::_,c=>c
def iX(a:Func):Code:=match a.body with
 |some c=>c
 |none=>.skip
def afx{T:EQ->bz}(f:hS c T){p b:EV}(h:afw T n.h a p=some b):AR c (br n) (enc p) a=some (enc b):=by
 unfold afw at h;split at h
 next j o=>
  split at h
  next k m i=>
   split at h
   next l q g=>obtain⟨d,e⟩:=aY h;simp only[AR,f.ty _ _ i,enc,mR,ie g,cA,gh];simp only[av4]at d;rw[av3 ⟨D5 d.1,awd d.2⟩,<-nS,<-rm];exact Qk e
   .cases h
  .cases h
 .cases h
def GX{P:Fd}{T:EQ->bz}(d:hS P T){E:cY}:∀{f:Do ResultVar} {b:Do EV},Ee T E f=some b->HZ P (br E) f=some (cw b)
 |[],b,h=>by simp only[Ee,av6]at h;subst h;rfl
 |r::f,b,h=>by
  simp only[Ee]at h;split at h
  next i=>
   split at h
   next j e=>cases h;simp only[HZ,GX d e];rw[show bO (br E).t i=enc (dj E.t i)from cU E.t i];rfl
   .cases h
  next a t=>
   split at h
   next c k=>
    split at h
    next j e=>cases h;have g:=afx d k;rw[<-show bO (br E).t a=enc (dj E.t a)from cU E.t a]at g;simp only[HZ,GX d e,g];rfl
    .cases h
   .cases h
def akS(a:Do EV):P2 (cw a)=enc (aqE a):=by
 match a with
 |[]=>rfl
 |[c]=>rfl
 |c::d::a=>rfl
def Gq.drop{H i:Hp}(h:Gq c v C k H P)(g:∀a ob,bc i a=some ob->bc H a=some ob):Gq c v C k i P:=by
 refine⟨h.1,λB Rd e w I f r=>(h.2 B Rd e w I f r).mono λx z G=>?_⟩;obtain⟨d,l,rfl,f,r⟩:=G;have s:∀b o u,bT B Rd l H z b o u->bT B Rd l i z b o u:=λb o u ⟨m,n,E⟩=>⟨m,n,λa ob F p=>E a ob (g a ob F) p⟩;exact⟨d,l,rfl,⟨f.ext,f.lA,λj ob q=>(f.ob j ob (g j ob q)).mono s,λj ob b q p=>f.base j ob b (g j ob q) p,λj t ob y b m n A D=>f.inj j t ob y b (g j ob m) (g t y n) A D,f.yz⟩,r.mono s⟩
def zW(d:a_):∀(h:fv) (k:Nat) (o:eD),bH (gI d h) k=some o->bH h k=some o
 |[],k,o,h=>by cases h
 |(j,q)::h,k,o,c=>by
  simp only[gI]at c;simp only[bH];cases g:d.contains j with
  |true=>
   rw[g]at c;simp only[awv,bH]at c;by_cases f:k=j
   .subst f;rw[awD]at c⊢;exact c
   .rw[jF f]at c⊢;exact zW d h k o c
  |false=>
   rw[g]at c;simp only[av8]at c;have:=zW d h k o c;by_cases f:k=j
   .subst f
    have n:∀(h:fv),bH (gI d h) k=none:=by
     intro h
     induction h with
     |nil=>rfl
     |cons p h l=>
      obtain⟨a,b⟩:=p;simp only[gI];cases i:d.contains a with
      |false=>exact l
      |true=>
       have m:k≠a:=λe=>by rw[<-e,g]at i;cases i
       simp only[awv,bH,jF m,av8];exact l
    rw[n]at c;cases c
   .rw[jF f];exact this
def IH:∀h:fv,gI [] h=[]
 |[]=>rfl
 |(k,o)::h=>by simp only[gI,List.contains_nil,av8,IH h]
def II:∀(a:Do PV) (b:Do EV),(du a b).1.length=a.length
 |[],_=>rfl
 |p::a,b=>by simp only[du,aws,II a]
def afy{T:EQ->bz}{l:Do kS}(r:Place c T l)(A:c.funcs[v]? =some N)(E:(N.name== "runtime.NumGoroutine")=false)(z:N.body=some L)(t:Pl)
 (g:Do EV) (j:fv) (C:g.length<=N.ntmps) (x:N.ntmps<=1000000) (m:IR->cY->At b) (y:b) (e:PS) (a:mq e.c) (K:a_)
 (B:∀q f,m q f=some y->(q=.normal\/q=.ret)/\cG c (br f) (br (fN f.n e a))) (I:(Ee T (fN N.ntmps e a) N.results.toList).isSome=true)
 (J:yF T l d L t ⟨N.ntmps,K0 0 g,j⟩ b m=some y):Gq c v (bF j) (cw g) (bF (gI K (fN N.ntmps e a).h)) (enc (Bf T (fN N.ntmps e a) N.results.toList)):=by
 refine Gq.drop (H:=bF (fN N.ntmps e a).h) ?_ (λk ob i=>?_)
 .refine Gq.intro A E z (by rw[gh];exact C) x ?_
  have:=afv (N:=d) r L true (λh=>by cases h) t ⟨N.ntmps,K0 0 g,j⟩ _ _ _ J;simp only[br,vM]at this;refine this.mono λq s=>?_;rintro⟨f,rfl,D,i⟩;obtain⟨G,p⟩:=B q f i;refine⟨G,?_⟩;rw[D]at p;obtain⟨u,n⟩:=axQ.1 I;have w:=GX r.t n;refine⟨hP (fN N.ntmps e a).t,cw u,p,w,?_⟩;rw[akS];simp only[Bf,n]
 .rw[dw]at i⊢
  obtain⟨o,F,rfl⟩:=awC.1 i;rw[zW _ _ _ _ F];rfl
def akT{T:EQ->bz}{m:Nat->Do kS}(E:∀M,d=M+1->Place c T (m M))(B:c.funcs[v]? =some N)(D:(N.name== "runtime.NumGoroutine")=false)(z:N.body.isSome=true)(p:Pl)
 (h:Do PV) (j:Do (Nat×PO)) (f:Do Sc) (b:PS) (own t:In) (l:a_) (n:(Nat.ble h.length N.ntmps && Nat.ble N.ntmps 1000000)=true) (G:∀y,(Ee T (fN N.ntmps b y) N.results.toList).isSome=true) (s:own=false->j=[]/\l=[])
 (F:∀y,(!t||((Bf T (fN N.ntmps b y) N.results.toList).pu && puH (gI l (fN N.ntmps b y).h)))=true)
 (M:mq f->At (mq b.c)) (w:∀x,M x=exF T m d (iX N) N.ntmps p h j f b x):
 (kS.mk v h j f (mq b.c) M (λy _ k=>k (Bf T (fN N.ntmps b y) N.results.toList) (gI l (fN N.ntmps b y).h)) own t).ok c:=by
 refine⟨λo=>(s o).1,λx y i=>⟨_,_,λ_ _=>rfl,λo=>?_,λg=>?_,?_⟩⟩
 .rw[(s o).2]
  exact IH _
 .have:=F y
  simp only at g;rw[g]at this;simpa using this
 obtain⟨a,r⟩:=axQ.1 z;have A:iX N=a:=by simp only[iX,r]
 simp only at i⊢;rw[w,A]at i;simp only[av4]at n;cases d with
 |zero=>cases i
 |succ M=>
 change yF T (m M) M a p ⟨N.ntmps,K0 0 (du h (iU f x)).1,vD j (du h (iU f x)).2⟩ _ (akQ b)=some y at i;refine afy (E M rfl) B D r p (du h (iU f x)).1 _ (by rw[II];exact awd n.1) (awd n.2) (akQ b) y b y l (λq u e=>?_) (G y) i;have g:(q=.normal\/q=.ret)/\sP b u some=some y:=by
  unfold akQ at e;split at e
  .exact⟨.inl rfl,e⟩
  .exact⟨.inr rfl,e⟩
  .cases e
 obtain⟨g,e⟩:=g;obtain⟨I,C,H⟩:=nU (P:=c) e;cases H;exact⟨g,C⟩
def zX{T:EQ->bz}{CT:Nat->Do kS}{N:Nat}(q:∀M,Place c T (CT M)){a:Func}(m:c.funcs[v]? =some a)(o:(a.name== "runtime.NumGoroutine")=false)(l:a.body.isSome=true)(i:Pl)
 (g:Do PV) (e:Do (Nat×PO)) (d:Do Sc) (b:PS) (own h:In) (f:a_) (n:(Nat.ble g.length a.ntmps && Nat.ble a.ntmps 1000000)=true) (s:∀y,(Ee T (fN a.ntmps b y) a.results.toList).isSome=true) (p:own=false->e=[]/\f=[])
 (r:∀y,(!h||((Bf T (fN a.ntmps b y) a.results.toList).pu && puH (gI f (fN a.ntmps b y).h)))=true)
 (M:mq d->At (mq b.c)) (j:∀x,M x=exF T CT N (iX a) a.ntmps i g e d b x):
 (kS.mk v g e d (mq b.c) M (λy _ k=>k (Bf T (fN a.ntmps b y) a.results.toList) (gI f (fN a.ntmps b y).h)) own h).ok c:=
 akT (λM _=>q M) m o l i g e d b own h f n s p r M j
structure LF(P:Program)(t:TypeId)(i:bz):Prop where
 ty:∀x,i.ty=some x->UW P t=some x
 el:∀x,i.el=some x->KF P t=some x
 lH:i.lH=true->lH P t=true
 bo:i.bo=true->P.underlying t=some .bool
 ar:∀x,i.ar=some x->arA P t=some x
 fd:∀(f:Nat) x,i.fd[f]? =some x->fdA P t f=some x
 pl:∀z l,i.pl=some (z,l)->∃f,plA P t=some (z,f)/\∀(i:Nat) p,l[i]? =some p->f i=some p
 ze:∀x,i.ze=some x->Fc P t=some x
 mp:∀x,i.mp=some x->mapA P t=some x
 ik:∀k,i.ik=some k->P.underlying t=some (.int k)
 eq:∀s,i.eq=some s->aew P t s
 sg:i.sg=true->P.underlying t=some .string
 nf:i.nf=true->∃ms,P.underlying t=some (.interface ms)
 zv:∀x,i.zv=some x->zvT P t=some x
def VM:LF c a (bz.mk none none false false none [] none none none none none none none false false none):=
 {ty:=λ_ h=>by cases h
  el:=λ_ h=>by cases h
  lH:=λh=>by cases h
  bo:=λh=>by cases h
  ar:=λ_ h=>by cases h
  fd:=λ_ _ h=>by simp at h
  pl:=λ_ _ h=>by cases h
  ze:=λ_ h=>by cases h
  mp:=λ_ h=>by cases h
  ik:=λ_ h=>by cases h
  eq:=λ_ h=>by cases h
  sg:=λh=>by cases h
  nf:=λh=>by cases h
  zv:=λ_ h=>by cases h}
def Q3{a c:At b}(h:a=c):∀x,c=some x->a=some x:=λ_ d=>h.trans d
def aqF{a b:In}(h:a=b):b=true->a=true:=λc=>h.trans c
def boB(P:Fd)(t:EQ):In:=match P.underlying t with
 |some .bool=>true
 |_=>false
def sgB(P:Fd)(t:EQ):In:=match P.underlying t with
 |some .string=>true
 |_=>false
def afz(h:sgB c a=g):g=true->c.underlying a=some .string:=λb=>by
 have h:=h.trans b;unfold sgB at h;split at h
 .assumption
 .cases h
def ace(h:sgB c a=true):LF c a {sg:=true}:=
 {ty:=λ_ h=>by cases h
  el:=λ_ h=>by cases h
  lH:=λh=>by cases h
  bo:=λh=>by cases h
  ar:=λ_ h=>by cases h
  fd:=λ_ _ h=>by simp at h
  pl:=λ_ _ h=>by cases h
  ze:=λ_ h=>by cases h
  mp:=λ_ h=>by cases h
  ik:=λ_ h=>by cases h
  eq:=λ_ h=>by cases h
  sg:=λ_=>afz h rfl
  nf:=λh=>by cases h
  zv:=λ_ h=>by cases h}
def nfB(P:Fd)(t:EQ):In:=match P.underlying t with
 |some (.interface _)=>true
 |_=>false
def afA(h:nfB c a=g):g=true->∃d,c.underlying a=some (.interface d):=λb=>by
 have h:=h.trans b;unfold nfB at h;split at h
 .exact⟨_,by assumption⟩
 .cases h
def an1{b:At Id}(h:(match b with|some _=>zvT c a|none=>none)=b):∀x,b=some x->zvT c a=some x:=λx d=>by
 subst d;exact h
def afB(h:nfB c a=true):LF c a {nf:=true}:=
 {ty:=λ_ h=>by cases h
  el:=λ_ h=>by cases h
  lH:=λh=>by cases h
  bo:=λh=>by cases h
  ar:=λ_ h=>by cases h
  fd:=λ_ _ h=>by simp at h
  pl:=λ_ _ h=>by cases h
  ze:=λ_ h=>by cases h
  mp:=λ_ h=>by cases h
  ik:=λ_ h=>by cases h
  eq:=λ_ h=>by cases h
  sg:=λh=>by cases h
  nf:=λ_=>afA h rfl
  zv:=λ_ h=>by cases h}
def an2(h:boB c a=g):g=true->c.underlying a=some .bool:=λb=>by
 have h:=h.trans b;unfold boB at h;split at h
 .assumption
 .cases h
def ikF(P:Fd)(t:EQ):At IntKind:=match P.underlying t with
 |some (.int k)=>some k
 |_=>none
def an3{b:At IntKind}(h:ikF c a=b):∀k,b=some k->c.underlying a=some (.int k):=λk d=>by
 have h:=h.trans d;unfold ikF at h;split at h
 .cases h;assumption
 .cases h
def an4{l:Do (Nat×In×Nat)}(h:(List.range l.length).map (fdA c a)=l.map some):∀(f:Nat) x,l[f]? =some x->fdA c a f=some x:=λf x d=>by
 have e:=(av7.1 d).1;have b:=awh (λq=>q[f]?) h;simp only[awp,axJ e,d,aw9]at b;exact av_ b
def plF(P:Fd)(t:EQ)(n:Nat):At (bI×Do PL):=(plA P t).map λp=>(p.1,(List.range n).map p.2)
def an5{o:At (bI×bu)}(h:(match o with
 |some (_,l)=>plF c a l.length
 |none=>none)=o.map λp=>(p.1,p.2.map some)):∀z l,o=some (z,l)->∃f,plA c a=some (z,f)/\∀(i:Nat) p,l[i]? =some p->f i=some p:=λz l j=>by
 subst j;simp only[plF,aw9]at h;cases e:plA c a with
 |none=>rw[e]at h;cases h
 |some q=>
  rw[e]at h;simp only[aw9,av6,awn]at h;refine⟨q.2,by rw[<-h.1],λi p d=>?_⟩;have g:=(av7.1 d).1;have b:=awh (λq=>q[i]?) h.2;simp only[awp,axJ g,d,aw9]at b;exact av_ b
def fdS(P:Fd)(f:Field)(o:Nat):Sc->In
 |.i k=>decide (f.offset=o) && f.name != "_"&& (match P.underlying f.type with
  |some (.int l)=>decide (k=l)
  |_=>false)
 |.b=>decide (f.offset=o) && f.name != "_"&& (match P.underlying f.type with
  |some .bool=>true
  |_=>false)
 |_=>false
def acf(P:Fd):Do Field->Nat->Sc->In
 |[f],o,.i k=>fdS P f o (.i k)
 |[f],o,.b=>fdS P f o .b
 |f::a,o,.pr x y=>fdS P f o x && acf P a (o+1) y
 |[],_,.u=>true
 |_,_,_=>false
def VN{f:Field}{s:Sc}(h:fdS c f d s=true){D E:ey}{x y:s.dp}{rx ry:bI}(F:D.toList.drop d=dv s x++rx)(G:E.toList.drop d=dv s y++ry)(e:Nat)(w:GE):
 f.name≠ "_"/\∃a b,(part f.type D f.offset).run c w=.ok a w/\(part f.type E f.offset).run c w=.ok b w/\(Op.equalIn (e+1) f.type a b).run c w=.ok (jE s x y) w/\D.toList.drop (d+1)=rx/\E.toList.drop (d+1)=ry:=by
 have get:∀{o:ey} {v:Id} {r:bI},o.toList.drop d=[v]++r->o[d]? =some v/\o.toList.drop (d+1)=r:=by
  intro o v r H;constructor
  .have A:=awh (λl=>l[0]?) H
   simpa using A
  .have A:=awh (λl=>l.drop 1) H
   simpa[ayb,az0]using A
 cases s with
 |i k=>
  simp only[fdS,av4,awJ,bne_iff_ne,ne_eq]at h;obtain⟨⟨B,C⟩,j⟩:=h;split at j
  next l n=>
   have j:=awX j;subst j B;obtain⟨p,q⟩:=get F;obtain⟨t,z⟩:=get G;have m:c.plainKey f.type=true:=by simp[Program.plainKey,n]
   refine⟨C,_,_,ayd w m p,ayd w m t,?_,q,z⟩;have:=aAb w e f.type k k x y n;rw[this];rfl
  .cases j
 |b=>
  simp only[fdS,av4,awJ,bne_iff_ne,ne_eq]at h;obtain⟨⟨B,C⟩,j⟩:=h;split at j
  next n=>
   subst B;obtain⟨p,q⟩:=get F;obtain⟨t,z⟩:=get G;have m:c.plainKey f.type=true:=by simp[Program.plainKey,n]
   refine⟨C,_,_,ayd w m p,ayd w m t,?_,q,z⟩;exact run_equalIn_bool w e f.type x y n
  .cases j
 |_=>cases h
def akU(d:Nat)(w:GE)(t v:ey):∀(e:Do Field) (o:Nat) (s:Sc) (x y:s.dp),acf c e o s=true->t.toList.drop o=dv s x->v.toList.drop o=dv s y->
 (Op.eqFields (d+1) t v e).run c w=.ok (jE s x y) w:=by
 intro e
 induction e with
 |nil=>
  intro o s x y h l m;cases s<;>first|(cases h;done)|(simp[Op.eqFields,jE])
 |cons f e B=>
  intro o s x y h l m;cases s with
  |i k=>
   cases e with
   |cons g gs=>cases h
   |nil=>
    obtain⟨j,a,b,p1,p2,p3,_,_⟩:=VN (s:=.i k) h (x:=x) (y:=y) (rx:=[]) (ry:=[]) (by simpa using l) (by simpa using m) d w;simp only[Op.eqFields,j,ne_eq,azp,awG,awi,p1,p2,p3,awk];cases jE (.i k) x y<;>simp
  |b=>
   cases e with
   |cons g gs=>cases h
   |nil=>
    obtain⟨j,a,b,p1,p2,p3,_,_⟩:=VN (s:=.b) h (x:=x) (y:=y) (rx:=[]) (ry:=[]) (by simpa using l) (by simpa using m) d w;simp only[Op.eqFields,j,ne_eq,azp,awG,awi,p1,p2,p3,awk];cases jE .b x y<;>simp
  |sl r=>cases e<;>cases h
  |u=>cases e<;>cases h
  |pr p q=>
   have n:fdS c f o p=true/\acf c e (o+1) q=true:=by
    cases e<;>simpa[acf]using h
   obtain⟨j,a,b,p1,p2,p3,z,A⟩:=VN n.1 (x:=x.1) (y:=y.1) l m d w;have:=B (o+1) q x.2 y.2 n.2 z A;simp only[Op.eqFields,j,ne_eq,azp,awG,awi,p1,p2,p3,awk,jE];cases jE p x.1 y.1 with
   |false=>simp
   |true=>simpa using this
def akV{s:Sc}{e:Array Field}(k:s.key=true)(f:c.underlying a=some (.struct e))(j:c.stoodInHeld a=false)(h:c.eqGuardType c.depth a=false)
 (i:acf c e.toList 0 s=true):aew c a s:=by
 refine⟨k,λx y w=>⟨?_,λl d b=>?_⟩⟩
 .have g:c.fieldsOf a=e:=by simp[Program.fieldsOf,f]
  show(Op.equalIn (9999+1) _ _ _).run c w=_;rw[run_equalIn_struct w 9999 a _ _ (by rw[g];exact f) j,g];exact akU 9998 w _ _ e.toList 0 s x y i d5 d5
 .unfold eqGuard
  cases l<;>simp[awi,h]
def stF(P:Fd)(t:EQ):At (Array Field):=match P.underlying t with
 |some (.struct a)=>some a
 |_=>none
def eqB(P:Fd)(t:EQ)(s:Sc):In:=s.key && !(P.stoodInHeld t) && !(P.eqGuardType P.depth t) && (match stF P t with
 |some a=>acf P a.toList 0 s
 |none=>false)
def an7{o:At Sc}(h:(match o with
 |some s=>eqB c a s
 |none=>true)=true):∀s,o=some s->aew c a s:=λs i=>by
 subst i;simp only[eqB,av4,axi]at h;obtain⟨⟨⟨e,f⟩,g⟩,d⟩:=h;split at d
 next j b=>
  unfold stF at b;split at b
  .cases b
   exact akV e (by assumption) f g d
  .cases b
 .cases d
noncomputable def auc(T:EQ->bz)(d:Do kS)(N:Nat)(c:Code):ExT:=match c with
 |.region _ g j=>λ_ E _ k=>cond j (KJ T d g.toList (acd g.toList E) g.toList [] (k .normal)) (Gt T d g.toList g.toList E (k .normal))
 |.seq a b=>λe E _ k=>yF T d N a e.l E _ λx f=>match x with
  |.normal=>yF T d N b e.r f _ k
  |x=>k x f
 |.cond c a b=>λe E _ k=>match e7 (dj E.t) c with
  |.sc .b h=>match c with
   |.tmp i=>cond h (yF T d N a e.l ⟨E.n,(i,.sc .b true)::E.t,E.h⟩ _ k) (yF T d N b e.r ⟨E.n,(i,.sc .b false)::E.t,E.h⟩ _ k)
   |_=>cond h (yF T d N a e.l E _ k) (yF T d N b e.r E _ k)
  |_=>none
 |.block id a=>λe E _ k=>yF T d N a e.l E _ λx f=>match x with
  |.exit i=>cond (beq i id) (k .normal f) (k (.exit i) f)
  |x=>k x f
 |c=>yF T d N c
def nV:∀a∈([]:Do kS),a.ok c:=λa h=>by cases h
def ot{a:kS}{l:Do kS}(h:a.ok c)(e:∀d∈l,d.ok c):∀d∈a::l,d.ok c:=λd b=>by
 rcases awr.1 b with rfl|b
 .exact h
 .exact e d b
def tgL(P:Fd)(i:bz)(t:EQ):=(UW P t,KF P t,lH P t,boB P t,arA P t,(List.range i.fd.length).map (fdA P t),(match i.pl with
 |some (_,l)=>plF P t l.length
 |none=>none),Fc P t,mapA P t,ikF P t,(match i.eq with
 |some s=>eqB P t s
 |none=>true),sgB P t,nfB P t,(match i.zv with|some _=>zvT P t|none=>none))
def tgR(i:bz):=(i.ty,i.el,i.lH,i.bo,i.ar,i.fd.map some,i.pl.map (λp=>(p.1,p.2.map some)),i.ze,i.mp,i.ik,true,i.sg,i.nf,i.zv)
def aqI{i:bz}(h:tgL c i a=tgR i):LF c a i:=by
 simp only[tgL,tgR,awn]at h;obtain⟨b,k,l,m,n,o,p,q,r,d,e,f,g,j⟩:=h;exact⟨Q3 b,Q3 k,aqF l,an2 m,Q3 n,an4 o,an5 p,Q3 q,Q3 r,an3 d,an7 e,afz f,afA g,an1 j⟩
def tgF(S N:a_):Do (a_×bz)->EQ->bz
 |[],t=>cond (S.any (beq t)) {sg:=true} (cond (N.any (beq t)) {nf:=true} {})
 |(l,i)::r,t=>cond (l.any (beq t)) i (tgF S N r t)
def any_beq(h:K.any (beq d)=true):d∈K:=by
 obtain⟨x,b,a⟩:=axR.1 h;rw[awb a];exact b
def Q4{P:Fd}{S N:a_}(c:S.all (sgB P)=true)(b:N.all (nfB P)=true):∀{L:Do (a_×bz)},L.map (λp=>p.1.map (tgL P p.2))=L.map (λp=>p.1.map λ_=>tgR p.2)->∀t,LF P t (tgF S N L t)
 |[],_,t=>by
  unfold tgF;cases a:S.any (beq t)with
  |true=>exact ace (awt.1 c t (any_beq a))
  |false=>
   cases d:N.any (beq t)with
   |true=>exact afB (awt.1 b t (any_beq d))
   |false=>exact VM
 |(l,i)::r,h,t=>by
  simp only[awo,aw7]at h;unfold tgF;cases a:l.any (beq t)with
  |true=>exact aqI (List.map_inj_left.1 h.1 t (any_beq a))
  |false=>exact Q4 c b h.2 t
def akW{P:Fd}{T:EQ->bz}(h:∀t,LF P t (T t)):hS P T where
 ty:=λt=>(h t).ty
 el:=λt=>(h t).el
 lH:=λt=>(h t).lH
 bo:=λt=>(h t).bo
 ar:=λt=>(h t).ar
 fd:=λt=>(h t).fd
 pl:=λt=>(h t).pl
 ze:=λt=>(h t).ze
 mp:=λt=>(h t).mp
 ik:=λt=>(h t).ik
 eq:=λt=>(h t).eq
 sg:=λt=>(h t).sg
 nf:=λt=>(h t).nf
 zv:=λt=>(h t).zv
section
open Go.ChangeShapes Go.WideShapes Go.ChangeAt Go.RowKit
section
variable{H:Type}{enc:EQ×Id->H}{P:Fd}
def Fq(j:laidOutB P=true){W g:GE}(i:Ext W g):∀{a:Do EQ} {f:bI} {c:Do (DataW H)} {p:Do MemPlace},
 (∀t∈a,P.readableRec t=true/\t<P.types.size)->DataW.TrodAll enc P W 0 (λ_=>true) true a f c p->(∀x∈p,x.block<W.heap.size)->
 DataW.TrodAll enc P g 0 (λb=>decide (b<W.heap.size)) true a f c p
 |[],[],[],_,_,h,_=>h
 |[],[],_::_,_,_,h,_=>h.elim
 |[],_::_,_,_,_,h,_=>h.elim
 |_::_,[],_,_,_,h,_=>h.elim
 |_::_,_::_,[],_,_,h,_=>h.elim
 |t::a,v::f,d::c,p,l,h,k=>by
  obtain⟨p1,r,n,o,rfl⟩:=h;have m:=l t d5;exact⟨p1,r,Below.trod j m.1 m.2 n i.KS (λx e=>k x (by simp[e])),Fq j i (λu q=>l u (by simp[q])) o (λx e=>k x (by simp[e])),rfl⟩
def afC(y:laidOutB P=true){s:ChangeSpec}{args:ey}{b gs:Do (DataW H)}{i:Do MemPlace}{tb:EQ}
 (l:s.vars=[]) (A:∀t∈N.params.toList,P.readableRec t=true/\t<P.types.size) (B:N.resultTypes= #[tb]) (C:P.underlying tb=some .bool)
 (c:DataW.Whole enc P N.params.toList s.vars false m args.toList b gs i)
 (d:s.fn H (b++gs)={results:=[.lit (.bool true)],args:=b})
 (r:Calls P v args m λe E=>e=.returned (.bool true)/\Ext m E):
 Calls P v args m λe f=>∃a,e=.returned a/\s.post enc P N false true false false m args a f:=by
 refine r.mono λe f ⟨u,k⟩=>⟨_,u,?_⟩;have z:∀p∈i,p.block<m.heap.size:=c.lt;have o:=c;obtain⟨p,q,n,j,rfl,F,G⟩:=o;rw[l]at j;have w:gs=[]:=by
  cases gs with
  |nil=>rfl
  |cons g gs=>exact j.elim
 subst w;refine⟨b,[],p++q,[],p,[],c,?_,?_,?_,Below.frame k.KS _,λh=>by cases h⟩
 .rw[d,B]
  exact trodAll_mk1 (shut_bool C true)
 .rw[d]
  exact Fq y k A n (λx D=>z x (by simp[D]))
 .rw[l,d]
  rfl
