/- part 3 -/
import Derived.Test.YtglncfdpdaageaaGreatDoorZWholeErrors2
set_option linter.all false
noncomputable section
open Go Go.RowKit
set_option maxRecDepth 100000
open Nat (beq blt)
namespace Go.Proofs.YtglncfdpdaageaaGreatDoor
variable{h:If}{b:Type}{a:EQ}{o:Id}
def Y8(a:Do b)(l m:Int)(z:b):At (Do b):=if 0<=l/\0<=m/\l+m<=a.length then some (MW a l.toNat m.toNat z)else none
def Ke(T:EQ->bu)(ev:Nat->EV)(hg:Nat->At dO)(t:EQ)(x:If)(k:eS->a_->At b):At b:=
 match eE ev x with
 |.sw j l m a=>match hg j with
  |some (.arr e r f wr)=>match(T t).el with
   |some (_,c,_,z)=>cond (beq a r.w && beq c r.w && blt 0 a && wr) (match rI r z with
    |some []=>aW (Y8 f l m (zeroV r)) λg=>k [(j,some (.arr e r g true))] [j]
    |_=>none) none
   |none=>none
  |_=>none
 |_=>none
def Kf(s:Sc){β:Type}:Do (s.c9×β)->s.c9->Nat
 |[],_=>0
 |p::a,x=>cond (iP s p.1 x) 0 (Kf s a x+1)
def abT(a:Sc)(z:Id):In:=match a with
 |.i k=>match z with
  |.int l n=>decide (k=l/\n=0)
  |_=>false
 |_=>false
def Dc(T:EQ->bu)(ev:Nat->EV)(hg:Nat->At dO)(t:EQ)(x y:If)(k:EV->eS->a_->At b):At b:=
 match eE ev x with
 |.mp j=>match hg j with
  |some (.mp d c e f)=>match(T t).mp with
   |some (g,z)=>match J_ c (eE ev y)with
    |some a=>cond (k8 d c && k8 g c && abT e z) (k (.tu [jd e ((bO c f a).getD (zeroV e)),.sc (.i .i64) ((Kf c f a:Nat):Int)]) [(j,some (.mp d c e (dW c f a ((bO c f a).getD (zeroV e)))))] [j]) none
    |none=>none
   |none=>none
  |_=>none
 |_=>none
def RX{α β:Type}(a:Do (α×β))(i:Int)(b:β):At (Do (α×β)):=if 0<=i then(a[i.toNat]?).map λp=>a.set i.toNat (p.1,b)else none
def AJ(T:EQ->bu)(ev:Nat->EV)(hg:Nat->At dO)(t:EQ)(x y v:If)(k:eS->a_->At b):At b:=
 match eE ev x with
 |.mp j=>match hg j with
  |some (.mp d c e f)=>match(T t).mp with
   |some (h,_)=>match rJ ev y with
    |some i=>match Y5 e (eE ev v)with
     |some a=>cond (k8 d c && k8 h c) (aW (RX f i a) λg=>k [(j,some (.mp d c e g))] [j]) none
     |none=>none
    |none=>none
   |none=>none
  |_=>none
 |_=>none
section
variable{P:Fd}{T:EQ->bu}{ev:Nat->EV}{hg:Nat->At dO}{n d:Nat}{ty:EQ}{pos:String}{af:dm}{gd:fH}
def ahY{α β:Type}(f:α->β)(a:Do α)(l m:Nat)(z:α):(MW a l m z).map f=MW (a.map f) l m (f z):=by
 simp[MW,awJ,awZ]
def pW.append{a b a' b':Do (Do AV)}(h:pW a b)(k:pW a' b'):pW (a++a') (b++b'):=by
 induction h with
 |nil=>exact k
 |cons c _ e=>exact .cons c e
def pW.same:∀a:Do (Do AV),pW a a
 |[]=>.nil
 |r::a=>.cons (oj.refl r) (pW.same a)
def RY(G:gG P T){k:eS->a_->At b}{r:b}(c:Ke T ev hg a h k=some r):
 ∃x y,FS P ⟨none,.call ⟨.builtin .clear, #[h], #[a]⟩,ty,pos,af,gd⟩ n ev hg .un x y .no/\k x y=some r:=by
 unfold Ke at c;split at c
 ·rename_i j l m N w
  split at c
  ·rename_i e f A wr H
   split at c
   ·rename_i E V O z L
    obtain⟨v,t⟩:=aY c;simp only[aup]at v;obtain⟨⟨⟨p,q⟩,g⟩,B⟩:=v;have p:=auu p;have q:=auu q;have g:0<N:=auw g;subst B;split at t
    ·rename_i M
     obtain⟨W,i,I⟩:=bq t;unfold Y8 at i;split at i
     ·rename_i R
      cases i;refine⟨_,_,λo U J F S=>?_,I⟩;obtain⟨X,u,C,Q,D⟩:=nE f M;rw[au_]at u;subst u;subst q;rw[p]at w g;have:=SS.clear (P:=P) (K:=λs=>s=⟨o.n,o.t,(j,some (.arr e f.w (MW (List.map (bJ f) A) l.toNat m.toNat (z.map lS)) true))::o.h⟩) (ty:=ty) (pos:=pos) (af:=af) (gd:=gd) (G.el _ _ L) (J.is w d8) (F.at d5 H) (by rw[auz];omega) g D rfl;refine this.l4 ?_;refine bQ.xC (h:=o.h) (rows':=List.map (bJ f) (MW A l.toNat m.toNat (zeroV f))) ?_ (eO f _);rw[ahY];exact(pW.same _).append ((pW.rep C m.toNat).append (pW.same _))
     ·cases i
    ·cases t
   ·cases c
  ·cases c
 ·cases c
def M0{a g:Sc}(c:a.key=true):∀(b:Do (a.c9×g.c9)) (x:a.c9),Hy (ni a g b) (pX a x)=Kf a b x
 |[],_=>rfl
 |p::b,x=>by
  rw[ni,auL,Hy,Kf];by_cases h:p.1=x
  ·rw[auo (by rw[h]),(fy a _ _ c).2 h];rfl
  ·rw[aun (λe=>h (Ew a _ _ c e))]
   have:iP a p.1 x=false:=by
    cases i:iP a p.1 x with
    |false=>rfl
    |true=>exact absurd ((fy a _ _ c).1 i) h
   rw[this];have f:=M0 c b x;rw[ni]at f;rw[f];rfl
def abU{a:Sc}(h:abT a o=true):Mf o=enc (jd a (zeroV a)):=by
 unfold abT at h;split at h
 ·split at h
  ·obtain⟨rfl,rfl⟩:=avo h
   rfl
  ·cases h
 ·cases h
def EG(C:gG P T){x y:If}{k:EV->eS->a_->At b}{r:b}(K:d<n)(h:Dc T ev hg a x y k=some r):
 ∃c j m g l i f,hg j=some (.mp m g l i)/\FS P ⟨some d,.mapEntry a x y,ty,pos,af,gd⟩ n ev hg c [(j,some (.mp m g l (dW g i f ((bO g i f).getD (zeroV l)))))] [j] .no/\k c [(j,some (.mp m g l (dW g i f ((bO g i f).getD (zeroV l)))))] [j]=some r:=by
 unfold Dc at h;split at h
 ·rename_i j F
  split at h
  ·rename_i m g l i t
   split at h
   ·rename_i N z E
    split at h
    ·rename_i f p
     obtain⟨s,A⟩:=aY h;simp only[aup]at s;obtain⟨⟨o,v⟩,w⟩:=s;have D:=o9 o v;subst D;obtain⟨I,q⟩:=rW o f;have H:=abU w;refine⟨_,_,_,_,_,_,f,t,λJ M u B L=>?_,A⟩;have G:J.ev y=enc (eE ev y):=u.is rfl (λe=>by rw[e]at p;cases g<;>simp[J_,HY]at p);have look:(fj (ni g l i) (pX g f)).getD (Mf z)=enc (jd l ((bO g i f).getD (zeroV l))):=by
      rw[oZ q,H];cases bO g i f<;>rfl
     refine SS.mapEntry (C.mp _ _ E) (u.is F d8) (B.at d5 t) (by rw[G];exact xB o p) I bv ?_;rw[look,Ex q,M0 q];rfl
    ·cases h
   ·cases h
  ·cases h
 ·cases h
def Kg(F:gG P T){x y v:If}{k:eS->a_->At b}{r:b}(h:AJ T ev hg a x y v k=some r):
 ∃w B,FS P ⟨none,.entryStore a x y v,ty,pos,af,gd⟩ n ev hg .un w B .no/\k w B=some r:=by
 unfold AJ at h;split at h
 ·rename_i j O
  split at h
  ·rename_i Q l g o J
   split at h
   ·rename_i X z M
    split at h
    ·rename_i i H
     split at h
     ·rename_i f t
      obtain⟨s,D⟩:=aY h;simp only[aup]at s;have G:=o9 s.1 s.2;subst G;obtain⟨R,m,K⟩:=bq D;unfold RX at m;split at m
      ·rename_i S
       obtain⟨p,L,rfl⟩:=auY.1 m;refine⟨_,_,λA V u E U=>?_,K⟩;have C:enc (eE ev v)=enc (jd g f):=by rcases Um t with h|h<;>exact h.1
       have N:A.ev v=enc (eE ev v):=u.is rfl (λe=>by rw[e]at t;cases g<;>simp[Y5]at t);obtain⟨W,q⟩:=jN H u;have I:((i.toNat:Nat):Int)=i:=bv
       refine SS.entryStore (i:=i.toNat) (kv:=pX l p.1) (c0:=enc (jd g p.2)) (F.mp _ _ M) (u.is O d8) (by rw[I];exact q) (h1:=A.h) (c:=enc (jd g f)) (by rw[N,C];exact EE g f) (E.at d5 J) ?_ ?_
       ·show(ni l g o)[i.toNat]? =_
        rw[ni,auM,L];rfl
       ·simp only[bs,Option.map,bU]
        have:(ni l g o).set i.toNat (pX l p.1,enc (jd g f))=ni l g (o.set i.toNat (p.1,f)):=by
         rw[ni,ni,awl]
        rw[this];rfl
      ·cases m
     ·cases h
    ·cases h
   ·cases h
  ·cases h
 ·cases h
end
variable{Q:AV}{H:Bs}{t:Env}{D:Hp}{J:Do (Nat×AV)}{C:Nat}{N:At Env}{v:EQ}{m:GE}{j:bF}{F:bC}
section
variable{P:Fd}
def SR.RZ(f:SR H j t D m){b:Nat}{o o':Ob}(B:aZ D b=some o)(C:OR (bN H j t D m) t m b o'):
 SR H j t ((b,some o')::D) m/\∀e g u,bN H j t D m e g u->bN H j t ((b,some o')::D) m e g u:=by
 have k:∀a ob,aZ ((b,some o')::D) a=some ob->∃i,aZ D a=some i:=λa ob c=>by
  by_cases h:a=b
  ·subst h;exact⟨o,B⟩
  ·rw[bc h]at c;exact⟨ob,c⟩
 have r:∀e g u,bN H j t D m e g u->bN H j t ((b,some o')::D) m e g u:=λe g u q=>⟨q.1,q.2.1,λa ob c p=>by
  obtain⟨i,l⟩:=k a ob c;exact q.2.2 a i l p⟩
 refine⟨⟨f.ext,f.kg,λa ob c=>?_,λa ob e c p=>?_,λa s ob E e z A v w=>?_,f.rL⟩,r⟩
 ·refine OR.mono r ?_
  by_cases h:a=b
  ·subst h
   rw[bf]at c;cases c;exact C
  ·rw[bc h]at c
   exact f.ob a ob c
 ·obtain⟨i,l⟩:=k a ob c
  exact f.base a i e l p
 ·obtain⟨F,x⟩:=k a ob z
  obtain⟨G,y⟩:=k s E A;exact f.inj a s F G e x y v w
def Hz(c:AV):Prop:=∃q i s,c=.pe q i s 0/\4294967296<=q
def Hz.cell(h:Hz Q){Rd:bF}(a:VR Rd N Q o):o.oneCell'=true:=by
 obtain⟨q,i,s,rfl,_⟩:=h;cases a;rfl
def Hz.vr{w r:GE}{a Rd f:bF}{e b:Env}{h g:Hp}(m:Hz Q)(j:SR H a e h w)(k:SR H a b g r)(p:VR Rd (some e) Q o):VR f (some b) Q o:=by
 obtain⟨q,i,s,rfl,c⟩:=m;cases p with
 |pe l=>exact .pe (by rw[(k.rL q c).1,<-(j.rL q c).1];exact l)
def R0(a:bC):(a.map λu=>([.v u]:Do AV)).flatten=a.map AV.v:=by
 induction a with
 |nil=>rfl
 |cons u a b=>simp[b]
def LR.Up{Rd:bF}{E:At Env}(b:bC):LR (VR Rd E) (b.map AV.v) b:=⟨d5,λj c u a e=>by
 rw[auM]at a;rw[e]at a;cases a;exact .v⟩
variable{st:St}
def Ga.toV{a:Act}(h:Ga H j t st a m){k:Nat}{E:EQ}{cs:Do AV}(w:aZ st.h k=some (.nr E cs))(G:∀c∈cs,Hz c):
 ∃f,LR (VR (bN H j t st.h m) (some t)) cs f/\Ga H j t ⟨st.n,st.t,(k,some (.arr E 1 (f.map λu=>[.v u]) true))::st.h⟩ a m:=by
 obtain⟨p,J⟩:=h.sr.ob _ _ w;obtain⟨f,D,F⟩:∃f,LR (VR (bN H j t st.h m) (some t)) cs f/\OR (bN H j t st.h m) t m k (.arr E 1 (f.map λu=>[.v u]) true):=by
  rcases J with⟨rfl,i,l⟩|⟨b,B,o,x,i,l,y,z,A,g⟩
  ·exact⟨[],LR.nil,d5,d5,λ_=>p,.inl ⟨rfl,i,l⟩⟩
  ·refine⟨o.toList.take cs.length,g,λr I=>?_,λc q=>?_,λ_=>p,.inr ⟨b,B,o,x,?_,?_,y,z,by rw[A,avP],?_,by rw[p];exact auS _⟩⟩
   ·obtain⟨u,_,rfl⟩:=auD.1 I;rfl
   ·rw[R0]at q
    obtain⟨u,M,rfl⟩:=auD.1 q;obtain⟨e,s,rfl⟩:=avc M;have v:e<cs.length:=by rw[<-g.1];exact s
    exact(G _ (awO v)).cell (g.2 e _ _ (auy v) (auy s))
   ·rw[auz,g.1];exact i
   ·rw[auz,g.1];exact l
   ·rw[R0,auz]
    have:=LR.Up (Rd:=bN H j t st.h m) (E:=none) (o.toList.take cs.length);rw[g.1];exact this
 obtain⟨L,C⟩:=h.sr.RZ w F;exact⟨f,D,h.n,h.d,L,h.tr.mono C⟩
def Ga.ofV{e:Act}{n:Nat}{d:Nat}{cs:Do AV}
 (f:Ga H j t ⟨n,J,(d,some (.arr a 1 (F.map λu=>[.v u]) true))::D⟩ e m) (p:F.length=cs.length) (w:∀(b:Nat) c u,cs[b]? =some c->F[b]? =some u->∀Rd,VR Rd (some t) c u):
 Ga H j t ⟨n,J,(d,some (.nr a cs))::D⟩ e m:=by
 have i:=(f.sr.ob d _ bf).alo;rw[R0]at i;have q:=i.arX (cs':=cs) (by simp[p]) λb c k h o u s=>by
  rw[auM]at h;obtain⟨x,v,rfl⟩:=auY.1 h;rw[s.bL];exact w b k x o v _
 obtain⟨r,l⟩:=f.sr.RZ bf q;exact(⟨f.n,f.d,r,f.tr.mono l⟩:Ga H j t ⟨n,J,(d,some (.nr a cs))::(d,some (.arr a 1 (F.map λu=>[.v u]) true))::D⟩ e m).k5 λb=>by
  by_cases g:b=d
  ·subst g;rw[bf,bf]
  ·rw[bc g,bc g,bc g]
variable{d:Nat}{ty:EQ}{pos:String}{af:dm}{gd:fH}{K:St->Prop}
def SS.ar5{t E:EQ}{x:If}{q i s J:Nat}(ht:Hh P t=some (E,1,J,F))(h:st.ev x=.pe q i s 0)(Z:4294967296<=q)(O:d<st.n)
 (M:K ⟨st.n,(d,.ow d)::c8 d st.t,(d,some (.nr E [.pe q i s 0]))::bw d st.h⟩):SS P ⟨some d,.buildSlice t 1 #[(0,x)],ty,pos,af,gd⟩ st K:=by
 intro y p e a w next Q l Y
 have r:Hz (.pe q i s 0):=⟨q,i,s,rfl,Z⟩;have o:=l.ev x;rw[h]at o;have R:d≠q:=by have:=l.n.2;omega
 cases x with
 |tmp j=>
  obtain⟨u,G⟩:∃u,u=a.eval (.tmp j):=⟨_,rfl⟩;rw[<-G]at o;have z:=r.cell o;have V:a.tmps.getD j undef=u:=G.symm;have U:Ga y p e ⟨st.n,(j,.v u)::st.t,st.h⟩ a w:=⟨l.n,l.d,l.sr,λk=>by
   by_cases b:k=j
   ·subst b;simp only[bD,au2];rw[V];exact .v
   ·simp only[bD,aun b];exact l.tr k⟩
  have S:(⟨st.n,(j,.v u)::st.t,st.h⟩:St).ev (.tmp j)=.v u:=by show bD ((j,.v u)::st.t) j=_;simp[bD]
  have N:cellsOf (.v u)=some [.v u]:=by simp[cellsOf,AV.one,z]
  have step:=SS.xA (P:=P) (st:=⟨st.n,(j,.v u)::st.t,st.h⟩) (t:=t) (len:=1) (parts:= #[(0,.tmp j)]) (h':=st.h) (aS:=[.v u]) (cs:=[.v u]) (qs:=[(0,[.v u])]) (d:=d) (ty:=ty) (pos:=pos) (af:=af) (gd:=gd)
   (K:=λs'=>s'=⟨st.n,(d,.ow d)::c8 d ((j,.v u)::st.t),(d,some (.arr E 1 ([u].map λu=>[.v u]) true))::bw d st.h⟩) ht
   (by simp only[auL,avy,S];rfl) (by simp[lG,N]) rfl (by simp[AV.one,z]) bv bv O rfl
  refine step y p e a w next Q U λa2 a0 L I w' B=>?_
  subst a0;have H:VR (bN y p e st.h w) (some e) (.pe q i s 0) u:=o;have m:=B.ofV (cs:=[.pe q i s 0]) rfl λj c u' A a1 Rd=>by
   cases j with
   |zero=>cases A;cases a1;exact r.vr l.sr B.sr H
   |succ j=>simp at A
  refine Y _ M L I w' ⟨m.n,m.d,m.sr,λk=>?_⟩;have b:=m.tr k;by_cases C:k=d
  ·subst C;simpa[bD]using b
  ·simp only[bD,aun C,c8]at b⊢
   by_cases D:k=j
   ·subst D
    rw[auo rfl]at b;have X:AV.kill d (.v u)=.v u:=by simp[AV.kill,AV.gu]
    rw[X]at b;rw[b.bL,ud];have:bD st.t k=.pe q i s 0:=h;rw[this];have W:AV.kill d (.pe q i s 0)=.pe q i s 0:=by simp[AV.kill,AV.gu,R.symm]
    rw[W];exact r.vr l.sr m.sr H
   ·rwa[aun D]at b
 |const v=>simp only[St.ev,lS]at h;split at h<;>cases h
 |global g=>simp only[St.ev,gA]at h;split at h<;>cases h
 |func f=>cases h
def Ga.xw{a:Act}{n:Nat}{h h2:Hp}(hg:Ga H j t ⟨n,J,h⟩ a m)(r:∀k,aZ h2 k=aZ h k\/aZ h2 k=none):Ga H j t ⟨n,J,h2⟩ a m:=by
 have f:∀k ob,aZ h2 k=some ob->aZ h k=some ob:=λk ob c=>by
  rcases r k with e|e
  ·rw[<-e];exact c
  ·rw[e]at c;cases c
 have g:∀b o u,bN H j t h m b o u->bN H j t h2 m b o u:=λb o u ⟨e,h2,p⟩=>⟨e,h2,λk ob c q=>p k ob (f k ob c) q⟩;exact⟨hg.n,hg.d,⟨hg.sr.ext,hg.sr.kg,λk ob c=>(hg.sr.ob k ob (f k ob c)).mono g,λk ob b c=>hg.sr.base k ob b (f k ob c),λk i ob l b e h2=>hg.sr.inj k i ob l b (f k ob e) (f i l h2),hg.sr.rL⟩,hg.tr.mono g⟩
def SS.ar6{t E:EQ}{x y:If}{k l A:Nat}{cs ds:Do AV}(ht:Hh P t=some (E,1,A,F))(hx:st.ev x=.ow k)(hy:st.ev y=.ow l)(Y:aZ st.h k=some (.nr E cs))(Z:aZ st.h l=some (.nr E ds))
 (v:k≠l) (V:d≠k) (C:∀c∈cs,Hz c) (D:∀c∈ds,Hz c) (hm:cs.length+ds.length<=maxLen) (S:(cs.length+ds.length)*A<=140737488355328) (U:d<st.n)
 (R:K ⟨st.n,(d,.ow d)::c8 d st.t,(d,some (.nr E (cs++ds)))::(k,none)::(l,none)::bw d st.h⟩):SS P ⟨some d,.call ⟨.builtin .append, #[x,y], #[t,t]⟩,ty,pos,af,gd⟩ st K:=by
 intro w0 M e a w next Q s hn
 obtain⟨p,J,G⟩:=s.toV Y C;obtain⟨vs,L,H⟩:=G.toV (k:=l) (E:=E) (cs:=ds) (by show aZ ((k,some _)::st.h) l=_;rw[bc (Ne.symm v)];exact Z) D;have a1:d<4294967296:=by have:=s.n.2;omega
 obtain⟨b,f⟩:∃b:St,b=⟨st.n,st.t,(l,some (.arr E 1 (vs.map λu=>[.v u]) true))::(k,some (.arr E 1 (p.map λu=>[.v u]) true))::st.h⟩:=⟨_,rfl⟩;rw[<-f]at H;have B:∀F:If,b.ev F=st.ev F:=λF=>by rw[f];cases F<;>rfl
 have o:p.length=cs.length:=J.1;have z:vs.length=ds.length:=L.1;have step:=SS.MD (P:=P) (st:=b) (x:=x) (y:=y) (h1:=(l,some (.arr E 1 (vs.map λu=>[.v u]) false))::b.h) (rows:=p.map λu=>[.v u]) (ys:=vs.map λu=>[.v u]) (wr:=true) (tt:=false) (d:=d) (ty:=ty) (pos:=pos) (af:=af) (gd:=gd)
  (K:=λs'=>s'=⟨b.n,(d,.ow d)::c8 d b.t,(d,some (.arr E 1 ((p++vs).map λu=>[.v u]) true))::(k,none)::bw d ((l,some (.arr E 1 (vs.map λu=>[.v u]) false))::b.h)⟩) ht (by rw[B];exact hx)
  (by rw[B,hy,f];simp only[hZ,bf]) (by rw[bc v,f];show aZ ((l,some _)::(k,some _)::st.h) k=_;rw[bc v,bf]) V bv
  (by rw[auz,auz,o,z];exact hm) (by rw[auz,auz,o,z];exact S) (by rw[f];exact U) (by rw[avh])
 refine step w0 M e a w next Q H λa2 a0 O N w' r=>?_
 subst a0;have W:=r.ofV (cs:=cs++ds) (by simp[o,z]) λj c u g h Rd=>by
  by_cases X:j<cs.length
  ·rw[au7 X]at g
   rw[au7 bv]at h;exact(C c (auI g)).vr s.sr r.sr (J.2 j c u g h)
  ·rw[avG bv]at g h
   rw[o]at h;exact(D c (auI g)).vr G.sr r.sr (L.2 _ c u g h)
 have I:=W.xw (h2:=(d,some (.nr E (cs++ds)))::(k,none)::(l,none)::bw d st.h) λj=>by
  by_cases q:j=d
  ·subst q;exact .inl (by rw[bf,bf])
  ·rw[bc q,bc q]
   by_cases i:j=k
   ·subst i;exact .inr (by rw[bf])
   ·rw[bc i,bc i]
    by_cases m:j=l
    ·subst m;exact .inr (by rw[bf])
    ·rw[bc m,f]
     refine .inl ?_;rw[du,du,bc m,bc m,bc i]
 rw[f]at I;exact hn _ R O N w' I
def SS.ahZ{t E:EQ}{x y:If}{l sz0 m:Nat}{ds:Do AV}(R:Hh P t=some (E,1,m,F))(U:st.ev x=.sl true sz0 [])(V:st.ev y=.ow l)(L:aZ st.h l=some (.nr E ds))
 (Z:d≠l) (q:∀c∈ds,Hz c) (M:ds.length<=maxLen) (H:ds.length*m<=140737488355328) (I:d<st.n)
 (G:K ⟨st.n,(d,.ow d)::c8 d st.t,(d,some (.nr E ds))::(l,none)::bw d st.h⟩):SS P ⟨some d,.call ⟨.builtin .append, #[x,y], #[t,t]⟩,ty,pos,af,gd⟩ st K:=by
 intro Y B e a w next Q z N
 obtain⟨g,A,s⟩:=z.toV L q;obtain⟨b,f⟩:∃b:St,b=⟨st.n,st.t,(l,some (.arr E 1 (g.map λu=>[.v u]) true))::st.h⟩:=⟨_,rfl⟩;rw[<-f]at s;have o:∀F:If,b.ev F=st.ev F:=λF=>by rw[f];cases F<;>rfl
 have k:g.length=ds.length:=A.1;have step:=SS.HU (P:=P) (st:=b) (x:=x) (y:=y) (h1:=(l,some (.arr E 1 (g.map λu=>[.v u]) false))::b.h) (sz0:=sz0) (ys:=g.map λu=>[.v u]) (tt:=false) (d:=d) (ty:=ty) (pos:=pos) (af:=af) (gd:=gd)
  (K:=λW=>W=⟨b.n,(d,.ow d)::c8 d b.t,(d,some (.arr E 1 (g.map λu=>[.v u]) true))::bw d ((l,some (.arr E 1 (g.map λu=>[.v u]) false))::b.h)⟩) R (by rw[o];exact U)
  (by rw[o,V,f];simp only[hZ,bf]) bv (by rw[auz,k];exact M) (by rw[auz,k];exact H) (by rw[f];exact I) rfl
 refine step Y B e a w next Q s λa0 O D C X r=>?_
 subst O;have J:=r.ofV (cs:=ds) k λj c u p S Rd=>(q c (auI p)).vr z.sr r.sr (A.2 _ c u p S);have v:=J.xw (h2:=(d,some (.nr E ds))::(l,none)::bw d st.h) λj=>by
  by_cases i:j=d
  ·subst i;exact .inl (by rw[bf,bf])
  ·rw[bc i,bc i]
   by_cases h:j=l
   ·subst h;exact .inr (by rw[bf])
   ·rw[bc h,f]
    refine .inl ?_;rw[du,du,bc h,bc h]
 rw[f]at v;exact N _ G D C X v
end
def abV(ev:Nat->EV)(a:Nat)(b:xj):At (Nat×Int×Nat):=match b with
 |[(0,x)]=>match eE ev x with
  |.pe q i s 0=>cond (beq a 1 && Nat.ble 4294967296 q) (some (q,i,s)) none
  |_=>none
 |_=>none
def R3(T:EQ->bu)(d:Nat)(t:EQ)(p:Nat×Int×Nat)(k:EV->eS->a_->Fr->At b):At b:=match(T t).el with
 |some (e,a,_,_)=>cond (beq a 1) (k (.ow d) [(d,some (.qr e (some p.1) p.2.2 [p.2.1]))] [] (.one d)) none
 |none=>none
def abW(ev:Nat->EV)(hg:Nat->At dO)(a:gp):At (EQ×Nat×Nat×aX×Nat):=match a with
 |⟨[_,y]⟩=>match eE ev y with
  |.ow l=>match hg l with
   |some (.qr t (some q) s b)=>cond (Nat.ble 4294967296 q) (some (t,q,s,b,l)) none
   |_=>none
  |_=>none
 |_=>none
def R4(T:EQ->bu)(ev:Nat->EV)(hg:Nat->At dO)(d:Nat)(t i:EQ)(x:If)(p:EQ×Nat×Nat×aX×Nat)(k:EV->eS->a_->Fr->At b):At b:=match(T t).el with
 |some (e,h,a,_)=>cond (beq t i && beq h 1 && beq e p.1 && !(beq d p.2.2.2.2)) (match eE ev x with
  |.nil=>aW (eo a ([]:aX) p.2.2.2.1) λc=>k (.ow d) [(d,some (.qr e (some p.2.1) p.2.2.1 c)),(p.2.2.2.2,none)] [p.2.2.2.2] (.one d)
  |.ow j=>match hg j with
   |some (.qr l (some f) g m)=>cond (beq l e && beq f p.2.1 && beq g p.2.2.1 && !(beq j p.2.2.2.2) && !(beq d j)) (aW (eo a m p.2.2.2.1) λc=>k (.ow d) [(d,some (.qr e (some p.2.1) p.2.2.1 c)),(j,none),(p.2.2.2.2,none)] [j,p.2.2.2.2] (.one d)) none
   |_=>none
  |_=>none) none
 |none=>none
section
variable{P:Fd}{T:EQ->bu}{ev:Nat->EV}{hg:Nat->At dO}{n d:Nat}{ty:EQ}{pos:String}{af:dm}{gd:fH}
def Kh{q s:Nat}(b:4294967296<=q)(e:aX):∀c∈e.map (qrA s (some q)),Hz c:=λc a=>by
 obtain⟨i,_,rfl⟩:=auD.1 a;exact⟨q,i.toNat,s,rfl,b⟩
def Y9(D:gG P T){m:D8}{p:Nat×Int×Nat}{k:EV->eS->a_->Fr->At b}{r:b}(L:d<n)(g:abV ev C m.toList=some p)(h:R3 T d a p k=some r):
 ∃c v w o,FS P ⟨some d,.buildSlice a C m,ty,pos,af,gd⟩ n ev hg c v w o/\k c v w o=some r:=by
 obtain⟨l⟩:=m;unfold abV at g;split at g
 ·rename_i x u
  simp only at u;subst u;split at g
  ·rename_i q i s H
   obtain⟨j,y⟩:=aY g;cases y;simp only[aup]at j;obtain rfl:=auu j.1;have F:=auw j.2;unfold R3 at h;split at h
   ·rename_i e N f z E
    obtain⟨A,B⟩:=aY h;obtain rfl:=auu A;refine⟨_,_,_,_,λst M G J t=>?_,B⟩;have:=SS.ar5 (P:=P) (t:=a) (x:=x) (ty:=ty) (pos:=pos) (af:=af) (gd:=gd) (d:=d) (i:=i.toNat) (K:=λI=>I=⟨st.n,jM (some d) (.ow d) (c8 d st.t),[(d,some (.nr e [.pe q i.toNat s 0]))]++bw d st.h⟩) (D.el _ _ E) (G.is H d8) F bv rfl;exact SS.fresh t.t t.h this
   ·cases h
  ·cases g
 ·cases g
def Y_(Q:gG P T){D:gp}{p:EQ×Nat×Nat×aX×Nat}{k:EV->eS->a_->Fr->At b}{r:b}(hd:d<n)(m:abW ev hg D=some p)(R:D.toList.head?=some h)(f:R4 T ev hg d a v h p k=some r):
 ∃c W X M,FS P ⟨some d,.call ⟨.builtin .append,D, #[a,v]⟩,ty,pos,af,gd⟩ n ev hg c W X M/\k c W X M=some r:=by
 unfold abW at m;split at m
 ·rename_i Y y
  simp only[List.head?_cons,aur]at R;subst R;split at m
  ·rename_i l V
   split at m
   ·rename_i t0 q s ys U
    obtain⟨h1,h2⟩:=aY m;cases h2;have F:=auw h1;unfold R4 at f;split at f
    ·rename_i e sz g z S
     obtain⟨N,o⟩:=aY f;simp only[aup,avC]at N;obtain⟨⟨⟨Z,a2⟩,a3⟩,x⟩:=N;obtain rfl:=auu Z;obtain rfl:=auu a2;obtain rfl:=auu a3;have x:d≠l:=λe=>by rw[e,auX]at x;cases x
     split at o
     ·rename_i G
      obtain⟨zs,i,E⟩:=bq o;unfold eo at i;split at i
      ·rename_i t
       cases i;simp only[avg,auZ]at t;refine⟨_,_,_,_,λst hn w C u=>?_,E⟩;have:=SS.ahZ (P:=P) (t:=a) (x:=Y) (y:=y) (ty:=ty) (pos:=pos) (af:=af) (gd:=gd) (d:=d) (sz0:=0) (ds:=ys.map (qrA s (some q))) (K:=λI=>I=⟨st.n,jM (some d) (.ow d) (c8 d st.t),[(d,some (.nr e (ys.map (qrA s (some q))))),(l,none)]++bw d st.h⟩) (Q.el _ _ S) (w.is G d8) (w.is V d8) (C.at d5 U) x (Kh F ys) (by rw[auz];exact t.2) (by rw[auz];exact t.1) bv rfl;exact SS.fresh u.t u.h this
      ·cases i
     ·rename_i j G
      split at o
      ·rename_i t1 H J L hj
       obtain⟨O,h6⟩:=aY o;simp only[aup,avC]at O;obtain⟨⟨⟨⟨b1,b2⟩,b3⟩,A⟩,B⟩:=O;obtain rfl:=auu b1;obtain rfl:=auu b2;obtain rfl:=auu b3;have A:j≠l:=λe=>by rw[e,auX]at A;cases A
       have B:d≠j:=λe=>by rw[e,auX]at B;cases B
       obtain⟨zs,i,E⟩:=bq h6;unfold eo at i;split at i
       ·rename_i t
        cases i;refine⟨_,_,_,_,λst hn w C u=>?_,E⟩;have:=SS.ar6 (P:=P) (t:=a) (x:=Y) (y:=y) (ty:=ty) (pos:=pos) (af:=af) (gd:=gd) (d:=d) (cs:=L.map (qrA J (some H))) (ds:=ys.map (qrA J (some H))) (K:=λI=>I=⟨st.n,jM (some d) (.ow d) (c8 d st.t),[(d,some (.nr t1 ((L++ys).map (qrA J (some H))))),(j,none),(l,none)]++bw d st.h⟩) (Q.el _ _ S) (w.is G d8) (w.is V d8) (C.at d5 hj) (C.at d5 U) A B (Kh F L) (Kh F ys) (by rw[auz,auz];exact t.2) (by rw[auz,auz];exact t.1) bv (by rw[avh];rfl);exact SS.fresh u.t u.h this
       ·cases i
      ·cases o
     ·cases o
    ·cases f
   ·cases m
  ·cases m
 ·cases m
end
def R5(T:EQ->bu)(ev:Nat->EV)(hg:Nat->At dO)(t:EQ)(x y:If)(k:EV->a_->At b):At b:=match(T t).el with
 |some (e,c,_,_)=>match eE ev x with
  |.ow j=>match hg j with
   |some (.arr f r a wr)=>match rJ ev y with
    |some l=>cond (beq e f && beq c r.w && wr && !(mD a)) (aW (iR a l (a.length:Int)) λ_=>k (.sw j l ((a.length:Int) - l) c) [j]) none
    |none=>none
   |_=>none
  |_=>none
 |none=>none
section
variable{P:Fd}{T:EQ->bu}{ev:Nat->EV}{hg:Nat->At dO}{st:St}{dd:bX}{ty:EQ}{pos:String}{af:dm}{gd:fH}
def RS.aoo{x y:If}{k m s l:Nat}{j:IntKind}{rows:Do (Do AV)}{wr:In}(E:Hh P a=some (v,m,s,F))(G:st.ev x=.ow k)(z:aZ st.h k=some (.arr v m rows wr))(I:st.ev y=.v (.int j (l:Int)))
 (A:l<=rows.length) (B:rows≠[]):RS P ⟨dd,.slice a x (some y) none none,ty,pos,af,gd⟩ st (.sw k l (rows.length - l) m):=λY M e c w g=>by
 obtain⟨i,Z,p2,p3,p4,X,rfl,_,_⟩:=cX E;have h:=g.ev x;have H:c.eval x=e.sv k:=by
  rw[G]at h;generalize c.eval x=u at h;cases h with
  |ow=>rfl
 have r:=g.ev y;rw[I]at r;have J:=r.bL;obtain⟨_,_,_,C⟩:=g.sr.ob _ _ z;rcases C with⟨t,_⟩|⟨b,f,N,o,D,p,U,Q,O,S,R⟩
 ·exact absurd t B
 refine⟨.slice (if f=l then some ⟨b,0,none⟩else(some (⟨b,0,none⟩:Addr)).map (·.add (l*i.size))) (rows.length - l) (f - l),?_,λL W=>?_⟩
 ·by_cases q:f=l
  ·rw[auo q]
   exact VR.sw o (λV=>by omega) bv bv
  ·rw[aun q]
   simp only[avz,ava,auZ];exact VR.sw o (λ_=>rfl) bv bv
 ·have:=fi (P:=P) p2 p3 (some ⟨b,0,none⟩) rows.length f l rows.length none f (some (.int j (l:Int))) none none L (.inr ⟨j,rfl⟩) (.inl ⟨rfl,rfl⟩) (.inl ⟨rfl,rfl⟩) A (auq _) p (auq _) p
  simp[execOp,Instr.slice,H,D,J,this]
def Za(B:gG P T){x y:If}{k:EV->a_->At b}{r:b}(h:R5 T ev hg a x y k=some r):
 ∃c q,Rm P (.slice a x (some y) none none) ev hg c q/\k c q=some r:=by
 unfold R5 at h;split at h
 ·rename_i e Q f z C
  split at h
  ·rename_i j I
   split at h
   ·rename_i M L g wr F
    split at h
    ·rename_i l E
     obtain⟨o,A⟩:=aY h;simp only[aup,avC]at o;obtain⟨⟨⟨s,i⟩,t⟩,u⟩:=o;obtain rfl:=auu s;have i:=auu i;subst i;subst t;obtain⟨R,m,G⟩:=bq A;unfold iR at m;split at m
     ·rename_i N
      refine⟨_,_,λst v ty pos af gd p D=>?_,G⟩;obtain⟨O,J⟩:=jN E p;have H:((l.toNat:Nat):Int)=l:=bv
      have:=RS.aoo (P:=P) (dd:=v) (ty:=ty) (pos:=pos) (af:=af) (gd:=gd) (l:=l.toNat) (rows:=List.map (bJ L) g) (B.el _ _ C) (p.is I d8) (D.at d5 F) (by rw[H];exact J) (by rw[auz];omega) (λe=>by
       cases g with
       |nil=>cases u
       |cons _ _=>cases e)
      rw[auz]at this;have w:((g.length:Int) - l).toNat=g.length - l.toNat:=bv
      simp only[enc,w];exact this
     ·cases m
    ·cases h
   ·cases h
  ·cases h
 ·cases h
end
variable{i:Do (Do AV)}
section
variable{P:Fd}{st:St}{d:Nat}{ty:EQ}{pos:String}{af:dm}{gd:fH}{K:St->Prop}
def SR.shrink(q:SR H j t D m){k e:Nat}(w:aZ D C=some (.arr a k i true))(hn:oP C D=true)(Y:C<4294967296)(z:e<=i.length):
 ∃l h,t.sv C=.slice l i.length h/\i.length<=h/\(∀f,l=some f->f.off=0/\f.spot=none\/h=0)/\
 SR H j (t.cO C (t.bW C) (.slice l e h) 0) ((C,some (.arr a k (i.take e) true))::D) m/\
 ∀b o u,bN H j t D m b o u->bN H j (t.cO C (t.bW C) (.slice l e h) 0) ((C,some (.arr a k (i.take e) true))::D) m b o u:=by
 obtain⟨a6,N,Z,a4⟩:=q.ob _ _ w;have hl:=Z rfl;have I:∀r∈i.take e,r.length=k:=λr p=>a6 r (awG p);have F:(i.take e).flatten=i.flatten.take (e*k):=by
  have J:i.flatten=(i.take e).flatten++(i.drop e).flatten:=by rw[<-av2,awf]
  have L:(i.take e).flatten.length=e*k:=by rw[er I,au8,avJ z]
  rw[J,<-L,awr]
 have O:∀c∈(i.take e).flatten,c.one=true:=λc n=>N c (by rw[F]at n;exact awG n);have E:∀l h,(∀Rd,(∀b o u,bN H j t D m b o u->Rd b o u)->OR Rd (t.cO C (t.bW C) (.slice l e h) 0) m C (.arr a k (i.take e) true))->
  SR H j (t.cO C (t.bW C) (.slice l e h) 0) ((C,some (.arr a k (i.take e) true))::D) m/\
  ∀b o u,bN H j t D m b o u->bN H j (t.cO C (t.bW C) (.slice l e h) 0) ((C,some (.arr a k (i.take e) true))::D) m b o u:=λl h a2=>
  q.uV C (t.bW C) (.slice l e h) 0 _ q.ext (.inl ⟨hn,Y⟩) (auq _) (λ_ _ _=>rfl) (λb v _=>⟨(q.base _ _ _ w v).1,(q.base _ _ _ w v).2,.inl ⟨_,w,v⟩⟩)
   (λb o u ob ho v a8 a7=>by omega) (λRd s _ a9 a3=>by obtain rfl:=aut a3;exact a2 Rd s)
 rcases a4 with⟨p,S,f,y⟩|⟨B,h,x,R,a5,U,a1,W,V,G,_⟩
 ·subst p
  have a0:e=0:=by simpa using z
  subst a0;refine⟨f,0,by rw[y];rfl,auq _,λ_ _=>.inr rfl,E f 0 λRd s=>⟨(λr p=>by cases p),(λc n=>by cases n),λ_=>Env.b9,.inl ⟨rfl,by rw[Env.bY];exact S,f,by rw[Env.dK]⟩⟩⟩
 ·refine⟨some ⟨B,0,none⟩,h,a5,U,λf y=>by cases y;exact .inl ⟨rfl,rfl⟩,E _ h λRd s=>⟨I,O,λ_=>Env.b9,.inr ⟨B,h,x,by rw[Env.bY];exact R,by rw[Env.dK,au8,avJ z],by rw[au8];omega,a1,W,V,?_,by rw[Env.b9];exact auS _⟩⟩⟩
  rw[F,au8];have M:x.toList.take (min (e*k) i.flatten.length)=(x.toList.take i.flatten.length).take (e*k):=by rw[awE]
  rw[M];refine⟨by have Q:=G.1;simp only[au8]at Q⊢;omega,λg c u n A=>?_⟩;rw[au3]at n A;split at n
  ·rename_i X
   rw[auo X]at A;exact(G.2 g c u n A).mono s
  ·cases n
def SS.abX{t E:EQ}{x y:If}{k p B m:Nat}{o:IntKind}{rows:Do (Do AV)}(ht:Hh P t=some (E,p,B,F))(hx:st.ev x=.ow k)(U:aZ st.h k=some (.arr E p rows true))(hy:st.ev y=.v (.int o (m:Int)))
 (O:d≠k) (v:m<=rows.length) (N:d<st.n)
 (G:K ⟨st.n,(d,.ow d)::c8 d st.t,(d,some (.arr E p (rows.take m) true))::(k,none)::bw d st.h⟩):SS P ⟨some d,.slice t x none (some y) none,ty,pos,af,gd⟩ st K:=by
 intro q l e a w next Q f W
 obtain⟨i,zv,p2,p3,p4,p5,rfl,rfl,_⟩:=cX ht;have n:=f.ev x;have a3:a.eval x=e.sv k:=by
  rw[hx]at n;generalize a.eval x=u at n;cases n with
  |ow=>rfl
 have A:=f.ev y;rw[hy]at A;have a4:=A.bL;obtain⟨Z,H⟩:=f.sr.kill d;have V:aZ (bw d st.h) k=some (.arr E i.size rows true):=by rw[du,U];rfl
 obtain⟨a0,I⟩:=Z.JZ V O (ef d st.h) (by have:=f.n.2;omega);have X:oP d ((d,some (.arr E i.size rows true))::(k,none)::bw d st.h)=true:=by
  have:=YZ (ef d st.h) k;simp only[oP,avx,aup]at this⊢;exact⟨by simp[Ob.gu],this⟩
 obtain⟨b,c,z,M,L,a1,J⟩:=a0.shrink bf X (by have:=f.n.2;omega) v;rw[Env.dK]at z;have Y:(Instr.sliceAt t (a.eval x) none (some (a.eval y)) none).run P w=.ok (.slice b m c) w:=by
  rw[a3,z,a4];have:=fi (P:=P) p2 p3 b rows.length c 0 m none c none (some (.int o (m:Int))) none w (.inl ⟨rfl,rfl⟩) (.inr ⟨o,rfl⟩) (.inl ⟨rfl,rfl⟩) (auS _) v bv (auq _) M;rw[this];congr 2;cases b with
  |none=>simp
  |some b=>
   rcases L b rfl with⟨r,s⟩|C
   ·obtain⟨bb,oo,ss⟩:=b
    simp only at r s;subst r;subst s;split
    ·rfl
    ·simp[ava]
   ·rw[auo C]
 have S:∀j,aZ ((d,some (.arr E i.size (rows.take m) true))::(k,none)::bw d st.h) j=aZ ((d,some (.arr E i.size (rows.take m) true))::(d,some (.arr E i.size rows true))::(k,none)::bw d st.h) j:=λj=>by
  by_cases h:j=d
  ·subst h;rw[bf,bf]
  ·rw[bc h,bc h,bc h]
 have a2:TR (bN q l ((e.cO d (e.bW k) (e.sv k) (e.cP k)).cO d ((e.cO d (e.bW k) (e.sv k) (e.cP k)).bW d) (.slice b m c) 0) ((d,some (.arr E i.size (rows.take m) true))::(d,some (.arr E i.size rows true))::(k,none)::bw d st.h) w) ((e.cO d (e.bW k) (e.sv k) (e.cP k)).cO d ((e.cO d (e.bW k) (e.sv k) (e.cP k)).bW d) (.slice b m c) 0) ((d,.ow d)::c8 d st.t) (a.tmps.setIfInBounds d (.slice b m c)):=by
  refine TR.put ?_ (by rw[f.n.1];exact N) ?_
  ·have D:=(((((f.tr.kill d).mono H).mono I).env d (dQ d st.t) (e':=e.cO d (e.bW k) (e.sv k) (e.cP k)) (λ_ g=>Env.bG g) (λ_ g=>Env.de g)).mono J)
   exact D.env d (dQ d st.t) (λ_ g=>Env.bG g) (λ_ g=>Env.de g)
  ·have:=VR.ow (Rd:=bN q l ((e.cO d (e.bW k) (e.sv k) (e.cP k)).cO d ((e.cO d (e.bW k) (e.sv k) (e.cP k)).bW d) (.slice b m c) 0) ((d,some (.arr E i.size (rows.take m) true))::(d,some (.arr E i.size rows true))::(k,none)::bw d st.h) w) (e:=(e.cO d (e.bW k) (e.sv k) (e.cP k)).cO d ((e.cO d (e.bW k) (e.sv k) (e.cP k)).bW d) (.slice b m c) 0) (k:=d)
   rw[Env.dK]at this;exact this
 have R:Ga q l _ ⟨st.n,(d,.ow d)::c8 d st.t,_⟩ (a.put (some d) (.slice b m c)) w:=⟨by simpa[Act.put]using f.n,f.d,a1,a2⟩;refine eu (w':=w) ?_ (W _ G _ _ _ (R.k5 S));simp[execOp,Instr.slice,Y]
end
variable{S:eS}{R:dO}{y:FuncId}{I:Oper}
@[reducible] def kf:Do Sc->Type
 |[]=>Unit
 |[s]=>s.c9
 |s::t::r=>s.c9×kf (t::r)
def h_:(cs:Do Sc)->kf cs->Do EV
 |[],_=>[]
 |[s],x=>[.sc s x]
 |s::t::r,x=>.sc s x.1::h_ (t::r) x.2
def vd:(cs:Do Sc)->Do EV->At (kf cs)
 |[],[]=>some ()
 |[],_::_=>none
 |[s],c::cs=>match c,cs with
  |.sc f x,[]=>eD f s x
  |_,_=>none
 |s::t::r,c::cs=>match c with
  |.sc f x=>match eD f s x with
   |some a=>match vd (t::r) cs with
    |some b=>some (a,b)
    |none=>none
   |none=>none
  |_=>none
 |_::_,[]=>none
def xH:∀{cs:Do Sc} {l:Do EV} {x:kf cs},vd cs l=some x->l=h_ cs x
 |[],[],x,h=>rfl
 |[],_::_,x,h=>by simp[vd]at h
 |[s],[],x,h=>by simp[vd]at h
 |[s],c::cs,x,h=>by
  simp only[vd]at h;split at h
  ·obtain⟨rfl,rfl⟩:=dp h
   rfl
  ·cases h
 |s::t::r,[],x,h=>by simp[vd]at h
 |s::t::r,c::cs,x,h=>by
  simp only[vd]at h;split at h
  ·split at h
   ·rename_i a f
    split at h
    ·rename_i b g
     obtain⟨rfl,rfl⟩:=dp f;have:=xH g;cases h;rw[this];rfl
    ·cases h
   ·cases h
  ·cases h
inductive PV where
 |h (s:Sc)
 |t (r:Sc)
 |k (c:EV)
 |ag (l:List PV)
 |tu (l:List PV)
 |fp (l:List PV)
 |cl (fn:Fn) (fs cs:List PV)
 |pe (k sz o:Nat)
def peE(k a o:Nat):EV->EV
 |.sc s x=>match eD s (.i .i64) x with
  |some i=>.pe k i a o
  |none=>.un
 |_=>.un
def Ki:EV->EV
 |.sc (.sl r) a=>.ts r a
 |_=>.un
mutual
def fL:PV->Do EV->EV×Do EV
 |.h _,cs=>(cs.headD .un,cs.tail)
 |.t _,cs=>(Ki (cs.headD .un),cs.tail)
 |.k c,cs=>(c,cs)
 |.ag l,cs=>(.ag (da l cs).1,(da l cs).2)
 |.tu l,cs=>(.tu (da l cs).1,(da l cs).2)
 |.fp l,cs=>(.fp (da l cs).1,(da l cs).2)
 |.cl f a b,cs=>(.cl f (da a cs).1 (da b (da a cs).2).1,(da b (da a cs).2).2)
 |.pe k g o,cs=>(peE k g o (cs.headD .un),cs.tail)
def da:Do PV->Do EV->Do EV×Do EV
 |[],cs=>([],cs)
 |p::a,cs=>((fL p cs).1::(da a (fL p cs).2).1,(da a (fL p cs).2).2)
end
inductive PO where
 |box (t:TypeId) (l:List PV)
 |arr (t:TypeId) (r:Sc) (wr:Bool)
 |mp (d:TypeDesc) (kc vc:Sc)
 |nr (t:TypeId) (r:Sc) (ho:Mi)
 |qr (t:TypeId) (k sz:Nat)
def qrE(t:EQ)(k a:Nat):EV->At dO
 |.sc s x=>match eD s (.sl (.i .i64)) x with
  |some b=>some (.qr t (some k) a b)
  |none=>none
 |_=>none
def ah0(t:EQ)(r:Sc)(wr:In):EV->At dO
 |.sc s x=>match eD s (.sl r) x with
  |some a=>some (.arr t r a wr)
  |none=>none
 |_=>none
def mpE(d:TypeDesc)(a b:Sc):EV->At dO
 |.sc s x=>match eD s (.sl (.pr a b)) x with
  |some f=>some (.mp d a b f)
  |none=>none
 |_=>none
def nrE(t:EQ)(r:Sc):EV->At dO
 |.sc s x=>match eD s (.sl (.sl r)) x with
  |some a=>some (.nr t r a none)
  |none=>none
 |_=>none
def aly(t:EQ)(r:Sc)(p:Nat):EV->EV->At dO
 |.sc s x,.sc a y=>match eD s (.sl (.sl r)) x with
  |some b=>match eD a (.i .i64) y with
   |some i=>some (.nr t r b (some (i,some p)))
   |none=>none
  |none=>none
 |_,_=>none
def iF:PO->Do EV->At dO×Do EV
 |.box t l,cs=>(some (.box t (da l cs).1),(da l cs).2)
 |.arr t r wr,cs=>(ah0 t r wr (cs.headD .un),cs.tail)
 |.mp d a f,cs=>(mpE d a f (cs.headD .un),cs.tail)
 |.nr t r none,cs=>(nrE t r (cs.headD .un),cs.tail)
 |.nr t r (some (_,p)),cs=>(aly t r p (cs.headD .un) (cs.tail.headD .un),cs.tail.tail)
 |.qr t k b,cs=>(qrE t k b (cs.headD .un),cs.tail)
def r4:Do (Nat×PO)->Do EV->eS
 |[],_=>[]
 |(k,o)::h,cs=>(k,(iF o cs).1)::r4 h (iF o cs).2
structure iS where
 f:FuncId
 ps:List PV
 hs:List (Nat×PO)
 cs:List Sc
 α:Type
 M:kf cs->Option α
 el:α->(R:Type)->(EV->eS->Option R)->Option R
 own:Bool
 pu:Bool
def iS.as(c:iS)(x:kf c.cs):Do EV:=(da c.ps (h_ c.cs x)).1
def iS.H0(c:iS)(x:kf c.cs):eS:=r4 c.hs (da c.ps (h_ c.cs x)).2
def Sc.ns:Sc->In
 |.sl _=>false
 |.pr x y=>x.ns && y.ns
 |.i _=>true
 |.b=>true
 |.u=>true
mutual
def EV.pu:EV->In
 |.un=>true
 |.sc s x=>match s with
  |.sl _=>false
  |_=>true
 |.nil=>true
 |.ts r g=>false
 |.v x=>true
 |.ow k=>true
 |.pt k o=>true
 |.pe k i b o=>true
 |.sw k l n b=>true
 |.mp k=>true
 |.fp cs=>false
 |.ag cs=>EV.Hm cs
 |.tu cs=>EV.Hm cs
 |.cl f a cs=>EV.Hm a && EV.Hm cs
def EV.Hm:Do EV->In
 |[]=>true
 |c::cs=>EV.pu c && EV.Hm cs
end
def dO.pu:dO->In
 |.box t cs=>EV.Hm cs
 |.arr t r g wr=>r.ns
 |.mp d f a b=>a.ns
 |.nr _ _ _ _=>false
 |.qr .. =>false
def puH(h:eS):In:=h.all λp=>match p.2 with
 |some o=>o.pu
 |none=>true
def iS.ok(P:Fd)(c:iS):Prop:=
 (c.own=false->c.hs=[])/\∀x y,c.M x=some y->∃e H,(∀(R:Type) (k:EV->eS->At R),c.el y R k=k e H)/\(c.own=false->H=[])/\(c.pu=true->e.pu=true/\puH H=true)/\
  BG P c.f (bs (c.H0 x)) (bS (c.as x)) (bs H) (enc e)
mutual
def uX(π:Nat->Nat):EV->EV
 |.un=>.un
 |.sc s x=>.sc s x
 |.nil=>.nil
 |.ts r g=>.ts r g
 |.v x=>.v x
 |.ow k=>.ow (π k)
 |.pt k o=>.pt (π k) o
 |.pe k i a o=>.pe (π k) i a o
 |.sw k l n a=>.sw (π k) l n a
 |.mp k=>.mp (π k)
 |.fp cs=>.fp cs
 |.ag cs=>.ag (r5 π cs)
 |.tu cs=>.tu (r5 π cs)
 |.cl b f cs=>.cl b (r5 π f) (r5 π cs)
def r5(π:Nat->Nat):Do EV->Do EV
 |[]=>[]
 |c::cs=>uX π c::r5 π cs
end
mutual
def De(π:Nat->Nat):∀c:EV,enc (uX π c)=(enc c).hV π
 |.un=>rfl
 |.sc s x=>by cases s<;>rfl
 |.nil=>rfl
 |.ts r g=>rfl
 |.v x=>rfl
 |.ow k=>rfl
 |.pt k o=>rfl
 |.pe k i b o=>rfl
 |.sw k l n b=>rfl
 |.mp k=>rfl
 |.fp cs=>rfl
 |.ag cs=>by simp only[uX,enc,AV.hV,mE π cs]
 |.tu cs=>by simp only[uX,enc,AV.hV,mE π cs]
 |.cl f a cs=>by simp only[uX,enc,AV.hV,mE π cs,mE π a]
def mE(π:Nat->Nat):∀cs:Do EV,bS (r5 π cs)=AV.rP π (bS cs)
 |[]=>rfl
 |c::cs=>by simp only[r5,bS,AV.rP,De π c,mE π cs]
end
def Uq(π:Nat->Nat):JS->JS
 |some (i,some j)=>some (i,some (π j))
 |o=>o
def Kj(π:Nat->Nat):dO->dO
 |.box t cs=>.box t (r5 π cs)
 |.arr t r a wr=>.arr t r a wr
 |.mp d g i f=>.mp d g i f
 |.nr t r a b=>.nr t r a (Uq π b)
 |.qr t b h a=>.qr t (b.map π) h a
def ah1(π:Nat->Nat)(r:Sc)(x:Do r.c9):(Y1 r x).hV π=Y1 r x:=by cases x<;>rfl
def ah2(π:Nat->Nat)(r:Sc)(a:Do (Do r.c9))(f:JS):wB r a (Uq π f)=AV.rP π (wB r a f):=by
 have b:(a.map (Y1 r)).map (AV.hV π)=a.map (Y1 r):=by
  rw[avE];exact avi λx _=>ah1 π r x
 rw[k6]
 match f with
 |none=>exact b.symm
 |some (i,none)=>simp only[Uq,wB,awl,b];rfl
 |some (i,some j)=>simp only[Uq,wB,awl,b];rfl
def EH(π:Nat->Nat)(o:dO):bU (Kj π o)=(bU o).hV π:=by
 cases o with
 |box t cs=>simp only[Kj,bU,Ob.hV,mE]
 |arr=>rfl
 |mp=>rfl
 |nr t r b a=>simp only[Kj,bU,Ob.hV,ah2]
 |qr t a f b=>
  simp only[Kj,bU,Ob.hV,k6,avE];congr 1;exact avi λi _=>by cases a<;>rfl
def BL(π:Nat->Nat):eS->eS
 |[]=>[]
 |(k,o)::h=>(π k,match o with
  |some o=>some (Kj π o)
  |none=>none)::BL π h
def r6(π:Nat->Nat):∀h:eS,bs (BL π h)=kH π (bs h)
 |[]=>rfl
 |(k,o)::h=>by
  have:∀o:dO,bU (Kj π o)=(bU o).hV π:=EH π;cases o with
  |none=>simp only[BL,bs,kH,Option.map,r6 π h]
  |some o=>simp only[BL,bs,kH,Option.map,r6 π h,this]
mutual
def HA(π:Nat->Nat):PV->PV
 |.h s=>.h s
 |.t r=>.t r
 |.k c=>.k (uX π c)
 |.ag l=>.ag (nF π l)
 |.tu l=>.tu (nF π l)
 |.fp l=>.fp l
 |.cl a b cs=>.cl a (nF π b) (nF π cs)
 |.pe k f o=>.pe (π k) f o
def nF(π:Nat->Nat):Do PV->Do PV
 |[]=>[]
 |p::a=>HA π p::nF π a
end
def r7(π:Nat->Nat):PO->PO
 |.box t l=>.box t (nF π l)
 |.arr t r wr=>.arr t r wr
 |.mp d a f=>.mp d a f
 |.nr t r none=>.nr t r none
 |.nr t r (some (s,p))=>.nr t r (some (s,π p))
 |.qr t k b=>.qr t (π k) b
def Ur(p k:Nat)(D:bI):bI:=cond (Nat.ble 4294967296 p) (match pQ D p with
 |some _=>D
 |none=>D++[(p,k)]) D
mutual
def aop:PV->EV->bI->bI
 |.h _,_,D=>D
 |.t _,_,D=>D
 |.k a,c,D=>match a,c with
  |.ow p,.ow k=>Ur p k D
  |.pt p _,.pt k _=>Ur p k D
  |.mp p,.mp k=>Ur p k D
  |_,_=>D
 |.ag l,c,D=>match c with
  |.ag cs=>qb l cs D
  |_=>D
 |.tu _,_,D=>D
 |.fp _,_,D=>D
 |.cl _ b g,c,D=>match c with
  |.cl _ f h=>qb g h (qb b f D)
  |_=>D
 |.pe p _ _,c,D=>match c with
  |.pe k _ _ _=>Ur p k D
  |_=>D
def qb:Do PV->Do EV->bI->bI
 |[],_,D=>D
 |p::a,cs,D=>match cs with
  |[]=>D
  |c::cs=>qb a cs (aop p c D)
end
def M1(hg:Nat->At dO):Do (Nat×PO)->bI->bI
 |[],D=>D
 |(p,b)::a,D=>M1 hg a (match b with
  |.box _ l=>match pQ D p with
   |some k=>match hg k with
    |some (.box _ cs)=>qb l cs D
    |_=>D
   |none=>D
  |_=>D)
def abY(hg:Nat->At dO)(s:Sc):EV->At (s.c9×a_)
 |.ow k=>match hg k with
  |some (.arr _ r a _)=>match eD (.sl r) s a with
   |some y=>some (y,[k])
   |none=>none
  |_=>none
 |c=>match HY s c with
  |some y=>some (y,[])
  |none=>none
def Us:EV->EV->In
 |.un,_=>true
 |.nil,.nil=>true
 |.ow a,.ow b=>beq a b
 |.pt a o,.pt b q=>beq a b && beq o q
 |.mp a,.mp b=>beq a b
 |.v (.func (.func f) ⟨[]⟩ ⟨[]⟩),.v (.func (.func g) ⟨[]⟩ ⟨[]⟩)=>beq f g
 |_,_=>false
def M3{a b:EV}(h:Us a b=true):Wk (enc b) (enc a):=by
 unfold Us at h;split at h
 ·exact Wk.un
 ·exact Wk.refl _
 ·rw[auu h];exact Wk.refl _
 ·simp only[aup]at h
  rw[auu h.1,auu h.2];exact Wk.refl _
 ·rw[auu h];exact Wk.refl _
 ·rw[auu h];exact Wk.refl _
 ·cases h
def Ut:EV->In
 |.un=>true
 |.nil=>true
 |.v _=>true
 |_=>false
def uo:PV->In
 |.h _=>true
 |.t _=>true
 |.k c=>Ut c
 |_=>false
def fnB:Fn->Fn->In
 |.func f,.func g=>beq f g
 |_,_=>false
def abZ{a b:Fn}(h:fnB a b=true):a=b:=by
 unfold fnB at h;split at h
 ·rw[auu h]
 ·cases h
def Wk.fp{cs a:Do AV}(h:oj cs a):Wk (.fp cs) (.fp a):=by
 intro Rd E u k;cases k with
 |fp b i g f=>
  have j:LR (VR Rd none) cs b:=⟨i,g⟩;have:=h.lr j;exact .fp b this.1 this.2 f
def Wk.cl{fn:Fn}{fs g cs f:Do AV}(h:oj fs g)(k:oj cs f):Wk (.cl fn fs cs) (.cl fn g f):=by
 intro Rd E u q;cases q with
 |cl i j o p l m=>
  have a:LR (VR Rd E) fs i:=⟨o,l⟩;have b:LR (VR Rd E) cs j:=⟨p,m⟩;have a:=h.lr a;have b:=k.lr b;exact .cl i j a.1 b.1 a.2 b.2
mutual
def EI:PV->EV->At (Do EV)
 |.h s,c=>match HY s c with
  |some x=>some [.sc s x]
  |none=>none
 |.t r,c=>match c with
  |.ts u f=>match eD (.sl u) (.sl r) f with
   |some z=>some [.sc (.sl r) z]
   |none=>none
  |.nil=>some [.sc (.sl r) (show Do r.c9 from [])]
  |_=>none
 |.k g,c=>cond (Us g c) (some []) none
 |.ag l,c=>match c with
  |.ag cs=>ve l cs
  |_=>none
 |.tu l,c=>match c with
  |.tu cs=>ve l cs
  |_=>none
 |.fp l,c=>match c with
  |.fp cs=>ve l cs
  |_=>none
 |.cl h m f,c=>match c with
  |.cl j p y=>cond (fnB h j) (match ve m p with
   |some a=>match ve f y with
    |some b=>some (a++b)
    |none=>none
   |none=>none) none
  |_=>none
 |.pe k v o,c=>match c with
  |.pe q i w t=>cond (beq k q && beq v w && beq o t) (some [.sc (.i .i64) i]) none
  |_=>none
def ve:Do PV->Do EV->At (Do EV)
 |[],cs=>match cs with
  |[]=>some []
  |_::_=>none
 |p::f,cs=>match cs with
  |[]=>none
  |c::cs=>match EI p c with
   |some a=>match ve f cs with
    |some b=>some (a++b)
    |none=>none
   |none=>none
end
def ia(s:Sc)(x:s.c9):eD s s x=some x:=by
 have j:∀s:Sc,Sc.eqP s s=some ⟨rfl⟩:=by
  intro s
  induction s with
  |i k=>simp[Sc.eqP]
  |b=>rfl
  |sl r f=>simp[Sc.eqP,f]
  |pr a l g h=>simp[Sc.eqP,g,h]
  |u=>rfl
 unfold eD;rw[j]
mutual
def Uu:∀(p:PV) {c:EV} {f:Do EV} (rest:Do EV),EI p c=some f->(fL p (f++rest)).2=rest/\Wk (enc c) (enc (fL p (f++rest)).1)
 |.h s,c,f,rest,h=>by
  simp only[EI]at h;split at h
  ·rename_i x y
   cases h;exact⟨rfl,RD y⟩
  ·cases h
 |.t r,c,f,rest,h=>by
  simp only[EI]at h;split at h
  ·split at h
   ·rename_i F z
    cases h;obtain⟨e,rfl⟩:=dp z;cases e;exact⟨rfl,Wk.refl _⟩
   ·cases h
  ·cases h
   exact⟨rfl,Wk.RC⟩
  ·cases h
 |.k B,c,f,rest,h=>by
  simp only[EI]at h;obtain⟨i,g⟩:=aY h;cases g;exact⟨rfl,M3 i⟩
 |.ag l,c,f,rest,h=>by
  simp only[EI]at h;split at h
  ·obtain⟨a,b⟩:=mG l rest h
   exact⟨a,Wk.ag b⟩
  ·cases h
 |.tu l,c,f,rest,h=>by
  simp only[EI]at h;split at h
  ·obtain⟨a,b⟩:=mG l rest h
   exact⟨a,Wk.tu b⟩
  ·cases h
 |.fp l,c,f,rest,h=>by
  simp only[EI]at h;split at h
  ·obtain⟨a,b⟩:=mG l rest h
   exact⟨a,Wk.fp b⟩
  ·cases h
 |.cl C u A,c,f,rest,h=>by
  simp only[EI]at h;split at h
  ·obtain⟨i,g⟩:=aY h
   obtain rfl:=abZ i;split at g
   ·rename_i a v
    split at g
    ·rename_i b w
     cases g;obtain⟨j,m⟩:=mG u (b++rest) v;obtain⟨q,t⟩:=mG A rest w;simp only[fL,auV,j];exact⟨q,Wk.cl m t⟩
    ·cases g
   ·cases g
  ·cases h
 |.pe k E o,c,f,rest,h=>by
  simp only[EI]at h;split at h
  ·obtain⟨i,g⟩:=aY h
   cases g;simp only[aup]at i;rw[auu i.1.1,auu i.1.2,auu i.2];refine⟨rfl,?_⟩;simp only[fL,avW,avY,peE,ia];exact Wk.refl _
  ·cases h
def mG:∀(g:Do PV) {cs:Do EV} {f:Do EV} (rest:Do EV),ve g cs=some f->(da g (f++rest)).2=rest/\oj (bS cs) (bS (da g (f++rest)).1)
 |[],cs,f,rest,h=>by
  simp only[ve]at h;split at h
  ·cases h
   exact⟨rfl,.nil⟩
  ·cases h
 |p::g,cs,f,rest,h=>by
  simp only[ve]at h;split at h
  ·cases h
  ·rename_i c cs
   split at h
   ·rename_i a k
    split at h
    ·rename_i b l
     cases h;have i:=Uu p (b++rest) k;have j:=mG g rest l;simp only[da,auV,i.1];exact⟨j.1,.cons i.2 j.2⟩
    ·cases h
   ·cases h
end
def ah3:PO->dO->At (Do EV)
 |.box t l,.box a cs=>cond (beq t a) (ve l cs) none
 |.arr t r wr,.arr a g b z=>cond (beq t a && (!wr||z)) (match eD (.sl g) (.sl r) b with
  |some f=>some [.sc (.sl r) f]
  |none=>none) none
 |.mp d h j,.mp m u y o=>cond (k8 d h && k8 m h) (match eD (.sl (.pr u y)) (.sl (.pr h j)) o with
  |some f=>some [.sc (.sl (.pr h j)) f]
  |none=>none) none
 |.nr t r none,.nr a g b none=>cond (beq t a) (match eD (.sl (.sl g)) (.sl (.sl r)) b with
  |some f=>some [.sc (.sl (.sl r)) f]
  |none=>none) none
 |.nr t r (some (_,p)),.nr a g b (some (i,some q))=>cond (beq t a && beq p q) (match eD (.sl (.sl g)) (.sl (.sl r)) b with
  |some f=>some [.sc (.sl (.sl r)) f,.sc (.i .i64) i]
  |none=>none) none
 |.arr t r wr,.nr a g b none=>cond (beq t a) (match eD (.sl (.sl g)) (.sl r) b with
  |some f=>some [.sc (.sl r) f]
  |none=>none) none
 |.qr t k v,.qr a (some s) w b=>cond (beq t a && beq k s && beq v w) (some [.sc (.sl (.i .i64)) (show aX from b)]) none
 |_,_=>none
def R6(r:Sc):∀a:Do (Do r.c9),pW ((a.map (Y1 r)).map λc=>[c]) (List.map (bJ (.sl r)) a)
 |[]=>.nil
 |x::a=>by
  refine .cons (.cons ?_ .nil) (R6 r a);cases x with
  |nil=>exact Wk.empty rfl
  |cons y b=>exact Wk.refl _
def OR.aoq{Rd:bF}{e:Env}{cs g:Do AV}(l:oj cs g)(h:OR Rd e m C (.box a cs)):OR Rd e m C (.box a g):=by
 obtain⟨f,b,o,i,j,k⟩:=h;exact⟨f,b,o,i,j,l.lr k⟩
def Uv(p:PO){B:Do EV}(rest:Do EV)(h:ah3 p R=some B):(iF p (B++rest)).2=rest/\∃C,(iF p (B++rest)).1=some C/\∀Rd e w k,OR Rd e w k (bU R)->OR Rd e w k (bU C):=by
 unfold ah3 at h;split at h
 ·rename_i t l z cs
  obtain⟨f,g⟩:=aY h;have f:=auu f;subst f;obtain⟨a,b⟩:=mG l rest g;exact⟨a,_,rfl,λRd e w k j=>OR.aoq b j⟩
 ·rename_i t r wr z v m V
  obtain⟨f,g⟩:=aY h;simp only[aup]at f;have o:=auu f.1;subst o;split at g
  ·rename_i A u
   cases g;obtain⟨e1,rfl⟩:=dp u;cases e1;refine⟨rfl,.arr t r m wr,?_,λRd e w k j=>?_⟩
   ·simp only[iF,avW,avY,ah0,ia]
   ·obtain⟨E,F,G,H⟩:=j
    refine⟨E,F,λM=>G ?_,H⟩;have:=f.2;rw[M]at this;simpa using this
  ·cases g
 ·rename_i d N O Q S U I
  obtain⟨f,g⟩:=aY h;simp only[aup]at f;have o:=o9 f.1 f.2;subst o;split at g
  ·rename_i A u
   cases g;obtain⟨e1,rfl⟩:=dp u;cases e1;refine⟨rfl,.mp d N O I,?_,λRd e w k j=>j⟩;simp only[iF,avW,avY,mpE,ia]
  ·cases g
 ·rename_i t r z v m
  obtain⟨f,g⟩:=aY h;have o:=auu f;subst o;split at g
  ·rename_i A u
   cases g;obtain⟨e1,rfl⟩:=dp u;cases e1;refine⟨rfl,.nr t r m none,?_,λRd e w k j=>j⟩;simp only[iF,avW,avY,nrE,ia]
  ·cases g
 ·rename_i t r s p z v m i q
  obtain⟨f,g⟩:=aY h;simp only[aup]at f;have o:=auu f.1;have J:=auu f.2;subst o;subst J;split at g
  ·rename_i A u
   cases g;obtain⟨e1,rfl⟩:=dp u;cases e1;refine⟨rfl,.nr t r m (some (i,some p)),?_,λRd e w k j=>j⟩;simp only[iF,avH,avd,avY,List.tail_cons,aly,ia]
  ·cases g
 ·rename_i t r wr z v m
  obtain⟨f,g⟩:=aY h;have o:=auu f;subst o;split at g
  ·rename_i A u
   cases g;obtain⟨e1,rfl⟩:=dp u;cases e1;refine⟨rfl,.arr t (.sl v) m wr,?_,λRd e w k j=>?_⟩
   ·simp only[iF,avW,avY,ah0,ia]
   ·have L:OR Rd e w k (.nr t (m.map (Y1 v))):=j
    refine(L.aol (λc y=>?_) (λc y=>?_) wr).xC (R6 v m) (λc y=>?_)
    ·obtain⟨x,_,rfl⟩:=auD.1 y
     cases x<;>rfl
    ·obtain⟨x,_,rfl⟩:=auD.1 y
     cases x<;>rfl
    ·exact eO (.sl v) m c y
  ·cases g
 ·obtain⟨f,g⟩:=aY h
  cases g;simp only[aup]at f;rw[auu f.1.1,auu f.1.2,auu f.2];refine⟨rfl,_,?_,λRd e w k j=>j⟩;simp only[iF,avW,avY,qrE];rw[ia (.sl (.i .i64))]
 ·cases h
mutual
def qc(hg:Nat->At dO)(bo:In):PV->EV->At (Do EV×a_)
 |.h s,c=>match abY hg s c with
  |some (x,gs)=>some ([.sc s x],gs)
  |none=>none
 |.t r,c=>match c with
  |.ts w f=>match eD (.sl w) (.sl r) f with
   |some B=>some ([.sc (.sl r) B],[])
   |none=>none
  |.nil=>some ([.sc (.sl r) (show Do r.c9 from [])],[])
  |_=>none
 |.k g,c=>cond (Us g c) (some ([],[])) none
 |.ag l,c=>match c with
  |.ag cs=>lT hg bo l cs
  |_=>none
 |.tu _,_=>none
 |.fp l,c=>match c with
  |.fp cs=>cond (l.all uo) (match lT hg bo l cs with
   |some (vs,[])=>some (vs,[])
   |_=>none) none
  |.pt k o=>cond (bo && beq o 0 && l.all uo) (match hg k with
   |some (.box t cs)=>cond (!(beq t D_)) (match lT hg bo l cs with
    |some (vs,gs)=>some (vs,k::gs)
    |none=>none) none
   |_=>none) none
  |_=>none
 |.cl h m f,c=>match c with
  |.cl j p A=>cond (fnB h j) (match lT hg bo m p with
   |some (a,q)=>match lT hg bo f A with
    |some (b,g2)=>some (a++b,q++g2)
    |none=>none
   |none=>none) none
  |_=>none
 |.pe k y o,c=>match c with
  |.pe u i z v=>cond (beq k u && beq y z && beq o v) (some ([.sc (.i .i64) i],[])) none
  |_=>none
def lT(hg:Nat->At dO)(bo:In):Do PV->Do EV->At (Do EV×a_)
 |[],cs=>match cs with
  |[]=>some ([],[])
  |_::_=>none
 |p::g,cs=>match cs with
  |[]=>none
  |c::cs=>match qc hg bo p c with
   |some (a,f)=>match lT hg bo g cs with
    |some (b,g2)=>some (a++b,f++g2)
    |none=>none
   |none=>none
end
def jC(cs:Do EV):Prop:=∀c∈cs,∃s x,c=EV.sc s x
def r8:∀(cs:Do Sc) (x:kf cs),jC (h_ cs x)
 |[],_=>λc h=>by cases h
 |[s],x=>λc h=>by simp only[h_,auN]at h;exact⟨_,_,h⟩
 |s::t::r,x=>λc h=>by
  simp only[h_]at h;rcases auT.1 h with h|h
  ·exact⟨_,_,h⟩
  ·exact r8 (t::r) x.2 c h
def jC.tail{cs:Do EV}(h:jC cs):jC cs.tail:=λc a=>h c (List.mem_of_mem_tail a)
def ab0(π:Nat->Nat){cs:Do EV}(h:jC cs):uX π (cs.headD .un)=cs.headD .un:=by
 cases cs with
 |nil=>rfl
 |cons c cs=>obtain⟨s,x,rfl⟩:=h c d5;rfl
def Zb(π:Nat->Nat){cs:Do EV}(h:jC cs):uX π (Ki (cs.headD .un))=Ki (cs.headD .un):=by
 cases cs with
 |nil=>rfl
 |cons c cs=>
  obtain⟨s,x,rfl⟩:=h c d5;cases s<;>rfl
mutual
def H8(π:Nat->Nat):∀(p:PV) {cs:Do EV},jC cs->(fL (HA π p) cs).1=uX π (fL p cs).1/\(fL (HA π p) cs).2=(fL p cs).2/\jC (fL p cs).2
 |.h s,cs,h=>⟨(ab0 π h).symm,rfl,h.tail⟩
 |.t r,cs,h=>⟨(Zb π h).symm,rfl,h.tail⟩
 |.k c,cs,h=>⟨rfl,rfl,h⟩
 |.ag l,cs,h=>by
  obtain⟨a,b,c⟩:=gM π l h;exact⟨by simp only[HA,fL,uX,a],by simp only[HA,fL,b],c⟩
 |.tu l,cs,h=>by
  obtain⟨a,b,c⟩:=gM π l h;exact⟨by simp only[HA,fL,uX,a],by simp only[HA,fL,b],c⟩
 |.fp l,cs,h=>⟨rfl,rfl,(gM π l h).2.2⟩
 |.cl q j m,cs,h=>by
  obtain⟨a,b,c⟩:=gM π j h;obtain⟨f,g,i⟩:=gM π m c;exact⟨by simp only[HA,fL,uX,a,b,f],by simp only[HA,fL,b,g],i⟩
 |.pe k t o,cs,h=>by
  refine⟨?_,rfl,h.tail⟩;simp only[HA,fL];cases cs with
  |nil=>rfl
  |cons c cs=>
   obtain⟨s,x,rfl⟩:=h c d5;simp only[avY,peE];cases eD s (.i .i64) x<;>rfl
def gM(π:Nat->Nat):∀(f:Do PV) {cs:Do EV},jC cs->(da (nF π f) cs).1=r5 π (da f cs).1/\(da (nF π f) cs).2=(da f cs).2/\jC (da f cs).2
 |[],cs,h=>⟨rfl,rfl,h⟩
 |p::f,cs,h=>by
  obtain⟨a,b,c⟩:=H8 π p h;obtain⟨g,i,j⟩:=gM π f c;exact⟨by simp only[nF,da,r5,a,b,g],by simp only[nF,da,b,i],j⟩
end
def VR.close{Rd:bF}{c:AV}(h:VR Rd N c o)(b:c.f_ (λ_=>true)=true):VR Rd none c o:=by
 induction h with
 |un=>exact .un
 |v=>exact .v
 |sl i s p g l a f q m k=>exact .sl i s p g l a f q m
 |ow=>simp[AV.f_]at b
 |pt=>simp[AV.f_]at b
 |pe=>simp[AV.f_]at b
 |sw=>simp[AV.f_]at b
 |fp i g l m k=>exact .fp i g l m
 |ag i g l k=>exact .ag i g λj c o a f=>k j c o a f (fg (by simpa[AV.f_]using b) j c a)
 |tu i g l k=>exact .tu i g λj c o a f=>k j c o a f (fg (by simpa[AV.f_]using b) j c a)
 |mp=>simp[AV.f_]at b
 |cl i u g r l w k t=>
  simp only[AV.f_,aup]at b;exact .cl i u g r (λj c o a f=>k j c o a f (fg b.1 j c a)) (λj c o a f=>t j c o a f (fg b.2 j c a))
def ab1(s:Sc)(x:s.c9)(p:Nat->In):(encS s x).f_ p=true:=by cases s<;>rfl
def R7(c:EV)(a:c=.un\/∃s x,c=EV.sc s x)(p:Nat->In):(enc (Ki c)).f_ p=true:=by
 rcases a with rfl|⟨s,x,rfl⟩
 ·rfl
 ·cases s<;>rfl
def jl{cs:Do EV}(h:jC cs):cs.headD .un=.un\/∃s x,cs.headD .un=EV.sc s x:=by
 cases cs with
 |nil=>exact .inl rfl
 |cons c cs=>exact .inr (h c d5)
def M4{p:PV}(a:uo p=true){cs:Do EV}(h:jC cs):(enc (fL p cs).1).f_ (λ_=>true)=true:=by
 cases p with
 |h s=>
  rcases jl h with e|⟨b,x,e⟩
  ·simp only[fL,e];rfl
  ·simp only[fL,e];exact ab1 _ _ _
 |t r=>exact R7 _ (jl h) _
 |k c=>cases c<;>first|rfl|(simp[uo,Ut]at a)
 |_=>simp[uo]at a
def qd:∀{f:Do PV} (_:f.all uo=true) {cs:Do EV},jC cs->∀c∈bS (da f cs).1,c.f_ (λ_=>true)=true
 |[],_,cs,h,c,a=>by cases a
 |p::f,b,cs,h,c,a=>by
  simp only[avx,aup]at b;simp only[da,bS]at a;rcases auT.1 a with rfl|a
  ·exact M4 b.1 h
  ·exact qd b.2 (H8 id p h).2.2 c a
section
variable{hg:Nat->At dO}{bo:In}{R1 R2:bF}{e e1:Env}{gF:a_}
structure GF(hg:Nat->Option dO)(R1 R2:bF)(e e1:Env)(gF:a_):Prop where
 mono:∀b o u,R1 b o u->R2 b o u
 bW:∀j,e1.bW j=e.bW j
 sv:∀j,e1.sv j=e.sv j
 row:∀k,gF.contains k=true->∀t r xs wr,hg k=some (.arr t r xs wr)->VR R2 none (.sl false r.w (List.map (bJ r) xs)) (e.sv k)
 box:∀k,gF.contains k=true->∀t cs,t≠D_->hg k=some (.box t cs)->∃b us,e.bW k=some b/\LR (VR R1 (some e)) (bS cs) us/\∀(j:Nat) u,us[j]? =some u->R2 b j u
def GF.carry(g:GF hg R1 R2 e e1 gF){c:AV}(h:VR R1 (some e) c o):VR R2 (some e1) c o:=(h.mono g.mono).iD rfl g.bW g.sv
def ab2(g:GF hg R1 R2 e e1 gF){s:Sc}{c:EV}{x:s.c9}{gs:a_}(h:abY hg s c=some (x,gs))(f:∀k,gs.contains k=true->gF.contains k=true)(b:VR R1 (some e) (enc c) o):VR R2 (some e1) (encS s x) o:=by
 unfold abY at h;split at h
 ·rename_i k
  split at h
  ·rename_i t r j wr i
   split at h
   ·rename_i y a
    cases h;obtain⟨rfl,rfl⟩:=dp a;cases b;exact(g.row k (f k d5) t r _ wr i).cV
   ·cases h
  ·cases h
 ·split at h
  ·rename_i y a
   cases h;exact RD a _ _ _ (g.carry b)
  ·cases h
mutual
def Zc:∀(p:PV) {c:EV} {f:Do EV} {gs:a_},qc hg bo p c=some (f,gs)->jC f
 |.h s,c,f,gs,h=>by
  simp only[qc]at h;split at h
  ·cases h
   intro c b;simp only[auN]at b;exact⟨_,_,b⟩
  ·cases h
 |.t r,c,f,gs,h=>by
  simp only[qc]at h;split at h
  ·split at h
   ·cases h
    intro c b;simp only[auN]at b;exact⟨_,_,b⟩
   ·cases h
  ·cases h
   intro c b;simp only[auN]at b;exact⟨_,_,b⟩
  ·cases h
 |.k t,c,f,gs,h=>by
  simp only[qc]at h;obtain⟨_,a⟩:=aY h;cases a;intro c b;cases b
 |.ag l,c,f,gs,h=>by
  simp only[qc]at h;split at h
  ·exact fV l h
  ·cases h
 |.tu l,c,f,gs,h=>by simp[qc]at h
 |.fp l,c,f,gs,h=>by
  simp only[qc]at h;split at h
  ·obtain⟨_,a⟩:=aY h
   split at a
   ·rename_i g
    cases a;exact fV l g
   ·cases a
  ·obtain⟨_,a⟩:=aY h
   split at a
   ·obtain⟨_,a⟩:=aY a
    split at a
    ·rename_i g
     cases a;exact fV l g
    ·cases a
   ·cases a
  ·cases h
 |.cl u i q,c,f,gs,h=>by
  simp only[qc]at h;split at h
  ·obtain⟨_,a⟩:=aY h
   split at a
   ·rename_i j
    split at a
    ·rename_i m
     cases a;intro c b;rcases auC.1 b with b|b
     ·exact fV i j c b
     ·exact fV q m c b
    ·cases a
   ·cases a
  ·cases h
 |.pe k v o,c,f,gs,h=>by
  simp only[qc]at h;split at h
  ·obtain⟨_,a⟩:=aY h
   cases a;intro c b;simp only[auN]at b;exact⟨_,_,b⟩
  ·cases h
def fV:∀(f:Do PV) {cs:Do EV} {b:Do EV} {gs:a_},lT hg bo f cs=some (b,gs)->jC b
 |[],cs,b,gs,h=>by
  simp only[lT]at h;split at h
  ·cases h;intro c a;cases a
  ·cases h
 |p::f,cs,b,gs,h=>by
  simp only[lT]at h;split at h
  ·cases h
  ·split at h
   ·rename_i g
    split at h
    ·rename_i i
     cases h;intro c a;rcases auC.1 a with a|a
     ·exact Zc p g c a
     ·exact fV f i c a
    ·cases h
   ·cases h
end
mutual
def ah4(g:GF hg R1 R2 e e1 gF):∀(p:PV) {c:EV} {w:Do EV} {gs:a_} (rest:Do EV),jC rest->qc hg bo p c=some (w,gs)->(∀k,gs.contains k=true->gF.contains k=true)->(fL p (w++rest)).2=rest/\∀u,VR R1 (some e) (enc c) u->VR R2 (some e1) (enc (fL p (w++rest)).1) u
 |.h s,c,w,gs,rest,q,h,v=>by
  simp only[qc]at h;split at h
  ·rename_i x X hx
   cases h;exact⟨rfl,λu i=>ab2 g hx v i⟩
  ·cases h
 |.t r,c,w,gs,rest,q,h,v=>by
  simp only[qc]at h;split at h
  ·split at h
   ·rename_i ys hy
    cases h;obtain⟨e,rfl⟩:=dp hy;cases e;exact⟨rfl,λu i=>g.carry i⟩
   ·cases h
  ·cases h
   exact⟨rfl,λu i=>Wk.RC _ _ _ (g.carry i)⟩
  ·cases h
 |.k c0,c,w,gs,rest,q,h,v=>by
  simp only[qc]at h;obtain⟨m,f⟩:=aY h;cases f;exact⟨rfl,λu i=>M3 m _ _ _ (g.carry i)⟩
 |.ag l,c,w,gs,rest,q,h,v=>by
  simp only[qc]at h;split at h
  ·obtain⟨a,b⟩:=k9 g l rest q h v
   refine⟨a,λu i=>?_⟩;obtain⟨z,rfl,H⟩:=VR.e5 i;have:=b z H;exact .ag z this.1 this.2
  ·cases h
 |.tu l,c,w,gs,rest,q,h,v=>by simp[qc]at h
 |.fp l,c,w,gs,rest,q,h,v=>by
  simp only[qc]at h;split at h
  ·rename_i cs
   obtain⟨B,f⟩:=aY h;split at f
   ·rename_i vs C
    cases f;obtain⟨a,b⟩:=k9 g l rest q C (λk A=>by simp at A);have J:jC (w++rest):=λc y=>(auC.1 y).elim (fV l C c) (q c);refine⟨a,λu i=>?_⟩;cases i with
    |fp z G y F=>
     have:=b z ⟨G,λj c u m f=>(y j c u m f).cV⟩;exact .fp z this.1 (λj c u m f=>(this.2 j c u m f).close (qd B J c (auI m))) λj u I=>g.mono _ _ _ (F j u I)
   ·cases f
  ·rename_i k o
   obtain⟨B,f⟩:=aY h;simp only[aup]at B;have ho:=auu B.1.2;subst ho;split at f
   ·rename_i t cs A
    obtain⟨a3,f⟩:=aY f;split at f
    ·rename_i vs X C
     cases f;obtain⟨a,b⟩:=k9 g l rest q C (λk' M=>v k' (by simp at M⊢;exact .inr M));have J:jC (w++rest):=λc y=>(auC.1 y).elim (fV l C c) (q c);refine⟨a,λu i=>?_⟩;obtain⟨bb,z,E,H,y⟩:=g.box k (v k d5) t cs (AA a3) A;cases i with
     |pt L=>
      rw[E]at L;cases L;have:=b z H;exact .fp z this.1 (λj c u m f=>(this.2 j c u m f).close (qd B.2 J c (auI m))) λj u I=>by rw[auZ];exact y j u I
    ·cases f
   ·cases f
  ·cases h
 |.cl fn W Q,c,w,gs,rest,q,h,v=>by
  simp only[qc]at h;split at h
  ·obtain⟨m,f⟩:=aY h
   obtain rfl:=abZ m;split at f
   ·rename_i a g1 F
    split at f
    ·rename_i b g2 E
     cases f;have a0:jC (b++rest):=λc y=>(auC.1 y).elim (fV Q E c) (q c);obtain⟨R,S⟩:=k9 g W (b++rest) a0 F (λk A=>v k (by simp at A⊢;exact .inl A));obtain⟨U,V⟩:=k9 g Q rest q E (λk A=>v k (by simp at A⊢;exact .inr A));simp only[fL,auV,R];refine⟨U,λu i=>?_⟩;cases i with
     |cl z vs G Z y Y=>
      have N:=S z ⟨G,y⟩;have O:=V vs ⟨Z,Y⟩;exact .cl z vs N.1 O.1 N.2 O.2
    ·cases f
   ·cases f
  ·cases h
 |.pe k sz o,c,w,gs,rest,q,h,v=>by
  simp only[qc]at h;split at h
  ·obtain⟨m,f⟩:=aY h
   cases f;simp only[aup]at m;rw[auu m.1.1,auu m.1.2,auu m.2];refine⟨rfl,λu i=>?_⟩;simp only[fL,avW,avY,peE,ia];exact g.carry i
  ·cases h
def k9(g:GF hg R1 R2 e e1 gF):∀(l:Do PV) {cs:Do EV} {o:Do EV} {gs:a_} (rest:Do EV),jC rest->lT hg bo l cs=some (o,gs)->(∀k,gs.contains k=true->gF.contains k=true)->(da l (o++rest)).2=rest/\∀f,LR (VR R1 (some e)) (bS cs) f->LR (VR R2 (some e1)) (bS (da l (o++rest)).1) f
 |[],cs,o,gs,rest,r,h,q=>by
  simp only[lT]at h;split at h
  ·cases h
   exact⟨rfl,λf i=>by
    have:f=[]:=avq (by simpa[bS]using i.1);subst this;exact LR.nil⟩
  ·cases h
 |p::l,cs,o,gs,rest,r,h,q=>by
  simp only[lT]at h;split at h
  ·cases h
  ·rename_i c cs
   split at h
   ·rename_i a G C
    split at h
    ·rename_i b H s
     cases h;have F:jC (b++rest):=λc E=>(auC.1 E).elim (fV l s c) (r c);obtain⟨t,w⟩:=ah4 g p (b++rest) F C (λk m=>q k (by simp at m⊢;exact .inl m));obtain⟨y,z⟩:=k9 g l rest r s (λk m=>q k (by simp at m⊢;exact .inr m));simp only[da,auV,t];refine⟨y,λf i=>?_⟩;cases f with
     |nil=>have:=i.1;simp[bS]at this
     |cons u f=>
      exact LR.cons (w u (i.2 0 _ u rfl rfl)) (z f ⟨by simpa[bS]using i.1,λj c v A B=>i.2 (j+1) c v (by simpa[bS]using A) (by simpa using B)⟩)
    ·cases h
   ·cases h
end
end
def M5:dO->In
 |.arr _ _ _ wr=>wr
 |_=>true
def EJ(hg:Nat->At dO)(D:bI)(B:Nat):Do (Nat×PO)->At (Do EV)
 |[]=>some []
 |(p,g)::f=>match pQ D p with
  |some k=>match hg k with
   |some o=>cond (M5 o) (match ah3 (r7 (ff D B) g) o with
    |some a=>match EJ hg D B f with
     |some b=>some (a++b)
     |none=>none
    |none=>none) none
   |none=>none
  |none=>none
def fm(hg:Nat->At dO):a_->eS
 |[]=>[]
 |k::gs=>match hg k with
  |some (.arr t r a _)=>(k,some (.arr t r a false))::fm hg gs
  |_=>fm hg gs
def M6(hg:Nat->At dO)(k:Nat):In:=match hg k with
 |some (.arr _ _ _ _)=>true
 |_=>false
def R8(D:bI):eS:=D.map λq=>(q.2,none)
def deW(hg:Nat->At dO):EV->EV×a_×In
 |.sw k l n a=>match hg k with
  |some (.arr _ r b _)=>cond (beq r.w a) (.sc (.sl r) (show Do r.c9 from(b.drop l.toNat).take n.toNat),[k],Nat.ble (l.toNat+n.toNat) b.length) (.sw k l n a,[],true)
  |_=>(.sw k l n a,[],true)
 |c=>(c,[],true)
def AK(hg:Nat->At dO):Do EV->Do EV×a_×In
 |[]=>([],[],true)
 |c::cs=>((deW hg c).1::(AK hg cs).1,(deW hg c).2.1++(AK hg cs).2.1,(deW hg c).2.2 && (AK hg cs).2.2)
def ab3(e:Env)(R2:bF)(k:Nat)(r:Sc)(f:Do r.c9):Prop:=
 ∀b,e.bW k=some b->∃a,LR (VR R2 none) (List.map (bJ r) f).flatten a/\∀(j:Nat) u,a[j]? =some u->R2 b j u
def alB{hg:Nat->At dO}{R1 R2:bF}{e:Env}(B:∀b f o,R1 b f o->R2 b f o)(c:EV)
 (v:∀k,(deW hg c).2.1.contains k=true->∀t r g wr,hg k=some (.arr t r g wr)->ab3 e R2 k r g) (p:(deW hg c).2.2=true) (y:VR R1 (some e) (enc c) o):VR R2 (some e) (enc (deW hg c).1) o:=by
 unfold deW at v p⊢;split
 ·rename_i k l n Y
  simp only at v p;split
  ·rename_i t r g wr L
   rw[L]at v p;simp only at v p;cases w:beq r.w Y with
   |false=>exact y.mono B
   |true=>
    rw[w]at v p;simp only[auQ]at v p⊢;have w:=auu w;subst w;have p:=auw p;cases y with
    | @sw e0 k0 l0 n0 a2 b f N h V O Q=>
     obtain⟨G,H,R⟩:=v k d5 t r g wr L b h;have C:∀q∈List.map (bJ r) g,q.length=r.w:=by
      intro q u;obtain⟨z,_,rfl⟩:=auD.1 u;exact eW r z
     have M:((List.map (bJ r) g).drop l.toNat|>.take n.toNat).length=n.toNat:=by
      rw[au8,awb,auz];omega
     have W:∀q∈((List.map (bJ r) g).drop l.toNat|>.take n.toNat),q.length=r.w:=λq u=>C q (axb (awG u));have I:((List.map (bJ r) g).drop l.toNat|>.take n.toNat).flatten=((List.map (bJ r) g).flatten.drop (l.toNat*r.w)).take (n.toNat*r.w):=by
      rw[lI _ _ (λq u=>C q (axb u)),lJ _ _ C]
     have a1:(G.drop (l.toNat*r.w)).take (n.toNat*r.w)=(G.drop (l.toNat*r.w)).take (n.toNat*r.w):=rfl;have:=VR.sl (Rd:=R2) (E:=some e) (tight:=false) (sz:=r.w) (rows:=((List.map (bJ r) g).drop l.toNat|>.take n.toNat)) (a:=some ⟨b,f,none⟩) (cap:=N)
      ((G.drop (l.toNat*r.w)).take (n.toNat*r.w)) W (eO r _|> λA=>by
       intro c i;obtain⟨q,u,S⟩:=awn.1 i;exact A c (awn.2 ⟨q,axb (awG u),S⟩))
      (by rw[I,au8,au8,awb,awb,H.1])
      (λj c o i F=>by
       rw[I]at i;rw[au3]at i F;split at i
       ·rename_i s
        rw[auo s,avK]at F;rw[avK]at i;exact H.2 _ c o i F
       ·cases i) (by rw[M];exact O) Q (λA=>by cases A)
      (λZ=>⟨b,f,rfl,λj o s=>by
       rw[au3]at s;split at s
       ·rename_i J
        rw[avK]at s;have U:0<n.toNat:=by
         cases X:n.toNat with
         |zero=>rw[X]at J;simp at J
         |succ m=>omega
        rw[V U];exact R _ o s
       ·cases s⟩)
     rw[M,<-awZ,<-awJ]at this;exact this
  ·rename_i a0
   exact y.mono B
 ·exact y.mono B
def Uw{hg:Nat->At dO}{R1 R2:bF}{e:Env}(l:∀b o u,R1 b o u->R2 b o u):∀(cs:Do EV) {f:bC}
 (i:∀k,(AK hg cs).2.1.contains k=true->∀t r m wr,hg k=some (.arr t r m wr)->ab3 e R2 k r m) (g:(AK hg cs).2.2=true) (a:LR (VR R1 (some e)) (bS cs) f),LR (VR R2 (some e)) (bS (AK hg cs).1) f
 |[],f,i,g,a=>by
  have:f=[]:=avq (by simpa[bS]using a.1);subst this;exact LR.nil
 |c::cs,f,i,g,a=>by
  simp only[AK,aup]at g;cases f with
  |nil=>have:=a.1;simp[bS]at this
  |cons u f=>
   simp only[AK,bS];exact LR.cons (alB l c (λk h=>i k (by simp only[AK];simp at h⊢;exact .inl h)) g.1 (a.2 0 _ u rfl rfl))
    (Uw l cs (λk h=>i k (by simp only[AK];simp at h⊢;exact .inr h)) g.2 ⟨by simpa[bS]using a.1,λj c v p q=>a.2 (j+1) c v (by simpa[bS]using p) (by simpa using q)⟩)
def ab4(hg:Nat->At dO)(d:Nat)(c:iS)(aS:Do EV)(D:bI)(k:EV->eS->a_->Fr->At b):At (At b):=
 match cond c.pu (AK hg aS) (aS,[],true)with
 |(f,a,g)=>match lT hg c.pu (nF (ff D (1000*(d+1))) c.ps) f with
 |some (vs,gs)=>match EJ hg D (1000*(d+1)) c.hs with
  |some ws=>match vd c.cs (vs++ws)with
   |some x=>cond (Hi (1000*(d+1)) D && (a++gs).all (λk=>(Rl D k).isNone) && D.all (λq=>c.hs.any λr=>beq r.1 q.1) && (c.pu||(a++gs).all (M6 hg)))
    (some (cond g (aW (c.M x) λy=>c.el y b λe H=>cond c.own
     (cond (mw D (bs H) && (enc e).f_ (λk=> !Hl D k))
      (k (uX (ff D (1000*(d+1))) e) (BL (ff D (1000*(d+1))) H++(R8 D++cond c.pu [] (fm hg (a++gs)))) ((a++gs)++D.map (·.2)) (.bW (1000*(d+1)))) none)
     (cond ((enc e).f_ (λ_=>true) && D.isEmpty) (k e (cond c.pu [] (fm hg (a++gs))) (a++gs) .no) none)) none))
    none
   |none=>none
  |none=>none
 |none=>none
def ab5:EV->In
 |.un=>false
 |_=>true
def ab6(hg:Nat->At dO)(d:Nat)(c:iS)(aS:Do EV)(k:EV->eS->a_->Fr->At b):At (At b):=
 cond (aS.all ab5) (ab4 hg d c aS (M1 hg c.hs (qb c.ps aS [])) k) none
def EK(hg:Nat->At dO)(d:Nat)(f:FuncId)(aS:Do EV){R:Type}(k:EV->eS->a_->Fr->At R):Do iS->At R
 |[]=>none
 |c::cs=>cond (beq c.f f) (match ab6 hg d c aS k with
  |some r=>r
  |none=>EK hg d f aS k cs) (EK hg d f aS k cs)
def fnE(ev:Nat->EV):If->At (FuncId×Do EV×Do EV)
 |.func f=>some (f,[],[])
 |.tmp i=>match ev i with
  |.v (.func (.func g) ⟨[]⟩ ⟨[]⟩)=>some (g,[],[])
  |.cl (.func g) a cs=>some (g,a,cs)
  |_=>none
 |_=>none
def ah5:bI->Nat->Nat->In
 |[],_,_=>false
 |(m,e)::l,n,d=>cond (beq m n && beq e d) true (ah5 l n d)
def EL(T:EQ->bu)(ev:Nat->EV)(hg:Nat->At dO)(d:Nat)(t:EQ)(x:If)(g f i:iB)(k:EV->eS->a_->Fr->At b):At b:=
 match g,f,i with
 |none,some y,none=>match(T t).el with
  |some (e,l,_,_)=>match eE ev x with
   |.ow j=>match hg j with
    |some (.arr a r o wr)=>match rJ ev y with
     |some h=>cond (beq e a && beq l r.w && wr && !(beq d j)) (aW (iR o 0 h) λp=>k (.ow d) [(d,some (.arr e r p true)),(j,none)] [j] (.one d)) none
     |none=>none
    |_=>none
   |_=>none
  |none=>none
 |some y,none,none=>R5 T ev hg t x y λc m=>k c [] m .no
 |_,_,_=>none
def exO(T:EQ->bu)(s:Do iS)(n:Nat)(ev:Nat->EV)(hg:Nat->At dO)(o:Oper)(k:EV->eS->a_->Fr->At b):At b:=
 match o.dst with
 |some d=>cond (blt d n) (match o.op with
  |.call ⟨.value f,h,_⟩=>match fnE ev f with
   |some (f,u,cs)=>EK hg d f (u++(h.toList.map (eE ev)++cs)) k s
   |none=>none
  |.box t x=>exM T ev hg d (.box t x) k
  |.alloc t=>exM T ev hg d (.alloc t) k
  |.makeSlice t x y=>cond (ah5 gNr n d) (EF T ev d t x y k) (exM T ev hg d (.makeSlice t x y) k)
  |.makeMap t x=>exM T ev hg d (.makeMap t x) k
  |.slice t x m l q=>cond (ah5 gNr n d) (EL T ev hg d t x m l q k) (exM T ev hg d (.slice t x m l q) k)
  |.buildSlice t i j=>match abV ev i j.toList with
   |some p=>R3 T d t p k
   |none=>cond (ah5 gNr n d) (RU T ev hg d t i j.toList k) (exM T ev hg d (.buildSlice t i j) k)
  |.call ⟨.builtin .append,h,r⟩=>match abW ev hg h,h.toList.head?,r with
   |some p,some x,⟨[t,w]⟩=>R4 T ev hg d t w x p k
   |_,_,_=>exM T ev hg d (.call ⟨.builtin .append,h,r⟩) k
  |.mapEntry t x y=>Dc T ev hg t x y λc g a=>k c g a .no
  |op=>exR T ev hg op λc a=>k c [] a .no) none
 |none=>match o.op with
  |.store t x y=>Kd T ev hg t x y λg a=>k .un g a .no
  |.mapUpdate t x y v=>xE T ev hg t x y v λg a=>k .un g a .no
  |.insert t x y v=>xE T ev hg t x y v λg a=>k .un g a .no
  |.entryStore t x y v=>AJ T ev hg t x y v λg a=>k .un g a .no
  |.call ⟨.builtin .clear,⟨[x]⟩,⟨[t]⟩⟩=>Ke T ev hg t x λg a=>k .un g a .no
  |_=>none
section
variable{P:Fd}{T:EQ->bu}{ev:Nat->EV}{hg:Nat->At dO}{n d:Nat}{ty:EQ}{pos:String}{af:dm}{gd:fH}
variable{st:St}{K:St->Prop}
def alC{args:gp}(b:Sk ev st)(a:∀c∈args.toList.map (eE ev),c≠.un):args.toList.map st.ev=bS (args.toList.map (eE ev)):=by
 rw[dV,avE];refine avi λx f=>?_;exact b.is rfl (a _ (auD.2 ⟨x,f,rfl⟩))
def EM{p:Nat->In}:∀{os:eS} {h:Hp},CS hg os->(∀k o,(k,o)∈os->p k=false)->gv p (bs os++h)=bs os++gv p h
 |[],h,_,_=>rfl
 |(k,o)::os,h,b,f=>by
  obtain⟨t,r,g,wr,j,rfl⟩:=b k o d5;have i:=EM (os:=os) (h:=h) (λk o a=>b k o (by simp[a])) (λk o a=>f k o (by simp[a]));simp only[bs,avH,gv,i,f k _ (by simp:(k,some (dO.arr t r g false))∈(k,some (dO.arr t r g false))::os)];rfl
def Zd(π:Nat->Nat)(f:PO){cs:Do EV}(h:jC cs):(iF (r7 π f) cs).1=(iF f cs).1.map (Kj π)/\(iF (r7 π f) cs).2=(iF f cs).2/\jC (iF f cs).2:=by
 cases f with
 |box t l=>
  obtain⟨a,b,c⟩:=gM π l h;exact⟨by simp only[r7,iF,a,Option.map,Kj],by simp only[r7,iF,b],c⟩
 |arr t r wr=>
  refine⟨?_,rfl,h.tail⟩;simp only[r7,iF];rcases jl h with e|⟨s,x,e⟩
  ·rw[e];rfl
  ·rw[e]
   simp only[ah0];cases eD s (.sl r) x<;>rfl
 |mp d j o=>
  refine⟨?_,rfl,h.tail⟩;simp only[r7,iF];rcases jl h with e|⟨s,x,e⟩
  ·rw[e];rfl
  ·rw[e]
   simp only[mpE];cases eD s (.sl (.pr j o)) x<;>rfl
 |nr t r i=>
  cases i with
  |none=>
   refine⟨?_,rfl,h.tail⟩;simp only[r7,iF];rcases jl h with e|⟨s,x,e⟩
   ·rw[e];rfl
   ·rw[e]
    simp only[nrE];cases eD s (.sl (.sl r)) x<;>rfl
  |some q=>
   obtain⟨v,p⟩:=q;refine⟨?_,rfl,h.tail.tail⟩;simp only[r7,iF];rcases jl h with e|⟨s,x,e⟩
   ·rw[e];rfl
   ·rw[e]
    rcases jl h.tail with g|⟨m,u,g⟩
    ·rw[g];rfl
    ·rw[g]
     simp only[aly];cases eD s (.sl (.sl r)) x with
     |none=>rfl
     |some y=>cases eD m (.i .i64) u<;>rfl
 |qr t k w=>
  refine⟨?_,rfl,h.tail⟩;simp only[r7,iF];rcases jl h with e|⟨s,x,e⟩
  ·rw[e];rfl
  ·rw[e]
   simp only[qrE];cases eD s (.sl (.i .i64)) x<;>rfl
def EN{D:bI}{B:Nat}:∀(i:Do (Nat×PO)) {ws:Do EV} (rest:Do EV),EJ hg D B i=some ws->jC (ws++rest)->
 (∀p j,bx (r4 i (ws++rest)) p=some j->∃k o,pQ D p=some k/\hg k=some o/\M5 o=true/\∀Rd e w,OR Rd e w k (bU o)->OR Rd e w k (bU (Kj (ff D B) j)))/\
 (∀p,i.any (λr=>beq r.1 p)=true->∃k o,pQ D p=some k/\hg k=some o/\M5 o=true)
 |[],ws,rest,h,u=>⟨λp j l=>(by cases l),λp F=>(by cases F)⟩
 |(p,y)::i,ws,rest,h,u=>by
  simp only[EJ]at h;split at h
  ·rename_i k t
   split at h
   ·rename_i o l
    obtain⟨s,g⟩:=aY h;split at g
    ·rename_i a A
     split at g
     ·rename_i b C
      cases g;have v:jC (a++(b++rest)):=by rw[<-auV];exact u
      obtain⟨z,N,m,M⟩:=Uv (r7 (ff D B) y) (b++rest) A;obtain⟨J,L,O⟩:=Zd (ff D B) y v;have G:jC (b++rest):=λc E=>v c (auC.2 (.inr E));obtain⟨H,I⟩:=EN i rest C G;refine⟨λq j f=>?_,λq f=>?_⟩
      ·simp only[r4,auV,bx]at f
       rw[L]at z;rw[z]at f;by_cases e:q=p
       ·subst e
        rw[auX]at f;simp only[auQ]at f;rw[J,f]at m;simp only[Option.map,aur]at m;subst m;exact⟨k,o,t,l,s,λRd e w=>M Rd e w k⟩
       ·rw[iQ e]at f
        exact H q j f
      ·simp only[awd,avm]at f
       rcases f with f|f
       ·have:=auu f
        subst this;exact⟨k,o,t,l,s⟩
       ·exact I q f
     ·cases g
    ·cases g
   ·cases h
  ·cases h
def pa(hg:Nat->At dO):∀gs:a_,CS hg (fm hg gs)/\∀p∈fm hg gs,gs.contains p.1=true
 |[]=>⟨λk o h=>(by cases h),λp h=>(by cases h)⟩
 |k::gs=>by
  obtain⟨a,b⟩:=pa hg gs;simp only[fm];split
  ·rename_i t r g wr f
   refine⟨λj o h=>?_,λp h=>?_⟩
   ·rcases auT.1 h with h|h
    ·cases h;exact⟨t,r,g,wr,f,rfl⟩
    ·exact a j o h
   ·rcases auT.1 h with rfl|h
    ·simp
    ·have:=b p h;simp at this⊢;exact .inr this
  ·exact⟨a,λp h=>by have:=b p h;simp at this⊢;exact .inr this⟩
def ab7{q:Bs}{l:bF}{e:Env}{h:Hp}{w:GE}{p:a_}(z:SR q l e h w)(y:HC hg p h):∀gs:a_,(∀k,gs.contains k=true->p.contains k=true)->
 ∃e1,od q l e h w e1 (bs (fm hg gs)++h)/\∀k,gs.contains k=true->∀t r i wr,hg k=some (.arr t r i wr)->VR (bN q l e1 (bs (fm hg gs)++h) w) none (.sl false r.w (List.map (bJ r) i)) (e.sv k)
 |[],_=>⟨e,od.refl z,λk f=>by simp at f⟩
 |k::gs,A=>by
  obtain⟨e1,g,B⟩:=ab7 z y gs (λj a=>A j (by simp at a⊢;exact .inr a));simp only[fm];split
  ·rename_i t r i wr f
   have I:HC hg p (bs (fm hg gs)++h):=y.put (pa hg gs).1 λ_ h=>h;obtain⟨M,L⟩:=I k (A k d5) t r i wr f;obtain⟨C,E,v,F,G,H⟩:=g.sr.Rp L;refine⟨C,g.trans ⟨E,v,F,G⟩,λj a o m u s b=>?_⟩;by_cases e:j=k
   ·subst e
    rw[f]at b;cases b;rw[<-g.sv j];exact H
   ·have a:gs.contains j=true:=by simp at a⊢;exact a.resolve_left e
    exact(B j a o m u s b).mono v
  ·rename_i J
   refine⟨e1,g,λj a o m u s b=>?_⟩;by_cases e:j=k
   ·subst e
    exact absurd b (J _ _ _ _)
   ·exact B j (by simp at a⊢;exact a.resolve_left e) o m u s b
def R9{e:Env}{h:Hp}(g:SR H j e h m)(f:aZ h C=some (bU R))(a:M5 R=true):e.cP C=0:=by
 have:=g.ob C _ f;cases R with
 |box t cs=>exact this.1
 |arr t r b wr=>exact this.2.2.1 a
 |_=>exact this.1
def ah6{h:Hp}(a:∀p∈S,p.1≠C):aZ (bs S++h) C=aZ h C:=by
 rw[db,Da];rw[aun];simp only[av6,aw9,not_exists,not_and];exactλp b=>a p b
def M7{D:bI}{cs:Do EV}:bS (r5 (ff D C) cs)=(bS cs).map (AV.hV (ff D C)):=by rw[mE,k6]
section
variable{c:iS}{aS:Do EV}{D:bI}{vs ws:Do EV}{gs:a_}{x:kf c.cs}
def H9{e:Env}{h:Hp}(u:SR H j e h m)(l:∀p,c.hs.any (λr=>beq r.1 p)=true->∃k o,pQ D p=some k/\hg k=some o/\M5 o=true)(s:D.all (λq=>c.hs.any λr=>beq r.1 q.1)=true)
 (t:∀k o,(∃p,pQ D p=some k)->hg k=some o->aZ h k=some (bU o)):Handed D e h:=by
 intro p k f;have i:=auO.1 s _ (fx f);obtain⟨v,o,a,b,g⟩:=l p i;rw[f]at a;cases a;have:=t k o ⟨p,f⟩ b;exact⟨⟨_,this⟩,R9 u this g⟩
def r9(M:lT hg c.pu (nF (ff D (1000*(d+1))) c.ps) aS=some (vs,gs))(Z:EJ hg D (1000*(d+1)) c.hs=some ws)(A:vs++ws=h_ c.cs x)
 (H:gs.all (λk=>(Rl D k).isNone)=true) (I:D.all (λq=>c.hs.any λr=>beq r.1 q.1)=true) (m:(c.pu||gs.all (M6 hg))=true) (U:c.pu=false) (Q:CP (D.map (·.2))=true) {st:St} (s:Hk hg (gs++D.map (·.2)) st):
 T8 st D (1000*(d+1)) (bs (fm hg gs)++st.h) (bs (c.H0 x)) (bS (c.as x)) (bS aS):=by
 intro E i e w us Y R;have y:jC (vs++ws):=by rw[A];exact r8 _ _
 have z:jC ws:=λc O=>y c (auC.2 (.inr O));obtain⟨e1,b,v1⟩:=ab7 Y s.hc gs (λk a=>by simp at a⊢;exact .inl a);have X:∀k,gs.contains k=true->M6 hg k=true:=λk a=>by
  rw[U]at m;exact auO.1 (by simpa using m) k (by simpa using a)
 have g:GF hg (bN E i e st.h w) (bN E i e1 (bs (fm hg gs)++st.h) w) e e1 gs:=
  ⟨b.rd,b.bW,b.sv,v1,λk a t cs _ N=>by have:=X k a;unfold M6 at this;rw[N]at this;cases this⟩
 obtain⟨j,l⟩:=k9 g _ ws z M (λk h=>h);obtain⟨B,C,r3⟩:=gM (ff D (1000*(d+1))) c.ps y;rw[A]at B C j l;have L:c.H0 x=r4 c.hs ws:=by unfold iS.H0;rw[<-C,j]
 obtain⟨F,x2⟩:=EN c.hs [] Z (by simpa using z);rw[au_]at F;have u:∀k o,(∃p,pQ D p=some k)->hg k=some o->aZ (bs (fm hg gs)++st.h) k=some (bU o):=by
  rintro k o ⟨p,a⟩ f;have W:Rl D k=some p:=mz Q (fx a);rw[ah6 λq V=>?_]
  ·exact s.at (by simp only[axQ,auC,avn];exact .inr (auD.2 ⟨_,fx a,rfl⟩)) f
  ·rintro rfl
   have J:=(pa hg gs).2 q V;have:=auO.1 H q.1 (by simpa using J);rw[W]at this;cases this
 refine⟨e1,b,H9 b.sr x2 I u,λp ob v=>?_,?_⟩
 ·rw[L,cz]at v
  obtain⟨o',S,rfl⟩:=auY.1 v;obtain⟨k,o,G,y2,y3,y4⟩:=F p o' S;refine⟨k,_,G,u k o ⟨p,G⟩ y2,λRd f=>?_⟩;rw[<-EH];exact y4 Rd e1 w f
 ·have:=l us R
  rw[B,M7]at this;exact this
def xI{a0:Do EV}{B:a_}(S:AK hg aS=(a0,B,true))(ha:lT hg c.pu (nF (ff D (1000*(d+1))) c.ps) a0=some (vs,gs))(hw:EJ hg D (1000*(d+1)) c.hs=some ws)(hx:vs++ws=h_ c.cs x)
 (h2:(B++gs).all (λk=>(Rl D k).isNone)=true) (h3:D.all (λq=>c.hs.any λr=>beq r.1 q.1)=true) (ah:CP (D.map (·.2))=true) {st:St} (hH:Hk hg ((B++gs)++D.map (·.2)) st):
 Ru st D (1000*(d+1)) (bs (c.H0 x)) (bS (c.as x)) (bS aS):=by
 intro w0 ad e w us C I;have aa:jC (vs++ws):=by rw[hx];exact r8 _ _
 have ab:jC ws:=λc l=>aa c (auC.2 (.inr l));obtain⟨x1,x2⟩:=EN c.hs [] hw (by simpa using ab);rw[au_]at x1;have H:∀k o,(B++gs).contains k=true->hg k=some o->aZ st.h k=some (bU o):=λk o f i=>hH.at (by simp at f⊢;rcases f with f|f<;>simp[f]) i;have X:∀k o,(∃p,pQ D p=some k)->hg k=some o->aZ st.h k=some (bU o):=by
  rintro k o ⟨p,f⟩ i;exact hH.at (by simp only[axQ,auC,avn];exact .inr (auD.2 ⟨_,fx f,rfl⟩)) i
 have Y:Handed D e st.h:=H9 C x2 h3 X;have W:∀k o b,(B++gs).contains k=true->hg k=some o->e.bW k=some b->¬(cB D (1000*(d+1)) e w).hY b:=by
  rintro k o b f i hb (V|⟨p,N,l,R⟩)
  ·have:=(C.base k _ b (H k o f i) hb).2
   simp only[cB]at V;omega
  ·obtain⟨⟨ob,aj⟩,_⟩:=Y p N l
   have:=C.inj _ _ _ _ _ (H k o f i) aj hb R;subst this;have h5:=auO.1 h2 k (by simpa using f);rw[mz ah (fx l)]at h5;cases h5
 have J:∀b o u,bN w0 ad e st.h w b o u->RB D (1000*(d+1)) e w b o u:=by
  rintro b o u ⟨y,M,E⟩;refine⟨y,?_⟩;rintro(V|⟨p,N,l,R⟩)
  ·have:=awo w _ y
   simp only[cB]at V;simp only at this;omega
  ·obtain⟨⟨ob,i⟩,I⟩:=Y p N l
   have:=E N ob i R;omega
 have al:∀k,(B++gs).contains k=true->∀t r z wr,hg k=some (.arr t r z wr)->ab3 e (RB D (1000*(d+1)) e w) k r z:=λk f t r z wr i b' O=>by
  obtain⟨y,M,E,Z⟩:=C.ob k _ (H k _ f i);rcases Z with⟨m,v,a,F⟩|⟨b,ae,G,m,v,F,a4,Q,a6,A,a8⟩
  ·rw[v]at O;cases O
  ·rw[m]at O
   cases O;refine⟨G.toList.take (List.map (bJ r) z).flatten.length,⟨A.1,λj c u l L=>(A.2 j c u l L).mono J⟩,λj u s=>?_⟩;have U:j<(List.map (bJ r) z).flatten.length:=by
    have:=(aus.1 s).1;rw[A.1]at this;exact this
   rw[au3,auo U]at s;exact⟨by rw[avu w b' j G t (0,0) Q];simpa using s,W k _ b' f i m⟩
 have g:GF hg (RB D (1000*(d+1)) e w) (RB D (1000*(d+1)) e w) e e (B++gs):=by
  refine⟨λ_ _ _ h=>h,λ_=>rfl,λ_=>rfl,λk f t r z wr i=>?_,λk f t cs ak i=>?_⟩
  ·obtain⟨y,M,E,Z⟩:=C.ob k _ (H k _ f i)
   rcases Z with⟨m,v,a,F⟩|⟨b,ae,G,m,v,F,a4,Q,a6,A,a8⟩
   ·rw[m,F]
    exact VR.sl (rows:=[]) [] d5 d5 rfl d5 (auq _) (auS _) d5 d5
   ·rw[v]
    refine VR.sl (G.toList.take (List.map (bJ r) z).flatten.length) y M A.1 (λj c u l L=>(A.2 j c u l L).mono J) F a4 d5 (λ_=>⟨b,0,rfl,λj u s=>?_⟩);have U:j<(List.map (bJ r) z).flatten.length:=by
     have:=(aus.1 s).1;rw[A.1]at this;exact this
    rw[au3,auo U]at s;exact⟨by rw[auZ,avu w b j G t (0,0) Q];simpa using s,W k _ b f i m⟩
  ·obtain⟨q0,b,ac,y,M,E⟩:=C.ob k _ (H k _ f i)
   refine⟨b,ac,y,⟨E.1,λj c u l L=>(E.2 j c u l L).mono J⟩,λj u s=>⟨?_,W k _ b f i y⟩⟩;rw[avu w b j ac.toArray t (0,0) (M.cells ak)];simpa using s
 have I:=Uw (hg:=hg) J aS (by rw[S];exactλk f=>al k (by simp at f⊢;exact .inl f)) (by rw[S]) I;rw[S]at I;obtain⟨m,v⟩:=k9 g _ ws ab ha (λk h=>by simp at h⊢;exact .inr h);obtain⟨r1,r2,r3⟩:=gM (ff D (1000*(d+1))) c.ps aa;rw[hx]at r1 r2 m v;have ag:c.H0 x=r4 c.hs ws:=by unfold iS.H0;rw[<-r2,m]
 refine⟨Y,λp ob a9=>?_,?_⟩
 ·rw[ag,cz]at a9
  obtain⟨o',ai,rfl⟩:=auY.1 a9;obtain⟨k,o,y1,y2,y3,y4⟩:=x1 p o' ai;refine⟨k,_,y1,X k o ⟨p,y1⟩ y2,?_⟩;rw[<-EH];exact y4 _ e w ((C.ob k _ (X k o ⟨p,y1⟩ y2)).mono J)
 ·have:=v us I
  rw[r1,M7]at this;exact this
end
def EO(D:bI):bs (R8 D)=my D:=by
 induction D with
 |nil=>rfl
 |cons q D a=>simp only[R8,auL,bs,my,Option.map]at a⊢;rw[a]
mutual
def R_:∀c:EV,c.pu=true->(enc c).pu=true
 |.un,_=>rfl
 |.sc s x,h=>by cases s<;>first|rfl|(simp[EV.pu]at h)
 |.nil,_=>rfl
 |.ts r g,h=>by simp[EV.pu]at h
 |.v x,_=>rfl
 |.ow k,_=>rfl
 |.pt k o,_=>rfl
 |.pe k i b o,_=>rfl
 |.sw k l n b,_=>rfl
 |.mp k,_=>rfl
 |.fp cs,h=>by simp[EV.pu]at h
 |.ag cs,h=>by simp only[EV.pu]at h;simp only[enc,AV.pu];exact uq cs h
 |.tu cs,h=>by simp only[EV.pu]at h;simp only[enc,AV.pu];exact uq cs h
 |.cl f a cs,h=>by simp only[EV.pu,aup]at h;simp only[enc,AV.pu,uq a h.1,uq cs h.2];rfl
def uq:∀cs:Do EV,EV.Hm cs=true->AV.Hm (bS cs)=true
 |[],_=>rfl
 |c::cs,h=>by simp only[EV.Hm,aup]at h;simp only[bS,AV.Hm,R_ c h.1,uq cs h.2];rfl
end
def Dg:∀(s:Sc) (x:s.c9),s.ns=true->∀c∈bJ s x,c.pu=true
 |.i _,_,_,c,h=>by simp only[bJ,auN]at h;subst h;rfl
 |.b,_,_,c,h=>by simp only[bJ,auN]at h;subst h;rfl
 |.sl _,_,b,c,h=>by simp[Sc.ns]at b
 |.pr a f,x,b,c,h=>by
  simp only[Sc.ns,aup]at b;simp only[bJ,auC]at h;exact h.elim (Dg a x.1 b.1 c) (Dg f x.2 b.2 c)
 |.u,_,_,c,h=>by simp[bJ]at h
def Ux:∀{cs:Do AV},(∀c∈cs,c.pu=true)->AV.Hm cs=true
 |[],_=>rfl
 |x::cs,a=>by simp[AV.Hm,a x d5,Ux (cs:=cs) λc b=>a c (by simp[b])]
def ah7(s:Sc)(x:s.c9)(f:s.ns=true):(enc (jd s x)).pu=true:=by
 cases s with
 |i k=>rfl
 |b=>rfl
 |sl r=>simp[Sc.ns]at f
 |pr a g=>simp only[jd,enc,gL,AV.pu];exact Ux (Dg _ _ f)
 |u=>rfl
def alD(b:puH S=true):ali (bs S):=by
 intro k ob f;rw[cz]at f;obtain⟨o,a,rfl⟩:=auY.1 f;clear f;have:o.pu=true:=by
  induction S with
  |nil=>cases a
  |cons p S m=>
   obtain⟨j,w⟩:=p;simp only[puH,avx,aup]at b;simp only[bx]at a;by_cases e:k=j
   ·subst e
    rw[auX]at a;simp only[auQ]at a;subst a;exact b.1
   ·rw[iQ e]at a
    exact m (by simpa[puH]using b.2) a
 cases o with
 |box t cs=>exact uq cs this
 |arr t r g wr=>
  intro c h;obtain⟨q,l,i⟩:=awn.1 h;obtain⟨z,_,rfl⟩:=auD.1 l;exact Dg r z this c i
 |mp d v s u=>
  intro p b;obtain⟨q,_,rfl⟩:=auD.1 b;exact ah7 s q.2 this
 |_=>cases this
def ENE(P:Fd)(a:Op)(ev:Nat->EV)(f:FuncId)(aS:Do EV):Prop:=
 ∀(st:St) (d:Nat) (ty:EQ) (pos:String) (af:dm) (gd:fH),Sk ev st->JV P ⟨some d,a,ty,pos,af,gd⟩ st f (bS aS)
def ab8{c:iS}(A:c.ok P){L:Op}{aS:Do EV}(m:(∀c∈aS,c≠.un)->ENE P L ev c.f aS){k:EV->eS->a_->Fr->At b}{r:b}(hd:d<n)(h:ab6 hg d c aS k=some (some r)):
 ∃e os us U,FS P ⟨some d,L,ty,pos,af,gd⟩ n ev hg e os us U/\k e os us U=some r:=by
 unfold ab6 at h;obtain⟨a4,h⟩:=aY h;have a3:∀c∈aS,c≠.un:=λc A e=>by
  have:=auO.1 a4 c A;rw[e]at this;cases this
 have m:=m a3;generalize M1 hg c.hs (qb c.ps aS [])=D at h;unfold ab4 at h;generalize a:cond c.pu (AK hg aS) (aS,[],true)=aw at h;obtain⟨a5,M,ck⟩:=aw;simp only at h;split at h
 ·rename_i vs gs z
  split at h
  ·rename_i ws F
   split at h
   ·rename_i x q
    have q:=xH q;obtain⟨l,h⟩:=aY h;simp only[aup]at l;obtain⟨⟨⟨G,I⟩,J⟩,Z⟩:=l;have B:CP (D.map (·.2))=true:=by simp only[Hi,aup]at G;exact G.1.2
    have h:=aut h;obtain⟨rfl,h⟩:=aY h;obtain⟨y,hy,l⟩:=bq h;obtain⟨e,H,a0,Q,Y,v⟩:=A.2 x y hy;rw[a0]at l;have C:=pa hg (M++gs);rcases bA l with⟨R,l⟩|⟨R,a2⟩
    ·obtain⟨g,N⟩:=aY l
     simp only[aup]at g;refine⟨_,_,_,_,λst hn w u j=>?_,N⟩;have X:∀k o,(k,o)∈fm hg (M++gs)->(Fr.bW (1000*(d+1))).p k=false:=λk o W=>by
      cases hp:(Fr.bW (1000*(d+1))).p k with
      |false=>rfl
      |true=>
       obtain⟨t,r',xs,wr,e1,_⟩:=C.1 k o W;have S:=u.at (by have:=C.2 (k,o) W;simp at this⊢;rcases this with this|this<;>simp[this]) e1;rw[j.k k hp]at S;cases S
     cases i:c.pu with
     |false=>
      rw[i]at a;simp only[auv,auK]at a;obtain⟨rfl,rfl,_⟩:=a;simp only[avd]at C X;have f:=r9 z F q I J Z i B u;have:=SS.aod (P:=P) (op:=L) (ty:=ty) (pos:=pos) (af:=af) (gd:=gd) (d:=d)
       (K:=λs=>s=⟨st.n,jM (some d) (enc (uX (ff D (1000*(d+1))) e)) (nB (mg (1000*(d+1))) st.t),bs (BL (ff D (1000*(d+1))) H++(R8 D++fm hg gs))++gv (mg (1000*(d+1))) st.h⟩) v (m st d ty pos af gd w) f G g.1 g.2 bv (by
       rw[EM (p:=mg (1000*(d+1))) (h:=st.h) C.1 X,fa,fa,r6,De,EO,auV,auV];rfl)
      exact SS.abu j.t j.h j.k this
     |true=>
      rw[i]at a;simp only[auQ]at a;have f:=xI a z F q I J B u;have E:=Y i;have:=SS.T9 (P:=P) (op:=L) (ty:=ty) (pos:=pos) (af:=af) (gd:=gd) (d:=d)
       (K:=λs=>s=⟨st.n,jM (some d) (enc (uX (ff D (1000*(d+1))) e)) (nB (mg (1000*(d+1))) st.t),bs (BL (ff D (1000*(d+1))) H++(R8 D++[]))++gv (mg (1000*(d+1))) st.h⟩) v (R_ _ E.1) (alD E.2) (m st d ty pos af gd w) f G g.1 g.2 bv (by
       rw[fa,fa,r6,De,EO,auV,auV];rfl)
      exact SS.abu j.t j.h j.k this
    ·have a1:=A.1 R
     have Q:=Q R;subst Q;obtain⟨g,N⟩:=aY a2;simp only[aup]at g;have hD:D=[]:=by simpa using g.2
     subst hD;have O:c.H0 x=[]:=by unfold iS.H0;rw[a1];rfl
     rw[O]at v;refine⟨_,_,_,_,λst hn w u j=>?_,N⟩;have V:Hk hg ((M++gs)++([]:bI).map (·.2)) st:=by simpa using u
     cases i:c.pu with
     |false=>
      rw[i]at a;simp only[auv,auK]at a;obtain⟨rfl,rfl,_⟩:=a;have f:=r9 z F q I J Z i B V;rw[O]at f;exact SS.aog v (m st d ty pos af gd w) f g.1 bv rfl
     |true=>
      rw[i]at a;simp only[auQ]at a;have f:=xI a z F q I J B V;rw[O]at f;have E:=Y i;exact SS.alk v (R_ _ E.1) (m st d ty pos af gd w) f g.1 bv rfl
   ·cases h
  ·cases h
 ·cases h
def Ze{f:Do iS}(i:∀c∈f,c.ok P){o:Op}{aS:Do EV}(t:(∀c∈aS,c≠.un)->ENE P o ev y aS){k:EV->eS->a_->Fr->At b}{r:b}(s:d<n)(h:EK hg d y aS k f=some r):
 ∃e p q l,FS P ⟨some d,o,ty,pos,af,gd⟩ n ev hg e p q l/\k e p q l=some r:=by
 induction f with
 |nil=>cases h
 |cons c cs m=>
  simp only[EK]at h;rcases bA h with⟨g,a⟩|⟨_,a⟩
  ·have g:=auu g
   split at a
   ·rename_i v u
    subst g;subst a;exact ab8 (i c d5) t s u
   ·exact m (λc j=>i c (by simp[j])) a
  ·exact m (λc j=>i c (by simp[j])) a
def Sa{x:If}{f cs:Do EV}{b:gp}{ts:hX}(a:fnE ev x=some (y,f,cs))(m:∀c∈f++(b.toList.map (eE ev)++cs),c≠.un):ENE P (.call ⟨.value x,b,ts⟩) ev y (f++(b.toList.map (eE ev)++cs)):=by
 intro st d ty pos af gd j;have l:=alC (args:=b) j λc k=>m c (by simp only[auC];exact .inr (.inl k));rw[k7,k7,<-l];unfold fnE at a;split at a
 ·cases a
  have:=JV.func (P:=P) (d:=d) (ty:=ty) (pos:=pos) (af:=af) (gd:=gd) (st:=st) (f:=y) (args:=b) (ts:=ts);simpa only[bS,avd,au_]using this
 ·rename_i i
  split at a
  ·rename_i g h
   cases a;have:=JV.val (P:=P) (d:=d) (ty:=ty) (pos:=pos) (af:=af) (gd:=gd) (st:=st) (f:=y) (args:=b) (ts:=ts) (j.is (x:=.tmp i) h d8);simpa only[bS,avd,au_]using this
  ·rename_i g p o h
   cases a;have:=JV.cl (P:=P) (d:=d) (ty:=ty) (pos:=pos) (af:=af) (gd:=gd) (st:=st) (f:=y) (args:=b) (ts:=ts) (j.is (x:=.tmp i) h d8);rw[<-auV];exact this
  ·cases a
 ·cases a
def M8(A:gG P T){x:If}{F i G:iB}{k:EV->eS->a_->Fr->At b}{r:b}(M:d<n)(h:EL T ev hg d a x F i G k=some r):
 ∃c H p v,FS P ⟨some d,.slice a x F i G,ty,pos,af,gd⟩ n ev hg c H p v/\k c H p v=some r:=by
 unfold EL at h;split at h
 ·rename_i y
  split at h
  ·rename_i e sz f z N
   split at h
   ·rename_i j R
    split at h
    ·rename_i W u I wr O
     split at h
     ·rename_i C i
      obtain⟨q,J⟩:=aY h;simp only[aup,avC]at q;obtain⟨⟨⟨s,t⟩,U⟩,o⟩:=q;have s:=auu s;subst s;have t:=auu t;subst t;subst U;have o:d≠j:=λe=>by rw[e,auX]at o;cases o
      obtain⟨zs,l,Q⟩:=bq J;unfold iR at l;split at l
      ·rename_i X
       obtain rfl:=aut l;refine⟨_,_,_,_,?_,Q⟩;intro st Y E L B;obtain⟨Z,S⟩:=jN i E;obtain⟨m,rfl⟩:∃m:Nat,C=(m:Int):=⟨C.toNat,bv⟩;have:=SS.abX (P:=P) (t:=a) (x:=x) (y:=y) (ty:=ty) (pos:=pos) (af:=af) (gd:=gd) (d:=d) (k:=j) (m:=m) (rows:=List.map (bJ u) I) (K:=λV=>V=⟨st.n,jM (some d) (.ow d) (c8 d st.t),((d,some (.arr e u.w ((List.map (bJ u) I).take m) true))::(j,none)::[])++bw d st.h⟩)
        (A.el _ _ N) (E.is R d8) (L.at d5 O) S o (by rw[auz];omega) bv rfl
       have w:=SS.fresh B.t B.h this;rw[<-awJ]at w;exact w
      ·cases l
     ·cases h
    ·cases h
   ·cases h
  ·cases h
 ·obtain⟨c,p,g,f⟩:=Za A h
  exact⟨c,_,p,_,FS.read g M,f⟩
 ·cases h
def FS.insert{x y v:If}{c:EV}{g:a_}{f:Fr}(h:FS P ⟨none,.mapUpdate a x y v,ty,pos,af,gd⟩ n ev hg c S g f):FS P ⟨none,.insert a x y v,ty,pos,af,gd⟩ n ev hg c S g f:=by
 intro st j k l m q i e b w next Q o p
 have:=h st j k l m q i e b w next Q o p
 unfold Oper.wp at this⊢;simpa[execOp,Oper.upon]using this
def Kk{z:Do iS}(l:gG P T)(C:∀c∈z,c.ok P){k:EV->eS->a_->Fr->At b}{r:b}(h:exO T z n ev hg I k=some r):
 ∃c s m u,FS P I n ev hg c s m u/\k c s m u=some r/\∀d,I.dst=some d->d<n:=by
 obtain⟨L,A,ty,pos,af,gd⟩:=I;unfold exO at h;split at h
 ·rename_i d w
  simp only at w;subst w;obtain⟨B,j⟩:=aY h;have o:d<n:=auw B;have E:∀v,some d=some v->v<n:=λv e=>by cases e;exact o
  have q:(∃c s m u,FS P ⟨some d,A,ty,pos,af,gd⟩ n ev hg c s m u/\k c s m u=some r)->∃c s m u,FS P ⟨some d,A,ty,pos,af,gd⟩ n ev hg c s m u/\k c s m u=some r/\∀v,some d=some v->v<n:=by
   rintro⟨c,s,m,u,a,g⟩;exact⟨c,s,m,u,a,g,E⟩
  split at j
  ·rename_i f J Q i
   simp only at i;subst i;split at j
   ·rename_i M N cs F
    exact q (Ze (ty:=ty) (pos:=pos) (af:=af) (gd:=gd) C (λG=>Sa F G) o j)
   ·cases j
  ·rename_i i;simp only at i;subst i;exact q (wG l o j)
  ·rename_i i;simp only at i;subst i;exact q (wG l o j)
  ·rename_i i
   simp only at i;subst i;rcases bA j with⟨_,j⟩|⟨_,j⟩
   ·exact q (MS l o j)
   ·exact q (wG l o j)
  ·rename_i i;simp only at i;subst i;exact q (wG l o j)
  ·rename_i i
   simp only at i;subst i;rcases bA j with⟨_,j⟩|⟨_,j⟩
   ·exact q (M8 l o j)
   ·exact q (wG l o j)
  ·rename_i i
   simp only at i;subst i;split at j
   ·rename_i p y
    exact q (Y9 (ty:=ty) (pos:=pos) (af:=af) (gd:=gd) l o y j)
   ·rcases bA j with⟨_,j⟩|⟨_,j⟩
    ·exact q (Y7 l o j)
    ·exact q (wG l o j)
  ·rename_i i;simp only at i;subst i
   split at j
   ·rename_i p x t O y H
    exact q (Y_ (ty:=ty) (pos:=pos) (af:=af) (gd:=gd) l o y H j)
   ·exact q (wG l o j)
  ·rename_i i;simp only at i;subst i
   obtain⟨c,_,_,_,_,_,_,_,a,g⟩:=EG (ty:=ty) (pos:=pos) (af:=af) (gd:=gd) l o j;exact q ⟨c,_,_,_,a,g⟩
  ·obtain⟨c,m,a,g⟩:=alv l j
   exact q ⟨c,_,m,_,FS.read a o,g⟩
 ·rename_i w
  simp only at w;subst w;split at h
  ·rename_i i;simp only at i;subst i
   obtain⟨s,m,a,g⟩:=RW (ty:=ty) (pos:=pos) (af:=af) (gd:=gd) l h;exact⟨_,_,_,_,a,g,λd e=>by cases e⟩
  ·rename_i i;simp only at i;subst i
   obtain⟨s,m,a,g⟩:=BJ (ty:=ty) (pos:=pos) (af:=af) (gd:=gd) l h;exact⟨_,_,_,_,a,g,λd e=>by cases e⟩
  ·rename_i i;simp only at i;subst i
   obtain⟨s,m,a,g⟩:=BJ (ty:=ty) (pos:=pos) (af:=af) (gd:=gd) l h;exact⟨_,_,_,_,FS.insert a,g,λd e=>by cases e⟩
  ·rename_i i;simp only at i;subst i
   obtain⟨s,m,a,g⟩:=Kg (ty:=ty) (pos:=pos) (af:=af) (gd:=gd) l h;exact⟨_,_,_,_,a,g,λd e=>by cases e⟩
  ·rename_i i;simp only at i;subst i
   obtain⟨s,m,a,g⟩:=RY (ty:=ty) (pos:=pos) (af:=af) (gd:=gd) l h;exact⟨_,_,_,_,a,g,λd e=>by cases e⟩
  ·cases h
end
def Zf(P:Fd)(d:FuncId)(lb:dU)(c:Do dU)(Cl:GE->Prop):Prop:=
 ∀(l:Nat) (J:Nat->GE->Prop) (W:GE),(∀j W,J j W->Cl W)->(∀j W,J j W->J j W.drew)->
  (∀j b x,c[j]? =some x->J j b->YieldAt Fence.wide 0 P l x b λe a=>e=.returned (.bool true)/\J (j+1) a)->
  J 0 W->CallsIn Fence.wide 0 P d (#[.func (.yield l) #[] #[]]++lb) W λe a=>(∃v,e=.returned v)/\J c.length a
section
variable{P:Fd}{st:St}{ca:IO->St->Prop}
end
variable{g:In}{E:EV}{d:Nat}{G:Nat->At dO}{n:If}{B:St}{L:bp}{K:a_}
def aos{b x y:In}(h:cond b x y=true):(b=true/\x=true)\/(b=false/\y=true):=by
 cases b with
 |true=>exact .inl ⟨rfl,h⟩
 |false=>exact .inr ⟨rfl,h⟩
structure b_ where
 n:Nat
 t:List (Nat×EV)
 h:eS
def bg(E:b_):St:=⟨E.n,fI E.t,bs E.h⟩
def M9:bX->EV->Do (Nat×EV)->Do (Nat×EV)
 |some d,c,t=>(d,c)::t
 |none,_,t=>t
def M_(d:bX)(c:EV)(t:Do (Nat×EV)):fI (M9 d c t)=jM d (enc c) (fI t):=by cases d<;>rfl
def aot(p:Nat->In):dO->In
 |.nr _ _ _ a=>match a with
  |some (_,some j)=> !p j
  |_=>true
 |.qr _ a _ _=>match a with
  |some j=> !p j
  |none=>true
 |o=>(bU o).f_ p
def EP(p:Nat->In)(h:eS):In:=h.all λq=> !p q.1 && (match q.2 with
 |some o=>aot p o
 |none=>true)
def ah8{p:Nat->In}(h:aot p R=true):(bU R).f_ p=true:=by
 cases R with
 |qr t d f e=>
  refine Ee λc a=>?_;obtain⟨i,_,rfl⟩:=auD.1 a;cases d with
  |none=>rfl
  |some j=>exact h
 |nr t r e d=>
  refine Ee λc a=>?_;have b:∀c∈e.map (Y1 r),c.f_ p=true:=λc a=>by
   obtain⟨x,_,rfl⟩:=auD.1 a;cases x<;>rfl
  match d,h,a with
  |none,_,a=>exact b c a
  |some (i,none),_,a=>
   rcases aw4 a with a|rfl
   ·exact b c a
   ·rfl
  |some (i,some j),h,a=>
   rcases aw4 a with a|rfl
   ·exact b c a
   ·exact h
 |_=>exact h
def mH{p:Nat->In}:∀{h:eS},EP p h=true->mA p (bs h)=true
 |[],_=>rfl
 |(k,o)::h,a=>by
  simp only[EP,avx,aup]at a;have b:=mH (p:=p) (h:=h) (by simpa[EP]using a.2);unfold mA at b⊢;simp only[bs,avx,b,axF,aup];refine⟨a.1.1,?_⟩;cases o with
  |none=>rfl
  |some o=>exact ah8 a.1.2
def jO(a:Fr)(E:b_):In:=match a with
 |.no=>true
 |.one d=>rR (Fr.one d).p (fI E.t) && EP (Fr.one d).p E.h
 |.bW B=>rR (Fr.bW B).p (fI E.t) && EP (Fr.bW B).p E.h
def rV.no:rV .no B:=⟨λx=>rS _,λk ob _=>ob.rS,λk h=>by cases h⟩
def rV.of{a:Fr}(d:rR a.p B.t=true)(c:mA a.p B.h=true):rV a B:=
 ⟨Em d,λk ob b=>Ep c b,λk b=>og (pT c b)⟩
def H_{a:Fr}{E:b_}(h:jO a E=true):rV a (bg E):=by
 cases a with
 |no=>exact rV.no
 |_=>simp only[jO,aup]at h;exact rV.of h.1 (mH h.2)
def Sk.enc(E:b_):Sk (cy E.t) (bg E):=λi=>.inr (cc E.t i)
def Hk.enc(E:b_)(a:a_):Hk (bx E.h) a (bg E):=λk _=>cz E.h k
noncomputable def aou:Nat:=Classical.choose (⟨1,rfl⟩:∃n:Nat,n=1)
def ah9:aou=1:=Classical.choose_spec (⟨1,rfl⟩:∃n:Nat,n=1)
open Classical in
noncomputable def alF{R:Type}(f:In->At R):At R:=match f true,f false with
 |some a,some b=>if a=b then some a else none
 |_,_=>none
noncomputable def dem(f:In->At b):At b:=Nat.rec (motive:=λ_=>At b) none (λ_ _=>alF f) aou
def alG(f:In->At b):dem f=alF f:=by
 unfold dem;rw[ah9];rfl
def ur{f:In->At b}{r:b}:dem f=some r↔f true=some r/\f false=some r:=by
 rw[alG];unfold alF;cases d:f true with
 |none=>simp
 |some a=>
  cases g:f false with
  |none=>simp
  |some c=>
   simp only;split
   ·rename_i h;subst h;simp
   ·rename_i h
    simp only[aur,reduceCtorEq,aw0,not_and];rintro rfl e;exact h e.symm
inductive ItT where
 |go (d:Nat) (t:TypeId) (x:Operand)
 |nx (d:Nat) (x:Operand)
 |en (d:Nat) (x:Operand)
structure ItB where
 k:Nat
 km:Nat
 n0:Int
 m:Int
 c:Int
 kc:Sc
 vc:Sc
 es:List (kc.c9×vc.c9)
 d:TypeDesc
structure alH where
 d:Nat
 t:TypeId
 x:Operand
 c:EV
 r:Sc
 xs:List r.c9
def alI(d:Nat)(t:EQ)(x:If):EV->At alH
 |.sc (.sl r) a=>some ⟨d,t,x,.sc (.sl r) a,r,a⟩
 |.ts r a=>some ⟨d,t,x,.ts r a,r,a⟩
 |.nil=>some ⟨d,t,x,.nil,.b,[]⟩
 |_=>none
def aov(o:Oper)(a:Nat->EV):At alH:=match o.dst with
 |some d=>match o.op with
  |.binOp .eql t x (.const (.slice none 0 0)) _=>alI d t x (eE a x)
  |_=>none
 |none=>none
section
variable(T:EQ->bu)(CT:Do iS)
noncomputable def qe(o:Oper)(E:b_)(k:b_->At b):At b:=
 match aov o (cy E.t)with
 |some q=>cond (blt q.d E.n && blt 0 q.r.w && (T q.t).el.isSome) (cond (p_ q.xs) (dem λa=>k ⟨E.n,(q.d,.sc .b a)::E.t,E.h⟩) (k ⟨E.n,(q.d,.sc .b false)::E.t,E.h⟩)) none
 |none=>exO T CT E.n (cy E.t) (bx E.h) o λc e f d=>cond (jO d E) (k ⟨E.n,M9 o.dst c E.t,e++E.h⟩) none
def ER(d:bX)(E:b_):b_:=⟨E.n,M9 d (.v (.tuple ⟨[]⟩)) E.t,E.h⟩
def BM(d:bX)(n:Nat):In:=match d with
 |some d=>blt d n
 |none=>true
noncomputable def exG(d:bp)(o:Oper)(E:b_)(k:b_->At b):At b:=
 match o.guard with
 |none=>qe T CT o E k
 |some (j,a)=>match(d[j]?).bind (·.dst)with
  |some s=>match cy E.t s with
   |.sc .b c=>cond (blt s E.n && BM o.dst E.n) (cond c
    (cond a (qe T CT o ⟨E.n,(s,.sc .b true)::E.t,E.h⟩ k) (k (ER o.dst ⟨E.n,(s,.sc .b true)::E.t,E.h⟩)))
    (cond a (k (ER o.dst ⟨E.n,(s,.sc .b false)::E.t,E.h⟩)) (qe T CT o ⟨E.n,(s,.sc .b false)::E.t,E.h⟩ k))) none
   |.v (.tuple ⟨[]⟩)=>cond (blt s E.n && BM o.dst E.n) (k (ER o.dst E)) none
   |_=>none
  |none=>none
noncomputable def xf(a:bp):bp->(E:b_)->{R:Type}->(b_->At R)->At R
 |[],E,_,k=>k E
 |o::l,E,_,k=>exG T CT a o E λb=>xf a l b k
structure pL where
 d:bX
 c:EV
 os:eS
 us:a_
 fr:Fr
 sf:Option dO
def BN(t:Do (Nat×EV)):Do pL->Do (Nat×EV)
 |[]=>t
 |u::a=>BN (M9 u.d u.c t) a
def kB(h:eS):Do pL->eS
 |[]=>h
 |u::a=>kB (u.os++h) a
def alE(s:At dO)(_:Nat)(ob:Ob):Prop:=∃d b e c a,s=some (.mp d b e c)/\ob=bU (.mp d b e (dW b c a ((bO b c a).getD (zeroV e))))
def dX(u:pL):En:=⟨u.d,enc u.c,bs u.os,u.us,u.fr.p,alE u.sf⟩
def nwE(done:Do pL)(k:Nat):In:=done.all λw=> !fC k (bs w.os)
def sfE(E:b_)(o:Oper)(a:a_)(done:Do pL):At dO:=match o.op with
 |.lookup _ _ _ false=>match a with
  |[k]=>cond (nwE done k) (bx E.h k) none
  |_=>none
 |_=>none
def alK(o:Oper)(a:eS)(done:Do pL):In:=match o.op with
 |.mapEntry _ _ _=>a.all λp=>nwE done p.1
 |_=>false
def ES(done:Do pL)(i:Nat):Do Edge->At EV
 |[]=>none
 |e::a=>cond (Region.binds .any e) (match done[e.on]? with
  |some u=>match u.d with
   |some d=>cond (beq d i) (some u.c) (ES done i a)
   |none=>ES done i a
  |none=>ES done i a) (ES done i a)
def mi(l:bp)(i:Nat):In:=match l with
 |[]=>true
 |o::l=>match o.dst with
  |some d=>cond (beq d i) false (mi l i)
  |none=>mi l i
def HB(l:bp)(t:Do (Nat×EV))(done:Do pL)(a:Do Edge)(i:Nat):EV:=
 match ES done i a with
 |some c=>c
 |none=>cond (mi l i) (cy t i) (cond (abt l done.length i) (cy t i) .un)
def ab9(v u:pL):In:=v.os.all (λp=> !fC p.1 (bs u.os) && !u.us.contains p.1) && u.os.all (λp=> !v.us.contains p.1)
def ab_(v u:pL):In:=match u.fr with
 |.no=>true
 |.one d=>(enc v.c).f_ (Fr.one d).p && EP (Fr.one d).p v.os
 |.bW B=>(enc v.c).f_ (Fr.bW B).p && EP (Fr.bW B).p v.os
def xJ(a:In)(l:bp)(u:pL)(j:Nat):Nat->Do pL->In
 |_,[]=>true
 |i,v::done=>(ab9 v u||cW l j i||(a && (v.os.isEmpty && v.sf.isSome))) && ab_ v u && (ab_ u v||cW l j i) && xJ a l u j (i+1) done
def Hn(l:bp)(E:b_):bp->Do pL->{R:Type}->(b_->At R)->At R
 |[],done,_,k=>cond (xx l && HT 0 l) (k ⟨E.n,BN E.t done,kB E.h done⟩) none
 |o::g,done,_,k=>match o.guard with
  |none=>exO T CT E.n (HB l E.t done o.after.toList) (bx (kB E.h done)) o λc f d a=>
   cond (xJ (alK o f done) l ⟨o.dst,c,f,d,a,sfE E o d done⟩ done.length 0 done && jO a E) (Hn l E g (done++[⟨o.dst,c,f,d,a,sfE E o d done⟩]) k) none
  |some (j,b)=>match done[j]? with
   |some v=>match v.d with
    |some s=>match v.c with
     |.sc .b c=>cond (o.after.toList.any (λe=>beq e.on j && Region.binds .any e) && blt s E.n && BM o.dst E.n) (cond c
      (cond b (exO T CT E.n (HB l E.t (done.set j ⟨v.d,.sc .b true,v.os,v.us,v.fr,v.sf⟩) o.after.toList) (bx (kB E.h done)) o λc f d a=>
       cond (xJ false l ⟨o.dst,c,f,d,a,none⟩ done.length 0 done && jO a E) (Hn l E g (done.set j ⟨v.d,.sc .b true,v.os,v.us,v.fr,v.sf⟩++[⟨o.dst,c,f,d,a,none⟩]) k) none)
       (cond (xJ false l ⟨o.dst,.v (.tuple ⟨[]⟩),[],[],.no,none⟩ done.length 0 done) (Hn l E g (done.set j ⟨v.d,.sc .b true,v.os,v.us,v.fr,v.sf⟩++[⟨o.dst,.v (.tuple ⟨[]⟩),[],[],.no,none⟩]) k) none))
      (cond b (cond (xJ false l ⟨o.dst,.v (.tuple ⟨[]⟩),[],[],.no,none⟩ done.length 0 done) (Hn l E g (done.set j ⟨v.d,.sc .b false,v.os,v.us,v.fr,v.sf⟩++[⟨o.dst,.v (.tuple ⟨[]⟩),[],[],.no,none⟩]) k) none)
       (exO T CT E.n (HB l E.t (done.set j ⟨v.d,.sc .b false,v.os,v.us,v.fr,v.sf⟩) o.after.toList) (bx (kB E.h done)) o λc f d a=>
        cond (xJ false l ⟨o.dst,c,f,d,a,none⟩ done.length 0 done && jO a E) (Hn l E g (done.set j ⟨v.d,.sc .b false,v.os,v.us,v.fr,v.sf⟩++[⟨o.dst,c,f,d,a,none⟩]) k) none))) none
     |.v (.tuple ⟨[]⟩)=>cond (o.after.toList.any (λe=>beq e.on j && Region.binds .any e) && blt s E.n && BM o.dst E.n)
      (cond (xJ false l ⟨o.dst,.v (.tuple ⟨[]⟩),[],[],.no,none⟩ done.length 0 done) (Hn l E g (done++[⟨o.dst,.v (.tuple ⟨[]⟩),[],[],.no,none⟩]) k) none) none
     |_=>none
    |none=>none
   |none=>none
end
section
variable{P:Fd}{T:EQ->bu}{CT:Do iS}
def bwI(a:Do b):Do (Int×b):=((List.range a.length).zip a).reverse.map λp=>((p.1:Int),p.2)
@[reducible] def hdR:Sc:=.pr (.i .i64) (.i .i64)
def aox(q:Int×hdR.c9):Do EV:=[.sc (.i .i64) q.1,jd hdR q.2]
structure aoy(P:Program)(gf:Nat):Prop where
 en:Enters P gf
 y:∀(Rd:bF) (us:bC) (xs:List hdR.c9),(∀b o u,GT b o u->Rd b o u)->LR (VR Rd none) [.fp [encS (.sl hdR) xs]] us->
  ∃es:List dU,es.length=xs.length/\(∀(j:Nat) it x,(bwI xs)[j]? =some it->es[j]? =some x->LR (VR Rd none) (bS (aox it)) x.toList)/\Zf P gf us.toArray es λW=>∀b o u,Rd b o u->W.cell? ⟨b,o,none⟩=some u
structure Place(P:Program)(T:TypeId->bu)(CT:List iS):Prop where
 t:gG P T
 c:∀c∈CT,c.ok P
 m:P.follows .mixedOrders=true
 b:∀q∈akm,aoy P q
variable(hp:Place P T CT)
include hp
omit hp in
def aia{q:alH}(b:alI d a h E=some q):q.d=d/\q.t=a/\q.x=h/\E≠.un/\∃g f c,enc E=.sl g f c/\(c=[]\/f=q.r.w)/\(c=[]↔q.xs=[]):=by
 unfold alI at b;split at b
 ·cases b
  exact⟨rfl,rfl,rfl,d8,_,_,_,rfl,.inr rfl,d5⟩
 ·cases b
  exact⟨rfl,rfl,rfl,d8,_,_,_,rfl,.inr rfl,d5⟩
 ·cases b
  exact⟨rfl,rfl,rfl,d8,_,_,_,rfl,.inl rfl,d5⟩
 ·cases b
omit hp in
def Sb(a:Do b):p_ a=true↔a=[]:=by cases a<;>simp[p_]
def Ia{E:b_}{k:b_->At b}{r:b}(h:qe T CT I E k=some r):SS P I (bg E) (λs=>∃o,s=bg o/\k o=some r)/\∀d,I.dst=some d->d<E.n:=by
 unfold qe at h;split at h
 ·rename_i q g
  obtain⟨i,l⟩:=aY h;simp only[aup]at i;obtain⟨X,op,ty,a0,V,gd⟩:=I;unfold aov at g;simp only at g;split at g
  ·rename_i d
   split at g
   ·rename_i t x t2
    obtain⟨p,u,v,G,S,R,Q,F,L,H⟩:=aia g;subst p u v;obtain⟨⟨w,y⟩,z⟩:=i;have j:q.d<E.n:=auw w;have M:0<q.r.w:=auw y;obtain⟨⟨et,Z,Y,ez⟩,D⟩:=avS.1 z;refine⟨?_,λW C=>by cases C;exact j⟩;have N:(bg E).ev q.x=.sl S R Q:=by rw[(Sk.enc E).is rfl G,F]
    refine SS.aoj (hp.t.el _ _ D) N (L.imp id λe=>by rw[e];exact M) j λf A=>?_;rcases bA l with⟨n,m⟩|⟨n,m⟩
    ·have:=ur.1 m
     refine⟨⟨E.n,(q.d,.sc .b f)::E.t,E.h⟩,rfl,?_⟩;cases f
     ·exact this.2
     ·exact this.1
    ·have B:f=false:=by
      cases f with
      |false=>rfl
      |true=>
       have:=H.1 (A rfl);rw[(Sb _).2 this]at n;cases n
     subst B;exact⟨_,rfl,m⟩
   ·cases g
  ·cases g
 ·obtain⟨c,O,U,fr,a,f,j⟩:=Kk hp.t hp.c h
  obtain⟨i,l⟩:=aY f;refine⟨SS.mono (K:=λs=>s=bg ⟨E.n,M9 I.dst c E.t,O++E.h⟩) ?_ λs J=>⟨_,by rw[J];exact bQ.refl,_,rfl,l⟩,j⟩;have:=a (bg E) rfl (Sk.enc E) (Hk.enc E U) (H_ i);simp only[bg,M_,fa]at this⊢;exact this
omit hp in
def bQ.Na{E:b_}(b:cy E.t d=.sc .b g):bQ P (bg E) (bg ⟨E.n,(d,.sc .b g)::E.t,E.h⟩):=by
 refine bQ.same (λi=>?_) λk=>rfl;rw[cc,cc];simp only[cy];by_cases a:i=d
 ·rw[a,auX,b];rfl
 ·rw[iQ a];rfl
def Kl{E:b_}{k:b_->At b}{r:b}(h:exG T CT L I E k=some r):GS P L.toArray I (bg E) (λs=>∃g,s=bg g/\k g=some r):=by
 obtain⟨i,C,F,D,u,M⟩:=I;unfold exG at h;split at h
 ·rename_i p
  simp only at p;subst p;exact GS.plain rfl (Ia hp h).1
 ·rename_i j a p
  simp only at p;subst p;split at h
  ·rename_i s H
   split at h
   ·rename_i c z
    obtain⟨l,x⟩:=aY h;simp only[aup]at l;have q:(L.toArray[j]?).bind (·.dst)=some s:=by simpa using H
    have t:s<E.n:=auw l.1;have A:∀d,i=some d->d<E.n:=λd e=>by
     have:=l.2;simp only[e,BM]at this;exact auw this
    have G:=bQ.Na (P:=P) z;have K:∀(f:In),c=f->a=f->qe T CT ⟨i,C,F,D,u,some (j,a)⟩ ⟨E.n,(s,.sc .b f)::E.t,E.h⟩ k=some r->GS P L.toArray ⟨i,C,F,D,u,some (j,a)⟩ (bg E) (λs=>∃g,s=bg g/\k g=some r):=by
     intro f v w B;subst v w;exact GS.le G (GS.taken rfl q t (by simp[bg,fI,bD,enc,encS]) (Ia hp B).1)
    have J:∀(f:In),c=f->(f==a)=false->k (ER i ⟨E.n,(s,.sc .b f)::E.t,E.h⟩)=some r->GS P L.toArray ⟨i,C,F,D,u,some (j,a)⟩ (bg E) (λs=>∃g,s=bg g/\k g=some r):=by
     intro f v w B;subst v;refine GS.le G (GS.left (b:=a) (c:=c) rfl q t (by simp[bg,fI,bD,enc,encS]) w A ⟨_,?_,B⟩);cases i<;>rfl
    rcases bA x with⟨o,y⟩|⟨o,y⟩
    ·rcases bA y with⟨n,m⟩|⟨n,m⟩
     ·exact K true o n m
     ·exact J true o (by rw[n];rfl) m
    ·rcases bA y with⟨n,m⟩|⟨n,m⟩
     ·exact J false o (by rw[n];rfl) m
     ·exact K false o n m
   ·rename_i z
    obtain⟨l,x⟩:=aY h;simp only[aup]at l;have q:(L.toArray[j]?).bind (·.dst)=some s:=by simpa using H
    have t:s<E.n:=auw l.1;have A:∀d,i=some d->d<E.n:=λd e=>by
     have:=l.2;simp only[e,BM]at this;exact auw this
    refine GS.akp (b:=a) rfl q t ?_ A ⟨_,?_,x⟩
    ·rw[show bD (bg E).t s=enc (cy E.t s)from cc E.t s,z];rfl
    ·cases i<;>rfl
   ·cases h
  ·cases h
def Sd{d:bp}:∀{l:bp} {E:b_} {R:Type} {k:b_->At R} {r:R},xf T CT d l E k=some r->AL P d.toArray l (bg E) (λs=>∃c,s=bg c/\k c=some r)
 |[],E,R,k,r,h=>AL.nil ⟨E,rfl,h⟩
 |o::l,E,R,k,r,h=>by
  simp only[xf]at h;refine AL.cons λt j=>?_;have a:=Kl hp h;intro q g e i w next Q m n
  refine a q g e i w next Q m λf p=>n f (j f ?_)
  obtain⟨c,rfl,b⟩:=p;exact Sd b
omit hp in
def aca(a:Do pL)(t:Do (Nat×EV)):fI (BN t a)=CQ (fI t) (a.map dX):=by
 induction a generalizing t with
 |nil=>rfl
 |cons u a b=>simp only[BN,auL,CQ,b,M_];rfl
omit hp in
def ET(a:Do pL)(h:eS):bs (kB h a)=Av (bs h) (a.map dX):=by
 induction a generalizing h with
 |nil=>rfl
 |cons u a b=>simp only[kB,auL,Av,b,fa];rfl
omit hp in
def r_{done:Do pL}{i:Nat}:∀{g:Do Edge} {c:EV},ES done i g=some c->∃e∈g,Region.binds .any e=true/\∃u,done[e.on]? =some u/\u.d=some i/\u.c=c
 |[],c,h=>by cases h
 |e::g,c,h=>by
  simp only[ES]at h;rcases bA h with⟨j,h⟩|⟨j,h⟩
  ·split at h
   ·rename_i u m
    split at h
    ·rename_i d k
     rcases bA h with⟨l,h⟩|⟨_,h⟩
     ·cases h
      have:=auu l;subst this;exact⟨e,d5,j,u,m,k,rfl⟩
     ·obtain⟨a,b,f⟩:=r_ h
      exact⟨a,by simp[b],f⟩
    ·obtain⟨a,b,f⟩:=r_ h
     exact⟨a,by simp[b],f⟩
   ·obtain⟨a,b,f⟩:=r_ h
    exact⟨a,by simp[b],f⟩
  ·obtain⟨a,b,f⟩:=r_ h
   exact⟨a,by simp[b],f⟩
omit hp in
def qf:∀{l:bp} {i:Nat},mi l i=true->(l.all λo=>o.dst !=some i)=true
 |[],i,_=>rfl
 |o::l,i,h=>by
  simp only[mi]at h;simp only[avx,aup];split at h
  ·rename_i d c
   rcases aos h with⟨a,b⟩|⟨a,b⟩
   ·cases b
   ·refine⟨?_,qf b⟩
    rw[c];have:d≠i:=λe=>by rw[e,auX]at a;cases a
    simpa using this
  ·rename_i c
   exact⟨by rw[c];rfl,qf h⟩
omit hp in
def Kn.sk{E:b_}{done:Do pL}{u:En}(a:Kn L (bg E) (done.map dX) I u B):Sk (HB L E.t done I.after.toList) B:=by
 intro i;unfold HB;split
 ·rename_i c g
  obtain⟨e,j,f,v,k,h,rfl⟩:=r_ g;exact .inr (a.ts e (by simpa using j) f (dX v) i (by rw[auM,k];rfl) h)
 ·cases b:mi L i with
  |true=>exact .inr ((a.t0 i (qf b)).trans (cc E.t i))
  |false=>
   cases d:abt L done.length i with
   |true=>exact .inr ((a.t1 i (by rw[auz];exact d)).trans (cc E.t i))
   |false=>exact .inl rfl
omit hp in
def acb{e:Nat->EV}{i:String}{f:dm}{g:fH}{k:EV->eS->a_->Fr->At b}:
 exO T CT d e G ⟨some C,.lookup a h n false,v,i,f,g⟩ k=cond (blt C d) (o8 T G a (eE e h) (eE e n) false λc j=>k c [] j .no) none:=rfl
omit hp in
def acd{e:Nat->EV}{j:String}{f:dm}{g:fH}{k:EV->eS->a_->Fr->At b}:
 exO T CT d e G ⟨some C,.mapEntry a h n,v,j,f,g⟩ k=cond (blt C d) (Dc T e G a h n λc i l=>k c i l .no) none:=rfl
omit hp in
def Kn.hk{l:bp}{E:b_}{done:Do pL}{o:Oper}{u:pL}{b:St}(hk:Kn l (bg E) (done.map dX) o (dX u) b)(e:u.sf=none):Hk (bx (kB E.h done)) u.us b:=by
 intro k c;rcases hk.h k c with h|⟨ob,_,d,g,i,f,a,h,_⟩
 ·rw[h,<-cz,ET];rfl
 ·rw[e]at h;cases h
omit hp in
def Se{k:Nat}:∀{done:Do pL} {h:eS},nwE done k=true->bx (kB h done) k=bx h k
 |[],_,_=>rfl
 |u::done,h,c=>by
  simp only[nwE,avx,aup,avC]at c;rw[kB,Se (done:=done) (by simpa[nwE]using c.2)];have:∀a:eS,fC k (bs a)=false->bx (a++h) k=bx h k:=by
   intro a
   induction a with
   |nil=>intro _;rfl
   |cons p a f=>
    obtain⟨i,o⟩:=p;intro b;simp only[fC,bs,awd,awp]at b;have d:¬k=i:=λe=>by have:=b.1;simp[e]at this
    simp only[avH,bx,iQ d,auv];exact f b.2
  exact this _ c.1
omit hp in
def Uy{v u:pL}(h:ab_ v u=true):(dX v).c.f_ (dX u).fr=true/\mA (dX u).fr (dX v).os=true:=by
 obtain⟨d,c,b,e,a⟩:=u;cases a with
 |no=>exact⟨rS _,xz _⟩
 |_=>simp only[ab_,aup]at h;exact⟨h.1,mH h.2⟩
omit hp in
def Dh{E:b_}{t:In}{l:bp}{u:pL}{j:Nat}(y:t=true->∃k d b m c a,u.os=[(k,some (.mp d b m (dW b c a ((bO b c a).getD (zeroV m)))))]/\bx E.h k=some (.mp d b m c)):∀{i:Nat} {done:Do pL},(∀v∈done,∀o,v.sf=some o->∀k∈v.us,bx E.h k=some o)->xJ t l u j i done=true->MB l (dX u) j i (done.map dX)
 |i,[],_,_=>trivial
 |i,v::done,A,h=>by
  simp only[xJ,aup,avm]at h;obtain⟨⟨⟨G,H⟩,I⟩,J⟩:=h;refine⟨?_,⟨Uy H,I.imp Uy id⟩,Dh y (λw O=>A w (avt _ O)) J⟩;rcases G with(h|h)|⟨h,K,L⟩
  ·refine .inl ?_
   simp only[ab9,aup]at h;have C:∀(g:eS) (q:Nat->In),g.all (λp=>q p.1)=(bs g).all (λp=>q p.1):=by
    intro g q
    induction g with
    |nil=>rfl
    |cons p g Q=>obtain⟨k,o⟩:=p;simp only[bs,avx,Q]
   refine⟨by rw[show(dX v).os=bs v.os from rfl,<-C v.os (λk=> !fC k (dX u).os && !(dX u).us.contains k)];exact h.1,λk f e=>?_⟩;have x:=h.2;rw[C u.os (λk=> !v.us.contains k)]at x;obtain⟨p,N,n⟩:=av6.1 f;have n:p.1=k:=by simpa using n
   have:=auO.1 x p N;rw[n]at this;have e:v.us.contains k=true:=e;rw[e]at this;cases this
  ·exact .inr h
  ·refine .inl ⟨?_,λk f e=>?_⟩
   ·have:v.os=[]:=by simpa using K
    rw[show(dX v).os=bs v.os from rfl,this];rfl
   ·obtain⟨B,d,b,m,c,a,r,D⟩:=y h
    obtain⟨o,z⟩:=avS.1 L;have F:k=B:=by
     rw[show(dX u).os=bs u.os from rfl,r]at f;simp only[fC,bs,awd,List.any_nil,Bool.or_false]at f;exact(by simpa using f:B=k).symm
    subst F;have M:v.us.contains k=true:=e;have s:=A v d5 o z k (by simpa using M);rw[D]at s;cases s;refine⟨_,?_,d,b,m,c,a,z,rfl⟩;rw[show(dX u).os=bs u.os from rfl,r];simp only[bs,bf];rfl
omit hp in
def PD.snoc{done:Do En}{u:En}(e:PD P L B done)(g:L[done.length]? =some I)(k:I.dst=u.d)(n:DS P L B done I u)(l:MB L u done.length 0 done)(m:rR u.fr B.t=true/\mA u.fr B.h=true):PD P L B (done++[u]):=by
 have p:done.length<L.length:=(aus.1 g).1;refine⟨by simp;omega,λj o c h a=>?_,λi j v c f d a=>?_,λj c a=>?_⟩
 ·rcases avU j done.length with b|b|b
  ·rw[au7 b]at a
   rw[axo bv];exact e.step j o c h a
  ·subst b
   simp at a;subst a;obtain rfl:=aut (g.symm.trans h);refine⟨k,?_⟩;rw[awr];exact n
  ·rw[au5 d7]at a;cases a
 ·rcases avU j done.length with b|b|b
  ·rw[au7 b]at a
   rw[au7 bv]at d;exact e.fit i j v c f d a
  ·subst b
   simp at a;subst a;rw[au7 f]at d;have:=Eo l i v d;rwa[auZ]at this
  ·rw[au5 d7]at a;cases a
 ·rcases avU j done.length with b|b|b
  ·rw[au7 b]at a;exact e.CR j c a
  ·subst b
   simp at a;subst a;exact m
  ·rw[au5 d7]at a;cases a
omit hp in
def EU{a:Fr}{E:b_}(h:jO a E=true):rR a.p (bg E).t=true/\mA a.p (bg E).h=true:=by
 cases a with
 |no=>exact⟨JY _,xz _⟩
 |_=>simp only[jO,aup]at h;exact⟨h.1,mH h.2⟩
omit hp in
def FS.ds{a:b_}{done:Do pL}{c:Fr}{st:St}(h:FS P I a.n (HB L a.t done I.after.toList) (bx (kB a.h done)) E S K c){d:At dO}(e:d=none)(b:Kn L (bg a) (done.map dX) I (dX ⟨I.dst,E,S,K,c,d⟩) st):
 SS P I st (λs=>s=⟨st.n,jM I.dst (enc E) st.t,bs S++st.h⟩):=
 h st b.n b.sk (Kn.hk b e) ⟨b.ft,b.fh,b.fk⟩
def ace{l:bp}{E:b_}:∀{W:bp} {done:Do pL} {R:Type} {k:b_->At R} {r:R},Hn T CT l E W done k=some r->W=l.drop done.length->PD P l (bg E) (done.map dX)->(∀v∈done,∀o,v.sf=some o->∀k∈v.us,bx E.h k=some o)->
 ∃m,JW P l (bg E) (m.map dX)/\k ⟨E.n,BN E.t m,kB E.h m⟩=some r
 |[],done,R,k,r,h,hr,A,a9=>by
  simp only[Hn]at h;obtain⟨g,p⟩:=aY h;simp only[aup]at g;have ak:(done.map dX).length=l.length:=by
   have g:=A.len;have p:=auA List.length hr;simp at g p⊢;omega
  exact⟨done,⟨ak,A.step,A.fit,A.CR,g.1,λj o ho e Q ae=>by have:=uk g.2 j o ho e Q ae;omega⟩,p⟩
 |o::W,done,R,k,r,h,hr,A,a9=>by
  have ho:l[done.length]? =some o:=by
   have:=auA (λx=>x[0]?) hr;simpa using this.symm
  have al:W=l.drop (done.length+1):=by
   have:l.drop (done.length+1)=(l.drop done.length).drop 1:=by rw[awc]
   rw[this,<-hr];rfl
  have X:∀(u:pL) (en:In),o.dst=u.d->(en=true->∃k d B H J a,u.os=[(k,some (.mp d B H (dW B J a ((bO B J a).getD (zeroV H)))))]/\bx E.h k=some (.mp d B H J))->(∀o,u.sf=some o->∀k∈u.us,bx E.h k=some o)->DS P l (bg E) (done.map dX) o (dX u)->xJ en l u done.length 0 done=true->jO u.fr E=true->∀{R:Type} {k:b_->At R} {r:R},Hn T CT l E W (done++[u]) k=some r->∃m,JW P l (bg E) (m.map dX)/\k ⟨E.n,BN E.t m,kB E.h m⟩=some r:=by
   intro u en hd hE am ag ah ai R k r f;refine ace f (by rw[auE];exact al) ?_ (λv q=>by
    rcases auC.1 q with q|q
    ·exact a9 v q
    ·rw[auN.1 q];exact am)
   rw[avh];have hl:(done.map dX).length=done.length:=auz _;exact A.snoc (by rw[hl];exact ho) hd ag (by rw[hl];exact Dh hE a9 ah) (EU ai)
  simp only[Hn]at h;split at h
  ·rename_i U
   have aa:∀n o',sfE E o n done=some o'->∀k∈n,bx E.h k=some o':=λn o' z k f=>by
    unfold sfE at z;split at z
    ·split at z
     ·rename_i k'
      obtain rfl:=auN.1 f;exact(aY z).2
     ·cases z
    ·cases z
   by_cases hl:∃t x y,o.op=.lookup t x y false
   ·obtain⟨t,x,y,G⟩:=hl
    obtain⟨K,op,ty,a3,Z,gd⟩:=o;simp only at G;subst G;cases K with
    |none=>cases h
    |some d=>
    rw[acb]at h;obtain⟨O,h⟩:=aY h;obtain⟨j,dd,B,H,J,a,F,aj,b,c⟩:=Ka hp.t h;obtain⟨g,p⟩:=aY b;simp only[aup]at g;refine X ⟨some d,_,[],[j],.no,_⟩ _ rfl (λe=>by cases e) (aa [j]) (λw f=>GS.plain U ?_) g.1 g.2 p;have D:d<w.n:=by rw[f.n];exact auw O
    have Q:∃a4,(bO B a4 a).getD (zeroV H)=(bO B J a).getD (zeroV H)/\aZ w.h j=some (bU (.mp dd B H a4)):=by
     rcases f.h j (by simp[dX])with e|⟨ob,C,d2,ao,ap,an,a2,I,e3⟩
     ·refine⟨J,rfl,?_⟩
      rw[e,show(bg E).h=bs E.h from rfl,<-ET,cz,F];rfl
     ·simp only[sfE]at I
      obtain⟨n1,n2⟩:=aY I;rw[Se n1,n2]at F;cases F;exact⟨_,RE aj _ _ _ _,by rw[C,e3]⟩
    obtain⟨a4,C,I⟩:=Q;exact SS.read (c w a4 (some d) ty a3 Z gd f.sk C I) D rfl
   have V:∀n,sfE E o n done=none:=λn=>by
    unfold sfE;split
    ·rename_i t x y G;exact absurd ⟨t,x,y,G⟩ hl
    ·rfl
   by_cases hm:∃t x y,o.op=.mapEntry t x y
   ·obtain⟨t,x,y,G⟩:=hm
    obtain⟨K,op,ty,a3,Z,gd⟩:=o;simp only at G;subst G;cases K with
    |none=>cases h
    |some d=>
    rw[acd]at h;obtain⟨O,h⟩:=aY h;obtain⟨c,j,dd,B,H,J,a,F,fs,b⟩:=EG (ty:=ty) (pos:=a3) (af:=Z) (gd:=gd) hp.t (auw O) h;obtain⟨g,p⟩:=aY b;simp only[aup]at g;refine X ⟨some d,_,_,[j],.no,_⟩ _ rfl (λe=>⟨j,dd,B,H,J,a,rfl,?_⟩) (aa [j]) (λw f=>GS.plain U (fs.ds (V [j]) f)) g.1 g.2 p;simp only[alK,avx,List.all_nil,axF]at e;rw[<-Se e];exact F
   obtain⟨c,Y,n,L,a,b,hd⟩:=Kk hp.t hp.c h;obtain⟨g,p⟩:=aY b;simp only[aup]at g;refine X ⟨o.dst,c,Y,n,L,_⟩ _ rfl (λe=>?_) (aa n) (λw f=>GS.plain U (a.ds (V n) f)) g.1 g.2 p;unfold alK at e;split at e
   ·rename_i t x y G;exact absurd ⟨t,x,y,G⟩ hm
   ·cases e
  ·rename_i j b U
   split at h
   ·rename_i v q
    split at h
    ·rename_i s z
     split at h
     ·rename_i c hc
      obtain⟨g,p⟩:=aY h;simp only[aup]at g;obtain⟨⟨q1,q2⟩,q3⟩:=g;have V:s<E.n:=auw q2;have O:∀d,o.dst=some d->d<E.n:=λd e=>by
       simp only[e,BM]at q3;exact auw q3
      obtain⟨e,Q,S⟩:=av6.1 q1;simp only[aup]at S;have a7:=auu S.1;have ab:∀i,c=i->done.set j ⟨v.d,.sc .b i,v.os,v.us,v.fr,v.sf⟩=done:=λi e=>by
       subst e;rw[<-hc];obtain⟨F,rfl⟩:=aus.1 q;exact awm F
      have a5:(l.toArray[j]?).bind (·.dst)=some s:=by
       have F:=(aus.1 q).1;have a8:=A.len;rw[auz]at a8;have a1:l[j]? =some l[j]:=auy bv;have:=(A.step j _ (dX v) a1 (by rw[auM,q];rfl)).1;simp only[avR,a1,ayF,this];exact z
      have a6:∀{u:En} {w:St},Kn l (bg E) (done.map dX) o u w->bD w.t s=.v (.bool c):=λf=>by
       have:=f.ts e (by simpa using Q) S.2 (dX v) s (by rw[auM,a7,q];rfl) z;rw[this];show enc v.c=_;rw[hc];rfl
      have ad:∀i,c=i->b=i->(exO T CT E.n (HB l E.t (done.set j ⟨v.d,.sc .b i,v.os,v.us,v.fr,v.sf⟩) o.after.toList) (bx (kB E.h done)) o λc Y n L=>
       cond (xJ false l ⟨o.dst,c,Y,n,L,none⟩ done.length 0 done && jO L E) (Hn T CT l E W (done.set j ⟨v.d,.sc .b i,v.os,v.us,v.fr,v.sf⟩++[⟨o.dst,c,Y,n,L,none⟩]) k) none)=some r->∃m,JW P l (bg E) (m.map dX)/\k ⟨E.n,BN E.t m,kB E.h m⟩=some r:=by
       intro i C I hh;rw[ab i C]at hh;obtain⟨c2,Y,n,L,a,bb,hd⟩:=Kk hp.t hp.c hh;obtain⟨M,g2⟩:=aY bb;simp only[aup]at M;exact X ⟨o.dst,c2,Y,n,L,none⟩ false rfl (λe=>by cases e) (λ_ e=>by cases e) (λw f=>GS.taken U a5 (by rw[f.n];exact V) (by rw[I,<-C];exact a6 f) (a.ds rfl f)) M.1 M.2 g2
      have ac:∀i,c=i->(i==b)=false->(cond (xJ false l ⟨o.dst,.v (.tuple ⟨[]⟩),[],[],.no,none⟩ done.length 0 done) (Hn T CT l E W (done.set j ⟨v.d,.sc .b i,v.os,v.us,v.fr,v.sf⟩++[⟨o.dst,.v (.tuple ⟨[]⟩),[],[],.no,none⟩]) k) none)=some r->∃m,JW P l (bg E) (m.map dX)/\k ⟨E.n,BN E.t m,kB E.h m⟩=some r:=by
       intro i C I hh;rw[ab i C]at hh;obtain⟨M,g2⟩:=aY hh;refine X ⟨o.dst,.v (.tuple ⟨[]⟩),[],[],.no,none⟩ false rfl (λe=>by cases e) (λ_ e=>by cases e) (λw f=>?_) M rfl g2;obtain⟨K,op,ty,a3,Z,gd⟩:=o;refine GS.left (b:=b) (c:=c) U a5 (by rw[f.n];exact V) (a6 f) (by rw[C];exact I) (λd e=>by rw[f.n];exact O d e) ?_;cases K<;>rfl
      rcases bA p with⟨a0,h3⟩|⟨a0,h3⟩
      ·rcases bA h3 with⟨D,N⟩|⟨D,N⟩
       ·exact ad true a0 D N
       ·exact ac true a0 (by rw[D];rfl) N
      ·rcases bA h3 with⟨D,N⟩|⟨D,N⟩
       ·exact ac false a0 (by rw[D];rfl) N
       ·exact ad false a0 D N
     ·rename_i hc
      obtain⟨g,p⟩:=aY h;simp only[aup]at g;obtain⟨⟨q1,q2⟩,q3⟩:=g;obtain⟨M,g2⟩:=aY p;have V:s<E.n:=auw q2;have O:∀d,o.dst=some d->d<E.n:=λd e=>by
       simp only[e,BM]at q3;exact auw q3
      obtain⟨e,Q,S⟩:=av6.1 q1;simp only[aup]at S;have a7:=auu S.1;have a5:(l.toArray[j]?).bind (·.dst)=some s:=by
       have F:=(aus.1 q).1;have a8:=A.len;rw[auz]at a8;have a1:l[j]? =some l[j]:=auy bv;have:=(A.step j _ (dX v) a1 (by rw[auM,q];rfl)).1;simp only[avR,a1,ayF,this];exact z
      refine X ⟨o.dst,.v (.tuple ⟨[]⟩),[],[],.no,none⟩ false rfl (λe=>by cases e) (λ_ e=>by cases e) (λw f=>?_) M rfl g2;have a6:bD w.t s=.v undef:=by
       have:=f.ts e (by simpa using Q) S.2 (dX v) s (by rw[auM,a7,q];rfl) z;rw[this];show enc v.c=_;rw[hc];rfl
      obtain⟨K,op,ty,a3,Z,gd⟩:=o;refine GS.akp (b:=b) U a5 (by rw[f.n];exact V) a6 (λd e=>by rw[f.n];exact O d e) ?_;cases K<;>rfl
     ·cases h
    ·cases h
   ·cases h
def Sf{t:In}{l:bp}{E:b_}{k:b_->At b}{r:b}{id:Nat}(h:Hn T CT l E l [] k=some r):AC t P (.region id l.toArray true) (bg E) (λx s=>x=.normal/\∃d,s=bg d/\k d=some r):=by
 obtain⟨g,e,f⟩:=ace hp h rfl ⟨d5,λj o u _ a=>by simp at a,λi j v u _ c=>by simp at c,λj u a=>by simp at a⟩ (λv c=>by cases c);refine AC.arU hp.m e ⟨rfl,_,?_,f⟩;simp only[bg,aca,ET]
def Sg{t:In}{l:bp}{E:b_}{k:b_->At b}{r:b}{id:Nat}(h:xf T CT l l E k=some r):AC t P (.region id l.toArray false) (bg E) (λx s=>x=.normal/\∃c,s=bg c/\k c=some r):=by
 refine AC.region ?_;have:=Sd hp h;intro m d e a w Q f g;exact this m d e a w Q f λj i=>g j ⟨rfl,i⟩
end
variable{u:b_}{k:Do AV}{e:Do EV}
section
variable{P:Fd}
def bQ.wk{t y:Do (Nat×AV)}{h q:Hp}(H:∀i,Wk (bD t i) (bD y i))(g:∀k n,aZ q k=some n->∃ob,aZ h k=some ob/\∀Rd e w,OR Rd e w k ob->OR Rd e w k n):bQ P ⟨d,t,h⟩ ⟨d,y,q⟩:=by
 intro z s e a w c;have v:∀b o u,bN z s e h w b o u->bN z s e q w b o u:=λb o u r=>⟨r.1,r.2.1,λj ob l G=>by
  obtain⟨m,f,_⟩:=g j ob l;exact r.2.2 j m f G⟩
 refine⟨e,c.n,c.d,⟨c.sr.ext,c.sr.kg,λj ob l=>?_,λj ob b l F=>?_,λj x ob n b p E A B=>?_,c.sr.rL⟩,λi=>H i _ _ _ ((c.tr i).mono v)⟩
 ·obtain⟨m,f,p⟩:=g j ob l
  exact(p _ _ _ (c.sr.ob j m f)).mono v
 ·obtain⟨m,f,_⟩:=g j ob l
  exact c.sr.base j m b f F
 ·obtain⟨I,C,_⟩:=g j ob p
  obtain⟨J,D,_⟩:=g x n E;exact c.sr.inj j x I J b C D A B
def Uz{Rd:bF}(h:VR Rd N (.sl true d []) o):∃a,o=.slice a 0 0:=by
 obtain⟨a,e,f,b,_,_,_,_,_,c,_⟩:=h.mr;have:=c rfl;simp only[avg]at this b;subst this;exact⟨a,b⟩
variable{st:St}
def bQ.aoz(i j b:Nat)(H:b<4294967296)(t:EQ)(l:Nat)(f:bD st.t i=.ag k)(G:k[j]? =some (.sl true d [])):
 bQ P st ⟨st.n,(i,.ag ((k.map (AV.kill b)).set j (.ow b)))::c8 b st.t,(b,some (.arr t l [] true))::bw b st.h⟩:=by
 intro B r e a w h;have A:=h.tr i;rw[f]at A;obtain⟨n,N,p⟩:=VR.e5 A;obtain⟨u,M,O⟩:=p.get G;obtain⟨g,rfl⟩:=Uz O;obtain⟨K,v⟩:=h.sr.kill b;obtain⟨L,y⟩:=K.Ea b t l g (ef b st.h) H;refine⟨_,h.n,h.d,L,λq=>?_⟩;simp only[bD];split
 ·rename_i J
  subst J;rw[N];have C:LR (VR (bN B r (e.cO b none (.slice g 0 0) 0) ((b,some (.arr t l [] true))::bw b st.h) w) (some (e.cO b none (.slice g 0 0) 0))) (k.map (AV.kill b)) n:=
   ⟨by simpa using p.1,λm c x z Q=>by
    rw[auM]at z;obtain⟨s,E,rfl⟩:=auY.1 z;exact((((p.2 m s x E Q).kill b).mono v).mono y).env rfl b (kF b s) (λ_ f=>Env.bG f) (λ_ f=>Env.de f)⟩
  have o:=C.set j (c:=.ow b) (u:=.slice g 0 0) (by
   have:=VR.ow (Rd:=bN B r (e.cO b none (.slice g 0 0) 0) ((b,some (.arr t l [] true))::bw b st.h) w) (e:=e.cO b none (.slice g 0 0) 0) (k:=b);rw[Env.dK]at this;exact this)
  have D:n.set j (.slice g 0 0)=n:=by
   obtain⟨I,F⟩:=aus.1 M;rw[<-F];exact awm I
  rw[D]at o;exact .ag n o.1 o.2
 ·exact((((h.tr.kill b).mono v).mono y).env b (dQ b st.t) (λ_ f=>Env.bG f) (λ_ f=>Env.de f)) q
def bQ.aoA(b j f:Nat)(M:f<4294967296)(t:EQ)(n:Nat)(B:aZ st.h b=some (.box a k))(L:k[j]? =some (.sl true d []))(q:b≠f):
 bQ P st ⟨st.n,c8 f st.t,(b,some (.box a ((k.map (AV.kill f)).set j (.ow f))))::(f,some (.arr t n [] true))::bw f st.h⟩:=by
 intro D s e g w l;obtain⟨O,E,p,I,V,r⟩:=l.sr.ob _ _ B;obtain⟨u,U,W⟩:=r.get L;obtain⟨h,rfl⟩:=Uz W;obtain⟨Q,z⟩:=l.sr.kill f;obtain⟨R,A⟩:=Q.Ea f t n h (ef f st.h) M;have F:LR (VR (bN D s (e.cO f none (.slice h 0 0) 0) ((f,some (.arr t n [] true))::bw f st.h) w) (some (e.cO f none (.slice h 0 0) 0))) (k.map (AV.kill f)) p:=
  ⟨by simpa using r.1,λm c x C X=>by
   rw[auM]at C;obtain⟨v,J,rfl⟩:=auY.1 C;exact((((r.2 m v x J X).kill f).mono z).mono A).env rfl f (kF f v) (λ_ i=>Env.bG i) (λ_ i=>Env.de i)⟩
 have y:=F.set j (c:=.ow f) (u:=.slice h 0 0) (by
  have:=VR.ow (Rd:=bN D s (e.cO f none (.slice h 0 0) 0) ((f,some (.arr t n [] true))::bw f st.h) w) (e:=e.cO f none (.slice h 0 0) 0) (k:=f);rw[Env.dK]at this;exact this)
 have G:p.set j (.slice h 0 0)=p:=by
  obtain⟨N,K⟩:=aus.1 U;rw[<-K];exact awm N
 rw[G]at y;obtain⟨S,H⟩:=R.RZ (b:=b) (o:=(Ob.kill f (.box a k))) (o':=.box a ((k.map (AV.kill f)).set j (.ow f))) (by rw[bc q,du,B];rfl)
  ⟨by rw[Env.kE q];exact O,E,p,by rw[Env.bG q];exact I,V,y⟩
 exact⟨_,l.n,l.d,S,(((l.tr.kill f).mono z).mono A).env f (dQ f st.t) (λ_ i=>Env.bG i) (λ_ i=>Env.de i)|>.mono H⟩
def bQ.alL(b j f p:Nat)(S:p<4294967296)(U:p≠f)(q:b≠p)(K:b≠f){wr:In}(B:aZ st.h b=some (.box a k))(N:k[j]? =some (.ow f))(O:aZ st.h f=some (.arr v C i wr)):
 bQ P st ⟨st.n,c8 p st.t,(b,some (.box a ((k.map (AV.kill p)).set j (.ow p))))::(p,some (.arr v C i wr))::(f,none)::bw p st.h⟩:=by
 intro E s e g w l;obtain⟨R,F,n,J,Z,r⟩:=l.sr.ob _ _ B;obtain⟨u,Y,a0⟩:=r.get N;cases a0;obtain⟨V,z⟩:=l.sr.kill p;obtain⟨W,A⟩:=V.JZ (k:=f) (d:=p) (ob:=.arr v C i wr) (by rw[du,O];rfl) U (ef p st.h) S;have G:LR (VR (bN E s (e.cO p (e.bW f) (e.sv f) (e.cP f)) ((p,some (.arr v C i wr))::(f,none)::bw p st.h) w) (some (e.cO p (e.bW f) (e.sv f) (e.cP f)))) (k.map (AV.kill p)) n:=
  ⟨by simpa using r.1,λm c x D hx=>by
   rw[auM]at D;obtain⟨t,L,rfl⟩:=auY.1 D;exact((((r.2 m t x L hx).kill p).mono z).mono A).env rfl p (kF p t) (λ_ h=>Env.bG h) (λ_ h=>Env.de h)⟩
 have y:=G.set j (c:=.ow p) (u:=e.sv f) (by
  have:=VR.ow (Rd:=bN E s (e.cO p (e.bW f) (e.sv f) (e.cP f)) ((p,some (.arr v C i wr))::(f,none)::bw p st.h) w) (e:=e.cO p (e.bW f) (e.sv f) (e.cP f)) (k:=p);rw[Env.dK]at this;exact this)
 have H:n.set j (e.sv f)=n:=by
  obtain⟨Q,M⟩:=aus.1 Y;rw[<-M];exact awm Q
 rw[H]at y;obtain⟨X,I⟩:=W.RZ (b:=b) (o:=(Ob.kill p (.box a k))) (o':=.box a ((k.map (AV.kill p)).set j (.ow p))) (by rw[bc q,bc K,du,B];rfl)
  ⟨by rw[Env.kE q];exact R,F,n,by rw[Env.bG q];exact J,Z,y⟩
 exact⟨_,l.n,l.d,X,(((l.tr.kill p).mono z).mono A).env p (dQ p st.t) (λ_ h=>Env.bG h) (λ_ h=>Env.de h)|>.mono I⟩
def bQ.alM(b k p:Nat)(o:p<4294967296)(r:p≠k){wr:In}(g:bD st.t b=.ow k)(n:aZ st.h k=some (.arr a C i wr)):
 bQ P st ⟨st.n,(b,.ow p)::c8 p st.t,(p,some (.arr a C i wr))::(k,none)::bw p st.h⟩:=by
 intro x j e c w f;have h:=f.tr b;rw[g]at h;obtain⟨t,l⟩:=f.sr.kill p;obtain⟨v,m⟩:=t.JZ (k:=k) (d:=p) (ob:=.arr a C i wr) (by rw[du,n];rfl) r (ef p st.h) o;refine⟨_,f.n,f.d,v,λq=>?_⟩;simp only[bD];split
 ·rename_i s
  subst s;generalize c.tmps.getD q undef=u at h;cases h;have:=VR.ow (Rd:=bN x j (e.cO p (e.bW k) (e.sv k) (e.cP k)) ((p,some (.arr a C i wr))::(k,none)::bw p st.h) w) (e:=e.cO p (e.bW k) (e.sv k) (e.cP k)) (k:=p);rw[Env.dK]at this;exact this
 ·exact((((f.tr.kill p).mono l).mono m).env p (dQ p st.t) (λ_ g=>Env.bG g) (λ_ g=>Env.de g)) q
def bQ.alN(b j:Nat){wr:In}(B:bD st.t b=.ag k)(D:k[j]? =some (.ow d))(E:aZ st.h d=some (.arr a C i wr)):
 bQ P st ⟨st.n,(b,.ag (k.set j (.sl false C i)))::st.t,(d,some (.arr a C i false))::st.h⟩:=by
 intro v o e f w n;obtain⟨g,x,p,r,s,y⟩:=n.sr.Rp E;have h:=n.cP (⟨x,p,r,s⟩:od v o e st.h w g ((d,some (.arr a C i false))::st.h));refine⟨g,h.n,h.d,h.sr,λq=>?_⟩;simp only[bD];split
 ·rename_i H
  subst H;have l:=n.tr q;rw[B]at l;obtain⟨m,J,t⟩:=VR.e5 l;rw[J];obtain⟨u,I,K⟩:=t.get D;cases K;have G:LR (VR (bN v o g ((d,some (.arr a C i false))::st.h) w) (some g)) k m:=t.imp λ_ _ l=>(l.mono p).iD rfl r s;have:=G.set j (c:=.sl false C i) (u:=e.sv d) y.cV;have z:m.set j (e.sv d)=m:=by
   obtain⟨F,A⟩:=aus.1 I;rw[<-A];exact awm F
  rw[z]at this;exact .ag m this.1 this.2
 ·exact h.tr q
def bQ.alO(b j:Nat){wr:In}(l:aZ st.h b=some (.box v k))(H:k[j]? =some (.ow d))(q:aZ st.h d=some (.arr a C i wr)):
 bQ P st ⟨st.n,st.t,(b,some (.box v (k.set j (.sl false C i))))::(d,some (.arr a C i false))::st.h⟩:=by
 intro O s e f w p;have F:b≠d:=λe=>by rw[e,q]at l;cases l
 obtain⟨h,x,y,z,n,A⟩:=p.sr.Rp q;have g:=p.cP (⟨x,y,z,n⟩:od O s e st.h w h ((d,some (.arr a C i false))::st.h));have o:aZ ((d,some (Ob.arr a C i false))::st.h) b=some (.box v k):=by rw[bc F];exact l
 obtain⟨J,t,m,E,M,r⟩:=g.sr.ob _ _ o;obtain⟨u,L,N⟩:=r.get H;cases N;have:=r.set j (c:=.sl false C i) (u:=h.sv d) (by rw[n];exact A.cV);have B:m.set j (h.sv d)=m:=by
  obtain⟨I,G⟩:=aus.1 L;rw[<-G];exact awm I
 rw[B]at this;obtain⟨K,D⟩:=g.sr.RZ o (o':=.box v (k.set j (.sl false C i))) ⟨J,t,m,E,M,this⟩;exact⟨h,g.n,g.d,K,g.tr.mono D⟩
def bQ.aoB(b j f:Nat)(U:f<4294967296)(t:EQ)(l:Nat)(E:aZ st.h b=some (.nr a k))(G:k[j]? =some (.sl true d []))(p:b≠f):
 bQ P st ⟨st.n,c8 f st.t,(b,some (.nr a ((k.map (AV.kill f)).set j (.ow f))))::(f,some (.arr t l [] true))::bw f st.h⟩:=by
 intro y r e g w n;obtain⟨W,a1⟩:=n.sr.ob _ _ E;have S:j<k.length:=(aus.1 G).1;rcases a1 with⟨Y,_⟩|⟨H,I,o,M,a5,N,X,Q,O,v⟩
 ·subst Y;simp at S
 obtain⟨u,a7,a8⟩:=v.get G;obtain⟨h,a9,aa,D,_,_,_,_,_,a6,_⟩:=a8.mr;have q:=a6 rfl;simp only[avg]at q D;subst q;subst D;obtain⟨a2,B⟩:=n.sr.kill f;obtain⟨a3,C⟩:=a2.Ea f t l h (ef f st.h) U;have J:LR (VR (bN y r (e.cO f none (.slice h 0 0) 0) ((f,some (.arr t l [] true))::bw f st.h) w) (some (e.cO f none (.slice h 0 0) 0))) (k.map (AV.kill f)) (o.toList.take k.length):=
  ⟨by simpa using v.1,λm c x F hx=>by
   rw[auM]at F;obtain⟨z,q,rfl⟩:=auY.1 F;exact((((v.2 m z x q hx).kill f).mono B).mono C).env rfl f (kF f z) (λ_ i=>Env.bG i) (λ_ i=>Env.de i)⟩
 have A:=J.set j (c:=.ow f) (u:=.slice h 0 0) (by
  have:=VR.ow (Rd:=bN y r (e.cO f none (.slice h 0 0) 0) ((f,some (.arr t l [] true))::bw f st.h) w) (e:=e.cO f none (.slice h 0 0) 0) (k:=f);rw[Env.dK]at this;exact this)
 have K:(o.toList.take k.length).set j (.slice h 0 0)=o.toList.take k.length:=by
  obtain⟨V,R⟩:=aus.1 a7;rw[<-R];exact awm V
 rw[K]at A;have s:((k.map (AV.kill f)).set j (.ow f)).length=k.length:=d5
 have a0:aZ ((f,some (Ob.arr t l [] true))::bw f st.h) b=some (Ob.kill f (.nr a k)):=by rw[bc p,du,E];rfl
 have Z:OR (bN y r (e.cO f none (.slice h 0 0) 0) ((f,some (.arr t l [] true))::bw f st.h) w) (e.cO f none (.slice h 0 0) 0) w b (.nr a ((k.map (AV.kill f)).set j (.ow f))):=
  ⟨by rw[Env.kE p];exact W,.inr ⟨H,I,o,by rw[Env.bG p];exact M,by rw[Env.de p,s];exact a5,by rw[s];exact N,X,Q,O,by rw[s];exact A⟩⟩
 obtain⟨a4,L⟩:=a3.RZ a0 Z;exact⟨_,n.n,n.d,a4,(((n.tr.kill f).mono B).mono C).env f (dQ f st.t) (λ_ i=>Env.bG i) (λ_ i=>Env.de i)|>.mono L⟩
def bQ.alP(b j:Nat){k:Nat}{wr:In}{g:Do AV}(n:aZ st.h b=some (.nr v g))(s:g[j]? =some (.ow k))(t:aZ st.h k=some (.arr a d i wr)):
 bQ P st ⟨st.n,st.t,(b,some (.nr v (g.set j (.sl false d i))))::(k,some (.arr a d i false))::st.h⟩:=by
 intro Z y e f w r;have I:b≠k:=λe=>by rw[e,t]at n;cases n
 obtain⟨l,B,C,D,p,E⟩:=r.sr.Rp t;have h:=r.cP (⟨B,C,D,p⟩:od Z y e st.h w l ((k,some (.arr a d i false))::st.h));have q:aZ ((k,some (Ob.arr a d i false))::st.h) b=some (.nr v g):=by rw[bc I];exact n
 obtain⟨Q,U⟩:=h.sr.ob _ _ q;have N:j<g.length:=(aus.1 s).1;rcases U with⟨S,_⟩|⟨z,A,m,H,W,J,R,L,K,x⟩
 ·subst S;simp at N
 obtain⟨u,X,Y⟩:=x.get s;cases Y;have:=x.set j (c:=.sl false d i) (u:=l.sv k) (by rw[p];exact E.cV);have F:(m.toList.take g.length).set j (l.sv k)=m.toList.take g.length:=by
  obtain⟨O,M⟩:=aus.1 X;rw[<-M];exact awm O
 rw[F]at this;have o:(g.set j (.sl false d i)).length=g.length:=d5
 obtain⟨V,G⟩:=h.sr.RZ q (o':=.nr v (g.set j (.sl false d i))) ⟨Q,.inr ⟨z,A,m,H,by rw[o];exact W,by rw[o];exact J,R,L,K,by rw[o];exact this⟩⟩;exact⟨l,h.n,h.d,V,h.tr.mono G⟩
end
def aib(π:Nat->Nat):Do (Nat×EV)->Do (Nat×EV)
 |[]=>[]
 |(i,c)::t=>(i,uX π c)::aib π t
def Nb(π:Nat->Nat):∀t,fI (aib π t)=Mn π (fI t)
 |[]=>rfl
 |(i,c)::t=>by simp only[aib,fI,Mn,De,Nb π t]
def aic(a b k:Nat):Nat:=cond (beq k a) b (cond (beq k b) a k)
def aid(a b:Nat):aic a b=swp a b:=by
 funext k;unfold aic swp;by_cases c:k=a
 ·subst c;rw[auX];simp
 ·rw[iQ c,aun c]
  by_cases d:k=b
  ·subst d;rw[auX];simp
  ·rw[iQ d,aun d];rfl
def acf(a b:Nat)(E:b_):b_:=⟨E.n,aib (aic a b) E.t,BL (aic a b) E.h⟩
def BO(k:Nat)(c:EV):EV:=cond ((enc c).gu k) .un c
def Nc(k:Nat)(c:EV):enc (BO k c)=(enc c).kill k:=by
 unfold BO AV.kill;cases(enc c).gu k<;>rfl
def vf(k:Nat):Do (Nat×EV)->Do (Nat×EV)
 |[]=>[]
 |(i,c)::t=>(i,BO k c)::vf k t
def jm(k:Nat):∀t,fI (vf k t)=c8 k (fI t)
 |[]=>rfl
 |(i,c)::t=>by simp only[vf,fI,c8,Nc,jm k t]
def Km(k:Nat):JS->JS
 |some (i,some j)=>cond (beq j k) (some (i,none)) (some (i,some j))
 |o=>o
def Nd(k:Nat):dO->dO
 |.box t c=>.box t (c.map (BO k))
 |.arr t r a wr=>.arr t r a wr
 |.mp d f h e=>.mp d f h e
 |.nr t r a b=>.nr t r a (Km k b)
 |.qr t b g a=>.qr t (match b with
  |some j=>cond (beq j k) none (some j)
  |none=>none) g a
def uu(k:Nat)(a:Do EV):bS (a.map (BO k))=(bS a).map (AV.kill k):=by
 rw[dV,dV,avE,avE];exact avi λc _=>Nc k c
def Nf(k:Nat)(r:Sc)(a:Do (Do r.c9))(c:JS):wB r a (Km k c)=(wB r a c).map (AV.kill k):=by
 have b:(a.map (Y1 r)).map (AV.kill k)=a.map (Y1 r):=by
  rw[avE];exact avi λx _=>by cases x<;>rfl
 match c with
 |none=>exact b.symm
 |some (i,none)=>simp only[Km,wB,awl,b];rfl
 |some (i,some j)=>
  simp only[Km,wB,awl,b];by_cases h:j=k
  ·subst h
   rw[auX];simp[nrH,AV.kill,AV.gu]
  ·rw[iQ h]
   simp[nrH,AV.kill,AV.gu,h]
def Zg(k:Nat)(o:dO):bU (Nd k o)=(bU o).kill k:=by
 cases o with
 |box t d=>simp only[Nd,bU,Ob.kill,uu]
 |arr=>rfl
 |mp=>rfl
 |nr t r c a=>simp only[Nd,bU,Ob.kill,Nf]
 |qr t a b c=>
  simp only[Nd,bU,Ob.kill,avE];congr 1;refine avi λi _=>?_;cases a with
  |none=>rfl
  |some j=>
   show qrA b (cond (beq j k) none (some j)) i=AV.kill k (.pe j i.toNat b 0);by_cases h:j=k
   ·subst h
    simp[qrA,AV.kill,AV.gu,auX]
   ·rw[iQ h]
    simp[qrA,AV.kill,AV.gu,h]
def sa(k:Nat):eS->eS
 |[]=>[]
 |(j,o)::h=>(j,match o with
  |some o=>some (Nd k o)
  |none=>none)::sa k h
def iu(k:Nat):∀h,bs (sa k h)=bw k (bs h)
 |[]=>rfl
 |(j,o)::h=>by
  cases o with
  |none=>simp only[sa,bs,bw,Option.map,iu k h]
  |some o=>simp only[sa,bs,bw,Option.map,iu k h,Zg]
def aoC(i p:Nat)(t:EQ)(r:Sc)(E:b_):b_:=⟨E.n,(i,.ow p)::vf p E.t,(p,some (.arr t r [] true))::sa p E.h⟩
def aoD(i p:Nat)(t:EQ)(k a:Nat)(E:b_):b_:=⟨E.n,(i,.ow p)::vf p E.t,(p,some (.qr t (some k) a []))::sa p E.h⟩
def acg:Do (Nat×PO)->Nat->At PO
 |[],_=>none
 |(j,o)::t,i=>cond (beq i j) (some o) (acg t i)
def eX(a b:Nat)(E:b_):b_:=cond (blt a 4294967296 && blt b 4294967296) (acf a b E) E
def Ng(i k p:Nat)(E:b_):b_:=match bx E.h k with
 |some (.arr t r a wr)=>cond (blt k 4294967296|| !(blt p 4294967296)) (eX k p E) ⟨E.n,(i,.ow p)::vf p E.t,(p,some (.arr t r a wr))::(k,none)::sa p E.h⟩
 |_=>eX k p E
def Nh(b j k p:Nat)(a:EQ)(c:Do EV)(E:b_):b_:=match bx E.h k with
 |some (.arr t r d wr)=>cond (blt k 4294967296|| !(blt p 4294967296)||beq b p||beq b k) (eX k p E) ⟨E.n,vf p E.t,(b,some (.box a ((c.map (BO p)).set j (.ow p))))::(p,some (.arr t r d wr))::(k,none)::sa p E.h⟩
 |_=>eX k p E
def Ib(b:Do (Nat×PO))(i:Nat)(d:PV)(E:b_):b_:=
 match d with
 |.k c=>match c with
  |.ow p=>match cy E.t i with
   |.ow k=>cond (beq k p) E (Ng i k p E)
   |.nil=>match acg b p with
    |some (.arr t r _)=>cond (blt i E.n && blt p 4294967296) (aoC i p t r E) E
    |some (.qr t k e)=>cond (blt i E.n && blt p 4294967296) (aoD i p t k e E) E
    |_=>E
   |_=>E
  |.pt p _=>match cy E.t i with
   |.pt k _=>cond (beq k p) E (eX k p E)
   |_=>E
  |.mp p=>match cy E.t i with
   |.mp k=>cond (beq k p) E (eX k p E)
   |_=>E
  |_=>E
 |.h _=>match cy E.t i with
  |.ow k=>match bx E.h k with
   |some (.arr t r a _)=>⟨E.n,(i,.sc (.sl r) a)::E.t,(k,some (.arr t r a false))::E.h⟩
   |_=>E
  |_=>E
 |_=>E
def Ni(e:Do (Nat×PO))(i j:Nat)(f:PV)(E:b_):b_:=
 match cy E.t i with
 |.ag a=>match a[j]? with
  |some c=>match f with
   |.k d=>match d with
    |.ow p=>match c with
     |.ow k=>cond (beq k p) E (eX k p E)
     |.nil=>match acg e p with
      |some (.arr t r _)=>cond (blt p 4294967296) ⟨E.n,(i,.ag ((a.map (BO p)).set j (.ow p)))::vf p E.t,(p,some (.arr t r [] true))::sa p E.h⟩ E
      |_=>E
     |_=>E
    |_=>E
   |.h _=>match c with
    |.ow k=>match bx E.h k with
     |some (.arr t r b _)=>⟨E.n,(i,.ag (a.set j (.sc (.sl r) b)))::E.t,(k,some (.arr t r b false))::E.h⟩
     |_=>E
    |_=>E
   |_=>E
  |none=>E
 |_=>E
def Nj(g:Do (Nat×PO))(b j:Nat)(h:PV)(E:b_):b_:=
 match bx E.h b with
 |some (.box d a)=>match a[j]? with
  |some c=>match h with
   |.k f=>match f with
    |.ow p=>match c with
     |.ow k=>cond (beq k p) E (Nh b j k p d a E)
     |.nil=>match acg g p with
      |some (.arr t r _)=>cond (beq b p|| !(blt p 4294967296)) E ⟨E.n,vf p E.t,(b,some (.box d ((a.map (BO p)).set j (.ow p))))::(p,some (.arr t r [] true))::sa p E.h⟩
      |_=>E
     |_=>E
    |.pt p _=>match c with
     |.pt k _=>cond (beq k p) E (eX k p E)
     |_=>E
    |.mp p=>match c with
     |.mp k=>cond (beq k p) E (eX k p E)
     |_=>E
    |_=>E
   |.h _=>match c with
    |.ow k=>match bx E.h k with
     |some (.arr t r e _)=>⟨E.n,E.t,(b,some (.box d (a.set j (.sc (.sl r) e))))::(k,some (.arr t r e false))::E.h⟩
     |_=>E
    |_=>E
   |_=>E
  |none=>E
 |_=>E
def ach(p:Nat)(E:b_):b_:=match bx E.h p with
 |some _=>eX p (4000000+p) E
 |none=>E
def Sh(b:PV)(c:EV)(E:b_):b_:=match b with
 |.k a=>match a with
  |.ow p=>match c with
   |.nil=>ach p E
   |_=>E
  |_=>E
 |_=>E
def aoE(i j:Nat)(E:b_):EV:=match cy E.t i with
 |.ag a=>(a[j]?).getD .un
 |_=>.un
def aoF(b j:Nat)(E:b_):EV:=match bx E.h b with
 |some (.box _ a)=>(a[j]?).getD .un
 |_=>.un
def EW(a:Do (Nat×PO))(i:Nat):Nat->Do PV->b_->b_
 |_,[],E=>E
 |j,p::b,E=>EW a i (j+1) b (Ni a i j p (Sh p (aoE i j E) E))
def EX(a:Do (Nat×PO))(b:Nat):Nat->Do PV->b_->b_
 |_,[],E=>E
 |j,p::c,E=>EX a b (j+1) c (Nj a b j p (Sh p (aoF b j E) E))
def aci(i j:Nat)(E:b_):EV:=match cy E.t i with
 |.cl _ a cs=>((a++cs)[j]?).getD .un
 |_=>.un
def Nk(i j:Nat)(b:PV)(E:b_):b_:=match b with
 |.k a=>match a with
  |.ow p=>match aci i j E with
   |.ow k=>cond (beq k p) E (eX k p E)
   |_=>E
  |.pt p _=>match aci i j E with
   |.pt k _=>cond (beq k p) E (eX k p E)
   |_=>E
  |.mp p=>match aci i j E with
   |.mp k=>cond (beq k p) E (eX k p E)
   |_=>E
  |_=>E
 |_=>E
def Ko(i:Nat):Nat->Do PV->b_->b_
 |_,[],E=>E
 |j,p::a,E=>Ko i (j+1) a (Nk i j p E)
def EY(b:Do (Nat×PO)):Do (Nat×PV)->b_->b_
 |[],E=>E
 |(i,a)::t,E=>EY b t (match a with
  |.ag l=>EW b i 0 l E
  |.cl _ c cs=>Ko i 0 (c++cs) E
  |a=>Ib b i a (Sh a (cy E.t i) E))
def Nl(k p:Nat)(E:b_):b_:=match bx E.h k with
 |some (.nr _ _ _ (some (_,some j)))=>cond (beq j p) E (eX j p E)
 |_=>E
def EZ(a:Do (Nat×PO)):Do (Nat×PO)->b_->b_
 |[],E=>E
 |(k,o)::h,E=>EZ a h (match o with
  |.box _ l=>EX a k 0 l E
  |.nr _ _ (some (_,p))=>Nl k p E
  |_=>E)
section
variable{P:Fd}
def bQ.of_eq{a b:St}(h:a=b):bQ P a b:=h▸bQ.refl
def Zh(a b:Nat)(c:a<4294967296)(d:b<4294967296)(E:b_):bQ P (bg E) (bg (acf a b E)):=by
 have:=bQ.swap (P:=P) (st:=bg E) a b c d;simp only[bg,acf,Nb,r6,aid]at this⊢;exact this
def gQ(a b:Nat)(E:b_):bQ P (bg E) (bg (eX a b E)):=by
 unfold eX;cases h:(blt a 4294967296 && blt b 4294967296)with
 |false=>exact bQ.refl
 |true=>
  simp only[aup]at h;exact Zh a b (auw h.1) (auw h.2) E
def E1{x y:b_}(a:bQ P B (bg x))(b:bQ P B (bg y)):bQ P B (bg (cond g x y)):=by
 cases g
 ·exact b
 ·exact a
def gR(h:bx u.h d=some R):aZ (bg u).h d=some (bU R):=by
 show aZ (bs u.h) d=_;rw[cz,h];rfl
def uv(h:cy u.t d=E):bD (bg u).t d=enc E:=by
 show bD (fI u.t) d=_;rw[cc,h]
def acj(i k p:Nat)(E:b_)(c:cy E.t i=.ow k)(b:(beq k p)=false):bQ P (bg E) (bg (Ng i k p E)):=by
 unfold Ng;split
 ·rename_i t r g wr d
  cases a:(blt k 4294967296|| !(blt p 4294967296))with
  |true=>exact gQ _ _ _
  |false=>
   simp only[awp,axR]at a;have f:p≠k:=λe=>by rw[e,auX]at b;cases b
   have:=bQ.alM (P:=P) (st:=bg E) i k p (auw a.2) f (uv c) (gR d);simp only[bg,fI,bs,jm,iu,Option.map,bU,enc,auv]at this⊢;exact this
 ·exact gQ _ _ _
def Zi(h:e[d]? =some E):(bS e)[d]? =some (enc E):=by rw[dV,auM,h];rfl
def ack(b j k p:Nat)(d:EQ)(c:Do EV)(E:b_)(i:bx E.h b=some (.box d c))(l:c[j]? =some (.ow k))(f:(beq k p)=false):bQ P (bg E) (bg (Nh b j k p d c E)):=by
 unfold Nh;split
 ·rename_i t r o wr m
  cases a:(blt k 4294967296|| !(blt p 4294967296)||beq b p||beq b k)with
  |true=>exact gQ _ _ _
  |false=>
   simp only[awp,axR]at a;have n:p≠k:=λe=>by rw[e,auX]at f;cases f
   have g:b≠p:=λe=>by have:=a.1.2;rw[e,auX]at this;cases this
   have h:b≠k:=λe=>by have:=a.2;rw[e,auX]at this;cases this
   have:=bQ.alL (P:=P) (st:=bg E) b j k p (auw a.1.1.2) n g h (gR i) (Zi l) (gR m);simp only[bg,fI,bs,jm,iu,Option.map,bU,enc,o5,uu,auv]at this⊢;exact this
 ·exact gQ _ _ _
def acm{x y:b_}(a:bQ P B (bg x))(b:g=false->bQ P B (bg y)):bQ P B (bg (cond g x y)):=by
 cases g with
 |true=>exact a
 |false=>exact b rfl
def Nn(h:Do (Nat×PO))(i:Nat)(j:PV)(E:b_):bQ P (bg E) (bg (Ib h i j E)):=by
 unfold Ib;split
 ·split
  ·split
   ·rename_i k b
    exact acm bQ.refl λg=>acj _ _ _ _ b g
   ·rename_i f
    split
    ·rename_i p _ _ t r wr _
     cases a:(blt i E.n && blt p 4294967296)with
     |false=>exact bQ.refl
     |true=>
      simp only[aup]at a;have:=bQ.own (P:=P) (st:=bg E) i p (auw a.2) t r.w (uv f) (auw a.1);simp only[aoC,bg,fI,bs,jm,iu,Option.map,bU,enc,avy,auQ]at this⊢;exact this
    ·rename_i p _ _ t k m _
     cases a:(blt i E.n && blt p 4294967296)with
     |false=>exact bQ.refl
     |true=>
      simp only[aup]at a;have:=bQ.own (P:=P) (st:=bg E) i p (auw a.2) t 1 (uv f) (auw a.1);simp only[aoD,bg,fI,bs,jm,iu,Option.map,bU,enc,avy,auQ]at this⊢;exact this.trans (bQ.ahS λRd e w d=>d.alo)
    ·exact bQ.refl
   ·exact bQ.refl
  ·split
   ·exact E1 bQ.refl (gQ _ _ _)
   ·exact bQ.refl
  ·split
   ·exact E1 bQ.refl (gQ _ _ _)
   ·exact bQ.refl
  ·exact bQ.refl
 ·split
  ·rename_i k b
   split
   ·rename_i t r l wr d
    refine bQ.Rp (P:=P) (st:=bg E) i (c:=.sl false r.w (List.map (bJ r) l)) ?_;rw[uv b];simp only[enc,jK,hZ,gR d,bU];rfl
   ·exact bQ.refl
  ·exact bQ.refl
 ·exact bQ.refl
def xK(h:e[d]? =some E):(bS e)[d]? =some (enc E):=by rw[dV,auM,h];rfl
def acn(f:Do (Nat×PO))(i j:Nat)(g:PV)(E:b_):bQ P (bg E) (bg (Ni f i j g E)):=by
 unfold Ni;split
 ·rename_i h b
  split
  ·rename_i c a
   split
   ·split
    ·split
     ·exact E1 bQ.refl (gQ _ _ _)
     ·split
      ·rename_i p _ _ t r wr _
       cases d:blt p 4294967296 with
       |false=>exact bQ.refl
       |true=>
        have:=bQ.aoz (P:=P) (st:=bg E) i j p (auw d) t r.w (uv b) (xK a);simp only[bg,fI,bs,jm,iu,Option.map,bU,enc,avy,o5,uu,auQ]at this⊢;exact this
      ·exact bQ.refl
     ·exact bQ.refl
    ·exact bQ.refl
   ·split
    ·rename_i k
     split
     ·rename_i t r l wr e
      have:=bQ.alN (P:=P) (st:=bg E) i j (uv b) (xK a) (gR e);simp only[bg,fI,bs,Option.map,bU,enc,o5,encS]at this⊢;exact this
     ·exact bQ.refl
    ·exact bQ.refl
   ·exact bQ.refl
  ·exact bQ.refl
 ·exact bQ.refl
def aco(l:Do (Nat×PO))(b j:Nat)(m:PV)(E:b_):bQ P (bg E) (bg (Nj l b j m E)):=by
 unfold Nj;split
 ·rename_i n o f
  split
  ·rename_i c d
   split
   ·split
    ·split
     ·exact acm bQ.refl λi=>ack _ _ _ _ _ _ _ f d i
     ·split
      ·rename_i p _ _ t r wr _
       cases a:(beq b p|| !(blt p 4294967296))with
       |true=>exact bQ.refl
       |false=>
        simp only[awp,axR]at a;have g:b≠p:=λe=>by have:=a.1;rw[e,auX]at this;cases this
        have:=bQ.aoA (P:=P) (st:=bg E) b j p (auw a.2) t r.w (gR f) (xK d) g;simp only[bg,fI,bs,jm,iu,Option.map,bU,enc,avy,o5,uu,auv]at this⊢;exact this
      ·exact bQ.refl
     ·exact bQ.refl
    ·split
     ·exact E1 bQ.refl (gQ _ _ _)
     ·exact bQ.refl
    ·split
     ·exact E1 bQ.refl (gQ _ _ _)
     ·exact bQ.refl
    ·exact bQ.refl
   ·split
    ·rename_i k
     split
     ·rename_i t r q wr h
      have:=bQ.alO (P:=P) (st:=bg E) b j (gR f) (xK d) (gR h);simp only[bg,fI,bs,Option.map,bU,enc,o5,encS]at this⊢;exact this
     ·exact bQ.refl
    ·exact bQ.refl
   ·exact bQ.refl
  ·exact bQ.refl
 ·exact bQ.refl
def Kq(a:PV)(c:EV)(E:b_):bQ P (bg E) (bg (Sh a c E)):=by
 unfold Sh;split
 ·split
  ·split
   ·unfold ach
    split
    ·exact gQ _ _ _
    ·exact bQ.refl
   ·exact bQ.refl
  ·exact bQ.refl
 ·exact bQ.refl
def Ic(a:Do (Nat×PO))(i:Nat):∀(b:Do PV) (j:Nat) (E:b_),bQ P (bg E) (bg (EW a i j b E))
 |[],_,_=>bQ.refl
 |p::b,j,E=>((Kq p _ E).trans (acn a i j p _)).trans (Ic a i b (j+1) _)
def Ie(a:Do (Nat×PO))(b:Nat):∀(c:Do PV) (j:Nat) (E:b_),bQ P (bg E) (bg (EX a b j c E))
 |[],_,_=>bQ.refl
 |p::c,j,E=>((Kq p _ E).trans (aco a b j p _)).trans (Ie a b c (j+1) _)
def E2(k p:Nat)(E:b_):bQ P (bg E) (bg (cond (beq k p) E (eX k p E))):=E1 bQ.refl (gQ _ _ E)
def acp(i j:Nat)(a:PV)(E:b_):bQ P (bg E) (bg (Nk i j a E)):=by
 unfold Nk;split
 ·split
  ·split
   ·exact E2 _ _ E
   ·exact bQ.refl
  ·split
   ·exact E2 _ _ E
   ·exact bQ.refl
  ·split
   ·exact E2 _ _ E
   ·exact bQ.refl
  ·exact bQ.refl
 ·exact bQ.refl
def Ig(i:Nat):∀(a:Do PV) (j:Nat) (E:b_),bQ P (bg E) (bg (Ko i j a E))
 |[],_,_=>bQ.refl
 |p::a,j,E=>(acp i j p E).trans (Ig i a (j+1) _)
def No(a:Do (Nat×PO)):∀(t:Do (Nat×PV)) (E:b_),bQ P (bg E) (bg (EY a t E))
 |[],_=>bQ.refl
 |(i,b)::t,E=>by
  refine bQ.trans ?_ (No a t _);split
  ·exact Ic a i _ 0 E
  ·exact Ig i _ 0 E
  ·exact(Kq _ _ E).trans (Nn a i _ _)
def acq(k p:Nat)(E:b_):bQ P (bg E) (bg (Nl k p E)):=by
 unfold Nl;split
 ·exact E1 bQ.refl (gQ _ _ E)
 ·exact bQ.refl
def Np(a:Do (Nat×PO)):∀(h:Do (Nat×PO)) (E:b_),bQ P (bg E) (bg (EZ a h E))
 |[],_=>bQ.refl
 |(k,o)::h,E=>by
  refine bQ.trans ?_ (Np a h _);split
  ·exact Ie a k _ 0 E
  ·exact acq k _ E
  ·exact bQ.refl
end
def E3:Do (Nat×PV)->Do EV->Do (Nat×EV)×Do EV
 |[],a=>([],a)
 |(i,p)::t,a=>((i,(fL p a).1)::(E3 t (fL p a).2).1,(E3 t (fL p a).2).2)
def acr(c:Do (Nat×EV)):Do (Nat×PV)->At (Do EV)
 |[]=>some []
 |(i,p)::t=>match EI p (cy c i)with
  |some a=>match acr c t with
   |some b=>some (a++b)
   |none=>none
  |none=>none
def aie(c:eS):Do (Nat×PO)->At (Do EV)
 |[]=>some []
 |(k,p)::h=>match bx c k with
  |some o=>match ah3 p o with
   |some a=>match aie c h with
    |some b=>some (a++b)
    |none=>none
   |none=>none
  |none=>none
def UA{g:Do (Nat×EV)}:∀(t:Do (Nat×PV)) {c:Do EV} (rest:Do EV),acr g t=some c->(E3 t (c++rest)).2=rest/\∀i,Wk (enc (cy g i)) (enc (cy (E3 t (c++rest)).1 i))
 |[],c,rest,h=>by
  simp only[acr,aur]at h;subst h;exact⟨rfl,λi=>Wk.un⟩
 |(i,p)::t,c,rest,h=>by
  simp only[acr]at h;split at h
  ·rename_i a k
   split at h
   ·rename_i b l
    cases h;have d:=Uu p (b++rest) k;have e:=UA t rest l;simp only[E3,auV,d.1];refine⟨e.1,λj=>?_⟩;simp only[cy];by_cases f:j=i
    ·subst f;rw[auX];exact d.2
    ·rw[iQ f];exact e.2 j
   ·cases h
  ·cases h
def UB{g:eS}:∀(t:Do (Nat×PO)) {f:Do EV} (rest:Do EV),aie g t=some f->
 ∀k d,bx (r4 t (f++rest)) k=some d->∃o,bx g k=some o/\∀Rd e w,OR Rd e w k (bU o)->OR Rd e w k (bU d)
 |[],f,rest,h,k,d,c=>by cases c
 |(i,p)::t,f,rest,h,k,d,c=>by
  simp only[aie]at h;split at h
  ·rename_i o s
   split at h
   ·rename_i a q
    split at h
    ·rename_i b r
     cases h;obtain⟨l,u,m,n⟩:=Uv p (b++rest) q;simp only[r4,auV,l,m,bx]at c;by_cases j:k=i
     ·subst j
      rw[auX]at c;cases c;exact⟨o,s,λRd e w=>n Rd e w k⟩
     ·rw[iQ j]at c
      exact UB t rest r k d c
    ·cases h
   ·cases h
  ·cases h
structure PS where
 t:List (Nat×PV)
 h:List (Nat×PO)
 c:List Sc
def eY(n:Nat)(a:PS)(x:kf a.c):b_:=⟨n,(E3 a.t (h_ a.c x)).1,r4 a.h (E3 a.t (h_ a.c x)).2⟩
def qg(a:Do (Nat×EV)):Do (Nat×PV)->Do (Nat×EV)
 |[]=>[]
 |(i,_)::t=>(i,cy a i)::qg a t
def canon(c:PS)(E:b_):At (kf c.c):=
 match acr (EZ c.h c.h (EY c.h c.t ⟨E.n,qg E.t c.t,E.h⟩)).t c.t with
 |some a=>match aie (EZ c.h c.h (EY c.h c.t ⟨E.n,qg E.t c.t,E.h⟩)).h c.h with
  |some b=>vd c.c (a++b)
  |none=>none
 |none=>none
def E4(a:Do (Nat×EV)):∀(t:Do (Nat×PV)) (i:Nat),cy (qg a t) i=cy a i\/cy (qg a t) i=.un
 |[],i=>.inr rfl
 |(j,p)::t,i=>by
  simp only[qg,cy];by_cases h:i=j
  ·subst h;rw[auX];exact .inl rfl
  ·rw[iQ h];exact E4 a t i
def aif(i k p:Nat)(E:b_):(Ng i k p E).n=E.n:=by
 unfold Ng;have c:∀(b:In) (x y:b_),x.n=E.n->y.n=E.n->(cond b x y).n=E.n:=λb x y e f=>by cases b<;>assumption
 have d:∀a b:Nat,(eX a b E).n=E.n:=λa b=>by unfold eX;exact c _ _ _ rfl rfl
 split
 ·exact c _ _ _ (d _ _) rfl
 ·exact d _ _
def aih(b j k p:Nat)(e:EQ)(f:Do EV)(E:b_):(Nh b j k p e f E).n=E.n:=by
 unfold Nh;have c:∀(b:In) (x y:b_),x.n=E.n->y.n=E.n->(cond b x y).n=E.n:=λb x y g h=>by cases b<;>assumption
 have d:∀a b:Nat,(eX a b E).n=E.n:=λa b=>by unfold eX;exact c _ _ _ rfl rfl
 split
 ·exact c _ _ _ (d _ _) rfl
 ·exact d _ _
def UC(e:Do (Nat×PO))(i:Nat)(f:PV)(E:b_):(Ib e i f E).n=E.n:=by
 unfold Ib;have c:∀(b:In) (x y:b_),x.n=E.n->y.n=E.n->(cond b x y).n=E.n:=λb x y g h=>by cases b<;>assumption
 have d:∀a b:Nat,(eX a b E).n=E.n:=λa b=>by unfold eX;exact c _ _ _ rfl rfl
 repeat' (first|rfl|exact d _ _|exact c _ _ _ rfl rfl|exact c _ _ _ rfl (d _ _)|exact c _ _ _ rfl (aif _ _ _ _)|split)
def aii(e:Do (Nat×PO))(i j:Nat)(f:PV)(E:b_):(Ni e i j f E).n=E.n:=by
 unfold Ni;have c:∀(b:In) (x y:b_),x.n=E.n->y.n=E.n->(cond b x y).n=E.n:=λb x y g h=>by cases b<;>assumption
 have d:∀a b:Nat,(eX a b E).n=E.n:=λa b=>by unfold eX;exact c _ _ _ rfl rfl
 repeat' (first|rfl|exact d _ _|exact c _ _ _ rfl rfl|exact c _ _ _ rfl (d _ _)|split)
def aij(e:Do (Nat×PO))(i j:Nat)(f:PV)(E:b_):(Nj e i j f E).n=E.n:=by
 unfold Nj;have c:∀(b:In) (x y:b_),x.n=E.n->y.n=E.n->(cond b x y).n=E.n:=λb x y g h=>by cases b<;>assumption
 have d:∀a b:Nat,(eX a b E).n=E.n:=λa b=>by unfold eX;exact c _ _ _ rfl rfl
 repeat' (first|rfl|exact d _ _|exact c _ _ _ rfl rfl|exact c _ _ _ rfl (d _ _)|exact c _ _ _ rfl (aih _ _ _ _ _ _ _)|split)
def Si(a:PV)(c:EV)(E:b_):(Sh a c E).n=E.n:=by
 unfold Sh;split
 ·split
  ·split
   ·unfold ach
    split
    ·unfold eX;cases(blt _ 4294967296 && blt _ 4294967296)<;>rfl
    ·rfl
   ·rfl
  ·rfl
 ·rfl
def Nq(b:Do (Nat×PO))(i:Nat):∀(a:Do PV) (j:Nat) (E:b_),(EW b i j a E).n=E.n
 |[],_,_=>rfl
 |p::a,j,E=>by rw[EW,Nq b i a,aii,Si]
def Nr(b:Do (Nat×PO))(i:Nat):∀(a:Do PV) (j:Nat) (E:b_),(EX b i j a E).n=E.n
 |[],_,_=>rfl
 |p::a,j,E=>by rw[EX,Nr b i a,aij,Si]
def Kr(k p:Nat)(E:b_):(cond (beq k p) E (eX k p E)).n=E.n:=by
 cases beq k p with
 |true=>rfl
 |false=>
  show(eX k p E).n=E.n;unfold eX;cases(blt k 4294967296 && blt p 4294967296)<;>rfl
def aik(i j:Nat)(a:PV)(E:b_):(Nk i j a E).n=E.n:=by
 unfold Nk;split
 ·split
  ·split
   ·exact Kr _ _ E
   ·rfl
  ·split
   ·exact Kr _ _ E
   ·rfl
  ·split
   ·exact Kr _ _ E
   ·rfl
  ·rfl
 ·rfl
def Ns(i:Nat):∀(a:Do PV) (j:Nat) (E:b_),(Ko i j a E).n=E.n
 |[],_,_=>rfl
 |p::a,j,E=>(Ns i a (j+1) _).trans (aik i j p E)
def UD(a:Do (Nat×PO)):∀(t:Do (Nat×PV)) (E:b_),(EY a t E).n=E.n
 |[],_=>rfl
 |(i,b)::t,E=>by
  refine(UD a t _).trans ?_;cases b with
  |ag l=>exact Nq a i _ 0 E
  |cl d e c=>exact Ns i _ 0 E
  |_=>exact(UC a i _ _).trans (Si _ _ E)
def UE(a:Do (Nat×PO)):∀(t:Do (Nat×PO)) (E:b_),(EZ a t E).n=E.n
 |[],_=>rfl
 |(i,c)::t,E=>by
  refine(UE a t _).trans ?_;cases c with
  |box _ l=>exact Nr a i _ 0 E
  |nr t r b=>
   cases b with
   |none=>rfl
   |some q=>
    obtain⟨s,p⟩:=q;show(Nl i p E).n=E.n;unfold Nl;split
    ·rename_i j _
     cases beq j p with
     |true=>rfl
     |false=>
      show(eX j p E).n=E.n;unfold eX;cases(blt j 4294967296 && blt p 4294967296)<;>rfl
    ·rfl
  |_=>rfl
def acs{P:Fd}{c:PS}{x:kf c.c}(h:canon c u=some x):bQ P (bg u) (bg (eY u.n c x)):=by
 unfold canon at h;have q:bQ P (bg u) (bg ⟨u.n,qg u.t c.t,u.h⟩):=by
  refine bQ.wk (λi=>?_) λk n d=>⟨n,d,λ_ _ _ h=>h⟩;rw[cc,cc];rcases E4 u.t c.t i with h|h
  ·rw[h];exact Wk.refl _
  ·rw[h];exact Wk.un
 have f:=q.trans ((No (P:=P) c.h c.t _).trans (Np c.h c.h _));have e:(EZ c.h c.h (EY c.h c.t ⟨u.n,qg u.t c.t,u.h⟩)).n=u.n:=by rw[UE,UD]
 generalize EZ c.h c.h (EY c.h c.t ⟨u.n,qg u.t c.t,u.h⟩)=p at h f e;split at h
 ·rename_i a t
  split at h
  ·rename_i b v
   have j:=xH h;have m:=UA c.t b t;have g:=UB c.h [] v;rw[au_]at g;refine f.trans ?_;obtain⟨z,A,y⟩:=p;simp only at e;subst e;refine bQ.wk (λi=>?_) λk n d=>?_
   ·rw[cc,cc]
    simp only[eY,<-j];exact m.2 i
   ·rw[cz]at d
    obtain⟨w,l,rfl⟩:=auY.1 d;simp only[eY,<-j,m.1]at l;obtain⟨o,r,s⟩:=g k w l;exact⟨bU o,by rw[cz,r];rfl,s⟩
  ·cases h
 ·cases h
def acu:eS->bX
 |[]=>none
 |(k,o)::h=>match o with
  |some (.nr _ _ _ _)=>some k
  |_=>acu h
def acv:Do (Nat×PO)->Do (Nat×PO)->At (Nat×EQ)
 |_,[]=>none
 |a,(_,o)::h=>match o with
  |.nr _ _ (some (s,p))=>match acg a p with
   |some (.arr b _ _)=>some (s,b)
   |_=>none
  |_=>acv a h
def akv(b:Nat)(t a:EQ)(r:Sc)(c:Do (Do r.c9))(i:Int)(E:b_):b_:=
 ⟨E.n,vf (5000000+b) E.t,(b,some (.nr t r c (some (i,some (5000000+b)))))::(5000000+b,some (.arr a r [] true))::sa (5000000+b) E.h⟩
def alQ(e:PS)(E:b_){R:Type}(k:b_->At R):At R:=
 match acu E.h with
 |none=>k E
 |some b=>match bx E.h b with
  |some (.nr t r a d)=>match acv e.h e.h with
   |none=>match d with
    |some (i,some j)=>match bx E.h j with
     |some (.arr c f g wr)=>match eD (.sl f) (.sl r) g with
      |some h=>aW (ba a i) λ_=>cond (mD (show Do r.c9 from h)) none (k ⟨E.n,E.t,(b,some (.nr t r (a.set i.toNat h) none))::(j,some (.arr c f g false))::E.h⟩)
      |none=>none
     |_=>none
    |_=>k E
   |some (s,c)=>match d with
    |none=>match cy E.t s with
     |.sc (.i _) i=>cond (blt (5000000+b) 4294967296) (aW (ba a i) λx=>cond (mD x) (k (akv b t c r a i E)) none) none
     |_=>k E
    |_=>k E
  |_=>k E
def ail{P:Fd}{G:PS}{R:Type}{k:b_->At R}{r:R}(h:alQ G u k=some r):∃f,bQ P (bg u) (bg f)/\f.n=u.n/\k f=some r:=by
 unfold alQ at h;split at h
 ·exact⟨u,bQ.refl,rfl,h⟩
 ·rename_i b _
  split at h
  ·rename_i t c d H q
   have n:=gR q;split at h
   ·split at h
    ·rename_i i j
     split at h
     ·rename_i o K m wr A
      split at h
      ·rename_i e F
       obtain⟨p,l⟩:=dp F;cases p;have l:e=m:=l;subst l;obtain⟨x,a,h⟩:=bq h;obtain⟨z,a⟩:=eJ a;rcases bA h with⟨_,h⟩|⟨D,h⟩
       ·cases h
       refine⟨_,?_,by rfl,h⟩;have C:i.toNat<d.length:=(aus.1 a).1;have:=bQ.alP (P:=P) (st:=bg u) b i.toNat (k:=j) n (by
        simp only[wB,nrH];rw[ay8 (by simpa using C)]) (gR A)
       refine this.trans (bQ.of_eq ?_);have g:(wB c d (some (i,some j))).set i.toNat (.sl false c.w (List.map (bJ c) e))=wB c (d.set i.toNat e) none:=by
        simp only[wB,ayA,awl];congr 1;cases e with
        |nil=>cases D
        |cons y m=>rfl
       simp only[bg,bs,Option.map,bU,g]
      ·cases h
     ·cases h
    ·exact⟨u,bQ.refl,rfl,h⟩
   ·rename_i s o _
    split at h
    ·split at h
     ·rename_i J i I
      obtain⟨v,h⟩:=aY h;obtain⟨x,a,h⟩:=bq h;obtain⟨z,a⟩:=eJ a;obtain⟨w,h⟩:=aY h;refine⟨_,?_,by rfl,h⟩;have E:x=[]:=by cases x with
       |nil=>rfl
       |cons y m=>cases w
      subst E;have B:5000000+b<4294967296:=auw v;have:=bQ.aoB (P:=P) (st:=bg u) b i.toNat (5000000+b) B o c.w n (by
       simp only[wB,auM,a];rfl) bv
      refine this.trans (bQ.of_eq ?_);have g:((wB c d none).map (AV.kill (5000000+b))).set i.toNat (.ow (5000000+b))=wB c d (some (i,some (5000000+b))):=by
       rw[<-Nf];rfl
      simp only[akv,bg,bs,Option.map,bU,jm,iu,g];rfl
     ·exact⟨u,bQ.refl,rfl,h⟩
    ·exact⟨u,bQ.refl,rfl,h⟩
  ·exact⟨u,bQ.refl,rfl,h⟩
def aoG:Do (Nat×PO)->In
 |[]=>false
 |(_,o)::h=>match o with
  |.nr _ _ _=>true
  |_=>aoG h
def alR(c:PS)(E:b_)(k:b_->At b):At b:=match acu E.h with
 |none=>k E
 |some a=>cond (aoG c.h) (k E) (match bx E.h a with
  |some (.nr t r d none)=>k ⟨E.n,E.t,(a,some (.arr t (.sl r) d true))::E.h⟩
  |_=>k E)
def aim{P:Fd}{p:PS}{k:b_->At b}{r:b}(h:alR p u k=some r):∃f,bQ P (bg u) (bg f)/\f.n=u.n/\k f=some r:=by
 unfold alR at h;split at h
 ·exact⟨u,bQ.refl,rfl,h⟩
 ·rename_i a _
  rcases bA h with⟨_,h⟩|⟨_,h⟩
  ·exact⟨u,bQ.refl,rfl,h⟩
  split at h
  ·rename_i t g i m
   have n:=gR m;refine⟨_,?_,by rfl,h⟩;have q:bQ P (bg u) ⟨u.n,fI u.t,(a,some (.nr t (i.map (Y1 g))))::bs u.h⟩:=bQ.same (λ_=>rfl) λj=>by
    by_cases l:j=a
    ·subst l
     rw[bf];exact n.symm
    ·rw[bc l]
   refine q.trans (bQ.ahS λRd e w o=>?_);refine(o.aol (λc d=>?_) (λc d=>?_) true).xC (R6 g i) (λc d=>?_)
   ·obtain⟨x,_,rfl⟩:=auD.1 d
    cases x<;>rfl
   ·obtain⟨x,_,rfl⟩:=auD.1 d
    cases x<;>rfl
   ·exact eO (.sl g) i c d
  ·exact⟨u,bQ.refl,rfl,h⟩
def je(a:PS)(E:b_)(k:kf a.c->At b):At b:=alQ a E λc=>alR a c λc=>aW (canon a c) k
def gY{P:Fd}{a:PS}{k:kf a.c->At b}{r:b}(h:je a u k=some r):∃x,bQ P (bg u) (bg (eY u.n a x))/\k x=some r:=by
 obtain⟨n,c,f,i⟩:=ail (P:=P) h;obtain⟨m,d,e,g⟩:=aim (P:=P) i;obtain⟨x,l,j⟩:=bq g;have:=acs (P:=P) l;rw[e,f]at this;exact⟨x,c.trans (d.trans this),j⟩
variable{M:Code}
def UF:IO->IO->In
 |.normal,.normal=>true
 |.ret,.ret=>true
 |.exit i,.exit j=>beq i j
 |_,_=>false
def Nt{x y:IO}(h:UF x y=true):x=y:=by
 unfold UF at h;split at h
 ·rfl
 ·rfl
 ·rw[auu h]
 ·cases h
@[reducible] def HD:Do (IO×PS)->Type
 |[]=>Unit
 |[o]=>kf o.2.c
 |o::p::r=>Sum (kf o.2.c) (HD (p::r))
def BP:(c:Do (IO×PS))->IO->b_->At (HD c)
 |[],_,_=>none
 |[o],x,E=>cond (UF o.1 x) (je o.2 E some) none
 |o::p::r,x,E=>cond (UF o.1 x) (je o.2 E λa=>some (.inl a)) (match BP (p::r) x E with
  |some b=>some (.inr b)
  |none=>none)
def Nu(n:Nat):(c:Do (IO×PS))->HD c->{R:Type}->(IO->b_->At R)->At R
 |[],_,_,_=>none
 |[o],v,_,k=>k o.1 (eY n o.2 v)
 |o::p::r,v,_,k=>match v with
  |.inl a=>k o.1 (eY n o.2 a)
  |.inr b=>Nu n (p::r) b k
inductive Pl where
 |z
 |n (a b:Pl)
 |join (ins:PS) (outs:List (Exit×PS)) (p:Pl)
 |loop (ins:PS) (outs:List (Exit×PS)) (p:Pl)
def Pl.l:Pl->Pl
 |.n a _=>a
 |_=>.z
def Pl.r:Pl->Pl
 |.n _ b=>b
 |_=>.z
abbrev Ho:=Pl->b_->(R:Type)->(IO->b_->At R)->At R
def akw(f:Ho)(n:Nat)(a:PS)(b:Do (IO×PS))(p:Pl):Nat->kf a.c->At (HD b)
 |0,_=>none
 |_+1,v=>f p (eY n a v) _ (BP b)
def E7(f:Ho)(n:Nat)(a:PS)(b:Do (IO×PS))(p:Pl):Nat->kf a.c->At (HD b)
 |0,_=>none
 |m+1,v=>f p (eY n a v) _ λx E=>match x with
  |.normal=>je a E (E7 f n a b p m)
  |x=>BP b x E
def acw(N:Nat)(c:Ho):Ho:=λd E _ k=>match d with
 |.loop a b p=>je a E λv=>aW (E7 c E.n a b p N v) λo=>Nu E.n b o k
 |_=>none
def Ih(N:Nat)(f:Ho):Ho:=λa E _ k=>match a with
 |.join b c p=>je b E λv=>aW (akw f E.n b c p N v) λo=>Nu E.n c o k
 |a=>f a E _ k
def acx(i:Nat):bp->Nat
 |[]=>i
 |o::l=>match o.dst with
  |some d=>cond (beq d i) (match o.op with
   |.move (.tmp j)=>j
   |_=>i) (acx i l)
  |none=>acx i l
def qh(a:bp):bp->a_
 |[]=>[]
 |o::l=>match o.op with
  |.slice _ (.tmp i) _ _ _=>acx i a::qh a l
  |_=>qh a l
def Sj:a_->a_
 |[]=>[]
 |i::l=>cond (l.any (beq i)) (i::Sj l) (Sj l)
def ain:a_->b_->b_
 |[],E=>E
 |i::l,E=>ain l (Ib [] i (.h .u) E)
def Nv(l:bp)(E:b_):b_:=ain (Sj (qh l l)) E
section
variable{P:Fd}
def uw:∀(l:a_) (E:b_),bQ P (bg E) (bg (ain l E))/\(ain l E).n=E.n
 |[],E=>⟨bQ.refl,rfl⟩
 |i::l,E=>⟨bQ.trans (Nn [] i _ E) (uw l _).1,(uw l _).2.trans (UC [] i _ E)⟩
end
def uY:Code->In
 |.seq a b=>uY a && uY b
 |.cond _ a b=>uY a && uY b
 |.block _ a=>uY a
 |.loop a=>uY a
 |.scope a=>uY a
 |.rangeFunc _ _ _ _=>false
 |_=>true
section
variable(T:EQ->bu)(CT:Do iS)(N:Nat)
noncomputable def ra(c:Code):Ho:=
 Code.rec (motive:=λ_=>Ho)
  (λ_ E _ k=>k .normal E)
  (λ_ f h=>Ih N λ_ E _ k=>cond h (Hn T CT f.toList (Nv f.toList E) f.toList [] (k .normal)) (xf T CT f.toList f.toList E (k .normal)))
  (λ_ _ d g=>Ih N λa E _ k=>d a.l E _ λx e=>match x with
   |.normal=>g a.r e _ k
   |x=>k x e)
  (λc _ _ d g=>Ih N λa E _ k=>match eE (cy E.t) c with
   |.sc .b b=>match c with
    |.tmp i=>cond b (d a.l ⟨E.n,(i,.sc .b true)::E.t,E.h⟩ _ k) (g a.r ⟨E.n,(i,.sc .b false)::E.t,E.h⟩ _ k)
    |_=>cond b (d a.l E _ k) (g a.r E _ k)
   |_=>none)
  (λid _ d=>Ih N λa E _ k=>d a.l E _ λx e=>match x with
   |.exit i=>cond (beq i id) (k .normal e) (k (.exit i) e)
   |x=>k x e)
  (λ_ d=>acw N d)
  (λ_ _ _ _ _ _=>λ_ _ _ _=>none)
  (λid _ E _ k=>k (.exit id) E)
  (λ_ d=>λa E _ k=>d a.l E _ λx e=>match x with
   |.goto _=>none
   |x=>k x e)
  (λ_=>λ_ E _ k=>k .normal E)
  (λ_=>λ_ _ _ _=>none)
  (λ_ E _ k=>k .ret E)
  (λ_=>λ_ _ _ _=>none)
  c
end
section
variable{P:Fd}{T:EQ->bu}{CT:Do iS}{N:Nat}
def Sl(t:In)(P:Fd)(c:Code)(f:Ho):Prop:=∀(b:Pl) (E:b_) (R:Type) (k:IO->b_->At R) (r:R),f b E R k=some r->AC t P c (bg E) λx s=>∃a,s=bg a/\a.n=E.n/\k x a=some r
def E8{n:Nat}:∀{os:Do (IO×PS)} {o:HD os} {R:Type} {k:IO->b_->At R} {r:R},Nu n os o k=some r->∀{x:IO} {E:b_},BP os x E=some o->E.n=n->∃f,bQ P (bg E) (bg f)/\f.n=n/\k x f=some r
 |[],o,R,k,r,h,x,E,c,d=>by cases c
 |[j],o,R,k,r,h,x,E,c,d=>by
  simp only[BP]at c;obtain⟨e,a⟩:=aY c;have:=Nt e;subst this;obtain⟨y,this,g⟩:=gY (P:=P) a;cases g;rw[d]at this;exact⟨_,this,rfl,h⟩
 |j::p::l,o,R,k,r,h,x,E,c,d=>by
  simp only[BP]at c;rcases bA c with⟨e,a⟩|⟨e,a⟩
  ·have:=Nt e
   subst this;obtain⟨y,this,g⟩:=gY (P:=P) a;cases g;rw[d]at this;exact⟨_,this,rfl,h⟩
  ·split at a
   ·rename_i b i
    cases a;exact E8 (os:=p::l) h i d
   ·cases a
def Sl.out{E0 E:b_}{c:Do (IO×PS)}{o:HD c}{k:IO->b_->At b}{r:b}(h:AC g P M (bg E) λx s=>∃a,s=bg a/\a.n=E.n/\BP c x a=some o)(d:Nu E.n c o k=some r):
 AC g P M (bg E) λx s=>∃a,bQ P s (bg a)/\a.n=E.n/\k x a=some r:=by
 refine h.mono λx s=>?_;rintro⟨a,rfl,e,f⟩;exact E8 d f e
def AC.leK{c:IO->St->Prop}(h:AC g P M B λx s=>∃b,bQ P s b/\c x b):AC g P M B c:=by
 intro r C k e a w Q z o v;refine h r C k e a w Q z o λx s A j d n l f i p t=>?_;obtain⟨b,u,y⟩:=A;obtain⟨m,q⟩:=u j d l f i p;exact v x b y j d n m f i q t
def xL{f:Ho}(b:Sl g P M f):Sl g P M (Ih N f):=by
 intro w E R k r h;unfold Ih at h;split at h
 ·rename_i d u p
  obtain⟨v,m,i⟩:=gY (P:=P) h;obtain⟨o,c,j⟩:=bq i;cases N with
  |zero=>cases c
  |succ a=>
   have:=b p (eY E.n d v) _ _ _ c;have l:=Sl.out (E:=eY E.n d v) (E0:=E) (k:=k) (r:=r) this j;refine AC.le m (AC.leK (l.mono λx s=>?_));rintro⟨e,q,t,n⟩;exact⟨_,q,e,rfl,t,n⟩
 ·exact b _ E R k r h
def acy{f:Ho}(r:Sl g P M f)(n:Nat)(b:PS)(e:Do (IO×PS))(p:Pl)(o:HD e)(m:Nat)(v:kf b.c)(h:E7 f n b e p m v=some o):
 AC g P (.loop M) (bg (eY n b v)) λx s=>∃a,s=bg a/\a.n=n/\BP e x a=some o:=by
 refine AC.loop (α:={q:Nat×kf b.c//E7 f n b e p q.1 q.2=some o}) (λq=>bg (eY n b q.1.2)) (λq=>q.1.1) ⟨(m,v),h⟩ bQ.refl ?_;rintro⟨⟨m,v⟩,h⟩;cases m with
 |zero=>cases h
 |succ m=>
  simp only[E7]at h;have:=r p (eY n b v) _ _ _ h;refine AC.mono this λx s=>?_;rintro⟨a,rfl,d,c⟩;cases x with
  |normal=>
   obtain⟨t,j,k⟩:=gY (P:=P) c;rw[d]at j;exact⟨⟨(m,t),k⟩,j,axI m⟩
  |_=>exact⟨a,rfl,d,c⟩
def Sm{ops:bp}:∀{l:bp} {E:b_} {n:Nat} {R:Type} {k:b_->At R},E.n=n->xf T CT ops l E (λa=>cond (beq a.n n) (k a) none)=xf T CT ops l E k
 |[],E,n,R,k,f=>by simp only[xf,f,auX,auQ]
 |o::l,E,n,R,k,f=>by
  subst f;have step:∀(b:b_),b.n=E.n->qe T CT o b (λa=>xf T CT ops l a λa=>cond (beq a.n E.n) (k a) none)=qe T CT o b (λa=>xf T CT ops l a k):=by
   intro b d;unfold qe;have e:=λ(t:Do (Nat×EV)) (h:eS)=>Sm (ops:=ops) (l:=l) (k:=k) (E:=⟨b.n,t,h⟩) d;split<;>simp only[e]
  have skip:∀(b:b_),b.n=E.n->(xf T CT ops l (ER o.dst b) λa=>cond (beq a.n E.n) (k a) none)=xf T CT ops l (ER o.dst b) k:=λb d=>Sm (E:=ER o.dst b) d;simp only[xf,exG];split
  ·exact step E rfl
  ·split
   ·split
    ·rename_i s _ _ c _
     rw[step ⟨E.n,(s,.sc .b true)::E.t,E.h⟩ rfl,step ⟨E.n,(s,.sc .b false)::E.t,E.h⟩ rfl,skip ⟨E.n,(s,.sc .b true)::E.t,E.h⟩ rfl,skip ⟨E.n,(s,.sc .b false)::E.t,E.h⟩ rfl]
    ·rw[skip E rfl]
    ·rfl
   ·rfl
def akx{ops l:bp}{E:b_}{k:b_->At b}{r:b}(h:xf T CT ops l E k=some r):xf T CT ops l E (λa=>cond (beq a.n E.n) (k a) none)=some r:=by rw[Sm rfl];exact h
def acz{l:bp}{E:b_}:∀{rest:bp} {done:Do pL} {R:Type} {k:b_->At R},Hn T CT l E rest done (λa=>cond (beq a.n E.n) (k a) none)=Hn T CT l E rest done k
 |[],done,R,k=>by simp only[Hn,auX,auQ]
 |o::rest,done,R,k=>by
  simp only[Hn,acz (rest:=rest)]
def aoI{l c:bp}{done:Do pL}{k:b_->At b}{r:b}(h:Hn T CT l u c done k=some r):Hn T CT l u c done (λa=>cond (beq a.n u.n) (k a) none)=some r:=by rw[acz];exact h
def acA(J:Place P T CT)(c:Code):∀t,(t=false->uY c=true)->Sl t P c (ra T CT N c):=by
 induction c with
 |skip=>
  intro t _ j E R k r h;exact AC.skip ⟨E,rfl,rfl,h⟩
 |region id w H=>
  intro t _;refine xL (f:=λ_ E _ k=>cond H (Hn T CT w.toList (Nv w.toList E) w.toList [] (k .normal)) (xf T CT w.toList w.toList E (k .normal))) ?_;intro j E R k r h;have I:w=w.toList.toArray:=d5
  cases H with
  |true=>
   have:=Sf (t:=t) J (id:=id) (k:=λd=>cond (beq d.n (Nv w.toList E).n) (k .normal d) none) (l:=w.toList) (E:=Nv w.toList E) (r:=r) (by
    exact aoI h)
   rw[I];refine AC.le (uw (P:=P) (Sj (qh w.toList w.toList)) E).1 ?_;rw[show(Nv w.toList E).n=E.n from(uw (P:=P) (Sj (qh w.toList w.toList)) E).2]at this;refine this.mono λx s=>?_;rintro⟨rfl,d,rfl,m⟩;obtain⟨u,z⟩:=aY m;exact⟨d,rfl,auu u,z⟩
  |false=>
   have:=Sg (t:=t) J (id:=id) (k:=λd=>cond (beq d.n E.n) (k .normal d) none) (l:=w.toList) (E:=E) (r:=r) (akx h);rw[I];refine this.mono λx s=>?_;rintro⟨rfl,d,rfl,m⟩;obtain⟨u,z⟩:=aY m;exact⟨d,rfl,auu u,z⟩
 |seq a b q A=>
  intro t y;have q:=q t λe=>by(have:=y e;simp only[uY,aup]at this;exact this.1)
  have A:=A t λe=>by(have:=y e;simp only[uY,aup]at this;exact this.2)
  clear y;refine xL (f:=λj E _ k=>ra T CT N a j.l E _ λx d=>match x with
   |.normal=>ra T CT N b j.r d _ k
   |x=>k x d) ?_
  intro j E R k r h;refine AC.seq ((q j.l E R _ r h).mono λx s=>?_);rintro⟨d,rfl,n,m⟩;cases x with
  |normal=>
   refine(A j.r d R k r m).mono λx s=>?_;rintro⟨L,rfl,S,O⟩;exact⟨L,rfl,S.trans n,O⟩
  |_=>exact⟨d,rfl,n,m⟩
 |cond c a b q A=>
  intro t y;have q:=q t λe=>by(have:=y e;simp only[uY,aup]at this;exact this.1)
  have A:=A t λe=>by(have:=y e;simp only[uY,aup]at this;exact this.2)
  clear y;refine xL (f:=λj E _ k=>match eE (cy E.t) c with
   |.sc .b F=>match c with
    |.tmp i=>cond F (ra T CT N a j.l ⟨E.n,(i,.sc .b true)::E.t,E.h⟩ _ k) (ra T CT N b j.r ⟨E.n,(i,.sc .b false)::E.t,E.h⟩ _ k)
    |_=>cond F (ra T CT N a j.l E _ k) (ra T CT N b j.r E _ k)
   |_=>none) ?_
  intro j E R k r h;simp only at h;split at h
  ·rename_i F C
   have D:=(Sk.enc E).is C d8;split at h
   ·rename_i i
    rcases bA h with⟨B,u⟩|⟨B,u⟩
    ·subst B
     exact AC.Mu D (AC.le (bQ.Na (P:=P) C) (q j.l _ R k r u))
    ·subst B
     exact AC.Mw D (AC.le (bQ.Na (P:=P) C) (A j.r _ R k r u))
   ·rcases bA h with⟨B,u⟩|⟨B,u⟩
    ·subst B
     exact AC.Mu D (q j.l _ R k r u)
    ·subst B
     exact AC.Mw D (A j.r _ R k r u)
  ·cases h
 |block id a q=>
  intro t y;have q:=q t y;refine xL (f:=λj E _ k=>ra T CT N a j.l E _ λx d=>match x with
   |.exit i=>cond (beq i id) (k .normal d) (k (.exit i) d)
   |x=>k x d) ?_
  intro j E R k r h;refine AC.block ((q j.l E R _ r h).mono λx s=>?_);rintro⟨d,rfl,n,m⟩;cases x with
  |exit i=>
   simp only[As];rcases bA m with⟨u,z⟩|⟨u,z⟩
   ·rw[auo (auu u)]
    exact⟨d,rfl,n,z⟩
   ·rw[aun (λe=>by rw[e,auX]at u;cases u)]
    exact⟨d,rfl,n,z⟩
  |_=>exact⟨d,rfl,n,m⟩
 |loop a q=>
  intro t y;have q:=q t y;intro j E R k r h;change acw N (ra T CT N a) j E R k=some r at h;unfold acw at h;split at h
  ·rename_i K V p
   obtain⟨v,C,u⟩:=gY (P:=P) h;obtain⟨o,U,z⟩:=bq u;have:=acy q E.n K V p o N v U;have M:=Sl.out (E:=eY E.n K v) (E0:=E) (k:=k) (r:=r) this z;refine AC.le C (AC.leK (M.mono λx s=>?_));rintro⟨d,Q,n,m⟩;exact⟨_,Q,d,rfl,n,m⟩
  ·cases h
 |exit id=>
  intro t _ j E R k r h;exact AC.exit ⟨E,rfl,rfl,h⟩
 |scope a q=>
  intro t y;have q:=q t y;intro j E R k r h;refine AC.scope ((q j.l E R _ r h).mono λx s=>?_);rintro⟨d,rfl,n,m⟩;cases x with
  |goto l=>cases m
  |_=>exact⟨λl e=>(by cases e),d,rfl,n,m⟩
 |label l=>
  intro t _ j E R k r h;exact AC.label ⟨E,rfl,rfl,h⟩
 |ret=>
  intro t _ j E R k r h;exact AC.ret ⟨E,rfl,rfl,h⟩
 |rangeFunc g X W cb q A=>
  intro t y j E R k r h;cases h
 |_=>
  intro t _ j E R k r h;cases h
end
variable{O:Func}{c:Fd}
def wH:Nat->Do EV->Do (Nat×EV)
 |_,[]=>[]
 |i,c::a=>(i,c)::wH (i+1) a
def k_:∀(a:Do EV) (i:Nat),fI (wH i a)=oU i (bS a)
 |[],_=>rfl
 |c::a,i=>by simp only[wH,fI,bS,oU,k_ a (i+1)]
def aio(a:PS)(x:IO)(E:b_):At (kf a.c):=match x with
 |.normal=>je a E some
 |.ret=>je a E some
 |_=>none
noncomputable def exF(T:EQ->bu)(e:Nat->Do iS)(N:Nat)(c:Code)(n:Nat)(g:Pl)(d:Do PV)(f:Do (Nat×PO))(a:Do Sc)(b:PS)(x:kf a):At (kf b.c):=
 Nat.rec (motive:=λ_=>At (kf b.c)) none (λM _=>ra T (e M) M c g ⟨n,wH 0 (da d (h_ a x)).1,r4 f (da d (h_ a x)).2⟩ _ (aio b)) N
def acB(T:EQ->bu)(h:eS)(t:EQ):EV->At EV
 |.pt j o=>match(T t).ty with
  |some (b,m)=>match bx h j with
   |some (.box c a)=>cond (!(beq c D_) && Nat.ble (o+m) a.length) (Ui b ((a.drop o).take m)) none
   |_=>none
  |none=>none
 |_=>none
def xM(T:EQ->bu)(E:b_):Do ResultVar->At (Do EV)
 |[]=>some []
 |r::d=>match r with
  |.tmp i=>match xM T E d with
   |some b=>some (cy E.t i::b)
   |none=>none
  |.cell a t=>match acB T E.h t (cy E.t a)with
   |some c=>match xM T E d with
    |some b=>some (c::b)
    |none=>none
   |none=>none
def aoJ:Do EV->EV
 |[c]=>c
 |a=>.tu a
def xN(T:EQ->bu)(E:b_)(b:Do ResultVar):EV:=match xM T E b with
 |some a=>aoJ a
 |none=>.un
def fW(a:a_):eS->eS
 |[]=>[]
 |(k,o)::h=>cond (a.contains k) ((k,o)::fW a h) (fW a h)
def gw:a_->Code->Code
 |[],c=>c
 |0::p,.seq a _=>gw p a
 |_::p,.seq _ b=>gw p b
 |0::p,.cond _ a _=>gw p a
 |_::p,.cond _ _ b=>gw p b
 |_::p,.block _ a=>gw p a
 |_::p,.loop a=>gw p a
 |_::p,.scope a=>gw p a
 |0::p,.rangeFunc _ _ a _=>gw p a
 |_::p,.rangeFunc _ _ _ b=>gw p b
 |_::_,c=>c
def eT(a:Func):Code:=match a.body with
 |some c=>c
 |none=>.skip
def acC{T:EQ->bu}(f:gG c T){p b:EV}(h:acB T u.h a p=some b):xt c (bg u) (enc p) a=some (enc b):=by
 unfold acB at h;split at h
 ·rename_i j o
  split at h
  ·rename_i k m i
   split at h
   ·rename_i l n g
    obtain⟨d,e⟩:=aY h;simp only[xt,f.ty _ _ i,enc,lK,gR g,bU,e_];simp only[aup]at d;rw[auo ⟨AA d.1,auw d.2⟩,<-mh,<-o6];exact MM e
   ·cases h
  ·cases h
 ·cases h
def xP{P:Fd}{T:EQ->bu}(d:gG P T){E:b_}:∀{f:Do ResultVar} {b:Do EV},xM T E f=some b->Ej P (bg E) f=some (bS b)
 |[],b,h=>by simp only[xM,aur]at h;subst h;rfl
 |r::f,b,h=>by
  simp only[xM]at h;split at h
  ·rename_i i
   split at h
   ·rename_i j e
    cases h;simp only[Ej,xP d e];rw[show bD (bg E).t i=enc (cy E.t i)from cc E.t i];rfl
   ·cases h
  ·rename_i a t
   split at h
   ·rename_i c k
    split at h
    ·rename_i j e
     cases h;have g:=acC d k;rw[<-show bD (bg E).t a=enc (cy E.t a)from cc E.t a]at g;simp only[Ej,xP d e,g];rfl
    ·cases h
   ·cases h
def aiq(a:Do EV):My (bS a)=enc (aoJ a):=by
 match a with
 |[]=>rfl
 |[c]=>rfl
 |c::d::a=>rfl
def BG.drop{H g:Hp}(h:BG c y D k H Q)(f:∀a ob,aZ g a=some ob->aZ H a=some ob):BG c y D k g Q:=by
 refine⟨h.1,λB Rd e w I d q=>(h.2 B Rd e w I d q).mono λx z G=>?_⟩;obtain⟨v,i,rfl,d,q⟩:=G;have r:∀b o u,bN B Rd i H z b o u->bN B Rd i g z b o u:=λb o u ⟨l,m,E⟩=>⟨l,m,λa ob F n=>E a ob (f a ob F) n⟩;exact⟨v,i,rfl,⟨d.ext,d.kg,λj ob p=>(d.ob j ob (f j ob p)).mono r,λj ob b p n=>d.base j ob b (f j ob p) n,λj s ob t b l m A C=>d.inj j s ob t b (f j ob l) (f s t m) A C,d.rL⟩,q.mono r⟩
def wJ(d:a_):∀(h:eS) (k:Nat) (o:dO),bx (fW d h) k=some o->bx h k=some o
 |[],k,o,h=>by cases h
 |(j,q)::h,k,o,c=>by
  simp only[fW]at c;simp only[bx];cases g:d.contains j with
  |true=>
   rw[g]at c;simp only[auQ,bx]at c;by_cases f:k=j
   ·subst f;rw[auX]at c⊢;exact c
   ·rw[iQ f]at c⊢;exact wJ d h k o c
  |false=>
   rw[g]at c;simp only[auv]at c;have:=wJ d h k o c;by_cases f:k=j
   ·subst f
    have n:∀(h:eS),bx (fW d h) k=none:=by
     intro h
     induction h with
     |nil=>rfl
     |cons p h l=>
      obtain⟨a,b⟩:=p;simp only[fW];cases i:d.contains a with
      |false=>exact l
      |true=>
       have m:k≠a:=λe=>by rw[<-e,g]at i;cases i
       simp only[auQ,bx,iQ m,auv];exact l
    rw[n]at c;cases c
   ·rw[iQ f];exact this
def E9:∀h:eS,fW [] h=[]
 |[]=>rfl
 |(k,o)::h=>by simp only[fW,List.contains_nil,auv,E9 h]
def E_:∀(a:Do PV) (b:Do EV),(da a b).1.length=a.length
 |[],_=>rfl
 |p::a,b=>by simp only[da,auP,E_ a]
def acD{T:EQ->bu}{m:Do iS}(t:Place c T m)(A:c.funcs[y]? =some O)(E:(O.name== "runtime.NumGoroutine")=false)(z:O.body=some M)(u:Pl)
 (i:Do EV) (l:eS) (C:i.length<=O.ntmps) (x:O.ntmps<=1000000) (n:IO->b_->At b) (e:b) (f:PS) (a:kf f.c) (K:a_)
 (B:∀q g,n q g=some e->(q=.normal\/q=.ret)/\bQ c (bg g) (bg (eY g.n f a))) (I:(xM T (eY O.ntmps f a) O.results.toList).isSome=true)
 (J:ra T m d M u ⟨O.ntmps,wH 0 i,l⟩ b n=some e):BG c y (bs l) (bS i) (bs (fW K (eY O.ntmps f a).h)) (enc (xN T (eY O.ntmps f a) O.results.toList)):=by
 refine BG.drop (H:=bs (eY O.ntmps f a).h) ?_ (λk ob j=>?_)
 ·refine BG.intro A E z (by rw[e_];exact C) x ?_
  have:=acA (N:=d) t M true (λh=>by cases h) u ⟨O.ntmps,wH 0 i,l⟩ _ _ _ J;simp only[bg,k_]at this;refine this.mono λq s=>?_;rintro⟨g,rfl,D,j⟩;obtain⟨G,r⟩:=B q g j;refine⟨G,?_⟩;rw[D]at r;obtain⟨v,p⟩:=avS.1 I;have w:=xP t.t p;refine⟨fI (eY O.ntmps f a).t,bS v,r,w,?_⟩;rw[aiq];simp only[xN,p]
 ·rw[cz]at j⊢
  obtain⟨o,F,rfl⟩:=auY.1 j;rw[wJ _ _ _ _ F];rfl
def air{T:EQ->bu}{n:Nat->Do iS}(E:∀M,d=M+1->Place c T (n M))(B:c.funcs[y]? =some O)(D:(O.name== "runtime.NumGoroutine")=false)(z:O.body.isSome=true)(r:Pl)
 (i:Do PV) (l:Do (Nat×PO)) (g:Do Sc) (e:PS) (own u:In) (m:a_) (o:(Nat.ble i.length O.ntmps && Nat.ble O.ntmps 1000000)=true) (G:∀a,(xM T (eY O.ntmps e a) O.results.toList).isSome=true) (t:own=false->l=[]/\m=[])
 (F:∀a,(!u||((xN T (eY O.ntmps e a) O.results.toList).pu && puH (fW m (eY O.ntmps e a).h)))=true)
 (M:kf g->At (kf e.c)) (w:∀x,M x=exF T n d (eT O) O.ntmps r i l g e x):
 (iS.mk y i l g (kf e.c) M (λa _ k=>k (xN T (eY O.ntmps e a) O.results.toList) (fW m (eY O.ntmps e a).h)) own u).ok c:=by
 refine⟨λp=>(t p).1,λx a j=>⟨_,_,λ_ _=>rfl,λp=>?_,λh=>?_,?_⟩⟩
 ·rw[(t p).2]
  exact E9 _
 ·have:=F a
  simp only at h;rw[h]at this;simpa using this
 obtain⟨b,s⟩:=avS.1 z;have A:eT O=b:=by simp only[eT,s]
 simp only at j⊢;rw[w,A]at j;simp only[aup]at o;cases d with
 |zero=>cases j
 |succ M=>
 change ra T (n M) M b r ⟨O.ntmps,wH 0 (da i (h_ g x)).1,r4 l (da i (h_ g x)).2⟩ _ (aio e)=some a at j;refine acD (E M rfl) B D s r (da i (h_ g x)).1 _ (by rw[E_];exact auw o.1) (auw o.2) (aio e) a e a m (λq v f=>?_) (G a) j;have h:(q=.normal\/q=.ret)/\je e v some=some a:=by
  unfold aio at f;split at f
  ·exact⟨.inl rfl,f⟩
  ·exact⟨.inr rfl,f⟩
  ·cases f
 obtain⟨h,f⟩:=h;obtain⟨I,C,H⟩:=gY (P:=c) f;cases H;exact⟨h,C⟩
def wK{T:EQ->bu}{CT:Nat->Do iS}{N:Nat}(q:∀M,Place c T (CT M))(m:c.funcs[y]? =some O)(o:(O.name== "runtime.NumGoroutine")=false)(l:O.body.isSome=true)(i:Pl)
 (g:Do PV) (e:Do (Nat×PO)) (d:Do Sc) (b:PS) (own h:In) (f:a_) (n:(Nat.ble g.length O.ntmps && Nat.ble O.ntmps 1000000)=true) (s:∀a,(xM T (eY O.ntmps b a) O.results.toList).isSome=true) (p:own=false->e=[]/\f=[])
 (r:∀a,(!h||((xN T (eY O.ntmps b a) O.results.toList).pu && puH (fW f (eY O.ntmps b a).h)))=true)
 (M:kf d->At (kf b.c)) (j:∀x,M x=exF T CT N (eT O) O.ntmps i g e d b x):
 (iS.mk y g e d (kf b.c) M (λa _ k=>k (xN T (eY O.ntmps b a) O.results.toList) (fW f (eY O.ntmps b a).h)) own h).ok c:=
 air (λM _=>q M) m o l i g e d b own h f n s p r M j
structure Ii(P:Program)(t:TypeId)(i:bu):Prop where
 ty:∀x,i.ty=some x->Rq P t=some x
 el:∀x,i.el=some x->Hh P t=some x
 kz:i.kz=true->kz P t=true
 bo:i.bo=true->P.underlying t=some .bool
 ar:∀x,i.ar=some x->arA P t=some x
 fd:∀(f:Nat) x,i.fd[f]? =some x->fdA P t f=some x
 pl:∀z l,i.pl=some (z,l)->∃f,plA P t=some (z,f)/\∀(i:Nat) p,l[i]? =some p->f i=some p
 ze:∀x,i.ze=some x->BF P t=some x
 mp:∀x,i.mp=some x->mapA P t=some x
 ik:∀k,i.ik=some k->P.underlying t=some (.int k)
 eq:∀s,i.eq=some s->abB P t s
 sg:i.sg=true->P.underlying t=some .string
 nf:i.nf=true->∃ms,P.underlying t=some (.interface ms)
 zv:∀x,i.zv=some x->zvT P t=some x
def Sq:Ii c a (bu.mk none none false false none [] none none none none none none none false false none):=
 {ty:=λ_ h=>by cases h
  el:=λ_ h=>by cases h
  kz:=λh=>by cases h
  bo:=λh=>by cases h
  ar:=λ_ h=>by cases h
  fd:=λ_ _ h=>by simp at h
  pl:=λ_ _ h=>by cases h
  ze:=λ_ h=>by cases h
  mp:=λ_ h=>by cases h
  ik:=λ_ h=>by cases h
  eq:=λ_ h=>by cases h
  sg:=λh=>by cases h
  nf:=λh=>by cases h
  zv:=λ_ h=>by cases h}
def Nw{a c:At b}(h:a=c):∀x,c=some x->a=some x:=λ_ d=>h.trans d
def aoK{a b:In}(h:a=b):b=true->a=true:=λc=>h.trans c
def boB(P:Fd)(t:EQ):In:=match P.underlying t with
 |some .bool=>true
 |_=>false
def sgB(P:Fd)(t:EQ):In:=match P.underlying t with
 |some .string=>true
 |_=>false
def acE(h:sgB c a=g):g=true->c.underlying a=some .string:=λb=>by
 have h:=h.trans b;unfold sgB at h;split at h
 ·assumption
 ·cases h
def Zj(h:sgB c a=true):Ii c a {sg:=true}:=
 {ty:=λ_ h=>by cases h
  el:=λ_ h=>by cases h
  kz:=λh=>by cases h
  bo:=λh=>by cases h
  ar:=λ_ h=>by cases h
  fd:=λ_ _ h=>by simp at h
  pl:=λ_ _ h=>by cases h
  ze:=λ_ h=>by cases h
  mp:=λ_ h=>by cases h
  ik:=λ_ h=>by cases h
  eq:=λ_ h=>by cases h
  sg:=λ_=>acE h rfl
  nf:=λh=>by cases h
  zv:=λ_ h=>by cases h}
def nfB(P:Fd)(t:EQ):In:=match P.underlying t with
 |some (.interface _)=>true
 |_=>false
def acF(h:nfB c a=g):g=true->∃d,c.underlying a=some (.interface d):=λb=>by
 have h:=h.trans b;unfold nfB at h;split at h
 ·exact⟨_,by assumption⟩
 ·cases h
def alS{b:At Id}(h:(match b with|some _=>zvT c a|none=>none)=b):∀x,b=some x->zvT c a=some x:=λx d=>by
 subst d;exact h
def acG(h:nfB c a=true):Ii c a {nf:=true}:=
 {ty:=λ_ h=>by cases h
  el:=λ_ h=>by cases h
  kz:=λh=>by cases h
  bo:=λh=>by cases h
  ar:=λ_ h=>by cases h
  fd:=λ_ _ h=>by simp at h
  pl:=λ_ _ h=>by cases h
  ze:=λ_ h=>by cases h
  mp:=λ_ h=>by cases h
  ik:=λ_ h=>by cases h
  eq:=λ_ h=>by cases h
  sg:=λh=>by cases h
  nf:=λ_=>acF h rfl
  zv:=λ_ h=>by cases h}
def alT(h:boB c a=g):g=true->c.underlying a=some .bool:=λb=>by
 have h:=h.trans b;unfold boB at h;split at h
 ·assumption
 ·cases h
def ikF(P:Fd)(t:EQ):At IntKind:=match P.underlying t with
 |some (.int k)=>some k
 |_=>none
def alU{b:At IntKind}(h:ikF c a=b):∀k,b=some k->c.underlying a=some (.int k):=λk d=>by
 have h:=h.trans d;unfold ikF at h;split at h
 ·cases h;assumption
 ·cases h
def alV{l:Do (Nat×In×Nat)}(h:(List.range l.length).map (fdA c a)=l.map some):∀(f:Nat) x,l[f]? =some x->fdA c a f=some x:=λf x d=>by
 have e:=(aus.1 d).1;have b:=auA (λq=>q[f]?) h;simp only[auM,axp e,d,avz]at b;exact aut b
def plF(P:Fd)(t:EQ)(n:Nat):At (bC×Do Mi):=(plA P t).map λp=>(p.1,(List.range n).map p.2)
def alW{o:At (bC×bI)}(h:(match o with
 |some (_,l)=>plF c a l.length
 |none=>none)=o.map λp=>(p.1,p.2.map some)):∀z l,o=some (z,l)->∃f,plA c a=some (z,f)/\∀(i:Nat) p,l[i]? =some p->f i=some p:=λz l j=>by
 subst j;simp only[plF,avz]at h;cases e:plA c a with
 |none=>rw[e]at h;cases h
 |some q=>
  rw[e]at h;simp only[avz,aur,auK]at h;refine⟨q.2,by rw[<-h.1],λi p d=>?_⟩;have g:=(aus.1 d).1;have b:=auA (λq=>q[i]?) h.2;simp only[auM,axp g,d,avz]at b;exact aut b
def fdS(P:Fd)(f:Field)(o:Nat):Sc->In
 |.i k=>decide (f.offset=o) && f.name != "_"&& (match P.underlying f.type with
  |some (.int l)=>decide (k=l)
  |_=>false)
 |.b=>decide (f.offset=o) && f.name != "_"&& (match P.underlying f.type with
  |some .bool=>true
  |_=>false)
 |_=>false
def Zk(P:Fd):Do Field->Nat->Sc->In
 |[f],o,.i k=>fdS P f o (.i k)
 |[f],o,.b=>fdS P f o .b
 |f::a,o,.pr x y=>fdS P f o x && Zk P a (o+1) y
 |[],_,.u=>true
 |_,_,_=>false
def Sr{f:Field}{s:Sc}(h:fdS c f d s=true){D E:dU}{x y:s.c9}{rx ry:bC}(F:D.toList.drop d=dc s x++rx)(G:E.toList.drop d=dc s y++ry)(e:Nat)(w:GE):
 f.name≠ "_"/\∃a b,(part f.type D f.offset).run c w=.ok a w/\(part f.type E f.offset).run c w=.ok b w/\(Op.equalIn (e+1) f.type a b).run c w=.ok (iP s x y) w/\D.toList.drop (d+1)=rx/\E.toList.drop (d+1)=ry:=by
 have get:∀{o:dU} {v:Id} {r:bC},o.toList.drop d=[v]++r->o[d]? =some v/\o.toList.drop (d+1)=r:=by
  intro o v r H;constructor
  ·have A:=auA (λl=>l[0]?) H
   simpa using A
  ·have A:=auA (λl=>l.drop 1) H
   simpa[awc,ayh]using A
 cases s with
 |i k=>
  simp only[fdS,aup,avn,bne_iff_ne,ne_eq]at h;obtain⟨⟨B,C⟩,j⟩:=h;split at j
  ·rename_i l n
   have j:=avo j;subst j B;obtain⟨p,q⟩:=get F;obtain⟨t,z⟩:=get G;have m:c.plainKey f.type=true:=by simp[Program.plainKey,n]
   refine⟨C,_,_,awv w m p,awv w m t,?_,q,z⟩;have:=ayu w e f.type k k x y n;rw[this];rfl
  ·cases j
 |b=>
  simp only[fdS,aup,avn,bne_iff_ne,ne_eq]at h;obtain⟨⟨B,C⟩,j⟩:=h;split at j
  ·rename_i n
   subst B;obtain⟨p,q⟩:=get F;obtain⟨t,z⟩:=get G;have m:c.plainKey f.type=true:=by simp[Program.plainKey,n]
   refine⟨C,_,_,awv w m p,awv w m t,?_,q,z⟩;exact run_equalIn_bool w e f.type x y n
  ·cases j
 |_=>cases h
def ais(d:Nat)(w:GE)(t v:dU):∀(e:Do Field) (o:Nat) (s:Sc) (x y:s.c9),Zk c e o s=true->t.toList.drop o=dc s x->v.toList.drop o=dc s y->
 (Op.eqFields (d+1) t v e).run c w=.ok (iP s x y) w:=by
 intro e
 induction e with
 |nil=>
  intro o s x y h l m;cases s<;>first|(cases h;done)|(simp[Op.eqFields,iP])
 |cons f e B=>
  intro o s x y h l m;cases s with
  |i k=>
   cases e with
   |cons g gs=>cases h
   |nil=>
    obtain⟨j,a,b,p1,p2,p3,_,_⟩:=Sr (s:=.i k) h (x:=x) (y:=y) (rx:=[]) (ry:=[]) (by simpa using l) (by simpa using m) d w;simp only[Op.eqFields,j,ne_eq,axK,au2,auF,p1,p2,p3,auG];cases iP (.i k) x y<;>simp
  |b=>
   cases e with
   |cons g gs=>cases h
   |nil=>
    obtain⟨j,a,b,p1,p2,p3,_,_⟩:=Sr (s:=.b) h (x:=x) (y:=y) (rx:=[]) (ry:=[]) (by simpa using l) (by simpa using m) d w;simp only[Op.eqFields,j,ne_eq,axK,au2,auF,p1,p2,p3,auG];cases iP .b x y<;>simp
  |sl r=>cases e<;>cases h
  |u=>cases e<;>cases h
  |pr p q=>
   have n:fdS c f o p=true/\Zk c e (o+1) q=true:=by
    cases e<;>simpa[Zk]using h
   obtain⟨j,a,b,p1,p2,p3,z,A⟩:=Sr n.1 (x:=x.1) (y:=y.1) l m d w;have:=B (o+1) q x.2 y.2 n.2 z A;simp only[Op.eqFields,j,ne_eq,axK,au2,auF,p1,p2,p3,auG,iP];cases iP p x.1 y.1 with
   |false=>simp
   |true=>simpa using this
def ait{s:Sc}{e:Array Field}(k:s.key=true)(f:c.underlying a=some (.struct e))(j:c.stoodInHeld a=false)(h:c.eqGuardType c.depth a=false)
 (i:Zk c e.toList 0 s=true):abB c a s:=by
 refine⟨k,λx y w=>⟨?_,λl d b=>?_⟩⟩
 ·have g:c.fieldsOf a=e:=by simp[Program.fieldsOf,f]
  show(Op.equalIn (9999+1) _ _ _).run c w=_;rw[run_equalIn_struct w 9999 a _ _ (by rw[g];exact f) j,g];exact ais 9998 w _ _ e.toList 0 s x y i d5 d5
 ·unfold eqGuard
  cases l<;>simp[auF,h]
def stF(P:Fd)(t:EQ):At (Array Field):=match P.underlying t with
 |some (.struct a)=>some a
 |_=>none
def eqB(P:Fd)(t:EQ)(s:Sc):In:=s.key && !(P.stoodInHeld t) && !(P.eqGuardType P.depth t) && (match stF P t with
 |some a=>Zk P a.toList 0 s
 |none=>false)
def alY{o:At Sc}(h:(match o with
 |some s=>eqB c a s
 |none=>true)=true):∀s,o=some s->abB c a s:=λs i=>by
 subst i;simp only[eqB,aup,avC]at h;obtain⟨⟨⟨e,f⟩,g⟩,d⟩:=h;split at d
 ·rename_i j b
  unfold stF at b;split at b
  ·cases b
   exact ait e (by assumption) f g d
  ·cases b
 ·cases d
noncomputable def ase(T:EQ->bu)(d:Do iS)(N:Nat)(c:Code):Ho:=match c with
 |.region _ g j=>λ_ E _ k=>cond j (Hn T d g.toList (Nv g.toList E) g.toList [] (k .normal)) (xf T d g.toList g.toList E (k .normal))
 |.seq a b=>λe E _ k=>ra T d N a e.l E _ λx f=>match x with
  |.normal=>ra T d N b e.r f _ k
  |x=>k x f
 |.cond c a b=>λe E _ k=>match eE (cy E.t) c with
  |.sc .b h=>match c with
   |.tmp i=>cond h (ra T d N a e.l ⟨E.n,(i,.sc .b true)::E.t,E.h⟩ _ k) (ra T d N b e.r ⟨E.n,(i,.sc .b false)::E.t,E.h⟩ _ k)
   |_=>cond h (ra T d N a e.l E _ k) (ra T d N b e.r E _ k)
  |_=>none
 |.block id a=>λe E _ k=>ra T d N a e.l E _ λx f=>match x with
  |.exit i=>cond (beq i id) (k .normal f) (k (.exit i) f)
  |x=>k x f
 |c=>ra T d N c
def mj:∀a∈([]:Do iS),a.ok c:=λa h=>by cases h
def mI{a:iS}{l:Do iS}(h:a.ok c)(e:∀d∈l,d.ok c):∀d∈a::l,d.ok c:=λd b=>by
 rcases auT.1 b with rfl|b
 ·exact h
 ·exact e d b
def tgL(P:Fd)(i:bu)(t:EQ):=(Rq P t,Hh P t,kz P t,boB P t,arA P t,(List.range i.fd.length).map (fdA P t),(match i.pl with
 |some (_,l)=>plF P t l.length
 |none=>none),BF P t,mapA P t,ikF P t,(match i.eq with
 |some s=>eqB P t s
 |none=>true),sgB P t,nfB P t,(match i.zv with|some _=>zvT P t|none=>none))
def tgR(i:bu):=(i.ty,i.el,i.kz,i.bo,i.ar,i.fd.map some,i.pl.map (λp=>(p.1,p.2.map some)),i.ze,i.mp,i.ik,true,i.sg,i.nf,i.zv)
def aoN{i:bu}(h:tgL c i a=tgR i):Ii c a i:=by
 simp only[tgL,tgR,auK]at h;obtain⟨b,k,l,m,n,o,p,q,r,d,e,f,g,j⟩:=h;exact⟨Nw b,Nw k,aoK l,alT m,Nw n,alV o,alW p,Nw q,Nw r,alU d,alY e,acE f,acF g,alS j⟩
def tgF(S N:a_):Do (a_×bu)->EQ->bu
 |[],t=>cond (S.any (beq t)) {sg:=true} (cond (N.any (beq t)) {nf:=true} {})
 |(l,i)::r,t=>cond (l.any (beq t)) i (tgF S N r t)
def any_beq(h:K.any (beq d)=true):d∈K:=by
 obtain⟨x,b,a⟩:=av6.1 h;rw[auu a];exact b
def Nx{P:Fd}{S N:a_}(c:S.all (sgB P)=true)(b:N.all (nfB P)=true):∀{L:Do (a_×bu)},L.map (λp=>p.1.map (tgL P p.2))=L.map (λp=>p.1.map λ_=>tgR p.2)->∀t,Ii P t (tgF S N L t)
 |[],_,t=>by
  unfold tgF;cases a:S.any (beq t)with
  |true=>exact Zj (auO.1 c t (any_beq a))
  |false=>
   cases d:N.any (beq t)with
   |true=>exact acG (auO.1 b t (any_beq d))
   |false=>exact Sq
 |(l,i)::r,h,t=>by
  simp only[auL,avw]at h;unfold tgF;cases a:l.any (beq t)with
  |true=>exact aoN (List.map_inj_left.1 h.1 t (any_beq a))
  |false=>exact Nx c b h.2 t
def aiu{P:Fd}{T:EQ->bu}(h:∀t,Ii P t (T t)):gG P T where
 ty:=λt=>(h t).ty
 el:=λt=>(h t).el
 kz:=λt=>(h t).kz
 bo:=λt=>(h t).bo
 ar:=λt=>(h t).ar
 fd:=λt=>(h t).fd
 pl:=λt=>(h t).pl
 ze:=λt=>(h t).ze
 mp:=λt=>(h t).mp
 ik:=λt=>(h t).ik
 eq:=λt=>(h t).eq
 sg:=λt=>(h t).sg
 nf:=λt=>(h t).nf
 zv:=λt=>(h t).zv
section
open Go.ChangeShapes Go.WideShapes Go.ChangeAt Go.RowKit
section
variable{H:Type}{enc:EQ×Id->H}{P:Fd}
def BQ(j:laidOutB P=true){W g:GE}(i:Ext W g):∀{a:Do EQ} {f:bC} {c:Do (DataW H)} {p:Do MemPlace},
 (∀t∈a,P.readableRec t=true/\t<P.types.size)->DataW.TrodAll enc P W 0 (λ_=>true) true a f c p->(∀x∈p,x.block<W.heap.size)->
 DataW.TrodAll enc P g 0 (λb=>decide (b<W.heap.size)) true a f c p
 |[],[],[],_,_,h,_=>h
 |[],[],_::_,_,_,h,_=>h.elim
 |[],_::_,_,_,_,h,_=>h.elim
 |_::_,[],_,_,_,h,_=>h.elim
 |_::_,_::_,[],_,_,h,_=>h.elim
 |t::a,v::f,d::c,p,l,h,k=>by
  obtain⟨p1,r,n,o,rfl⟩:=h;have m:=l t d5;exact⟨p1,r,Below.trod j m.1 m.2 n i.Hv (λx e=>k x (by simp[e])),BQ j i (λu q=>l u (by simp[q])) o (λx e=>k x (by simp[e])),rfl⟩
def acH(w:laidOutB P=true){s:ChangeSpec}{args:dU}{a gs:Do (DataW H)}{f:Do MemPlace}{tb:EQ}
 (k:s.vars=[]) (A:∀t∈O.params.toList,P.readableRec t=true/\t<P.types.size) (B:O.resultTypes= #[tb]) (C:P.underlying tb=some .bool)
 (b:DataW.Whole enc P O.params.toList s.vars false m args.toList a gs f)
 (c:s.fn H (a++gs)={results:=[.lit (.bool true)],args:=a})
 (o:Calls P y args m λe E=>e=.returned (.bool true)/\Ext m E):
 Calls P y args m λe d=>∃v,e=.returned v/\s.post enc P O false true false false m args v d:=by
 refine o.mono λe d ⟨r,j⟩=>⟨_,r,?_⟩;have z:∀p∈f,p.block<m.heap.size:=b.lt;have n:=b;obtain⟨p,q,l,i,rfl,F,G⟩:=n;rw[k]at i;have u:gs=[]:=by
  cases gs with
  |nil=>rfl
  |cons g gs=>exact i.elim
 subst u;refine⟨a,[],p++q,[],p,[],b,?_,?_,?_,Below.frame j.Hv _,λh=>by cases h⟩
 ·rw[c,B]
  exact trodAll_mk1 (shut_bool C true)
 ·rw[c]
  exact BQ w j A l (λx D=>z x (by simp[D]))
 ·rw[k,c]
  rfl
