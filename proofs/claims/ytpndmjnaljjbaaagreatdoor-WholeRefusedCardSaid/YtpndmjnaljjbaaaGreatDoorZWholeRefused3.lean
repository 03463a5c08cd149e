/- part 3 -/
import Derived.Test.YtpndmjnaljjbaaaGreatDoorZWholeRefused2
set_option linter.all false
noncomputable section
open Go Go.RowKit
set_option maxRecDepth 100000
open Nat (beq blt)
namespace Go.Proofs.YtpndmjnaljjbaaaGreatDoor
variable{h o:If}{b:Type}{a:EQ}{s:Id}
def adj(a:Do b)(l m:Int)(z:b):At (Do b):=if 0<=l/\0<=m/\l+m<=a.length then some (RE a l.toNat m.toNat z)else none
def ON(T:EQ->bz)(ev:Nat->EV)(hg:Nat->At eh)(t:EQ)(x:If)(k:eW->a_->At b):At b:=
 match eO ev x with
 |.sw j l m a=>match hg j with
  |some (.arr e r f wr)=>match(T t).el with
   |some (_,c,_,z)=>cond (beq a r.w && beq c r.w && blt 0 a && wr) (match u0 r z with
    |some []=>aW (adj f l m (zeroV r)) λg=>k [(j,some (.arr e r g true))] [j]
    |_=>none) none
   |none=>none
  |_=>none
 |_=>none
def OO(s:Sc){β:Type}:Do (s.c9×β)->s.c9->Nat
 |[],_=>0
 |p::a,x=>cond (jc s p.1 x) 0 (OO s a x+1)
def af4(a:Sc)(z:Id):In:=match a with
 |.i k=>match z with
  |.int l n=>decide (k=l/\n=0)
  |_=>false
 |_=>false
def HD(T:EQ->bz)(ev:Nat->EV)(hg:Nat->At eh)(t:EQ)(x y:If)(k:EV->eW->a_->At b):At b:=
 match eO ev x with
 |.mp j=>match hg j with
  |some (.mp d c e f)=>match(T t).mp with
   |some (g,z)=>match OI c (eO ev y)with
    |some a=>cond (lV d c && lV g c && af4 e z) (k (.tu [jG e ((bL c f a).getD (zeroV e)),.sc (.i .i64) ((OO c f a:Nat):Int)]) [(j,some (.mp d c e (dO c f a ((bL c f a).getD (zeroV e)))))] [j]) none
    |none=>none
   |none=>none
  |_=>none
 |_=>none
def Wz{α β:Type}(a:Do (α×β))(i:Int)(b:β):At (Do (α×β)):=if 0<=i then(a[i.toNat]?).map λp=>a.set i.toNat (p.1,b)else none
def EB(T:EQ->bz)(ev:Nat->EV)(hg:Nat->At eh)(t:EQ)(x y v:If)(k:eW->a_->At b):At b:=
 match eO ev x with
 |.mp j=>match hg j with
  |some (.mp d c e f)=>match(T t).mp with
   |some (h,_)=>match u4 ev y with
    |some i=>match adg e (eO ev v)with
     |some a=>cond (lV d c && lV h c) (aW (Wz f i a) λg=>k [(j,some (.mp d c e g))] [j]) none
     |none=>none
    |none=>none
   |none=>none
  |_=>none
 |_=>none
section
variable{P:Fd}{T:EQ->bz}{ev:Nat->EV}{hg:Nat->At eh}{n d:Nat}{ty:EQ}{pos:String}{af:dM}{gd:fJ}
def alR{α β:Type}(f:α->β)(a:Do α)(l m:Nat)(z:α):(RE a l m z).map f=RE (a.map f) l m (f z):=by
 simp[RE,azN,az1]
def rJ.append{a b a' b':Do (Do AV)}(h:rJ a b)(k:rJ a' b'):rJ (a++a') (b++b'):=by
 induction h with
 |nil=>exact k
 |cons c _ e=>exact .cons c e
def rJ.same:∀a:Do (Do AV),rJ a a
 |[]=>.nil
 |r::a=>.cons (pP.refl r) (rJ.same a)
def WB(G:gJ P T){k:eW->a_->At b}{r:b}(c:ON T ev hg a h k=some r):
 ∃x y,FS P ⟨none,.call ⟨.builtin .clear, #[h], #[a]⟩,ty,pos,af,gd⟩ n ev hg .un x y .no/\k x y=some r:=by
 unfold ON at c;split at c
 next j l m N w=>
  split at c
  next e f A wr H=>
   split at c
   next E V O z L=>
    obtain⟨v,t⟩:=aY c;simp only[axo]at v;obtain⟨⟨⟨p,q⟩,g⟩,B⟩:=v;have p:=axu p;have q:=axu q;have g:0<N:=axv g;subst B;split at t
    next M=>
     obtain⟨W,i,I⟩:=br t;unfold adj at i;split at i
     next R=>cases i;refine⟨_,_,λo U J F S=>?_,I⟩;obtain⟨X,u,C,Q,D⟩:=oN f M;rw[ax6]at u;subst u;subst q;rw[p]at w g;have:=SS.clear (P:=P) (K:=λs=>s=⟨o.n,o.t,(j,some (.arr e f.w (RE (List.map (bJ f) A) l.toNat m.toNat (z.map mG)) true))::o.h⟩) (ty:=ty) (pos:=pos) (af:=af) (gd:=gd) (G.el _ _ L) (J.is w d8) (F.at d5 H) (by rw[axx];omega) g D rfl;refine this.mT ?_;refine cA.A_ (h:=o.h) (rows':=List.map (bJ f) (RE A l.toNat m.toNat (zeroV f))) ?_ (eU f _);rw[alR];exact(rJ.same _).append ((rJ.rep C m.toNat).append (rJ.same _))
     .cases i
    .cases t
   .cases c
  .cases c
 .cases c
def RI{a g:Sc}(c:a.key=true):∀(b:Do (a.c9×g.c9)) (x:a.c9),LU (oA a g b) (rK a x)=OO a b x
 |[],_=>rfl
 |p::b,x=>by
  rw[oA,axJ,LU,OO];by_cases h:p.1=x
  .rw[axn (by rw[h]),(fy a _ _ c).2 h];rfl
  .rw[axm (λe=>h (IU a _ _ c e))]
   have:jc a p.1 x=false:=by
    cases i:jc a p.1 x with
    |false=>rfl
    |true=>exact absurd ((fy a _ _ c).1 i) h
   rw[this];have f:=RI c b x;rw[oA]at f;rw[f];rfl
def af5{a:Sc}(h:af4 a s=true):QW s=enc (jG a (zeroV a)):=by
 unfold af4 at h;split at h
 .split at h
  .obtain⟨rfl,rfl⟩:=ayh h
   rfl
  .cases h
 .cases h
def I4(C:gJ P T){k:EV->eW->a_->At b}{r:b}(K:d<n)(g:HD T ev hg a h o k=some r):
 ∃c j p i m l f,hg j=some (.mp p i m l)/\FS P ⟨some d,.mapEntry a h o,ty,pos,af,gd⟩ n ev hg c [(j,some (.mp p i m (dO i l f ((bL i l f).getD (zeroV m)))))] [j] .no/\k c [(j,some (.mp p i m (dO i l f ((bL i l f).getD (zeroV m)))))] [j]=some r:=by
 unfold HD at g;split at g
 next j F=>
  split at g
  next p i m l v=>
   split at g
   next N z E=>
    split at g
    next f s=>
     obtain⟨u,A⟩:=aY g;simp only[axo]at u;obtain⟨⟨q,x⟩,y⟩:=u;have D:=qM q x;subst D;obtain⟨I,t⟩:=vk q f;have H:=af5 y;refine⟨_,_,_,_,_,_,f,v,λJ M w B L=>?_,A⟩;have G:J.ev o=enc (eO ev o):=w.is rfl (λe=>by rw[e]at s;cases i<;>simp[OI,Mx]at s);have look:(fm (oA i m l) (rK i f)).getD (QW z)=enc (jG m ((bL i l f).getD (zeroV m))):=by
      rw[qF t,H];cases bL i l f<;>rfl
     refine SS.mapEntry (C.mp _ _ E) (w.is F d8) (B.at d5 v) (by rw[G];exact A0 q s) I bv ?_;rw[look,IV t,RI t];rfl
    .cases g
   .cases g
  .cases g
 .cases g
def OP(F:gJ P T){x y v:If}{k:eW->a_->At b}{r:b}(h:EB T ev hg a x y v k=some r):
 ∃w B,FS P ⟨none,.entryStore a x y v,ty,pos,af,gd⟩ n ev hg .un w B .no/\k w B=some r:=by
 unfold EB at h;split at h
 next j O=>
  split at h
  next Q l g o J=>
   split at h
   next X z M=>
    split at h
    next i H=>
     split at h
     next f t=>
      obtain⟨s,D⟩:=aY h;simp only[axo]at s;have G:=qM s.1 s.2;subst G;obtain⟨R,m,K⟩:=br D;unfold Wz at m;split at m
      next S=>
       obtain⟨p,L,rfl⟩:=axW.1 m;refine⟨_,_,λA V u E U=>?_,K⟩;have C:enc (eO ev v)=enc (jG g f):=by rcases YE t with h|h<;>exact h.1
       have N:A.ev v=enc (eO ev v):=u.is rfl (λe=>by rw[e]at t;cases g<;>simp[adg]at t);obtain⟨W,q⟩:=kA H u;have I:((i.toNat:Nat):Int)=i:=bv
       refine SS.entryStore (i:=i.toNat) (kv:=rK l p.1) (c0:=enc (jG g p.2)) (F.mp _ _ M) (u.is O d8) (by rw[I];exact q) (h1:=A.h) (c:=enc (jG g f)) (by rw[N,C];exact I2 g f) (E.at d5 J) ?_ ?_
       .show(oA l g o)[i.toNat]? =_
        rw[oA,axM,L];rfl
       .simp only[bE,Option.map,cx]
        have:(oA l g o).set i.toNat (rK l p.1,enc (jG g f))=oA l g (o.set i.toNat (p.1,f)):=by
         rw[oA,oA,azk]
        rw[this];rfl
      .cases m
     .cases h
    .cases h
   .cases h
  .cases h
 .cases h
end
variable{H:Bs}{t:Env}{C:Hp}{J:Do (Nat×AV)}{B:Nat}{M:At Env}{u:EQ}{m:GE}{F:bH}{j:bI}
section
variable{P:Fd}
def SR.WC(f:SR H j t C m){b:Nat}{o o':Ob}(B:bc C b=some o)(D:OR (bS H j t C m) t m b o'):
 SR H j t ((b,some o')::C) m/\∀e g u,bS H j t C m e g u->bS H j t ((b,some o')::C) m e g u:=by
 have k:∀a ob,bc ((b,some o')::C) a=some ob->∃i,bc C a=some i:=λa ob c=>by
  by_cases h:a=b
  .subst h;exact⟨o,B⟩
  .rw[bd h]at c;exact⟨ob,c⟩
 have r:∀e g u,bS H j t C m e g u->bS H j t ((b,some o')::C) m e g u:=λe g u q=>⟨q.1,q.2.1,λa ob c p=>by
  obtain⟨i,l⟩:=k a ob c;exact q.2.2 a i l p⟩
 refine⟨⟨f.ext,f.kW,λa ob c=>?_,λa ob e c p=>?_,λa s ob E e z A v w=>?_,f.yv⟩,r⟩
 .refine OR.mono r ?_
  by_cases h:a=b
  .subst h
   rw[bf]at c;cases c;exact D
  .rw[bd h]at c
   exact f.ob a ob c
 .obtain⟨i,l⟩:=k a ob c
  exact f.base a i e l p
 .obtain⟨F,x⟩:=k a ob z
  obtain⟨G,y⟩:=k s E A;exact f.inj a s F G e x y v w
def LV(c:AV):Prop:=∃q i s,c=.pe q i s 0/\4294967296<=q
def LV.cell{c:AV}(h:LV c){Rd:bI}(b:VR Rd M c s):s.oneCell'=true:=by
 obtain⟨q,i,a,rfl,_⟩:=h;cases b;rfl
def LV.vr{w t:GE}{b Rd j:bI}{e f:Env}{h k:Hp}{c:AV}(p:LV c)(l:SR H b e h w)(m:SR H b f k t)(r:VR Rd (some e) c s):VR j (some f) c s:=by
 obtain⟨q,i,a,rfl,g⟩:=p;cases r with
 |pe o=>exact .pe (by rw[(m.yv q g).1,<-(l.yv q g).1];exact o)
def WD(a:bH):(a.map λu=>([.v u]:Do AV)).flatten=a.map AV.v:=by
 induction a with
 |nil=>rfl
 |cons u a b=>simp[b]
def LR.YH{Rd:bI}{E:At Env}(b:bH):LR (VR Rd E) (b.map AV.v) b:=⟨d5,λj c u a e=>by
 rw[axM]at a;rw[e]at a;cases a;exact .v⟩
variable{st:St}
def Ga.toV{a:Act}(h:Ga H j t st a m){k:Nat}{E:EQ}{cs:Do AV}(w:bc st.h k=some (.nr E cs))(G:∀c∈cs,LV c):
 ∃f,LR (VR (bS H j t st.h m) (some t)) cs f/\Ga H j t ⟨st.n,st.t,(k,some (.arr E 1 (f.map λu=>[.v u]) true))::st.h⟩ a m:=by
 obtain⟨p,J⟩:=h.sr.ob _ _ w;obtain⟨f,D,F⟩:∃f,LR (VR (bS H j t st.h m) (some t)) cs f/\OR (bS H j t st.h m) t m k (.arr E 1 (f.map λu=>[.v u]) true):=by
  rcases J with⟨rfl,i,l⟩|⟨b,B,o,x,i,l,y,z,A,g⟩
  .exact⟨[],LR.nil,d5,d5,λ_=>p,.inl ⟨rfl,i,l⟩⟩
  .refine⟨o.toList.take cs.length,g,λr I=>?_,λc q=>?_,λ_=>p,.inr ⟨b,B,o,x,?_,?_,y,z,by rw[A,ayQ],?_,by rw[p];exact axT _⟩⟩
   .obtain⟨u,_,rfl⟩:=axC.1 I;rfl
   .rw[WD]at q
    obtain⟨u,M,rfl⟩:=axC.1 q;obtain⟨e,s,rfl⟩:=ayb M;have v:e<cs.length:=by rw[<-g.1];exact s
    exact(G _ (azR v)).cell (g.2 e _ _ (axz v) (axz s))
   .rw[axx,g.1];exact i
   .rw[axx,g.1];exact l
   .rw[WD,axx]
    have:=LR.YH (Rd:=bS H j t st.h m) (E:=none) (o.toList.take cs.length);rw[g.1];exact this
 obtain⟨L,C⟩:=h.sr.WC w F;exact⟨f,D,h.n,h.d,L,h.tr.mono C⟩
def Ga.ofV{e:Act}{n:Nat}{d:Nat}{cs:Do AV}
 (f:Ga H j t ⟨n,J,(d,some (.arr a 1 (F.map λu=>[.v u]) true))::C⟩ e m) (p:F.length=cs.length) (w:∀(b:Nat) c u,cs[b]? =some c->F[b]? =some u->∀Rd,VR Rd (some t) c u):
 Ga H j t ⟨n,J,(d,some (.nr a cs))::C⟩ e m:=by
 have i:=(f.sr.ob d _ bf).ao2;rw[WD]at i;have q:=i.avg (cs':=cs) (by simp[p]) λb c k h o u s=>by
  rw[axM]at h;obtain⟨x,v,rfl⟩:=axW.1 h;rw[s.bR];exact w b k x o v _
 obtain⟨r,l⟩:=f.sr.WC bf q;exact(⟨f.n,f.d,r,f.tr.mono l⟩:Ga H j t ⟨n,J,(d,some (.nr a cs))::(d,some (.arr a 1 (F.map λu=>[.v u]) true))::C⟩ e m).lR λb=>by
  by_cases g:b=d
  .subst g;rw[bf,bf]
  .rw[bd g,bd g,bd g]
variable{d:Nat}{ty:EQ}{pos:String}{af:dM}{gd:fJ}{K:St->Prop}
def SS.avo{t E:EQ}{x:If}{q i s J:Nat}(ht:LH P t=some (E,1,J,F))(h:st.ev x=.pe q i s 0)(Z:4294967296<=q)(O:d<st.n)
 (M:K ⟨st.n,(d,.ow d)::c8 d st.t,(d,some (.nr E [.pe q i s 0]))::bx d st.h⟩):SS P ⟨some d,.buildSlice t 1 #[(0,x)],ty,pos,af,gd⟩ st K:=by
 intro y p e a w next Q l Y
 have r:LV (.pe q i s 0):=⟨q,i,s,rfl,Z⟩;have o:=l.ev x;rw[h]at o;have R:d≠q:=by have:=l.n.2;omega
 cases x with
 |tmp j=>
  obtain⟨u,G⟩:∃u,u=a.eval (.tmp j):=⟨_,rfl⟩;rw[<-G]at o;have z:=r.cell o;have V:a.tmps.getD j undef=u:=G.symm;have U:Ga y p e ⟨st.n,(j,.v u)::st.t,st.h⟩ a w:=⟨l.n,l.d,l.sr,λk=>by
   by_cases b:k=j
   .subst b;simp only[bM,ax0];rw[V];exact .v
   .simp only[bM,axm b];exact l.tr k⟩
  have S:(⟨st.n,(j,.v u)::st.t,st.h⟩:St).ev (.tmp j)=.v u:=by show bM ((j,.v u)::st.t) j=_;simp[bM]
  have N:cellsOf (.v u)=some [.v u]:=by simp[cellsOf,AV.one,z]
  have step:=SS.AZ (P:=P) (st:=⟨st.n,(j,.v u)::st.t,st.h⟩) (t:=t) (len:=1) (parts:= #[(0,.tmp j)]) (h':=st.h) (aS:=[.v u]) (cs:=[.v u]) (qs:=[(0,[.v u])]) (d:=d) (ty:=ty) (pos:=pos) (af:=af) (gd:=gd)
   (K:=λs'=>s'=⟨st.n,(d,.ow d)::c8 d ((j,.v u)::st.t),(d,some (.arr E 1 ([u].map λu=>[.v u]) true))::bx d st.h⟩) ht
   (by simp only[axJ,ayy,S];rfl) (by simp[mi,N]) rfl (by simp[AV.one,z]) bv bv O rfl
  refine step y p e a w next Q U λa2 a0 L I w' B=>?_
  subst a0;have H:VR (bS y p e st.h w) (some e) (.pe q i s 0) u:=o;have m:=B.ofV (cs:=[.pe q i s 0]) rfl λj c u' A a1 Rd=>by
   cases j with
   |zero=>cases A;cases a1;exact r.vr l.sr B.sr H
   |succ j=>simp at A
  refine Y _ M L I w' ⟨m.n,m.d,m.sr,λk=>?_⟩;have b:=m.tr k;by_cases C:k=d
  .subst C;simpa[bM]using b
  .simp only[bM,axm C,c8]at b⊢
   by_cases D:k=j
   .subst D
    rw[axn rfl]at b;have X:AV.kill d (.v u)=.v u:=by simp[AV.kill,AV.gu]
    rw[X]at b;rw[b.bR,xy];have:bM st.t k=.pe q i s 0:=h;rw[this];have W:AV.kill d (.pe q i s 0)=.pe q i s 0:=by simp[AV.kill,AV.gu,R.symm]
    rw[W];exact r.vr l.sr m.sr H
   .rwa[axm D]at b
 |const v=>simp only[St.ev,mG]at h;split at h<;>cases h
 |global g=>simp only[St.ev,gA]at h;split at h<;>cases h
 |func f=>cases h
def Ga.Eh{a:Act}{n:Nat}{h h2:Hp}(hg:Ga H j t ⟨n,J,h⟩ a m)(r:∀k,bc h2 k=bc h k\/bc h2 k=none):Ga H j t ⟨n,J,h2⟩ a m:=by
 have f:∀k ob,bc h2 k=some ob->bc h k=some ob:=λk ob c=>by
  rcases r k with e|e
  .rw[<-e];exact c
  .rw[e]at c;cases c
 have g:∀b o u,bS H j t h m b o u->bS H j t h2 m b o u:=λb o u ⟨e,h2,p⟩=>⟨e,h2,λk ob c q=>p k ob (f k ob c) q⟩;exact⟨hg.n,hg.d,⟨hg.sr.ext,hg.sr.kW,λk ob c=>(hg.sr.ob k ob (f k ob c)).mono g,λk ob b c=>hg.sr.base k ob b (f k ob c),λk i ob l b e h2=>hg.sr.inj k i ob l b (f k ob e) (f i l h2),hg.sr.yv⟩,hg.tr.mono g⟩
def SS.avp{t E:EQ}{x y:If}{k l A:Nat}{cs ds:Do AV}(ht:LH P t=some (E,1,A,F))(hx:st.ev x=.ow k)(hy:st.ev y=.ow l)(Y:bc st.h k=some (.nr E cs))(Z:bc st.h l=some (.nr E ds))
 (v:k≠l) (V:d≠k) (C:∀c∈cs,LV c) (D:∀c∈ds,LV c) (hm:cs.length+ds.length<=maxLen) (S:(cs.length+ds.length)*A<=140737488355328) (U:d<st.n)
 (R:K ⟨st.n,(d,.ow d)::c8 d st.t,(d,some (.nr E (cs++ds)))::(k,none)::(l,none)::bx d st.h⟩):SS P ⟨some d,.call ⟨.builtin .append, #[x,y], #[t,t]⟩,ty,pos,af,gd⟩ st K:=by
 intro w0 M e a w next Q s hn
 obtain⟨p,J,G⟩:=s.toV Y C;obtain⟨vs,L,H⟩:=G.toV (k:=l) (E:=E) (cs:=ds) (by show bc ((k,some _)::st.h) l=_;rw[bd (Ne.symm v)];exact Z) D;have a1:d<4294967296:=by have:=s.n.2;omega
 obtain⟨b,f⟩:∃b:St,b=⟨st.n,st.t,(l,some (.arr E 1 (vs.map λu=>[.v u]) true))::(k,some (.arr E 1 (p.map λu=>[.v u]) true))::st.h⟩:=⟨_,rfl⟩;rw[<-f]at H;have B:∀F:If,b.ev F=st.ev F:=λF=>by rw[f];cases F<;>rfl
 have o:p.length=cs.length:=J.1;have z:vs.length=ds.length:=L.1;have step:=SS.Rk (P:=P) (st:=b) (x:=x) (y:=y) (h1:=(l,some (.arr E 1 (vs.map λu=>[.v u]) false))::b.h) (rows:=p.map λu=>[.v u]) (ys:=vs.map λu=>[.v u]) (wr:=true) (tt:=false) (d:=d) (ty:=ty) (pos:=pos) (af:=af) (gd:=gd)
  (K:=λs'=>s'=⟨b.n,(d,.ow d)::c8 d b.t,(d,some (.arr E 1 ((p++vs).map λu=>[.v u]) true))::(k,none)::bx d ((l,some (.arr E 1 (vs.map λu=>[.v u]) false))::b.h)⟩) ht (by rw[B];exact hx)
  (by rw[B,hy,f];simp only[ir,bf]) (by rw[bd v,f];show bc ((l,some _)::(k,some _)::st.h) k=_;rw[bd v,bf]) V bv
  (by rw[axx,axx,o,z];exact hm) (by rw[axx,axx,o,z];exact S) (by rw[f];exact U) (by rw[aya])
 refine step w0 M e a w next Q H λa2 a0 O N w' r=>?_
 subst a0;have W:=r.ofV (cs:=cs++ds) (by simp[o,z]) λj c u g h Rd=>by
  by_cases X:j<cs.length
  .rw[aye X]at g
   rw[aye bv]at h;exact(C c (axB g)).vr s.sr r.sr (J.2 j c u g h)
  .rw[ayG bv]at g h
   rw[o]at h;exact(D c (axB g)).vr G.sr r.sr (L.2 _ c u g h)
 have I:=W.Eh (h2:=(d,some (.nr E (cs++ds)))::(k,none)::(l,none)::bx d st.h) λj=>by
  by_cases q:j=d
  .subst q;exact .inl (by rw[bf,bf])
  .rw[bd q,bd q]
   by_cases i:j=k
   .subst i;exact .inr (by rw[bf])
   .rw[bd i,bd i]
    by_cases m:j=l
    .subst m;exact .inr (by rw[bf])
    .rw[bd m,f]
     refine .inl ?_;rw[dt,dt,bd m,bd m,bd i]
 rw[f]at I;exact hn _ R O N w' I
def SS.alS{t E:EQ}{x y:If}{l sz0 m:Nat}{ds:Do AV}(R:LH P t=some (E,1,m,F))(U:st.ev x=.sl true sz0 [])(V:st.ev y=.ow l)(L:bc st.h l=some (.nr E ds))
 (Z:d≠l) (q:∀c∈ds,LV c) (M:ds.length<=maxLen) (H:ds.length*m<=140737488355328) (I:d<st.n)
 (G:K ⟨st.n,(d,.ow d)::c8 d st.t,(d,some (.nr E ds))::(l,none)::bx d st.h⟩):SS P ⟨some d,.call ⟨.builtin .append, #[x,y], #[t,t]⟩,ty,pos,af,gd⟩ st K:=by
 intro Y B e a w next Q z N
 obtain⟨g,A,s⟩:=z.toV L q;obtain⟨b,f⟩:∃b:St,b=⟨st.n,st.t,(l,some (.arr E 1 (g.map λu=>[.v u]) true))::st.h⟩:=⟨_,rfl⟩;rw[<-f]at s;have o:∀F:If,b.ev F=st.ev F:=λF=>by rw[f];cases F<;>rfl
 have k:g.length=ds.length:=A.1;have step:=SS.Ms (P:=P) (st:=b) (x:=x) (y:=y) (h1:=(l,some (.arr E 1 (g.map λu=>[.v u]) false))::b.h) (sz0:=sz0) (ys:=g.map λu=>[.v u]) (tt:=false) (d:=d) (ty:=ty) (pos:=pos) (af:=af) (gd:=gd)
  (K:=λW=>W=⟨b.n,(d,.ow d)::c8 d b.t,(d,some (.arr E 1 (g.map λu=>[.v u]) true))::bx d ((l,some (.arr E 1 (g.map λu=>[.v u]) false))::b.h)⟩) R (by rw[o];exact U)
  (by rw[o,V,f];simp only[ir,bf]) bv (by rw[axx,k];exact M) (by rw[axx,k];exact H) (by rw[f];exact I) rfl
 refine step Y B e a w next Q s λa0 O D C X r=>?_
 subst O;have J:=r.ofV (cs:=ds) k λj c u p S Rd=>(q c (axB p)).vr z.sr r.sr (A.2 _ c u p S);have v:=J.Eh (h2:=(d,some (.nr E ds))::(l,none)::bx d st.h) λj=>by
  by_cases i:j=d
  .subst i;exact .inl (by rw[bf,bf])
  .rw[bd i,bd i]
   by_cases h:j=l
   .subst h;exact .inr (by rw[bf])
   .rw[bd h,f]
    refine .inl ?_;rw[dt,dt,bd h,bd h]
 rw[f]at v;exact N _ G D C X v
end
def af6(ev:Nat->EV)(a:Nat)(b:AM):At (Nat×Int×Nat):=match b with
 |[(0,x)]=>match eO ev x with
  |.pe q i s 0=>cond (beq a 1 && Nat.ble 4294967296 q) (some (q,i,s)) none
  |_=>none
 |_=>none
def WE(T:EQ->bz)(d:Nat)(t:EQ)(p:Nat×Int×Nat)(k:EV->eW->a_->Fr->At b):At b:=match(T t).el with
 |some (e,a,_,_)=>cond (beq a 1) (k (.ow d) [(d,some (.qr e (some p.1) p.2.2 [p.2.1]))] [] (.one d)) none
 |none=>none
def af7(ev:Nat->EV)(hg:Nat->At eh)(a:gr):At (EQ×Nat×Nat×aX×Nat):=match a with
 |⟨[_,y]⟩=>match eO ev y with
  |.ow l=>match hg l with
   |some (.qr t (some q) s b)=>cond (Nat.ble 4294967296 q) (some (t,q,s,b,l)) none
   |_=>none
  |_=>none
 |_=>none
def WG(T:EQ->bz)(ev:Nat->EV)(hg:Nat->At eh)(d:Nat)(t i:EQ)(x:If)(p:EQ×Nat×Nat×aX×Nat)(k:EV->eW->a_->Fr->At b):At b:=match(T t).el with
 |some (e,h,a,_)=>cond (beq t i && beq h 1 && beq e p.1 && !(beq d p.2.2.2.2)) (match eO ev x with
  |.nil=>aW (er a ([]:aX) p.2.2.2.1) λc=>k (.ow d) [(d,some (.qr e (some p.2.1) p.2.2.1 c)),(p.2.2.2.2,none)] [p.2.2.2.2] (.one d)
  |.ow j=>match hg j with
   |some (.qr l (some f) g m)=>cond (beq l e && beq f p.2.1 && beq g p.2.2.1 && !(beq j p.2.2.2.2) && !(beq d j)) (aW (er a m p.2.2.2.1) λc=>k (.ow d) [(d,some (.qr e (some p.2.1) p.2.2.1 c)),(j,none),(p.2.2.2.2,none)] [j,p.2.2.2.2] (.one d)) none
   |_=>none
  |_=>none) none
 |none=>none
section
variable{P:Fd}{T:EQ->bz}{ev:Nat->EV}{hg:Nat->At eh}{n d:Nat}{ty:EQ}{pos:String}{af:dM}{gd:fJ}
def OQ{q s:Nat}(b:4294967296<=q)(e:aX):∀c∈e.map (qrA s (some q)),LV c:=λc a=>by
 obtain⟨i,_,rfl⟩:=axC.1 a;exact⟨q,i.toNat,s,rfl,b⟩
def adk(D:gJ P T){m:Ix}{p:Nat×Int×Nat}{k:EV->eW->a_->Fr->At b}{r:b}(L:d<n)(g:af6 ev B m.toList=some p)(h:WE T d a p k=some r):
 ∃c v w o,FS P ⟨some d,.buildSlice a B m,ty,pos,af,gd⟩ n ev hg c v w o/\k c v w o=some r:=by
 obtain⟨l⟩:=m;unfold af6 at g;split at g
 next x u=>
  simp only at u;subst u;split at g
  next q i s H=>
   obtain⟨j,y⟩:=aY g;cases y;simp only[axo]at j;obtain rfl:=axu j.1;have F:=axv j.2;unfold WE at h;split at h
   next e N f z E=>obtain⟨A,C⟩:=aY h;obtain rfl:=axu A;refine⟨_,_,_,_,λst M G J t=>?_,C⟩;have:=SS.avo (P:=P) (t:=a) (x:=x) (ty:=ty) (pos:=pos) (af:=af) (gd:=gd) (d:=d) (i:=i.toNat) (K:=λI=>I=⟨st.n,kz (some d) (.ow d) (c8 d st.t),[(d,some (.nr e [.pe q i.toNat s 0]))]++bx d st.h⟩) (D.el _ _ E) (G.is H d8) F bv rfl;exact SS.fresh t.t t.h this
   .cases h
  .cases g
 .cases g
def adl(Q:gJ P T){D:gr}{p:EQ×Nat×Nat×aX×Nat}{k:EV->eW->a_->Fr->At b}{r:b}(hd:d<n)(m:af7 ev hg D=some p)(R:D.toList.head?=some h)(f:WG T ev hg d a u h p k=some r):
 ∃c W X M,FS P ⟨some d,.call ⟨.builtin .append,D, #[a,u]⟩,ty,pos,af,gd⟩ n ev hg c W X M/\k c W X M=some r:=by
 unfold af7 at m;split at m
 next Y y=>
  simp only[List.head?_cons,axq]at R;subst R;split at m
  next l V=>
   split at m
   next t0 q s ys U=>
    obtain⟨h1,h2⟩:=aY m;cases h2;have F:=axv h1;unfold WG at f;split at f
    next e sz g z S=>
     obtain⟨N,o⟩:=aY f;simp only[axo,ayC]at N;obtain⟨⟨⟨Z,a2⟩,a3⟩,x⟩:=N;obtain rfl:=axu Z;obtain rfl:=axu a2;obtain rfl:=axu a3;have x:d≠l:=λe=>by rw[e,axX]at x;cases x
     split at o
     next G=>
      obtain⟨zs,i,E⟩:=br o;unfold er at i;split at i
      next t=>cases i;simp only[ayq,axY]at t;refine⟨_,_,_,_,λst hn w C v=>?_,E⟩;have:=SS.alS (P:=P) (t:=a) (x:=Y) (y:=y) (ty:=ty) (pos:=pos) (af:=af) (gd:=gd) (d:=d) (sz0:=0) (ds:=ys.map (qrA s (some q))) (K:=λI=>I=⟨st.n,kz (some d) (.ow d) (c8 d st.t),[(d,some (.nr e (ys.map (qrA s (some q))))),(l,none)]++bx d st.h⟩) (Q.el _ _ S) (w.is G d8) (w.is V d8) (C.at d5 U) x (OQ F ys) (by rw[axx];exact t.2) (by rw[axx];exact t.1) bv rfl;exact SS.fresh v.t v.h this
      .cases i
     next j G=>
      split at o
      next t1 H J L hj=>
       obtain⟨O,h6⟩:=aY o;simp only[axo,ayC]at O;obtain⟨⟨⟨⟨b1,b2⟩,b3⟩,A⟩,B⟩:=O;obtain rfl:=axu b1;obtain rfl:=axu b2;obtain rfl:=axu b3;have A:j≠l:=λe=>by rw[e,axX]at A;cases A
       have B:d≠j:=λe=>by rw[e,axX]at B;cases B
       obtain⟨zs,i,E⟩:=br h6;unfold er at i;split at i
       next t=>cases i;refine⟨_,_,_,_,λst hn w C v=>?_,E⟩;have:=SS.avp (P:=P) (t:=a) (x:=Y) (y:=y) (ty:=ty) (pos:=pos) (af:=af) (gd:=gd) (d:=d) (cs:=L.map (qrA J (some H))) (ds:=ys.map (qrA J (some H))) (K:=λI=>I=⟨st.n,kz (some d) (.ow d) (c8 d st.t),[(d,some (.nr t1 ((L++ys).map (qrA J (some H))))),(j,none),(l,none)]++bx d st.h⟩) (Q.el _ _ S) (w.is G d8) (w.is V d8) (C.at d5 hj) (C.at d5 U) A B (OQ F L) (OQ F ys) (by rw[axx,axx];exact t.2) (by rw[axx,axx];exact t.1) bv (by rw[aya];rfl);exact SS.fresh v.t v.h this
       .cases i
      .cases o
     .cases o
    .cases f
   .cases m
  .cases m
 .cases m
end
def WH(T:EQ->bz)(ev:Nat->EV)(hg:Nat->At eh)(t:EQ)(x y:If)(k:EV->a_->At b):At b:=match(T t).el with
 |some (e,c,_,_)=>match eO ev x with
  |.ow j=>match hg j with
   |some (.arr f r a wr)=>match u4 ev y with
    |some l=>cond (beq e f && beq c r.w && wr && !(nH a)) (aW (j0 a l (a.length:Int)) λ_=>k (.sw j l ((a.length:Int) - l) c) [j]) none
    |none=>none
   |_=>none
  |_=>none
 |none=>none
section
variable{P:Fd}{T:EQ->bz}{ev:Nat->EV}{hg:Nat->At eh}{st:St}{dd:ca}{ty:EQ}{pos:String}{af:dM}{gd:fJ}
def RS.arR{k q x l:Nat}{p:IntKind}{rows:Do (Do AV)}{wr:In}(E:LH P a=some (u,q,x,F))(G:st.ev h=.ow k)(z:bc st.h k=some (.arr u q rows wr))(I:st.ev o=.v (.int p (l:Int)))
 (A:l<=rows.length) (B:rows≠[]):RS P ⟨dd,.slice a h (some o) none none,ty,pos,af,gd⟩ st (.sw k l (rows.length - l) q):=λY M e c w j=>by
 obtain⟨i,Z,p2,p3,p4,X,rfl,_,_⟩:=cX E;have m:=j.ev h;have H:c.eval h=e.sv k:=by
  rw[G]at m;generalize c.eval h=f at m;cases m with
  |ow=>rfl
 have v:=j.ev o;rw[I]at v;have J:=v.bR;obtain⟨_,_,_,C⟩:=j.sr.ob _ _ z;rcases C with⟨y,_⟩|⟨b,g,N,r,D,s,U,Q,O,S,R⟩
 .exact absurd y B
 refine⟨.slice (if g=l then some ⟨b,0,none⟩else(some (⟨b,0,none⟩:Addr)).map (·.add (l*i.size))) (rows.length - l) (g - l),?_,λL W=>?_⟩
 .by_cases t:g=l
  .rw[axn t]
   exact VR.sw r (λV=>by omega) bv bv
  .rw[axm t]
   simp only[ayt,ax8,axY];exact VR.sw r (λ_=>rfl) bv bv
 .have:=fi (P:=P) p2 p3 (some ⟨b,0,none⟩) rows.length g l rows.length none g (some (.int p (l:Int))) none none L (.inr ⟨p,rfl⟩) (.inl ⟨rfl,rfl⟩) (.inl ⟨rfl,rfl⟩) A (axp _) s (axp _) s
  simp[execOp,Instr.slice,H,D,J,this]
def adm(B:gJ P T){k:EV->a_->At b}{r:b}(f:WH T ev hg a h o k=some r):
 ∃c t,V4 P (.slice a h (some o) none none) ev hg c t/\k c t=some r:=by
 unfold WH at f;split at f
 next e Q g z C=>
  split at f
  next j I=>
   split at f
   next M L i wr F=>
    split at f
    next l E=>
     obtain⟨q,A⟩:=aY f;simp only[axo,ayC]at q;obtain⟨⟨⟨u,m⟩,v⟩,w⟩:=q;obtain rfl:=axu u;have m:=axu m;subst m;subst v;obtain⟨R,p,G⟩:=br A;unfold j0 at p;split at p
     next N=>
      refine⟨_,_,λst x ty pos af gd s D=>?_,G⟩;obtain⟨O,J⟩:=kA E s;have H:((l.toNat:Nat):Int)=l:=bv
      have:=RS.arR (P:=P) (dd:=x) (ty:=ty) (pos:=pos) (af:=af) (gd:=gd) (l:=l.toNat) (rows:=List.map (bJ L) i) (B.el _ _ C) (s.is I d8) (D.at d5 F) (by rw[H];exact J) (by rw[axx];omega) (λe=>by
       cases i with
       |nil=>cases w
       |cons _ _=>cases e)
      rw[axx]at this;have y:((i.length:Int) - l).toNat=i.length - l.toNat:=bv
      simp only[enc,y];exact this
     .cases p
    .cases f
   .cases f
  .cases f
 .cases f
end
variable{i:Do (Do AV)}
section
variable{P:Fd}{st:St}{d:Nat}{ty:EQ}{pos:String}{af:dM}{gd:fJ}{K:St->Prop}
def SR.shrink(q:SR H j t C m){k e:Nat}(w:bc C B=some (.arr a k i true))(hn:qo B C=true)(Y:B<4294967296)(z:e<=i.length):
 ∃l h,t.sv B=.slice l i.length h/\i.length<=h/\(∀f,l=some f->f.off=0/\f.spot=none\/h=0)/\
 SR H j (t.cK B (t.bX B) (.slice l e h) 0) ((B,some (.arr a k (i.take e) true))::C) m/\
 ∀b o u,bS H j t C m b o u->bS H j (t.cK B (t.bX B) (.slice l e h) 0) ((B,some (.arr a k (i.take e) true))::C) m b o u:=by
 obtain⟨a6,N,Z,a4⟩:=q.ob _ _ w;have hl:=Z rfl;have I:∀r∈i.take e,r.length=k:=λr p=>a6 r (azg p);have F:(i.take e).flatten=i.flatten.take (e*k):=by
  have J:i.flatten=(i.take e).flatten++(i.drop e).flatten:=by rw[<-ay3,ayP]
  have L:(i.take e).flatten.length=e*k:=by rw[ey I,ax9,ayE z]
  rw[J,<-L,aAb]
 have O:∀c∈(i.take e).flatten,c.one=true:=λc n=>N c (by rw[F]at n;exact azg n);have E:∀l h,(∀Rd,(∀b o u,bS H j t C m b o u->Rd b o u)->OR Rd (t.cK B (t.bX B) (.slice l e h) 0) m B (.arr a k (i.take e) true))->
  SR H j (t.cK B (t.bX B) (.slice l e h) 0) ((B,some (.arr a k (i.take e) true))::C) m/\
  ∀b o u,bS H j t C m b o u->bS H j (t.cK B (t.bX B) (.slice l e h) 0) ((B,some (.arr a k (i.take e) true))::C) m b o u:=λl h a2=>
  q.yj B (t.bX B) (.slice l e h) 0 _ q.ext (.inl ⟨hn,Y⟩) (axp _) (λ_ _ _=>rfl) (λb v _=>⟨(q.base _ _ _ w v).1,(q.base _ _ _ w v).2,.inl ⟨_,w,v⟩⟩)
   (λb o u ob ho v a8 a7=>by omega) (λRd s _ a9 a3=>by obtain rfl:=axt a3;exact a2 Rd s)
 rcases a4 with⟨p,S,f,y⟩|⟨D,h,x,R,a5,U,a1,W,V,G,_⟩
 .subst p
  have a0:e=0:=by simpa using z
  subst a0;refine⟨f,0,by rw[y];rfl,axp _,λ_ _=>.inr rfl,E f 0 λRd s=>⟨(λr p=>by cases p),(λc n=>by cases n),λ_=>Env.cc,.inl ⟨rfl,by rw[Env.bY];exact S,f,by rw[Env.dN]⟩⟩⟩
 .refine⟨some ⟨D,0,none⟩,h,a5,U,λf y=>by cases y;exact .inl ⟨rfl,rfl⟩,E _ h λRd s=>⟨I,O,λ_=>Env.cc,.inr ⟨D,h,x,by rw[Env.bY];exact R,by rw[Env.dN,ax9,ayE z],by rw[ax9];omega,a1,W,V,?_,by rw[Env.cc];exact axT _⟩⟩⟩
  rw[F,ax9];have M:x.toList.take (min (e*k) i.flatten.length)=(x.toList.take i.flatten.length).take (e*k):=by rw[azI]
  rw[M];refine⟨by have Q:=G.1;simp only[ax9]at Q⊢;omega,λg c u n A=>?_⟩;rw[ax5]at n A;split at n
  next X=>rw[axn X]at A;exact(G.2 g c u n A).mono s
  .cases n
def SS.af8{t E:EQ}{x y:If}{k p B m:Nat}{o:IntKind}{rows:Do (Do AV)}(ht:LH P t=some (E,p,B,F))(hx:st.ev x=.ow k)(U:bc st.h k=some (.arr E p rows true))(hy:st.ev y=.v (.int o (m:Int)))
 (O:d≠k) (v:m<=rows.length) (N:d<st.n)
 (G:K ⟨st.n,(d,.ow d)::c8 d st.t,(d,some (.arr E p (rows.take m) true))::(k,none)::bx d st.h⟩):SS P ⟨some d,.slice t x none (some y) none,ty,pos,af,gd⟩ st K:=by
 intro q l e a w next Q f W
 obtain⟨i,zv,p2,p3,p4,p5,rfl,rfl,_⟩:=cX ht;have n:=f.ev x;have a3:a.eval x=e.sv k:=by
  rw[hx]at n;generalize a.eval x=u at n;cases n with
  |ow=>rfl
 have A:=f.ev y;rw[hy]at A;have a4:=A.bR;obtain⟨Z,H⟩:=f.sr.kill d;have V:bc (bx d st.h) k=some (.arr E i.size rows true):=by rw[dt,U];rfl
 obtain⟨a0,I⟩:=Z.Ow V O (ef d st.h) (by have:=f.n.2;omega);have X:qo d ((d,some (.arr E i.size rows true))::(k,none)::bx d st.h)=true:=by
  have:=ac9 (ef d st.h) k;simp only[qo,ayw,axo]at this⊢;exact⟨by simp[Ob.gu],this⟩
 obtain⟨b,c,z,M,L,a1,J⟩:=a0.shrink bf X (by have:=f.n.2;omega) v;rw[Env.dN]at z;have Y:(Instr.sliceAt t (a.eval x) none (some (a.eval y)) none).run P w=.ok (.slice b m c) w:=by
  rw[a3,z,a4];have:=fi (P:=P) p2 p3 b rows.length c 0 m none c none (some (.int o (m:Int))) none w (.inl ⟨rfl,rfl⟩) (.inr ⟨o,rfl⟩) (.inl ⟨rfl,rfl⟩) (axT _) v bv (axp _) M;rw[this];congr 2;cases b with
  |none=>simp
  |some b=>
   rcases L b rfl with⟨r,s⟩|C
   .obtain⟨bb,oo,ss⟩:=b
    simp only at r s;subst r;subst s;split
    .rfl
    .simp[ax8]
   .rw[axn C]
 have S:∀j,bc ((d,some (.arr E i.size (rows.take m) true))::(k,none)::bx d st.h) j=bc ((d,some (.arr E i.size (rows.take m) true))::(d,some (.arr E i.size rows true))::(k,none)::bx d st.h) j:=λj=>by
  by_cases h:j=d
  .subst h;rw[bf,bf]
  .rw[bd h,bd h,bd h]
 have a2:TR (bS q l ((e.cK d (e.bX k) (e.sv k) (e.cS k)).cK d ((e.cK d (e.bX k) (e.sv k) (e.cS k)).bX d) (.slice b m c) 0) ((d,some (.arr E i.size (rows.take m) true))::(d,some (.arr E i.size rows true))::(k,none)::bx d st.h) w) ((e.cK d (e.bX k) (e.sv k) (e.cS k)).cK d ((e.cK d (e.bX k) (e.sv k) (e.cS k)).bX d) (.slice b m c) 0) ((d,.ow d)::c8 d st.t) (a.tmps.setIfInBounds d (.slice b m c)):=by
  refine TR.put ?_ (by rw[f.n.1];exact N) ?_
  .have D:=(((((f.tr.kill d).mono H).mono I).env d (dU d st.t) (e':=e.cK d (e.bX k) (e.sv k) (e.cS k)) (λ_ g=>Env.bD g) (λ_ g=>Env.de g)).mono J)
   exact D.env d (dU d st.t) (λ_ g=>Env.bD g) (λ_ g=>Env.de g)
  .have:=VR.ow (Rd:=bS q l ((e.cK d (e.bX k) (e.sv k) (e.cS k)).cK d ((e.cK d (e.bX k) (e.sv k) (e.cS k)).bX d) (.slice b m c) 0) ((d,some (.arr E i.size (rows.take m) true))::(d,some (.arr E i.size rows true))::(k,none)::bx d st.h) w) (e:=(e.cK d (e.bX k) (e.sv k) (e.cS k)).cK d ((e.cK d (e.bX k) (e.sv k) (e.cS k)).bX d) (.slice b m c) 0) (k:=d)
   rw[Env.dN]at this;exact this
 have R:Ga q l _ ⟨st.n,(d,.ow d)::c8 d st.t,_⟩ (a.put (some d) (.slice b m c)) w:=⟨by simpa[Act.put]using f.n,f.d,a1,a2⟩;refine eA (w':=w) ?_ (W _ G _ _ _ (R.lR S));simp[execOp,Instr.slice,Y]
end
variable{R:eW}{Q:eh}{O:Fr}{v:FuncId}{I:Oper}
@[reducible] def lW:Do Sc->Type
 |[]=>Unit
 |[s]=>s.c9
 |s::t::r=>s.c9×lW (t::r)
def iy:(cs:Do Sc)->lW cs->Do EV
 |[],_=>[]
 |[s],x=>[.sc s x]
 |s::t::r,x=>.sc s x.1::iy (t::r) x.2
def yy:(cs:Do Sc)->Do EV->At (lW cs)
 |[],[]=>some ()
 |[],_::_=>none
 |[s],c::cs=>match c,cs with
  |.sc f x,[]=>eG f s x
  |_,_=>none
 |s::t::r,c::cs=>match c with
  |.sc f x=>match eG f s x with
   |some a=>match yy (t::r) cs with
    |some b=>some (a,b)
    |none=>none
   |none=>none
  |_=>none
 |_::_,[]=>none
def Be:∀{cs:Do Sc} {l:Do EV} {x:lW cs},yy cs l=some x->l=iy cs x
 |[],[],x,h=>rfl
 |[],_::_,x,h=>by simp[yy]at h
 |[s],[],x,h=>by simp[yy]at h
 |[s],c::cs,x,h=>by
  simp only[yy]at h;split at h
  .obtain⟨rfl,rfl⟩:=dm h
   rfl
  .cases h
 |s::t::r,[],x,h=>by simp[yy]at h
 |s::t::r,c::cs,x,h=>by
  simp only[yy]at h;split at h
  .split at h
   next a f=>
    split at h
    next b g=>obtain⟨rfl,rfl⟩:=dm f;have:=Be g;cases h;rw[this];rfl
    .cases h
   .cases h
  .cases h
inductive PV where
 |h (s:Sc)
 |t (r:Sc)
 |k (c:EV)
 |ag (l:List PV)
 |tu (l:List PV)
 |fp (l:List PV)
 |cl (fn:Fn) (fs cs:List PV)
 |pe (k sz o:Nat)
def peE(k a o:Nat):EV->EV
 |.sc s x=>match eG s (.i .i64) x with
  |some i=>.pe k i a o
  |none=>.un
 |_=>.un
def OS:EV->EV
 |.sc (.sl r) a=>.ts r a
 |_=>.un
mutual
def fM:PV->Do EV->EV×Do EV
 |.h _,cs=>(cs.headD .un,cs.tail)
 |.t _,cs=>(OS (cs.headD .un),cs.tail)
 |.k c,cs=>(c,cs)
 |.ag l,cs=>(.ag (da l cs).1,(da l cs).2)
 |.tu l,cs=>(.tu (da l cs).1,(da l cs).2)
 |.fp l,cs=>(.fp (da l cs).1,(da l cs).2)
 |.cl f a b,cs=>(.cl f (da a cs).1 (da b (da a cs).2).1,(da b (da a cs).2).2)
 |.pe k g o,cs=>(peE k g o (cs.headD .un),cs.tail)
def da:Do PV->Do EV->Do EV×Do EV
 |[],cs=>([],cs)
 |p::a,cs=>((fM p cs).1::(da a (fM p cs).2).1,(da a (fM p cs).2).2)
end
inductive PO where
 |box (t:TypeId) (l:List PV)
 |arr (t:TypeId) (r:Sc) (wr:Bool)
 |mp (d:TypeDesc) (kc vc:Sc)
 |nr (t:TypeId) (r:Sc) (ho:FL)
 |qr (t:TypeId) (k sz:Nat)
def qrE(t:EQ)(k a:Nat):EV->At eh
 |.sc s x=>match eG s (.sl (.i .i64)) x with
  |some b=>some (.qr t (some k) a b)
  |none=>none
 |_=>none
def alT(t:EQ)(r:Sc)(wr:In):EV->At eh
 |.sc s x=>match eG s (.sl r) x with
  |some a=>some (.arr t r a wr)
  |none=>none
 |_=>none
def mpE(d:TypeDesc)(a b:Sc):EV->At eh
 |.sc s x=>match eG s (.sl (.pr a b)) x with
  |some f=>some (.mp d a b f)
  |none=>none
 |_=>none
def nrE(t:EQ)(r:Sc):EV->At eh
 |.sc s x=>match eG s (.sl (.sl r)) x with
  |some a=>some (.nr t r a none)
  |none=>none
 |_=>none
def apa(t:EQ)(r:Sc)(p:Nat):EV->EV->At eh
 |.sc s x,.sc a y=>match eG s (.sl (.sl r)) x with
  |some b=>match eG a (.i .i64) y with
   |some i=>some (.nr t r b (some (i,some p)))
   |none=>none
  |none=>none
 |_,_=>none
def iT:PO->Do EV->At eh×Do EV
 |.box t l,cs=>(some (.box t (da l cs).1),(da l cs).2)
 |.arr t r wr,cs=>(alT t r wr (cs.headD .un),cs.tail)
 |.mp d a f,cs=>(mpE d a f (cs.headD .un),cs.tail)
 |.nr t r none,cs=>(nrE t r (cs.headD .un),cs.tail)
 |.nr t r (some (_,p)),cs=>(apa t r p (cs.headD .un) (cs.tail.headD .un),cs.tail.tail)
 |.qr t k b,cs=>(qrE t k b (cs.headD .un),cs.tail)
def vp:Do (Nat×PO)->Do EV->eW
 |[],_=>[]
 |(k,o)::h,cs=>(k,(iT o cs).1)::vp h (iT o cs).2
structure kq where
 f:FuncId
 ps:List PV
 hs:List (Nat×PO)
 cs:List Sc
 α:Type
 M:lW cs->Option α
 el:α->(R:Type)->(EV->eW->Option R)->Option R
 own:Bool
 pu:Bool
def kq.as(c:kq)(x:lW c.cs):Do EV:=(da c.ps (iy c.cs x)).1
def kq.H0(c:kq)(x:lW c.cs):eW:=vp c.hs (da c.ps (iy c.cs x)).2
def Sc.ns:Sc->In
 |.sl _=>false
 |.pr x y=>x.ns && y.ns
 |.i _=>true
 |.b=>true
 |.u=>true
mutual
def EV.pu:EV->In
 |.un=>true
 |.sc s x=>match s with
  |.sl _=>false
  |_=>true
 |.nil=>true
 |.ts r g=>false
 |.v x=>true
 |.ow k=>true
 |.pt k o=>true
 |.pe k i b o=>true
 |.sw k l n b=>true
 |.mp k=>true
 |.fp cs=>false
 |.ag cs=>EV.LJ cs
 |.tu cs=>EV.LJ cs
 |.cl f a cs=>EV.LJ a && EV.LJ cs
def EV.LJ:Do EV->In
 |[]=>true
 |c::cs=>EV.pu c && EV.LJ cs
end
def eh.pu:eh->In
 |.box t cs=>EV.LJ cs
 |.arr t r g wr=>r.ns
 |.mp d f a b=>a.ns
 |.nr _ _ _ _=>false
 |.qr .. =>false
def puH(h:eW):In:=h.all λp=>match p.2 with
 |some o=>o.pu
 |none=>true
def kq.ok(P:Fd)(c:kq):Prop:=
 (c.own=false->c.hs=[])/\∀x y,c.M x=some y->∃e H,(∀(R:Type) (k:EV->eW->At R),c.el y R k=k e H)/\(c.own=false->H=[])/\(c.pu=true->e.pu=true/\puH H=true)/\
  G3 P c.f (bE (c.H0 x)) (cg (c.as x)) (bE H) (enc e)
mutual
def yl(π:Nat->Nat):EV->EV
 |.un=>.un
 |.sc s x=>.sc s x
 |.nil=>.nil
 |.ts r g=>.ts r g
 |.v x=>.v x
 |.ow k=>.ow (π k)
 |.pt k o=>.pt (π k) o
 |.pe k i a o=>.pe (π k) i a o
 |.sw k l n a=>.sw (π k) l n a
 |.mp k=>.mp (π k)
 |.fp cs=>.fp cs
 |.ag cs=>.ag (vq π cs)
 |.tu cs=>.tu (vq π cs)
 |.cl b f cs=>.cl b (vq π f) (vq π cs)
def vq(π:Nat->Nat):Do EV->Do EV
 |[]=>[]
 |c::cs=>yl π c::vq π cs
end
mutual
def HE(π:Nat->Nat):∀c:EV,enc (yl π c)=(enc c).iL π
 |.un=>rfl
 |.sc s x=>by cases s<;>rfl
 |.nil=>rfl
 |.ts r g=>rfl
 |.v x=>rfl
 |.ow k=>rfl
 |.pt k o=>rfl
 |.pe k i b o=>rfl
 |.sw k l n b=>rfl
 |.mp k=>rfl
 |.fp cs=>rfl
 |.ag cs=>by simp only[yl,enc,AV.iL,nI π cs]
 |.tu cs=>by simp only[yl,enc,AV.iL,nI π cs]
 |.cl f a cs=>by simp only[yl,enc,AV.iL,nI π cs,nI π a]
def nI(π:Nat->Nat):∀cs:Do EV,cg (vq π cs)=AV.ve π (cg cs)
 |[]=>rfl
 |c::cs=>by simp only[vq,cg,AV.ve,HE π c,nI π cs]
end
def YI(π:Nat->Nat):Oo->Oo
 |some (i,some j)=>some (i,some (π j))
 |o=>o
def OT(π:Nat->Nat):eh->eh
 |.box t cs=>.box t (vq π cs)
 |.arr t r a wr=>.arr t r a wr
 |.mp d g i f=>.mp d g i f
 |.nr t r a b=>.nr t r a (YI π b)
 |.qr t b h a=>.qr t (b.map π) h a
def alU(π:Nat->Nat)(r:Sc)(x:Do r.c9):(nrA r x).iL π=nrA r x:=by cases x<;>rfl
def alV(π:Nat->Nat)(r:Sc)(a:Do (Do r.c9))(f:Oo):Aa r a (YI π f)=AV.ve π (Aa r a f):=by
 have b:(a.map (nrA r)).map (AV.iL π)=a.map (nrA r):=by
  rw[ayz];exact ayp λx _=>alU π r x
 rw[lS]
 match f with
 |none=>exact b.symm
 |some (i,none)=>simp only[YI,Aa,azk,b];rfl
 |some (i,some j)=>simp only[YI,Aa,azk,b];rfl
def I5(π:Nat->Nat)(o:eh):cx (OT π o)=(cx o).iL π:=by
 cases o with
 |box t cs=>simp only[OT,cx,Ob.iL,nI]
 |arr=>rfl
 |mp=>rfl
 |nr t r b a=>simp only[OT,cx,Ob.iL,alV]
 |qr t a f b=>
  simp only[OT,cx,Ob.iL,lS,ayz];congr 1;exact ayp λi _=>by cases a<;>rfl
def FU(π:Nat->Nat):eW->eW
 |[]=>[]
 |(k,o)::h=>(π k,match o with
  |some o=>some (OT π o)
  |none=>none)::FU π h
def vu(π:Nat->Nat):∀h:eW,bE (FU π h)=lh π (bE h)
 |[]=>rfl
 |(k,o)::h=>by
  have:∀o:eh,cx (OT π o)=(cx o).iL π:=I5 π;cases o with
  |none=>simp only[FU,bE,lh,Option.map,vu π h]
  |some o=>simp only[FU,bE,lh,Option.map,vu π h,this]
mutual
def LW(π:Nat->Nat):PV->PV
 |.h s=>.h s
 |.t r=>.t r
 |.k c=>.k (yl π c)
 |.ag l=>.ag (oO π l)
 |.tu l=>.tu (oO π l)
 |.fp l=>.fp l
 |.cl a b cs=>.cl a (oO π b) (oO π cs)
 |.pe k f o=>.pe (π k) f o
def oO(π:Nat->Nat):Do PV->Do PV
 |[]=>[]
 |p::a=>LW π p::oO π a
end
def vv(π:Nat->Nat):PO->PO
 |.box t l=>.box t (oO π l)
 |.arr t r wr=>.arr t r wr
 |.mp d a f=>.mp d a f
 |.nr t r none=>.nr t r none
 |.nr t r (some (s,p))=>.nr t r (some (s,π p))
 |.qr t k b=>.qr t (π k) b
def YJ(p k:Nat)(D:bw):bw:=cond (Nat.ble 4294967296 p) (match yw D p with
 |some _=>D
 |none=>D++[(p,k)]) D
mutual
def arS:PV->EV->bw->bw
 |.h _,_,D=>D
 |.t _,_,D=>D
 |.k a,c,D=>match a,c with
  |.ow p,.ow k=>YJ p k D
  |.pt p _,.pt k _=>YJ p k D
  |.mp p,.mp k=>YJ p k D
  |_,_=>D
 |.ag l,c,D=>match c with
  |.ag cs=>rQ l cs D
  |_=>D
 |.tu _,_,D=>D
 |.fp _,_,D=>D
 |.cl _ b g,c,D=>match c with
  |.cl _ f h=>rQ g h (rQ b f D)
  |_=>D
 |.pe p _ _,c,D=>match c with
  |.pe k _ _ _=>YJ p k D
  |_=>D
def rQ:Do PV->Do EV->bw->bw
 |[],_,D=>D
 |p::a,cs,D=>match cs with
  |[]=>D
  |c::cs=>rQ a cs (arS p c D)
end
def RJ(hg:Nat->At eh):Do (Nat×PO)->bw->bw
 |[],D=>D
 |(p,b)::a,D=>RJ hg a (match b with
  |.box _ l=>match yw D p with
   |some k=>match hg k with
    |some (.box _ cs)=>rQ l cs D
    |_=>D
   |none=>D
  |_=>D)
def af9(hg:Nat->At eh)(s:Sc):EV->At (s.c9×a_)
 |.ow k=>match hg k with
  |some (.arr _ r a _)=>match eG (.sl r) s a with
   |some y=>some (y,[k])
   |none=>none
  |_=>none
 |c=>match Mx s c with
  |some y=>some (y,[])
  |none=>none
def YK:EV->EV->In
 |.un,_=>true
 |.nil,.nil=>true
 |.ow a,.ow b=>beq a b
 |.pt a o,.pt b q=>beq a b && beq o q
 |.mp a,.mp b=>beq a b
 |.v (.func (.func f) ⟨[]⟩ ⟨[]⟩),.v (.func (.func g) ⟨[]⟩ ⟨[]⟩)=>beq f g
 |_,_=>false
def RK{a b:EV}(h:YK a b=true):Wk (enc b) (enc a):=by
 unfold YK at h;split at h
 .exact Wk.un
 .exact Wk.refl _
 .rw[axu h];exact Wk.refl _
 .simp only[axo]at h
  rw[axu h.1,axu h.2];exact Wk.refl _
 .rw[axu h];exact Wk.refl _
 .rw[axu h];exact Wk.refl _
 .cases h
def YL:EV->In
 |.un=>true
 |.nil=>true
 |.v _=>true
 |_=>false
def xH:PV->In
 |.h _=>true
 |.t _=>true
 |.k c=>YL c
 |_=>false
def fnB:Fn->Fn->In
 |.func f,.func g=>beq f g
 |_,_=>false
def af_{a b:Fn}(h:fnB a b=true):a=b:=by
 unfold fnB at h;split at h
 .rw[axu h]
 .cases h
def Wk.fp{cs a:Do AV}(h:pP cs a):Wk (.fp cs) (.fp a):=by
 intro Rd E u k;cases k with
 |fp b i g f=>
  have j:LR (VR Rd none) cs b:=⟨i,g⟩;have:=h.lr j;exact .fp b this.1 this.2 f
def Wk.cl{fn:Fn}{fs g cs f:Do AV}(h:pP fs g)(k:pP cs f):Wk (.cl fn fs cs) (.cl fn g f):=by
 intro Rd E u q;cases q with
 |cl i j o p l m=>
  have a:LR (VR Rd E) fs i:=⟨o,l⟩;have b:LR (VR Rd E) cs j:=⟨p,m⟩;have a:=h.lr a;have b:=k.lr b;exact .cl i j a.1 b.1 a.2 b.2
mutual
def I6:PV->EV->At (Do EV)
 |.h s,c=>match Mx s c with
  |some x=>some [.sc s x]
  |none=>none
 |.t r,c=>match c with
  |.ts u f=>match eG (.sl u) (.sl r) f with
   |some z=>some [.sc (.sl r) z]
   |none=>none
  |.nil=>some [.sc (.sl r) (show Do r.c9 from [])]
  |_=>none
 |.k g,c=>cond (YK g c) (some []) none
 |.ag l,c=>match c with
  |.ag cs=>yz l cs
  |_=>none
 |.tu l,c=>match c with
  |.tu cs=>yz l cs
  |_=>none
 |.fp l,c=>match c with
  |.fp cs=>yz l cs
  |_=>none
 |.cl h m f,c=>match c with
  |.cl j p y=>cond (fnB h j) (match yz m p with
   |some a=>match yz f y with
    |some b=>some (a++b)
    |none=>none
   |none=>none) none
  |_=>none
 |.pe k v o,c=>match c with
  |.pe q i w t=>cond (beq k q && beq v w && beq o t) (some [.sc (.i .i64) i]) none
  |_=>none
def yz:Do PV->Do EV->At (Do EV)
 |[],cs=>match cs with
  |[]=>some []
  |_::_=>none
 |p::f,cs=>match cs with
  |[]=>none
  |c::cs=>match I6 p c with
   |some a=>match yz f cs with
    |some b=>some (a++b)
    |none=>none
   |none=>none
end
def iz(s:Sc)(x:s.c9):eG s s x=some x:=by
 have j:∀s:Sc,Sc.eqP s s=some ⟨rfl⟩:=by
  intro s
  induction s with
  |i k=>simp[Sc.eqP]
  |b=>rfl
  |sl r f=>simp[Sc.eqP,f]
  |pr a l g h=>simp[Sc.eqP,g,h]
  |u=>rfl
 unfold eG;rw[j]
mutual
def YM:∀(p:PV) {c:EV} {f:Do EV} (rest:Do EV),I6 p c=some f->(fM p (f++rest)).2=rest/\Wk (enc c) (enc (fM p (f++rest)).1)
 |.h s,c,f,rest,h=>by
  simp only[I6]at h;split at h
  next x y=>cases h;exact⟨rfl,Wj y⟩
  .cases h
 |.t r,c,f,rest,h=>by
  simp only[I6]at h;split at h
  .split at h
   next F z=>cases h;obtain⟨e,rfl⟩:=dm z;cases e;exact⟨rfl,Wk.refl _⟩
   .cases h
  .cases h
   exact⟨rfl,Wk.Wi⟩
  .cases h
 |.k B,c,f,rest,h=>by
  simp only[I6]at h;obtain⟨i,g⟩:=aY h;cases g;exact⟨rfl,RK i⟩
 |.ag l,c,f,rest,h=>by
  simp only[I6]at h;split at h
  .obtain⟨a,b⟩:=nJ l rest h
   exact⟨a,Wk.ag b⟩
  .cases h
 |.tu l,c,f,rest,h=>by
  simp only[I6]at h;split at h
  .obtain⟨a,b⟩:=nJ l rest h
   exact⟨a,Wk.tu b⟩
  .cases h
 |.fp l,c,f,rest,h=>by
  simp only[I6]at h;split at h
  .obtain⟨a,b⟩:=nJ l rest h
   exact⟨a,Wk.fp b⟩
  .cases h
 |.cl C u A,c,f,rest,h=>by
  simp only[I6]at h;split at h
  .obtain⟨i,g⟩:=aY h
   obtain rfl:=af_ i;split at g
   next a v=>
    split at g
    next b w=>cases g;obtain⟨j,m⟩:=nJ u (b++rest) v;obtain⟨q,t⟩:=nJ A rest w;simp only[fM,axS,j];exact⟨q,Wk.cl m t⟩
    .cases g
   .cases g
  .cases h
 |.pe k E o,c,f,rest,h=>by
  simp only[I6]at h;split at h
  .obtain⟨i,g⟩:=aY h
   cases g;simp only[axo]at i;rw[axu i.1.1,axu i.1.2,axu i.2];refine⟨rfl,?_⟩;simp only[fM,ayI,ayS,peE,iz];exact Wk.refl _
  .cases h
def nJ:∀(g:Do PV) {cs:Do EV} {f:Do EV} (rest:Do EV),yz g cs=some f->(da g (f++rest)).2=rest/\pP (cg cs) (cg (da g (f++rest)).1)
 |[],cs,f,rest,h=>by
  simp only[yz]at h;split at h
  .cases h
   exact⟨rfl,.nil⟩
  .cases h
 |p::g,cs,f,rest,h=>by
  simp only[yz]at h;split at h
  .cases h
  next c cs=>
   split at h
   next a k=>
    split at h
    next b l=>cases h;have i:=YM p (b++rest) k;have j:=nJ g rest l;simp only[da,axS,i.1];exact⟨j.1,.cons i.2 j.2⟩
    .cases h
   .cases h
end
def alW:PO->eh->At (Do EV)
 |.box t l,.box a cs=>cond (beq t a) (yz l cs) none
 |.arr t r wr,.arr a g b z=>cond (beq t a && (!wr||z)) (match eG (.sl g) (.sl r) b with
  |some f=>some [.sc (.sl r) f]
  |none=>none) none
 |.mp d h j,.mp m u y o=>cond (lV d h && lV m h) (match eG (.sl (.pr u y)) (.sl (.pr h j)) o with
  |some f=>some [.sc (.sl (.pr h j)) f]
  |none=>none) none
 |.nr t r none,.nr a g b none=>cond (beq t a) (match eG (.sl (.sl g)) (.sl (.sl r)) b with
  |some f=>some [.sc (.sl (.sl r)) f]
  |none=>none) none
 |.nr t r (some (_,p)),.nr a g b (some (i,some q))=>cond (beq t a && beq p q) (match eG (.sl (.sl g)) (.sl (.sl r)) b with
  |some f=>some [.sc (.sl (.sl r)) f,.sc (.i .i64) i]
  |none=>none) none
 |.arr t r wr,.nr a g b none=>cond (beq t a) (match eG (.sl (.sl g)) (.sl r) b with
  |some f=>some [.sc (.sl r) f]
  |none=>none) none
 |.qr t k v,.qr a (some s) w b=>cond (beq t a && beq k s && beq v w) (some [.sc (.sl (.i .i64)) (show aX from b)]) none
 |_,_=>none
def WI(r:Sc):∀a:Do (Do r.c9),rJ ((a.map (nrA r)).map λc=>[c]) (List.map (bJ (.sl r)) a)
 |[]=>.nil
 |x::a=>by
  refine .cons (.cons ?_ .nil) (WI r a);cases x with
  |nil=>exact Wk.empty rfl
  |cons y b=>exact Wk.refl _
def OR.arT{Rd:bI}{e:Env}{cs g:Do AV}(l:pP cs g)(h:OR Rd e m B (.box a cs)):OR Rd e m B (.box a g):=by
 obtain⟨f,b,o,i,j,k⟩:=h;exact⟨f,b,o,i,j,l.lr k⟩
def YN(p:PO){B:Do EV}(rest:Do EV)(h:alW p Q=some B):(iT p (B++rest)).2=rest/\∃C,(iT p (B++rest)).1=some C/\∀Rd e w k,OR Rd e w k (cx Q)->OR Rd e w k (cx C):=by
 unfold alW at h;split at h
 next t l z cs=>obtain⟨f,g⟩:=aY h;have f:=axu f;subst f;obtain⟨a,b⟩:=nJ l rest g;exact⟨a,_,rfl,λRd e w k j=>OR.arT b j⟩
 next t r wr z v m V=>
  obtain⟨f,g⟩:=aY h;simp only[axo]at f;have o:=axu f.1;subst o;split at g
  next A u=>
   cases g;obtain⟨e1,rfl⟩:=dm u;cases e1;refine⟨rfl,.arr t r m wr,?_,λRd e w k j=>?_⟩
   .simp only[iT,ayI,ayS,alT,iz]
   .obtain⟨E,F,G,H⟩:=j
    refine⟨E,F,λM=>G ?_,H⟩;have:=f.2;rw[M]at this;simpa using this
  .cases g
 next d N O R S U I=>
  obtain⟨f,g⟩:=aY h;simp only[axo]at f;have o:=qM f.1 f.2;subst o;split at g
  next A u=>cases g;obtain⟨e1,rfl⟩:=dm u;cases e1;refine⟨rfl,.mp d N O I,?_,λRd e w k j=>j⟩;simp only[iT,ayI,ayS,mpE,iz]
  .cases g
 next t r z v m=>
  obtain⟨f,g⟩:=aY h;have o:=axu f;subst o;split at g
  next A u=>cases g;obtain⟨e1,rfl⟩:=dm u;cases e1;refine⟨rfl,.nr t r m none,?_,λRd e w k j=>j⟩;simp only[iT,ayI,ayS,nrE,iz]
  .cases g
 next t r s p z v m i q=>
  obtain⟨f,g⟩:=aY h;simp only[axo]at f;have o:=axu f.1;have J:=axu f.2;subst o;subst J;split at g
  next A u=>cases g;obtain⟨e1,rfl⟩:=dm u;cases e1;refine⟨rfl,.nr t r m (some (i,some p)),?_,λRd e w k j=>j⟩;simp only[iT,ayB,ax3,ayS,List.tail_cons,apa,iz]
  .cases g
 next t r wr z v m=>
  obtain⟨f,g⟩:=aY h;have o:=axu f;subst o;split at g
  next A u=>
   cases g;obtain⟨e1,rfl⟩:=dm u;cases e1;refine⟨rfl,.arr t (.sl v) m wr,?_,λRd e w k j=>?_⟩
   .simp only[iT,ayI,ayS,alT,iz]
   .have L:OR Rd e w k (.nr t (m.map (nrA v))):=j
    refine(L.arO (λc y=>?_) (λc y=>?_) wr).A_ (WI v m) (λc y=>?_)
    .obtain⟨x,_,rfl⟩:=axC.1 y
     cases x<;>rfl
    .obtain⟨x,_,rfl⟩:=axC.1 y
     cases x<;>rfl
    .exact eU (.sl v) m c y
  .cases g
 .obtain⟨f,g⟩:=aY h
  cases g;simp only[axo]at f;rw[axu f.1.1,axu f.1.2,axu f.2];refine⟨rfl,_,?_,λRd e w k j=>j⟩;simp only[iT,ayI,ayS,qrE];rw[iz (.sl (.i .i64))]
 .cases h
mutual
def rR(hg:Nat->At eh)(bo:In):PV->EV->At (Do EV×a_)
 |.h s,c=>match af9 hg s c with
  |some (x,gs)=>some ([.sc s x],gs)
  |none=>none
 |.t r,c=>match c with
  |.ts w f=>match eG (.sl w) (.sl r) f with
   |some B=>some ([.sc (.sl r) B],[])
   |none=>none
  |.nil=>some ([.sc (.sl r) (show Do r.c9 from [])],[])
  |_=>none
 |.k g,c=>cond (YK g c) (some ([],[])) none
 |.ag l,c=>match c with
  |.ag cs=>mH hg bo l cs
  |_=>none
 |.tu _,_=>none
 |.fp l,c=>match c with
  |.fp cs=>cond (l.all xH) (match mH hg bo l cs with
   |some (vs,[])=>some (vs,[])
   |_=>none) none
  |.pt k o=>cond (bo && beq o 0 && l.all xH) (match hg k with
   |some (.box t cs)=>cond (!(beq t Iz)) (match mH hg bo l cs with
    |some (vs,gs)=>some (vs,k::gs)
    |none=>none) none
   |_=>none) none
  |_=>none
 |.cl h m f,c=>match c with
  |.cl j p A=>cond (fnB h j) (match mH hg bo m p with
   |some (a,q)=>match mH hg bo f A with
    |some (b,g2)=>some (a++b,q++g2)
    |none=>none
   |none=>none) none
  |_=>none
 |.pe k y o,c=>match c with
  |.pe u i z v=>cond (beq k u && beq y z && beq o v) (some ([.sc (.i .i64) i],[])) none
  |_=>none
def mH(hg:Nat->At eh)(bo:In):Do PV->Do EV->At (Do EV×a_)
 |[],cs=>match cs with
  |[]=>some ([],[])
  |_::_=>none
 |p::g,cs=>match cs with
  |[]=>none
  |c::cs=>match rR hg bo p c with
   |some (a,f)=>match mH hg bo g cs with
    |some (b,g2)=>some (a++b,f++g2)
    |none=>none
   |none=>none
end
def j_(cs:Do EV):Prop:=∀c∈cs,∃s x,c=EV.sc s x
def vw:∀(cs:Do Sc) (x:lW cs),j_ (iy cs x)
 |[],_=>λc h=>by cases h
 |[s],x=>λc h=>by simp only[iy,axK]at h;exact⟨_,_,h⟩
 |s::t::r,x=>λc h=>by
  simp only[iy]at h;rcases axP.1 h with h|h
  .exact⟨_,_,h⟩
  .exact vw (t::r) x.2 c h
def j_.tail{cs:Do EV}(h:j_ cs):j_ cs.tail:=λc a=>h c (List.mem_of_mem_tail a)
def aga(π:Nat->Nat){cs:Do EV}(h:j_ cs):yl π (cs.headD .un)=cs.headD .un:=by
 cases cs with
 |nil=>rfl
 |cons c cs=>obtain⟨s,x,rfl⟩:=h c d5;rfl
def adn(π:Nat->Nat){cs:Do EV}(h:j_ cs):yl π (OS (cs.headD .un))=OS (cs.headD .un):=by
 cases cs with
 |nil=>rfl
 |cons c cs=>
  obtain⟨s,x,rfl⟩:=h c d5;cases s<;>rfl
mutual
def MD(π:Nat->Nat):∀(p:PV) {cs:Do EV},j_ cs->(fM (LW π p) cs).1=yl π (fM p cs).1/\(fM (LW π p) cs).2=(fM p cs).2/\j_ (fM p cs).2
 |.h s,cs,h=>⟨(aga π h).symm,rfl,h.tail⟩
 |.t r,cs,h=>⟨(adn π h).symm,rfl,h.tail⟩
 |.k c,cs,h=>⟨rfl,rfl,h⟩
 |.ag l,cs,h=>by
  obtain⟨a,b,c⟩:=gP π l h;exact⟨by simp only[LW,fM,yl,a],by simp only[LW,fM,b],c⟩
 |.tu l,cs,h=>by
  obtain⟨a,b,c⟩:=gP π l h;exact⟨by simp only[LW,fM,yl,a],by simp only[LW,fM,b],c⟩
 |.fp l,cs,h=>⟨rfl,rfl,(gP π l h).2.2⟩
 |.cl q j m,cs,h=>by
  obtain⟨a,b,c⟩:=gP π j h;obtain⟨f,g,i⟩:=gP π m c;exact⟨by simp only[LW,fM,yl,a,b,f],by simp only[LW,fM,b,g],i⟩
 |.pe k t o,cs,h=>by
  refine⟨?_,rfl,h.tail⟩;simp only[LW,fM];cases cs with
  |nil=>rfl
  |cons c cs=>
   obtain⟨s,x,rfl⟩:=h c d5;simp only[ayS,peE];cases eG s (.i .i64) x<;>rfl
def gP(π:Nat->Nat):∀(f:Do PV) {cs:Do EV},j_ cs->(da (oO π f) cs).1=vq π (da f cs).1/\(da (oO π f) cs).2=(da f cs).2/\j_ (da f cs).2
 |[],cs,h=>⟨rfl,rfl,h⟩
 |p::f,cs,h=>by
  obtain⟨a,b,c⟩:=MD π p h;obtain⟨g,i,j⟩:=gP π f c;exact⟨by simp only[oO,da,vq,a,b,g],by simp only[oO,da,b,i],j⟩
end
def VR.close{Rd:bI}{c:AV}(h:VR Rd M c s)(b:c.gC (λ_=>true)=true):VR Rd none c s:=by
 induction h with
 |un=>exact .un
 |v=>exact .v
 |sl i r o g l a f p m k=>exact .sl i r o g l a f p m
 |ow=>simp[AV.gC]at b
 |pt=>simp[AV.gC]at b
 |pe=>simp[AV.gC]at b
 |sw=>simp[AV.gC]at b
 |fp i g l m k=>exact .fp i g l m
 |ag i g l k=>exact .ag i g λj c s a f=>k j c s a f (fg (by simpa[AV.gC]using b) j c a)
 |tu i g l k=>exact .tu i g λj c s a f=>k j c s a f (fg (by simpa[AV.gC]using b) j c a)
 |mp=>simp[AV.gC]at b
 |cl i u g q l w k t=>
  simp only[AV.gC,axo]at b;exact .cl i u g q (λj c s a f=>k j c s a f (fg b.1 j c a)) (λj c s a f=>t j c s a f (fg b.2 j c a))
def agb(s:Sc)(x:s.c9)(p:Nat->In):(encS s x).gC p=true:=by cases s<;>rfl
def WJ(c:EV)(a:c=.un\/∃s x,c=EV.sc s x)(p:Nat->In):(enc (OS c)).gC p=true:=by
 rcases a with rfl|⟨s,x,rfl⟩
 .rfl
 .cases s<;>rfl
def jO{cs:Do EV}(h:j_ cs):cs.headD .un=.un\/∃s x,cs.headD .un=EV.sc s x:=by
 cases cs with
 |nil=>exact .inl rfl
 |cons c cs=>exact .inr (h c d5)
def RL{p:PV}(a:xH p=true){cs:Do EV}(h:j_ cs):(enc (fM p cs).1).gC (λ_=>true)=true:=by
 cases p with
 |h s=>
  rcases jO h with e|⟨b,x,e⟩
  .simp only[fM,e];rfl
  .simp only[fM,e];exact agb _ _ _
 |t r=>exact WJ _ (jO h) _
 |k c=>cases c<;>first|rfl|(simp[xH,YL]at a)
 |_=>simp[xH]at a
def rS:∀{f:Do PV} (_:f.all xH=true) {cs:Do EV},j_ cs->∀c∈cg (da f cs).1,c.gC (λ_=>true)=true
 |[],_,cs,h,c,a=>by cases a
 |p::f,b,cs,h,c,a=>by
  simp only[ayw,axo]at b;simp only[da,cg]at a;rcases axP.1 a with rfl|a
  .exact RL b.1 h
  .exact rS b.2 (MD id p h).2.2 c a
section
variable{hg:Nat->At eh}{bo:In}{R1 R2:bI}{e e1:Env}{gF:a_}
structure GF(hg:Nat->Option eh)(R1 R2:bI)(e e1:Env)(gF:a_):Prop where
 mono:∀b o u,R1 b o u->R2 b o u
 bX:∀j,e1.bX j=e.bX j
 sv:∀j,e1.sv j=e.sv j
 row:∀k,gF.contains k=true->∀t r xs wr,hg k=some (.arr t r xs wr)->VR R2 none (.sl false r.w (List.map (bJ r) xs)) (e.sv k)
 box:∀k,gF.contains k=true->∀t cs,t≠Iz->hg k=some (.box t cs)->∃b us,e.bX k=some b/\LR (VR R1 (some e)) (cg cs) us/\∀(j:Nat) u,us[j]? =some u->R2 b j u
def GF.carry(g:GF hg R1 R2 e e1 gF){c:AV}(h:VR R1 (some e) c s):VR R2 (some e1) c s:=(h.mono g.mono).iR rfl g.bX g.sv
def agc(g:GF hg R1 R2 e e1 gF){a:Sc}{c:EV}{x:a.c9}{gs:a_}(h:af9 hg a c=some (x,gs))(i:∀k,gs.contains k=true->gF.contains k=true)(f:VR R1 (some e) (enc c) s):VR R2 (some e1) (encS a x) s:=by
 unfold af9 at h;split at h
 next k=>
  split at h
  next t r l wr j=>
   split at h
   next y b=>cases h;obtain⟨rfl,rfl⟩:=dm b;cases f;exact(g.row k (i k d5) t r _ wr j).cW
   .cases h
  .cases h
 .split at h
  next y b=>cases h;exact Wj b _ _ _ (g.carry f)
  .cases h
mutual
def ado:∀(p:PV) {c:EV} {f:Do EV} {gs:a_},rR hg bo p c=some (f,gs)->j_ f
 |.h s,c,f,gs,h=>by
  simp only[rR]at h;split at h
  .cases h
   intro c b;simp only[axK]at b;exact⟨_,_,b⟩
  .cases h
 |.t r,c,f,gs,h=>by
  simp only[rR]at h;split at h
  .split at h
   .cases h
    intro c b;simp only[axK]at b;exact⟨_,_,b⟩
   .cases h
  .cases h
   intro c b;simp only[axK]at b;exact⟨_,_,b⟩
  .cases h
 |.k t,c,f,gs,h=>by
  simp only[rR]at h;obtain⟨_,a⟩:=aY h;cases a;intro c b;cases b
 |.ag l,c,f,gs,h=>by
  simp only[rR]at h;split at h
  .exact fX l h
  .cases h
 |.tu l,c,f,gs,h=>by simp[rR]at h
 |.fp l,c,f,gs,h=>by
  simp only[rR]at h;split at h
  .obtain⟨_,a⟩:=aY h
   split at a
   next g=>cases a;exact fX l g
   .cases a
  .obtain⟨_,a⟩:=aY h
   split at a
   .obtain⟨_,a⟩:=aY a
    split at a
    next g=>cases a;exact fX l g
    .cases a
   .cases a
  .cases h
 |.cl u i q,c,f,gs,h=>by
  simp only[rR]at h;split at h
  .obtain⟨_,a⟩:=aY h
   split at a
   next j=>
    split at a
    next m=>
     cases a;intro c b;rcases axy.1 b with b|b
     .exact fX i j c b
     .exact fX q m c b
    .cases a
   .cases a
  .cases h
 |.pe k v o,c,f,gs,h=>by
  simp only[rR]at h;split at h
  .obtain⟨_,a⟩:=aY h
   cases a;intro c b;simp only[axK]at b;exact⟨_,_,b⟩
  .cases h
def fX:∀(f:Do PV) {cs:Do EV} {b:Do EV} {gs:a_},mH hg bo f cs=some (b,gs)->j_ b
 |[],cs,b,gs,h=>by
  simp only[mH]at h;split at h
  .cases h;intro c a;cases a
  .cases h
 |p::f,cs,b,gs,h=>by
  simp only[mH]at h;split at h
  .cases h
  .split at h
   next g=>
    split at h
    next i=>
     cases h;intro c a;rcases axy.1 a with a|a
     .exact ado p g c a
     .exact fX f i c a
    .cases h
   .cases h
end
mutual
def alX(g:GF hg R1 R2 e e1 gF):∀(p:PV) {c:EV} {w:Do EV} {gs:a_} (rest:Do EV),j_ rest->rR hg bo p c=some (w,gs)->(∀k,gs.contains k=true->gF.contains k=true)->(fM p (w++rest)).2=rest/\∀u,VR R1 (some e) (enc c) u->VR R2 (some e1) (enc (fM p (w++rest)).1) u
 |.h s,c,w,gs,rest,q,h,v=>by
  simp only[rR]at h;split at h
  next x X hx=>cases h;exact⟨rfl,λu i=>agc g hx v i⟩
  .cases h
 |.t r,c,w,gs,rest,q,h,v=>by
  simp only[rR]at h;split at h
  .split at h
   next ys hy=>cases h;obtain⟨e,rfl⟩:=dm hy;cases e;exact⟨rfl,λu i=>g.carry i⟩
   .cases h
  .cases h
   exact⟨rfl,λu i=>Wk.Wi _ _ _ (g.carry i)⟩
  .cases h
 |.k c0,c,w,gs,rest,q,h,v=>by
  simp only[rR]at h;obtain⟨m,f⟩:=aY h;cases f;exact⟨rfl,λu i=>RK m _ _ _ (g.carry i)⟩
 |.ag l,c,w,gs,rest,q,h,v=>by
  simp only[rR]at h;split at h
  .obtain⟨a,b⟩:=lX g l rest q h v
   refine⟨a,λu i=>?_⟩;obtain⟨z,rfl,H⟩:=VR.ff i;have:=b z H;exact .ag z this.1 this.2
  .cases h
 |.tu l,c,w,gs,rest,q,h,v=>by simp[rR]at h
 |.fp l,c,w,gs,rest,q,h,v=>by
  simp only[rR]at h;split at h
  next cs=>
   obtain⟨B,f⟩:=aY h;split at f
   next vs C=>
    cases f;obtain⟨a,b⟩:=lX g l rest q C (λk A=>by simp at A);have J:j_ (w++rest):=λc y=>(axy.1 y).elim (fX l C c) (q c);refine⟨a,λu i=>?_⟩;cases i with
    |fp z G y F=>
     have:=b z ⟨G,λj c u m f=>(y j c u m f).cW⟩;exact .fp z this.1 (λj c u m f=>(this.2 j c u m f).close (rS B J c (axB m))) λj u I=>g.mono _ _ _ (F j u I)
   .cases f
  next k o=>
   obtain⟨B,f⟩:=aY h;simp only[axo]at B;have ho:=axu B.1.2;subst ho;split at f
   next t cs A=>
    obtain⟨a3,f⟩:=aY f;split at f
    next vs X C=>
     cases f;obtain⟨a,b⟩:=lX g l rest q C (λk' M=>v k' (by simp at M⊢;exact .inr M));have J:j_ (w++rest):=λc y=>(axy.1 y).elim (fX l C c) (q c);refine⟨a,λu i=>?_⟩;obtain⟨bb,z,E,H,y⟩:=g.box k (v k d5) t cs (Es a3) A;cases i with
     |pt L=>
      rw[E]at L;cases L;have:=b z H;exact .fp z this.1 (λj c u m f=>(this.2 j c u m f).close (rS B.2 J c (axB m))) λj u I=>by rw[axY];exact y j u I
    .cases f
   .cases f
  .cases h
 |.cl fn W Q,c,w,gs,rest,q,h,v=>by
  simp only[rR]at h;split at h
  .obtain⟨m,f⟩:=aY h
   obtain rfl:=af_ m;split at f
   next a g1 F=>
    split at f
    next b g2 E=>
     cases f;have a0:j_ (b++rest):=λc y=>(axy.1 y).elim (fX Q E c) (q c);obtain⟨R,S⟩:=lX g W (b++rest) a0 F (λk A=>v k (by simp at A⊢;exact .inl A));obtain⟨U,V⟩:=lX g Q rest q E (λk A=>v k (by simp at A⊢;exact .inr A));simp only[fM,axS,R];refine⟨U,λu i=>?_⟩;cases i with
     |cl z vs G Z y Y=>
      have N:=S z ⟨G,y⟩;have O:=V vs ⟨Z,Y⟩;exact .cl z vs N.1 O.1 N.2 O.2
    .cases f
   .cases f
  .cases h
 |.pe k sz o,c,w,gs,rest,q,h,v=>by
  simp only[rR]at h;split at h
  .obtain⟨m,f⟩:=aY h
   cases f;simp only[axo]at m;rw[axu m.1.1,axu m.1.2,axu m.2];refine⟨rfl,λu i=>?_⟩;simp only[fM,ayI,ayS,peE,iz];exact g.carry i
  .cases h
def lX(g:GF hg R1 R2 e e1 gF):∀(l:Do PV) {cs:Do EV} {o:Do EV} {gs:a_} (rest:Do EV),j_ rest->mH hg bo l cs=some (o,gs)->(∀k,gs.contains k=true->gF.contains k=true)->(da l (o++rest)).2=rest/\∀f,LR (VR R1 (some e)) (cg cs) f->LR (VR R2 (some e1)) (cg (da l (o++rest)).1) f
 |[],cs,o,gs,rest,r,h,q=>by
  simp only[mH]at h;split at h
  .cases h
   exact⟨rfl,λf i=>by
    have:f=[]:=ayn (by simpa[cg]using i.1);subst this;exact LR.nil⟩
  .cases h
 |p::l,cs,o,gs,rest,r,h,q=>by
  simp only[mH]at h;split at h
  .cases h
  next c cs=>
   split at h
   next a G C=>
    split at h
    next b H s=>
     cases h;have F:j_ (b++rest):=λc E=>(axy.1 E).elim (fX l s c) (r c);obtain⟨t,w⟩:=alX g p (b++rest) F C (λk m=>q k (by simp at m⊢;exact .inl m));obtain⟨y,z⟩:=lX g l rest r s (λk m=>q k (by simp at m⊢;exact .inr m));simp only[da,axS,t];refine⟨y,λf i=>?_⟩;cases f with
     |nil=>have:=i.1;simp[cg]at this
     |cons u f=>
      exact LR.cons (w u (i.2 0 _ u rfl rfl)) (z f ⟨by simpa[cg]using i.1,λj c v A B=>i.2 (j+1) c v (by simpa[cg]using A) (by simpa using B)⟩)
    .cases h
   .cases h
end
end
def RM:eh->In
 |.arr _ _ _ wr=>wr
 |_=>true
def I7(hg:Nat->At eh)(D:bw)(B:Nat):Do (Nat×PO)->At (Do EV)
 |[]=>some []
 |(p,g)::f=>match yw D p with
  |some k=>match hg k with
   |some o=>cond (RM o) (match alW (vv (fW D B) g) o with
    |some a=>match I7 hg D B f with
     |some b=>some (a++b)
     |none=>none
    |none=>none) none
   |none=>none
  |none=>none
def gQ(hg:Nat->At eh):a_->eW
 |[]=>[]
 |k::gs=>match hg k with
  |some (.arr t r a _)=>(k,some (.arr t r a false))::gQ hg gs
  |_=>gQ hg gs
def RN(hg:Nat->At eh)(k:Nat):In:=match hg k with
 |some (.arr _ _ _ _)=>true
 |_=>false
def agd(D:bw):eW:=D.map λq=>(q.2,none)
def deW(hg:Nat->At eh):EV->EV×a_×In
 |.sw k l n a=>match hg k with
  |some (.arr _ r b _)=>cond (beq r.w a) (.sc (.sl r) (show Do r.c9 from(b.drop l.toNat).take n.toNat),[k],Nat.ble (l.toNat+n.toNat) b.length) (.sw k l n a,[],true)
  |_=>(.sw k l n a,[],true)
 |c=>(c,[],true)
def EC(hg:Nat->At eh):Do EV->Do EV×a_×In
 |[]=>([],[],true)
 |c::cs=>((deW hg c).1::(EC hg cs).1,(deW hg c).2.1++(EC hg cs).2.1,(deW hg c).2.2 && (EC hg cs).2.2)
def age(e:Env)(R2:bI)(k:Nat)(r:Sc)(f:Do r.c9):Prop:=
 ∀b,e.bX k=some b->∃a,LR (VR R2 none) (List.map (bJ r) f).flatten a/\∀(j:Nat) u,a[j]? =some u->R2 b j u
def apd{hg:Nat->At eh}{R1 R2:bI}{e:Env}(B:∀b o s,R1 b o s->R2 b o s)(c:EV)
 (v:∀k,(deW hg c).2.1.contains k=true->∀t r f wr,hg k=some (.arr t r f wr)->age e R2 k r f) (i:(deW hg c).2.2=true) (y:VR R1 (some e) (enc c) s):VR R2 (some e) (enc (deW hg c).1) s:=by
 unfold deW at v i⊢;split
 next k l n Y=>
  simp only at v i;split
  next t r f wr L=>
   rw[L]at v i;simp only at v i;cases w:beq r.w Y with
   |false=>exact y.mono B
   |true=>
    rw[w]at v i;simp only[axL]at v i⊢;have w:=axu w;subst w;have i:=axv i;cases y with
    | @sw e0 k0 l0 n0 a2 b o N h V O Q=>
     obtain⟨G,H,R⟩:=v k d5 t r f wr L b h;have C:∀q∈List.map (bJ r) f,q.length=r.w:=by
      intro q u;obtain⟨z,_,rfl⟩:=axC.1 u;exact e6 r z
     have M:((List.map (bJ r) f).drop l.toNat|>.take n.toNat).length=n.toNat:=by
      rw[ax9,azd,axx];omega
     have W:∀q∈((List.map (bJ r) f).drop l.toNat|>.take n.toNat),q.length=r.w:=λq u=>C q (azV (azg u));have I:((List.map (bJ r) f).drop l.toNat|>.take n.toNat).flatten=((List.map (bJ r) f).flatten.drop (l.toNat*r.w)).take (n.toNat*r.w):=by
      rw[mn _ _ (λq u=>C q (azV u)),mo _ _ C]
     have a1:(G.drop (l.toNat*r.w)).take (n.toNat*r.w)=(G.drop (l.toNat*r.w)).take (n.toNat*r.w):=rfl;have:=VR.sl (Rd:=R2) (E:=some e) (tight:=false) (sz:=r.w) (rows:=((List.map (bJ r) f).drop l.toNat|>.take n.toNat)) (a:=some ⟨b,o,none⟩) (cap:=N)
      ((G.drop (l.toNat*r.w)).take (n.toNat*r.w)) W (eU r _|> λA=>by
       intro c g;obtain⟨q,u,S⟩:=azm.1 g;exact A c (azm.2 ⟨q,azV (azg u),S⟩))
      (by rw[I,ax9,ax9,azd,azd,H.1])
      (λj c s g F=>by
       rw[I]at g;rw[ax5]at g F;split at g
       next p=>rw[axn p,ayM]at F;rw[ayM]at g;exact H.2 _ c s g F
       .cases g) (by rw[M];exact O) Q (λA=>by cases A)
      (λZ=>⟨b,o,rfl,λj s p=>by
       rw[ax5]at p;split at p
       next J=>
        rw[ayM]at p;have U:0<n.toNat:=by
         cases X:n.toNat with
         |zero=>rw[X]at J;simp at J
         |succ m=>omega
        rw[V U];exact R _ s p
       .cases p⟩)
     rw[M,<-az1,<-azN]at this;exact this
  next a0=>exact y.mono B
 .exact y.mono B
def YO{hg:Nat->At eh}{R1 R2:bI}{e:Env}(l:∀b o u,R1 b o u->R2 b o u):∀(cs:Do EV) {f:bH}
 (i:∀k,(EC hg cs).2.1.contains k=true->∀t r m wr,hg k=some (.arr t r m wr)->age e R2 k r m) (g:(EC hg cs).2.2=true) (a:LR (VR R1 (some e)) (cg cs) f),LR (VR R2 (some e)) (cg (EC hg cs).1) f
 |[],f,i,g,a=>by
  have:f=[]:=ayn (by simpa[cg]using a.1);subst this;exact LR.nil
 |c::cs,f,i,g,a=>by
  simp only[EC,axo]at g;cases f with
  |nil=>have:=a.1;simp[cg]at this
  |cons u f=>
   simp only[EC,cg];exact LR.cons (apd l c (λk h=>i k (by simp only[EC];simp at h⊢;exact .inl h)) g.1 (a.2 0 _ u rfl rfl))
    (YO l cs (λk h=>i k (by simp only[EC];simp at h⊢;exact .inr h)) g.2 ⟨by simpa[cg]using a.1,λj c v p q=>a.2 (j+1) c v (by simpa[cg]using p) (by simpa using q)⟩)
def agf(hg:Nat->At eh)(d:Nat)(c:kq)(aS:Do EV)(D:bw)(k:EV->eW->a_->Fr->At b):At (At b):=
 match cond c.pu (EC hg aS) (aS,[],true)with
 |(f,a,g)=>match mH hg c.pu (oO (fW D (1000*(d+1))) c.ps) f with
 |some (vs,gs)=>match I7 hg D (1000*(d+1)) c.hs with
  |some ws=>match yy c.cs (vs++ws)with
   |some x=>cond (QU (1000*(d+1)) D && (a++gs).all (λk=>(V3 D k).isNone) && D.all (λq=>c.hs.any λr=>beq r.1 q.1) && (c.pu||(a++gs).all (RN hg)))
    (some (cond g (aW (c.M x) λy=>c.el y b λe H=>cond c.own
     (cond (nE D (bE H) && (enc e).gC (λk=> !LI D k))
      (k (yl (fW D (1000*(d+1))) e) (FU (fW D (1000*(d+1))) H++(agd D++cond c.pu [] (gQ hg (a++gs)))) ((a++gs)++D.map (·.2)) (.bX (1000*(d+1)))) none)
     (cond ((enc e).gC (λ_=>true) && D.isEmpty) (k e (cond c.pu [] (gQ hg (a++gs))) (a++gs) .no) none)) none))
    none
   |none=>none
  |none=>none
 |none=>none
def agh:EV->In
 |.un=>false
 |_=>true
def agi(hg:Nat->At eh)(d:Nat)(c:kq)(aS:Do EV)(k:EV->eW->a_->Fr->At b):At (At b):=
 cond (aS.all agh) (agf hg d c aS (RJ hg c.hs (rQ c.ps aS [])) k) none
def I8(hg:Nat->At eh)(d:Nat)(f:FuncId)(aS:Do EV){R:Type}(k:EV->eW->a_->Fr->At R):Do kq->At R
 |[]=>none
 |c::cs=>cond (beq c.f f) (match agi hg d c aS k with
  |some r=>r
  |none=>I8 hg d f aS k cs) (I8 hg d f aS k cs)
def fnE(ev:Nat->EV):If->At (FuncId×Do EV×Do EV)
 |.func f=>some (f,[],[])
 |.tmp i=>match ev i with
  |.v (.func (.func g) ⟨[]⟩ ⟨[]⟩)=>some (g,[],[])
  |.cl (.func g) a cs=>some (g,a,cs)
  |_=>none
 |_=>none
def alY:bw->Nat->Nat->In
 |[],_,_=>false
 |(m,e)::l,n,d=>cond (beq m n && beq e d) true (alY l n d)
def I9(T:EQ->bz)(ev:Nat->EV)(hg:Nat->At eh)(d:Nat)(t:EQ)(x:If)(g f i:jj)(k:EV->eW->a_->Fr->At b):At b:=
 match g,f,i with
 |none,some y,none=>match(T t).el with
  |some (e,l,_,_)=>match eO ev x with
   |.ow j=>match hg j with
    |some (.arr a r o wr)=>match u4 ev y with
     |some h=>cond (beq e a && beq l r.w && wr && !(beq d j)) (aW (j0 o 0 h) λp=>k (.ow d) [(d,some (.arr e r p true)),(j,none)] [j] (.one d)) none
     |none=>none
    |_=>none
   |_=>none
  |none=>none
 |some y,none,none=>WH T ev hg t x y λc m=>k c [] m .no
 |_,_,_=>none
def exO(T:EQ->bz)(s:Do kq)(n:Nat)(ev:Nat->EV)(hg:Nat->At eh)(o:Oper)(k:EV->eW->a_->Fr->At b):At b:=
 match o.dst with
 |some d=>cond (blt d n) (match o.op with
  |.call ⟨.value f,h,_⟩=>match fnE ev f with
   |some (f,u,cs)=>I8 hg d f (u++(h.toList.map (eO ev)++cs)) k s
   |none=>none
  |.box t x=>exM T ev hg d (.box t x) k
  |.alloc t=>exM T ev hg d (.alloc t) k
  |.makeSlice t x y=>cond (alY gNr n d) (I3 T ev d t x y k) (exM T ev hg d (.makeSlice t x y) k)
  |.makeMap t x=>exM T ev hg d (.makeMap t x) k
  |.slice t x m l q=>cond (alY gNr n d) (I9 T ev hg d t x m l q k) (exM T ev hg d (.slice t x m l q) k)
  |.buildSlice t i j=>match af6 ev i j.toList with
   |some p=>WE T d t p k
   |none=>cond (alY gNr n d) (Wx T ev hg d t i j.toList k) (exM T ev hg d (.buildSlice t i j) k)
  |.call ⟨.builtin .append,h,r⟩=>match af7 ev hg h,h.toList.head?,r with
   |some p,some x,⟨[t,w]⟩=>WG T ev hg d t w x p k
   |_,_,_=>exM T ev hg d (.call ⟨.builtin .append,h,r⟩) k
  |.mapEntry t x y=>HD T ev hg t x y λc g a=>k c g a .no
  |op=>exR T ev hg op λc a=>k c [] a .no) none
 |none=>match o.op with
  |.store t x y=>OM T ev hg t x y λg a=>k .un g a .no
  |.mapUpdate t x y v=>Bb T ev hg t x y v λg a=>k .un g a .no
  |.insert t x y v=>Bb T ev hg t x y v λg a=>k .un g a .no
  |.entryStore t x y v=>EB T ev hg t x y v λg a=>k .un g a .no
  |.call ⟨.builtin .clear,⟨[x]⟩,⟨[t]⟩⟩=>ON T ev hg t x λg a=>k .un g a .no
  |_=>none
section
variable{P:Fd}{T:EQ->bz}{ev:Nat->EV}{hg:Nat->At eh}{n d:Nat}{ty:EQ}{pos:String}{af:dM}{gd:fJ}
variable{st:St}{K:St->Prop}
def ape{args:gr}(b:Sk ev st)(a:∀c∈args.toList.map (eO ev),c≠.un):args.toList.map st.ev=cg (args.toList.map (eO ev)):=by
 rw[dW,ayz];refine ayp λx f=>?_;exact b.is rfl (a _ (axC.2 ⟨x,f,rfl⟩))
def RO{p:Nat->In}:∀{os:eW} {h:Hp},G5 hg os->(∀k o,(k,o)∈os->p k=false)->iu p (bE os++h)=bE os++iu p h
 |[],h,_,_=>rfl
 |(k,o)::os,h,b,f=>by
  obtain⟨t,r,g,wr,j,rfl⟩:=b k o d5;have i:=RO (os:=os) (h:=h) (λk o a=>b k o (by simp[a])) (λk o a=>f k o (by simp[a]));simp only[bE,ayB,iu,i,f k _ (by simp:(k,some (eh.arr t r g false))∈(k,some (eh.arr t r g false))::os)];rfl
def adp(π:Nat->Nat)(f:PO){cs:Do EV}(h:j_ cs):(iT (vv π f) cs).1=(iT f cs).1.map (OT π)/\(iT (vv π f) cs).2=(iT f cs).2/\j_ (iT f cs).2:=by
 cases f with
 |box t l=>
  obtain⟨a,b,c⟩:=gP π l h;exact⟨by simp only[vv,iT,a,Option.map,OT],by simp only[vv,iT,b],c⟩
 |arr t r wr=>
  refine⟨?_,rfl,h.tail⟩;simp only[vv,iT];rcases jO h with e|⟨s,x,e⟩
  .rw[e];rfl
  .rw[e]
   simp only[alT];cases eG s (.sl r) x<;>rfl
 |mp d j o=>
  refine⟨?_,rfl,h.tail⟩;simp only[vv,iT];rcases jO h with e|⟨s,x,e⟩
  .rw[e];rfl
  .rw[e]
   simp only[mpE];cases eG s (.sl (.pr j o)) x<;>rfl
 |nr t r i=>
  cases i with
  |none=>
   refine⟨?_,rfl,h.tail⟩;simp only[vv,iT];rcases jO h with e|⟨s,x,e⟩
   .rw[e];rfl
   .rw[e]
    simp only[nrE];cases eG s (.sl (.sl r)) x<;>rfl
  |some q=>
   obtain⟨v,p⟩:=q;refine⟨?_,rfl,h.tail.tail⟩;simp only[vv,iT];rcases jO h with e|⟨s,x,e⟩
   .rw[e];rfl
   .rw[e]
    rcases jO h.tail with g|⟨m,u,g⟩
    .rw[g];rfl
    .rw[g]
     simp only[apa];cases eG s (.sl (.sl r)) x with
     |none=>rfl
     |some y=>cases eG m (.i .i64) u<;>rfl
 |qr t k w=>
  refine⟨?_,rfl,h.tail⟩;simp only[vv,iT];rcases jO h with e|⟨s,x,e⟩
  .rw[e];rfl
  .rw[e]
   simp only[qrE];cases eG s (.sl (.i .i64)) x<;>rfl
def I_{D:bw}{B:Nat}:∀(i:Do (Nat×PO)) {ws:Do EV} (rest:Do EV),I7 hg D B i=some ws->j_ (ws++rest)->
 (∀p j,bG (vp i (ws++rest)) p=some j->∃k o,yw D p=some k/\hg k=some o/\RM o=true/\∀Rd e w,OR Rd e w k (cx o)->OR Rd e w k (cx (OT (fW D B) j)))/\
 (∀p,i.any (λr=>beq r.1 p)=true->∃k o,yw D p=some k/\hg k=some o/\RM o=true)
 |[],ws,rest,h,u=>⟨λp j l=>(by cases l),λp F=>(by cases F)⟩
 |(p,y)::i,ws,rest,h,u=>by
  simp only[I7]at h;split at h
  next k t=>
   split at h
   next o l=>
    obtain⟨s,g⟩:=aY h;split at g
    next a A=>
     split at g
     next b C=>
      cases g;have v:j_ (a++(b++rest)):=by rw[<-axS];exact u
      obtain⟨z,N,m,M⟩:=YN (vv (fW D B) y) (b++rest) A;obtain⟨J,L,O⟩:=adp (fW D B) y v;have G:j_ (b++rest):=λc E=>v c (axy.2 (.inr E));obtain⟨H,I⟩:=I_ i rest C G;refine⟨λq j f=>?_,λq f=>?_⟩
      .simp only[vp,axS,bG]at f
       rw[L]at z;rw[z]at f;by_cases e:q=p
       .subst e
        rw[axX]at f;simp only[axL]at f;rw[J,f]at m;simp only[Option.map,axq]at m;subst m;exact⟨k,o,t,l,s,λRd e w=>M Rd e w k⟩
       .rw[jd e]at f
        exact H q j f
      .simp only[aze,ayo]at f
       rcases f with f|f
       .have:=axu f
        subst this;exact⟨k,o,t,l,s⟩
       .exact I q f
     .cases g
    .cases g
   .cases h
  .cases h
def xI(hg:Nat->At eh):∀gs:a_,G5 hg (gQ hg gs)/\∀p∈gQ hg gs,gs.contains p.1=true
 |[]=>⟨λk o h=>(by cases h),λp h=>(by cases h)⟩
 |k::gs=>by
  obtain⟨a,b⟩:=xI hg gs;simp only[gQ];split
  next t r g wr f=>
   refine⟨λj o h=>?_,λp h=>?_⟩
   .rcases axP.1 h with h|h
    .cases h;exact⟨t,r,g,wr,f,rfl⟩
    .exact a j o h
   .rcases axP.1 h with rfl|h
    .simp
    .have:=b p h;simp at this⊢;exact .inr this
  .exact⟨a,λp h=>by have:=b p h;simp at this⊢;exact .inr this⟩
def agj{q:Bs}{l:bI}{e:Env}{h:Hp}{w:GE}{p:a_}(z:SR q l e h w)(y:HC hg p h):∀gs:a_,(∀k,gs.contains k=true->p.contains k=true)->
 ∃e1,pI q l e h w e1 (bE (gQ hg gs)++h)/\∀k,gs.contains k=true->∀t r i wr,hg k=some (.arr t r i wr)->VR (bS q l e1 (bE (gQ hg gs)++h) w) none (.sl false r.w (List.map (bJ r) i)) (e.sv k)
 |[],_=>⟨e,pI.refl z,λk f=>by simp at f⟩
 |k::gs,A=>by
  obtain⟨e1,g,B⟩:=agj z y gs (λj a=>A j (by simp at a⊢;exact .inr a));simp only[gQ];split
  next t r i wr f=>
   have I:HC hg p (bE (gQ hg gs)++h):=y.put (xI hg gs).1 λ_ h=>h;obtain⟨M,L⟩:=I k (A k d5) t r i wr f;obtain⟨C,E,v,F,G,H⟩:=g.sr.V6 L;refine⟨C,g.trans ⟨E,v,F,G⟩,λj a o m u s b=>?_⟩;by_cases e:j=k
   .subst e
    rw[f]at b;cases b;rw[<-g.sv j];exact H
   .have a:gs.contains j=true:=by simp at a⊢;exact a.resolve_left e
    exact(B j a o m u s b).mono v
  next J=>
   refine⟨e1,g,λj a o m u s b=>?_⟩;by_cases e:j=k
   .subst e
    exact absurd b (J _ _ _ _)
   .exact B j (by simp at a⊢;exact a.resolve_left e) o m u s b
def WK{e:Env}(g:SR H j e C m)(f:bc C B=some (cx Q))(a:RM Q=true):e.cS B=0:=by
 have:=g.ob B _ f;cases Q with
 |box t cs=>exact this.1
 |arr t r b wr=>exact this.2.2.1 a
 |_=>exact this.1
def al0{h:Hp}(a:∀p∈R,p.1≠B):bc (bE R++h) B=bc h B:=by
 rw[eB,HA];rw[axm];simp only[ay7,aAf,not_exists,not_and];exactλp b=>a p b
def RP{D:bw}{cs:Do EV}:cg (vq (fW D B) cs)=(cg cs).map (AV.iL (fW D B)):=by rw[nI,lS]
section
variable{c:kq}{aS:Do EV}{D:bw}{vs ws:Do EV}{gs:a_}{x:lW c.cs}
def ME{e:Env}(t:SR H j e C m)(i:∀p,c.hs.any (λr=>beq r.1 p)=true->∃k o,yw D p=some k/\hg k=some o/\RM o=true)(l:D.all (λq=>c.hs.any λr=>beq r.1 q.1)=true)
 (s:∀k o,(∃p,yw D p=some k)->hg k=some o->bc C k=some (cx o)):Handed D e C:=by
 intro p k f;have h:=axO.1 l _ (gp f);obtain⟨u,o,a,b,g⟩:=i p h;rw[f]at a;cases a;have:=s k o ⟨p,f⟩ b;exact⟨⟨_,this⟩,WK t this g⟩
def vx(M:mH hg c.pu (oO (fW D (1000*(d+1))) c.ps) aS=some (vs,gs))(Z:I7 hg D (1000*(d+1)) c.hs=some ws)(A:vs++ws=iy c.cs x)
 (H:gs.all (λk=>(V3 D k).isNone)=true) (I:D.all (λq=>c.hs.any λr=>beq r.1 q.1)=true) (m:(c.pu||gs.all (RN hg))=true) (U:c.pu=false) (Q:G2 (D.map (·.2))=true) {st:St} (s:Hk hg (gs++D.map (·.2)) st):
 Yo st D (1000*(d+1)) (bE (gQ hg gs)++st.h) (bE (c.H0 x)) (cg (c.as x)) (cg aS):=by
 intro E i e w us Y R;have y:j_ (vs++ws):=by rw[A];exact vw _ _
 have z:j_ ws:=λc O=>y c (axy.2 (.inr O));obtain⟨e1,b,v1⟩:=agj Y s.hc gs (λk a=>by simp at a⊢;exact .inl a);have X:∀k,gs.contains k=true->RN hg k=true:=λk a=>by
  rw[U]at m;exact axO.1 (by simpa using m) k (by simpa using a)
 have g:GF hg (bS E i e st.h w) (bS E i e1 (bE (gQ hg gs)++st.h) w) e e1 gs:=
  ⟨b.rd,b.bX,b.sv,v1,λk a t cs _ N=>by have:=X k a;unfold RN at this;rw[N]at this;cases this⟩
 obtain⟨j,l⟩:=lX g _ ws z M (λk h=>h);obtain⟨B,C,r3⟩:=gP (fW D (1000*(d+1))) c.ps y;rw[A]at B C j l;have L:c.H0 x=vp c.hs ws:=by unfold kq.H0;rw[<-C,j]
 obtain⟨F,x2⟩:=I_ c.hs [] Z (by simpa using z);rw[ax6]at F;have u:∀k o,(∃p,yw D p=some k)->hg k=some o->bc (bE (gQ hg gs)++st.h) k=some (cx o):=by
  rintro k o ⟨p,a⟩ f;have W:V3 D k=some p:=nF Q (gp a);rw[al0 λq V=>?_]
  .exact s.at (by simp only[aAR,axy,ayd];exact .inr (axC.2 ⟨_,gp a,rfl⟩)) f
  .rintro rfl
   have J:=(xI hg gs).2 q V;have:=axO.1 H q.1 (by simpa using J);rw[W]at this;cases this
 refine⟨e1,b,ME b.sr x2 I u,λp ob v=>?_,?_⟩
 .rw[L,dc]at v
  obtain⟨o',S,rfl⟩:=axW.1 v;obtain⟨k,o,G,y2,y3,y4⟩:=F p o' S;refine⟨k,_,G,u k o ⟨p,G⟩ y2,λRd f=>?_⟩;rw[<-I5];exact y4 Rd e1 w f
 .have:=l us R
  rw[B,RP]at this;exact this
def Bf{a0:Do EV}{B:a_}(S:EC hg aS=(a0,B,true))(ha:mH hg c.pu (oO (fW D (1000*(d+1))) c.ps) a0=some (vs,gs))(hw:I7 hg D (1000*(d+1)) c.hs=some ws)(hx:vs++ws=iy c.cs x)
 (h2:(B++gs).all (λk=>(V3 D k).isNone)=true) (h3:D.all (λq=>c.hs.any λr=>beq r.1 q.1)=true) (ah:G2 (D.map (·.2))=true) {st:St} (hH:Hk hg ((B++gs)++D.map (·.2)) st):
 Wa st D (1000*(d+1)) (bE (c.H0 x)) (cg (c.as x)) (cg aS):=by
 intro w0 ad e w us C I;have aa:j_ (vs++ws):=by rw[hx];exact vw _ _
 have ab:j_ ws:=λc l=>aa c (axy.2 (.inr l));obtain⟨x1,x2⟩:=I_ c.hs [] hw (by simpa using ab);rw[ax6]at x1;have H:∀k o,(B++gs).contains k=true->hg k=some o->bc st.h k=some (cx o):=λk o f i=>hH.at (by simp at f⊢;rcases f with f|f<;>simp[f]) i;have X:∀k o,(∃p,yw D p=some k)->hg k=some o->bc st.h k=some (cx o):=by
  rintro k o ⟨p,f⟩ i;exact hH.at (by simp only[aAR,axy,ayd];exact .inr (axC.2 ⟨_,gp f,rfl⟩)) i
 have Y:Handed D e st.h:=ME C x2 h3 X;have W:∀k o b,(B++gs).contains k=true->hg k=some o->e.bX k=some b->¬(cB D (1000*(d+1)) e w).iq b:=by
  rintro k o b f i hb (V|⟨p,N,l,R⟩)
  .have:=(C.base k _ b (H k o f i) hb).2
   simp only[cB]at V;omega
  .obtain⟨⟨ob,aj⟩,_⟩:=Y p N l
   have:=C.inj _ _ _ _ _ (H k o f i) aj hb R;subst this;have h5:=axO.1 h2 k (by simpa using f);rw[nF ah (gp l)]at h5;cases h5
 have J:∀b o u,bS w0 ad e st.h w b o u->RB D (1000*(d+1)) e w b o u:=by
  rintro b o u ⟨y,M,E⟩;refine⟨y,?_⟩;rintro(V|⟨p,N,l,R⟩)
  .have:=azp w _ y
   simp only[cB]at V;simp only at this;omega
  .obtain⟨⟨ob,i⟩,I⟩:=Y p N l
   have:=E N ob i R;omega
 have al:∀k,(B++gs).contains k=true->∀t r z wr,hg k=some (.arr t r z wr)->age e (RB D (1000*(d+1)) e w) k r z:=λk f t r z wr i b' O=>by
  obtain⟨y,M,E,Z⟩:=C.ob k _ (H k _ f i);rcases Z with⟨m,v,a,F⟩|⟨b,ae,G,m,v,F,a4,Q,a6,A,a8⟩
  .rw[v]at O;cases O
  .rw[m]at O
   cases O;refine⟨G.toList.take (List.map (bJ r) z).flatten.length,⟨A.1,λj c u l L=>(A.2 j c u l L).mono J⟩,λj u s=>?_⟩;have U:j<(List.map (bJ r) z).flatten.length:=by
    have:=(axs.1 s).1;rw[A.1]at this;exact this
   rw[ax5,axn U]at s;exact⟨by rw[ays w b' j G t (0,0) Q];simpa using s,W k _ b' f i m⟩
 have g:GF hg (RB D (1000*(d+1)) e w) (RB D (1000*(d+1)) e w) e e (B++gs):=by
  refine⟨λ_ _ _ h=>h,λ_=>rfl,λ_=>rfl,λk f t r z wr i=>?_,λk f t cs ak i=>?_⟩
  .obtain⟨y,M,E,Z⟩:=C.ob k _ (H k _ f i)
   rcases Z with⟨m,v,a,F⟩|⟨b,ae,G,m,v,F,a4,Q,a6,A,a8⟩
   .rw[m,F]
    exact VR.sl (rows:=[]) [] d5 d5 rfl d5 (axp _) (axT _) d5 d5
   .rw[v]
    refine VR.sl (G.toList.take (List.map (bJ r) z).flatten.length) y M A.1 (λj c u l L=>(A.2 j c u l L).mono J) F a4 d5 (λ_=>⟨b,0,rfl,λj u s=>?_⟩);have U:j<(List.map (bJ r) z).flatten.length:=by
     have:=(axs.1 s).1;rw[A.1]at this;exact this
    rw[ax5,axn U]at s;exact⟨by rw[axY,ays w b j G t (0,0) Q];simpa using s,W k _ b f i m⟩
  .obtain⟨q0,b,ac,y,M,E⟩:=C.ob k _ (H k _ f i)
   refine⟨b,ac,y,⟨E.1,λj c u l L=>(E.2 j c u l L).mono J⟩,λj u s=>⟨?_,W k _ b f i y⟩⟩;rw[ays w b j ac.toArray t (0,0) (M.cells ak)];simpa using s
 have I:=YO (hg:=hg) J aS (by rw[S];exactλk f=>al k (by simp at f⊢;exact .inl f)) (by rw[S]) I;rw[S]at I;obtain⟨m,v⟩:=lX g _ ws ab ha (λk h=>by simp at h⊢;exact .inr h);obtain⟨r1,r2,r3⟩:=gP (fW D (1000*(d+1))) c.ps aa;rw[hx]at r1 r2 m v;have ag:c.H0 x=vp c.hs ws:=by unfold kq.H0;rw[<-r2,m]
 refine⟨Y,λp ob a9=>?_,?_⟩
 .rw[ag,dc]at a9
  obtain⟨o',ai,rfl⟩:=axW.1 a9;obtain⟨k,o,y1,y2,y3,y4⟩:=x1 p o' ai;refine⟨k,_,y1,X k o ⟨p,y1⟩ y2,?_⟩;rw[<-I5];exact y4 _ e w ((C.ob k _ (X k o ⟨p,y1⟩ y2)).mono J)
 .have:=v us I
  rw[r1,RP]at this;exact this
end
def RQ(D:bw):bE (agd D)=pJ D:=by
 induction D with
 |nil=>rfl
 |cons q D a=>simp only[agd,axJ,bE,pJ,Option.map]at a⊢;rw[a]
mutual
def WL:∀c:EV,c.pu=true->(enc c).pu=true
 |.un,_=>rfl
 |.sc s x,h=>by cases s<;>first|rfl|(simp[EV.pu]at h)
 |.nil,_=>rfl
 |.ts r g,h=>by simp[EV.pu]at h
 |.v x,_=>rfl
 |.ow k,_=>rfl
 |.pt k o,_=>rfl
 |.pe k i b o,_=>rfl
 |.sw k l n b,_=>rfl
 |.mp k,_=>rfl
 |.fp cs,h=>by simp[EV.pu]at h
 |.ag cs,h=>by simp only[EV.pu]at h;simp only[enc,AV.pu];exact xJ cs h
 |.tu cs,h=>by simp only[EV.pu]at h;simp only[enc,AV.pu];exact xJ cs h
 |.cl f a cs,h=>by simp only[EV.pu,axo]at h;simp only[enc,AV.pu,xJ a h.1,xJ cs h.2];rfl
def xJ:∀cs:Do EV,EV.LJ cs=true->AV.LJ (cg cs)=true
 |[],_=>rfl
 |c::cs,h=>by simp only[EV.LJ,axo]at h;simp only[cg,AV.LJ,WL c h.1,xJ cs h.2];rfl
end
def HF:∀(s:Sc) (x:s.c9),s.ns=true->∀c∈bJ s x,c.pu=true
 |.i _,_,_,c,h=>by simp only[bJ,axK]at h;subst h;rfl
 |.b,_,_,c,h=>by simp only[bJ,axK]at h;subst h;rfl
 |.sl _,_,b,c,h=>by simp[Sc.ns]at b
 |.pr a f,x,b,c,h=>by
  simp only[Sc.ns,axo]at b;simp only[bJ,axy]at h;exact h.elim (HF a x.1 b.1 c) (HF f x.2 b.2 c)
 |.u,_,_,c,h=>by simp[bJ]at h
def YP:∀{cs:Do AV},(∀c∈cs,c.pu=true)->AV.LJ cs=true
 |[],_=>rfl
 |x::cs,a=>by simp[AV.LJ,a x d5,YP (cs:=cs) λc b=>a c (by simp[b])]
def al1(s:Sc)(x:s.c9)(f:s.ns=true):(enc (jG s x)).pu=true:=by
 cases s with
 |i k=>rfl
 |b=>rfl
 |sl r=>simp[Sc.ns]at f
 |pr a g=>simp only[jG,enc,gO,AV.pu];exact YP (HF _ _ f)
 |u=>rfl
def apf(b:puH R=true):aoX (bE R):=by
 intro k ob f;rw[dc]at f;obtain⟨o,a,rfl⟩:=axW.1 f;clear f;have:o.pu=true:=by
  induction R with
  |nil=>cases a
  |cons p R m=>
   obtain⟨j,w⟩:=p;simp only[puH,ayw,axo]at b;simp only[bG]at a;by_cases e:k=j
   .subst e
    rw[axX]at a;simp only[axL]at a;subst a;exact b.1
   .rw[jd e]at a
    exact m (by simpa[puH]using b.2) a
 cases o with
 |box t cs=>exact xJ cs this
 |arr t r g wr=>
  intro c h;obtain⟨q,l,i⟩:=azm.1 h;obtain⟨z,_,rfl⟩:=axC.1 l;exact HF r z this c i
 |mp d v s u=>
  intro p b;obtain⟨q,_,rfl⟩:=axC.1 b;exact al1 s q.2 this
 |_=>cases this
def ENE(P:Fd)(a:Op)(ev:Nat->EV)(f:FuncId)(aS:Do EV):Prop:=
 ∀(st:St) (d:Nat) (ty:EQ) (pos:String) (af:dM) (gd:fJ),Sk ev st->QV P ⟨some d,a,ty,pos,af,gd⟩ st f (cg aS)
def agk{c:kq}(A:c.ok P){L:Op}{aS:Do EV}(m:(∀c∈aS,c≠.un)->ENE P L ev c.f aS){k:EV->eW->a_->Fr->At b}{r:b}(hd:d<n)(h:agi hg d c aS k=some (some r)):
 ∃e os us U,FS P ⟨some d,L,ty,pos,af,gd⟩ n ev hg e os us U/\k e os us U=some r:=by
 unfold agi at h;obtain⟨a4,h⟩:=aY h;have a3:∀c∈aS,c≠.un:=λc A e=>by
  have:=axO.1 a4 c A;rw[e]at this;cases this
 have m:=m a3;generalize RJ hg c.hs (rQ c.ps aS [])=D at h;unfold agf at h;generalize a:cond c.pu (EC hg aS) (aS,[],true)=aw at h;obtain⟨a5,M,ck⟩:=aw;simp only at h;split at h
 next vs gs z=>
  split at h
  next ws F=>
   split at h
   next x q=>
    have q:=Be q;obtain⟨l,h⟩:=aY h;simp only[axo]at l;obtain⟨⟨⟨G,I⟩,J⟩,Z⟩:=l;have B:G2 (D.map (·.2))=true:=by simp only[QU,axo]at G;exact G.1.2
    have h:=axt h;obtain⟨rfl,h⟩:=aY h;obtain⟨y,hy,l⟩:=br h;obtain⟨e,H,a0,Q,Y,v⟩:=A.2 x y hy;rw[a0]at l;have C:=xI hg (M++gs);rcases bQ l with⟨R,l⟩|⟨R,a2⟩
    .obtain⟨g,N⟩:=aY l
     simp only[axo]at g;refine⟨_,_,_,_,λst hn w u j=>?_,N⟩;have X:∀k o,(k,o)∈gQ hg (M++gs)->(Fr.bX (1000*(d+1))).p k=false:=λk o W=>by
      cases hp:(Fr.bX (1000*(d+1))).p k with
      |false=>rfl
      |true=>
       obtain⟨t,r',xs,wr,e1,_⟩:=C.1 k o W;have S:=u.at (by have:=C.2 (k,o) W;simp at this⊢;rcases this with this|this<;>simp[this]) e1;rw[j.k k hp]at S;cases S
     cases i:c.pu with
     |false=>
      rw[i]at a;simp only[axr,axI]at a;obtain⟨rfl,rfl,_⟩:=a;simp only[ax3]at C X;have f:=vx z F q I J Z i B u;have:=SS.arG (P:=P) (op:=L) (ty:=ty) (pos:=pos) (af:=af) (gd:=gd) (d:=d)
       (K:=λs=>s=⟨st.n,kz (some d) (enc (yl (fW D (1000*(d+1))) e)) (sY (ox (1000*(d+1))) st.t),bE (FU (fW D (1000*(d+1))) H++(agd D++gQ hg gs))++iu (ox (1000*(d+1))) st.h⟩) v (m st d ty pos af gd w) f G g.1 g.2 bv (by
       rw[RO (p:=ox (1000*(d+1))) (h:=st.h) C.1 X,fL,fL,vu,HE,RQ,axS,axS];rfl)
      exact SS.afF j.t j.h j.k this
     |true=>
      rw[i]at a;simp only[axL]at a;have f:=Bf a z F q I J B u;have E:=Y i;have:=SS.Yp (P:=P) (op:=L) (ty:=ty) (pos:=pos) (af:=af) (gd:=gd) (d:=d)
       (K:=λs=>s=⟨st.n,kz (some d) (enc (yl (fW D (1000*(d+1))) e)) (sY (ox (1000*(d+1))) st.t),bE (FU (fW D (1000*(d+1))) H++(agd D++[]))++iu (ox (1000*(d+1))) st.h⟩) v (WL _ E.1) (apf E.2) (m st d ty pos af gd w) f G g.1 g.2 bv (by
       rw[fL,fL,vu,HE,RQ,axS,axS];rfl)
      exact SS.afF j.t j.h j.k this
    .have a1:=A.1 R
     have Q:=Q R;subst Q;obtain⟨g,N⟩:=aY a2;simp only[axo]at g;have hD:D=[]:=by simpa using g.2
     subst hD;have O:c.H0 x=[]:=by unfold kq.H0;rw[a1];rfl
     rw[O]at v;refine⟨_,_,_,_,λst hn w u j=>?_,N⟩;have V:Hk hg ((M++gs)++([]:bw).map (·.2)) st:=by simpa using u
     cases i:c.pu with
     |false=>
      rw[i]at a;simp only[axr,axI]at a;obtain⟨rfl,rfl,_⟩:=a;have f:=vx z F q I J Z i B V;rw[O]at f;exact SS.arJ v (m st d ty pos af gd w) f g.1 bv rfl
     |true=>
      rw[i]at a;simp only[axL]at a;have f:=Bf a z F q I J B V;rw[O]at f;have E:=Y i;exact SS.aoZ v (WL _ E.1) (m st d ty pos af gd w) f g.1 bv rfl
   .cases h
  .cases h
 .cases h
def adq{f:Do kq}(i:∀c∈f,c.ok P){o:Op}{aS:Do EV}(t:(∀c∈aS,c≠.un)->ENE P o ev v aS){k:EV->eW->a_->Fr->At b}{r:b}(s:d<n)(h:I8 hg d v aS k f=some r):
 ∃e p q l,FS P ⟨some d,o,ty,pos,af,gd⟩ n ev hg e p q l/\k e p q l=some r:=by
 induction f with
 |nil=>cases h
 |cons c cs m=>
  simp only[I8]at h;rcases bQ h with⟨g,a⟩|⟨_,a⟩
  .have g:=axu g
   split at a
   next w u=>subst g;subst a;exact agk (i c d5) t s u
   .exact m (λc j=>i c (by simp[j])) a
  .exact m (λc j=>i c (by simp[j])) a
def apg{x:If}{h cs:Do EV}{b:gr}{f:jk}(a:fnE ev x=some (v,h,cs))(o:∀c∈h++(b.toList.map (eO ev)++cs),c≠.un):ENE P (.call ⟨.value x,b,f⟩) ev v (h++(b.toList.map (eO ev)++cs)):=by
 intro st d ty pos af gd k;have m:=ape (args:=b) k λc l=>o c (by simp only[axy];exact .inr (.inl l));rw[lU,lU,<-m];unfold fnE at a;split at a
 .cases a
  have:=QV.func (P:=P) (d:=d) (ty:=ty) (pos:=pos) (af:=af) (gd:=gd) (st:=st) (f:=v) (args:=b) (ts:=f);simpa only[cg,ax3,ax6]using this
 next i=>
  split at a
  next g j=>cases a;have:=QV.val (P:=P) (d:=d) (ty:=ty) (pos:=pos) (af:=af) (gd:=gd) (st:=st) (f:=v) (args:=b) (ts:=f) (k.is (x:=.tmp i) j d8);simpa only[cg,ax3,ax6]using this
  next g q p j=>cases a;have:=QV.cl (P:=P) (d:=d) (ty:=ty) (pos:=pos) (af:=af) (gd:=gd) (st:=st) (f:=v) (args:=b) (ts:=f) (k.is (x:=.tmp i) j d8);rw[<-axS];exact this
  .cases a
 .cases a
def RR(A:gJ P T){x:If}{E i F:jj}{k:EV->eW->a_->Fr->At b}{r:b}(L:d<n)(h:I9 T ev hg d a x E i F k=some r):
 ∃c G p v,FS P ⟨some d,.slice a x E i F,ty,pos,af,gd⟩ n ev hg c G p v/\k c G p v=some r:=by
 unfold I9 at h;split at h
 next y=>
  split at h
  next e sz f z M=>
   split at h
   next j R=>
    split at h
    next W u H wr O=>
     split at h
     next N i=>
      obtain⟨q,I⟩:=aY h;simp only[axo,ayC]at q;obtain⟨⟨⟨s,t⟩,U⟩,o⟩:=q;have s:=axu s;subst s;have t:=axu t;subst t;subst U;have o:d≠j:=λe=>by rw[e,axX]at o;cases o
      obtain⟨zs,l,Q⟩:=br I;unfold j0 at l;split at l
      next X=>
       obtain rfl:=axt l;refine⟨_,_,_,_,?_,Q⟩;intro st Y C J B;obtain⟨Z,S⟩:=kA i C;obtain⟨m,rfl⟩:=nN N;have:=SS.af8 (P:=P) (t:=a) (x:=x) (y:=y) (ty:=ty) (pos:=pos) (af:=af) (gd:=gd) (d:=d) (k:=j) (m:=m) (rows:=List.map (bJ u) H) (K:=λV=>V=⟨st.n,kz (some d) (.ow d) (c8 d st.t),((d,some (.arr e u.w ((List.map (bJ u) H).take m) true))::(j,none)::[])++bx d st.h⟩)
        (A.el _ _ M) (C.is R d8) (J.at d5 O) S o (by rw[axx];omega) bv rfl
       have w:=SS.fresh B.t B.h this;rw[<-azN]at w;exact w
      .cases l
     .cases h
    .cases h
   .cases h
  .cases h
 .obtain⟨c,p,g,f⟩:=adm A h
  exact⟨c,_,p,_,FS.read g L,f⟩
 .cases h
def FS.insert{x y v:If}{c:EV}{f:a_}(h:FS P ⟨none,.mapUpdate a x y v,ty,pos,af,gd⟩ n ev hg c R f O):FS P ⟨none,.insert a x y v,ty,pos,af,gd⟩ n ev hg c R f O:=by
 intro st i j k l p g e b w next Q m o
 have:=h st i j k l p g e b w next Q m o
 unfold Oper.wp at this⊢;simpa[execOp,Oper.upon]using this
def WM{z:Do kq}(l:gJ P T)(C:∀c∈z,c.ok P){k:EV->eW->a_->Fr->At b}{r:b}(h:exO T z n ev hg I k=some r):
 ∃c s m u,FS P I n ev hg c s m u/\k c s m u=some r/\∀d,I.dst=some d->d<n:=by
 obtain⟨L,A,ty,pos,af,gd⟩:=I;unfold exO at h;split at h
 next d w=>
  simp only at w;subst w;obtain⟨B,j⟩:=aY h;have o:d<n:=axv B;have E:∀v,some d=some v->v<n:=λv e=>by cases e;exact o
  have q:(∃c s m u,FS P ⟨some d,A,ty,pos,af,gd⟩ n ev hg c s m u/\k c s m u=some r)->∃c s m u,FS P ⟨some d,A,ty,pos,af,gd⟩ n ev hg c s m u/\k c s m u=some r/\∀v,some d=some v->v<n:=by
   rintro⟨c,s,m,u,a,g⟩;exact⟨c,s,m,u,a,g,E⟩
  split at j
  next f J Q i=>
   simp only at i;subst i;split at j
   next M N cs F=>exact q (adq (ty:=ty) (pos:=pos) (af:=af) (gd:=gd) C (λG=>apg F G) o j)
   .cases j
  next i=>simp only at i;subst i;exact q (Af l o j)
  next i=>simp only at i;subst i;exact q (Af l o j)
  next i=>
   simp only at i;subst i;rcases bQ j with⟨_,j⟩|⟨_,j⟩
   .exact q (Rz l o j)
   .exact q (Af l o j)
  next i=>simp only at i;subst i;exact q (Af l o j)
  next i=>
   simp only at i;subst i;rcases bQ j with⟨_,j⟩|⟨_,j⟩
   .exact q (RR l o j)
   .exact q (Af l o j)
  next i=>
   simp only at i;subst i;split at j
   next p y=>exact q (adk (ty:=ty) (pos:=pos) (af:=af) (gd:=gd) l o y j)
   .rcases bQ j with⟨_,j⟩|⟨_,j⟩
    .exact q (adi l o j)
    .exact q (Af l o j)
  next i=>
   simp only at i;subst i
   split at j
   next p x t O y H=>exact q (adl (ty:=ty) (pos:=pos) (af:=af) (gd:=gd) l o y H j)
   .exact q (Af l o j)
  next i=>
   simp only at i;subst i
   obtain⟨c,_,_,_,_,_,_,_,a,g⟩:=I4 (ty:=ty) (pos:=pos) (af:=af) (gd:=gd) l o j;exact q ⟨c,_,_,_,a,g⟩
  .obtain⟨c,m,a,g⟩:=ao8 l j
   exact q ⟨c,_,m,_,FS.read a o,g⟩
 next w=>
  simp only at w;subst w;split at h
  next i=>
   simp only at i;subst i
   obtain⟨s,m,a,g⟩:=Wy (ty:=ty) (pos:=pos) (af:=af) (gd:=gd) l h;exact⟨_,_,_,_,a,g,λd e=>by cases e⟩
  next i=>
   simp only at i;subst i
   obtain⟨s,m,a,g⟩:=FR (ty:=ty) (pos:=pos) (af:=af) (gd:=gd) l h;exact⟨_,_,_,_,a,g,λd e=>by cases e⟩
  next i=>
   simp only at i;subst i
   obtain⟨s,m,a,g⟩:=FR (ty:=ty) (pos:=pos) (af:=af) (gd:=gd) l h;exact⟨_,_,_,_,FS.insert a,g,λd e=>by cases e⟩
  next i=>
   simp only at i;subst i
   obtain⟨s,m,a,g⟩:=OP (ty:=ty) (pos:=pos) (af:=af) (gd:=gd) l h;exact⟨_,_,_,_,a,g,λd e=>by cases e⟩
  next i=>
   simp only at i;subst i
   obtain⟨s,m,a,g⟩:=WB (ty:=ty) (pos:=pos) (af:=af) (gd:=gd) l h;exact⟨_,_,_,_,a,g,λd e=>by cases e⟩
  .cases h
end
def adr(P:Fd)(d:FuncId)(lb:ea)(c:Do ea)(Cl:GE->Prop):Prop:=
 ∀(l:Nat) (J:Nat->GE->Prop) (W:GE),(∀j W,J j W->Cl W)->(∀j W,J j W->J j W.drew)->
  (∀j b x,c[j]? =some x->J j b->YieldAt Fence.wide 0 P l x b λe a=>e=.returned (.bool true)/\J (j+1) a)->
  J 0 W->CallsIn Fence.wide 0 P d (#[.func (.yield l) #[] #[]]++lb) W λe a=>(∃v,e=.returned v)/\J c.length a
section
variable{P:Fd}{st:St}{dC:IR->St->Prop}
end
variable{g:In}{D:EV}{d:Nat}{G:Nat->At eh}{A:St}{E:bs}{K:a_}
def arU{b x y:In}(h:cond b x y=true):(b=true/\x=true)\/(b=false/\y=true):=by
 cases b with
 |true=>exact .inl ⟨rfl,h⟩
 |false=>exact .inr ⟨rfl,h⟩
structure cT where
 n:Nat
 t:List (Nat×EV)
 h:eW
def bu(E:cT):St:=⟨E.n,gD E.t,bE E.h⟩
def RT:ca->EV->Do (Nat×EV)->Do (Nat×EV)
 |some d,c,t=>(d,c)::t
 |none,_,t=>t
def RU(d:ca)(c:EV)(t:Do (Nat×EV)):gD (RT d c t)=kz d (enc c) (gD t):=by cases d<;>rfl
def arV(p:Nat->In):eh->In
 |.nr _ _ _ a=>match a with
  |some (_,some j)=> !p j
  |_=>true
 |.qr _ a _ _=>match a with
  |some j=> !p j
  |none=>true
 |o=>(cx o).gC p
def Ja(p:Nat->In)(h:eW):In:=h.all λq=> !p q.1 && (match q.2 with
 |some o=>arV p o
 |none=>true)
def al2{p:Nat->In}(h:arV p Q=true):(cx Q).gC p=true:=by
 cases Q with
 |qr t d f e=>
  refine IG λc a=>?_;obtain⟨i,_,rfl⟩:=axC.1 a;cases d with
  |none=>rfl
  |some j=>exact h
 |nr t r e d=>
  refine IG λc a=>?_;have b:∀c∈e.map (nrA r),c.gC p=true:=λc a=>by
   obtain⟨x,_,rfl⟩:=axC.1 a;cases x<;>rfl
  match d,h,a with
  |none,_,a=>exact b c a
  |some (i,none),_,a=>
   rcases azD a with a|rfl
   .exact b c a
   .rfl
  |some (i,some j),h,a=>
   rcases azD a with a|rfl
   .exact b c a
   .exact h
 |_=>exact h
def nK{p:Nat->In}:∀{h:eW},Ja p h=true->rE p (bE h)=true
 |[],_=>rfl
 |(k,o)::h,a=>by
  simp only[Ja,ayw,axo]at a;have b:=nK (p:=p) (h:=h) (by simpa[Ja]using a.2);unfold rE at b⊢;simp only[bE,ayw,b,aAD,axo];refine⟨a.1.1,?_⟩;cases o with
  |none=>rfl
  |some o=>exact al2 a.1.2
def mu(a:Fr)(E:cT):In:=match a with
 |.no=>true
 |.one d=>Ei (Fr.one d).p (gD E.t) && Ja (Fr.one d).p E.h
 |.bX B=>Ei (Fr.bX B).p (gD E.t) && Ja (Fr.bX B).p E.h
def vj.no:vj .no A:=⟨λx=>z8 _,λk ob _=>ob.z8,λk h=>by cases h⟩
def vj.of(c:Ei O.p A.t=true)(b:rE O.p A.h=true):vj O A:=
 ⟨IN c,λk ob a=>IP b a,λk a=>pM (rG b a)⟩
def ads{E:cT}(h:mu O E=true):vj O (bu E):=by
 cases O with
 |no=>exact vj.no
 |_=>simp only[mu,axo]at h;exact vj.of h.1 (nK h.2)
def Sk.enc(E:cT):Sk (c6 E.t) (bu E):=λi=>.inr (cN E.t i)
def Hk.enc(E:cT)(a:a_):Hk (bG E.h) a (bu E):=λk _=>dc E.h k
noncomputable def arW:Nat:=Classical.choose (⟨1,rfl⟩:∃n:Nat,n=1)
def al3:arW=1:=Classical.choose_spec (⟨1,rfl⟩:∃n:Nat,n=1)
open Classical in
noncomputable def aph{R:Type}(f:In->At R):At R:=match f true,f false with
 |some a,some b=>if a=b then some a else none
 |_,_=>none
noncomputable def dem(f:In->At b):At b:=Nat.rec (motive:=λ_=>At b) none (λ_ _=>aph f) arW
def api(f:In->At b):dem f=aph f:=by
 unfold dem;rw[al3];rfl
def xK{f:In->At b}{r:b}:dem f=some r↔f true=some r/\f false=some r:=by
 rw[api];unfold aph;cases d:f true with
 |none=>simp
 |some a=>
  cases g:f false with
  |none=>simp
  |some c=>
   simp only;split
   next h=>subst h;simp
   next h=>simp only[axq,reduceCtorEq,az2,not_and];rintro rfl e;exact h e.symm
inductive ItT where
 |go (d:Nat) (t:TypeId) (x:Operand)
 |nx (d:Nat) (x:Operand)
 |en (d:Nat) (x:Operand)
structure ItB where
 k:Nat
 km:Nat
 n0:Int
 m:Int
 c:Int
 kc:Sc
 vc:Sc
 es:List (kc.c9×vc.c9)
 d:TypeDesc
structure apj where
 d:Nat
 t:TypeId
 x:Operand
 c:EV
 r:Sc
 xs:List r.c9
def apk(d:Nat)(t:EQ)(x:If):EV->At apj
 |.sc (.sl r) a=>some ⟨d,t,x,.sc (.sl r) a,r,a⟩
 |.ts r a=>some ⟨d,t,x,.ts r a,r,a⟩
 |.nil=>some ⟨d,t,x,.nil,.b,[]⟩
 |_=>none
def arX(o:Oper)(a:Nat->EV):At apj:=match o.dst with
 |some d=>match o.op with
  |.binOp .eql t x (.const (.slice none 0 0)) _=>apk d t x (eO a x)
  |_=>none
 |none=>none
section
variable(T:EQ->bz)(CT:Do kq)
noncomputable def rT(o:Oper)(E:cT)(k:cT->At b):At b:=
 match arX o (c6 E.t)with
 |some q=>cond (blt q.d E.n && blt 0 q.r.w && (T q.t).el.isSome) (cond (rO q.xs) (dem λa=>k ⟨E.n,(q.d,.sc .b a)::E.t,E.h⟩) (k ⟨E.n,(q.d,.sc .b false)::E.t,E.h⟩)) none
 |none=>exO T CT E.n (c6 E.t) (bG E.h) o λc e f d=>cond (mu d E) (k ⟨E.n,RT o.dst c E.t,e++E.h⟩) none
def Jb(d:ca)(E:cT):cT:=⟨E.n,RT d (.v (.tuple ⟨[]⟩)) E.t,E.h⟩
def FV(d:ca)(n:Nat):In:=match d with
 |some d=>blt d n
 |none=>true
noncomputable def exG(d:bs)(o:Oper)(E:cT)(k:cT->At b):At b:=
 match o.guard with
 |none=>rT T CT o E k
 |some (j,a)=>match(d[j]?).bind (·.dst)with
  |some s=>match c6 E.t s with
   |.sc .b c=>cond (blt s E.n && FV o.dst E.n) (cond c
    (cond a (rT T CT o ⟨E.n,(s,.sc .b true)::E.t,E.h⟩ k) (k (Jb o.dst ⟨E.n,(s,.sc .b true)::E.t,E.h⟩)))
    (cond a (k (Jb o.dst ⟨E.n,(s,.sc .b false)::E.t,E.h⟩)) (rT T CT o ⟨E.n,(s,.sc .b false)::E.t,E.h⟩ k))) none
   |.v (.tuple ⟨[]⟩)=>cond (blt s E.n && FV o.dst E.n) (k (Jb o.dst E)) none
   |_=>none
  |none=>none
noncomputable def G6(a:bs):bs->(E:cT)->{R:Type}->(cT->At R)->At R
 |[],E,_,k=>k E
 |o::l,E,_,k=>exG T CT a o E λb=>G6 a l b k
structure Ea where
 d:ca
 c:EV
 os:eW
 us:a_
 fr:Fr
 sf:Option eh
def FW(t:Do (Nat×EV)):Do Ea->Do (Nat×EV)
 |[]=>t
 |u::a=>FW (RT u.d u.c t) a
def mI(h:eW):Do Ea->eW
 |[]=>h
 |u::a=>mI (u.os++h) a
def alE(s:At eh)(_:Nat)(ob:Ob):Prop:=∃d b e c a,s=some (.mp d b e c)/\ob=cx (.mp d b e (dO b c a ((bL b c a).getD (zeroV e))))
def iA(u:Ea):En:=⟨u.d,enc u.c,bE u.os,u.us,u.fr.p,alE u.sf⟩
def nwE(done:Do Ea)(k:Nat):In:=done.all λw=> !eX k (bE w.os)
def sfE(E:cT)(o:Oper)(a:a_)(done:Do Ea):At eh:=match o.op with
 |.lookup _ _ _ false=>match a with
  |[k]=>cond (nwE done k) (bG E.h k) none
  |_=>none
 |_=>none
def apm(o:Oper)(a:eW)(done:Do Ea):In:=match o.op with
 |.mapEntry _ _ _=>a.all λp=>nwE done p.1
 |_=>false
def Jc(done:Do Ea)(i:Nat):Do Edge->At EV
 |[]=>none
 |e::a=>cond (Region.binds .any e) (match done[e.on]? with
  |some u=>match u.d with
   |some d=>cond (beq d i) (some u.c) (Jc done i a)
   |none=>Jc done i a
  |none=>Jc done i a) (Jc done i a)
def nk(l:bs)(i:Nat):In:=match l with
 |[]=>true
 |o::l=>match o.dst with
  |some d=>cond (beq d i) false (nk l i)
  |none=>nk l i
def WN(l:bs)(t:Do (Nat×EV))(done:Do Ea)(a:Do Edge)(i:Nat):EV:=
 match Jc done i a with
 |some c=>c
 |none=>cond (nk l i) (c6 t i) (cond (afD l done.length i) (c6 t i) .un)
def agl(v u:Ea):In:=v.os.all (λp=> !eX p.1 (bE u.os) && !u.us.contains p.1) && u.os.all (λp=> !v.us.contains p.1)
def agm(v u:Ea):In:=match u.fr with
 |.no=>true
 |.one d=>(enc v.c).gC (Fr.one d).p && Ja (Fr.one d).p v.os
 |.bX B=>(enc v.c).gC (Fr.bX B).p && Ja (Fr.bX B).p v.os
def G7(a:In)(l:bs)(u:Ea)(j:Nat):Nat->Do Ea->In
 |_,[]=>true
 |i,v::done=>(agl v u||ej l j i||(a && (v.os.isEmpty && v.sf.isSome))) && agm v u && (agm u v||ej l j i) && G7 a l u j (i+1) done
def LK(l:bs)(E:cT):bs->Do Ea->{R:Type}->(cT->At R)->At R
 |[],done,_,k=>cond (FO l && Ri 0 l) (k ⟨E.n,FW E.t done,mI E.h done⟩) none
 |o::g,done,_,k=>match o.guard with
  |none=>exO T CT E.n (WN l E.t done o.after.toList) (bG (mI E.h done)) o λc f d a=>
   cond (G7 (apm o f done) l ⟨o.dst,c,f,d,a,sfE E o d done⟩ done.length 0 done && mu a E) (LK l E g (done++[⟨o.dst,c,f,d,a,sfE E o d done⟩]) k) none
  |some (j,b)=>match done[j]? with
   |some v=>match v.d with
    |some s=>match v.c with
     |.sc .b c=>cond (o.after.toList.any (λe=>beq e.on j && Region.binds .any e) && blt s E.n && FV o.dst E.n) (cond c
      (cond b (exO T CT E.n (WN l E.t (done.set j ⟨v.d,.sc .b true,v.os,v.us,v.fr,v.sf⟩) o.after.toList) (bG (mI E.h done)) o λc f d a=>
       cond (G7 false l ⟨o.dst,c,f,d,a,none⟩ done.length 0 done && mu a E) (LK l E g (done.set j ⟨v.d,.sc .b true,v.os,v.us,v.fr,v.sf⟩++[⟨o.dst,c,f,d,a,none⟩]) k) none)
       (cond (G7 false l ⟨o.dst,.v (.tuple ⟨[]⟩),[],[],.no,none⟩ done.length 0 done) (LK l E g (done.set j ⟨v.d,.sc .b true,v.os,v.us,v.fr,v.sf⟩++[⟨o.dst,.v (.tuple ⟨[]⟩),[],[],.no,none⟩]) k) none))
      (cond b (cond (G7 false l ⟨o.dst,.v (.tuple ⟨[]⟩),[],[],.no,none⟩ done.length 0 done) (LK l E g (done.set j ⟨v.d,.sc .b false,v.os,v.us,v.fr,v.sf⟩++[⟨o.dst,.v (.tuple ⟨[]⟩),[],[],.no,none⟩]) k) none)
       (exO T CT E.n (WN l E.t (done.set j ⟨v.d,.sc .b false,v.os,v.us,v.fr,v.sf⟩) o.after.toList) (bG (mI E.h done)) o λc f d a=>
        cond (G7 false l ⟨o.dst,c,f,d,a,none⟩ done.length 0 done && mu a E) (LK l E g (done.set j ⟨v.d,.sc .b false,v.os,v.us,v.fr,v.sf⟩++[⟨o.dst,c,f,d,a,none⟩]) k) none))) none
     |.v (.tuple ⟨[]⟩)=>cond (o.after.toList.any (λe=>beq e.on j && Region.binds .any e) && blt s E.n && FV o.dst E.n)
      (cond (G7 false l ⟨o.dst,.v (.tuple ⟨[]⟩),[],[],.no,none⟩ done.length 0 done) (LK l E g (done++[⟨o.dst,.v (.tuple ⟨[]⟩),[],[],.no,none⟩]) k) none) none
     |_=>none
    |none=>none
   |none=>none
end
section
variable{P:Fd}{T:EQ->bz}{CT:Do kq}
def bwI(a:Do b):Do (Int×b):=((List.range a.length).zip a).reverse.map λp=>((p.1:Int),p.2)
@[reducible] def hdR:Sc:=.pr (.i .i64) (.i .i64)
def arZ(q:Int×hdR.c9):Do EV:=[.sc (.i .i64) q.1,jG hdR q.2]
structure ar0(P:Program)(gf:Nat):Prop where
 en:Enters P gf
 y:∀(Rd:bI) (us:bH) (xs:List hdR.c9),(∀b o u,GT b o u->Rd b o u)->LR (VR Rd none) [.fp [encS (.sl hdR) xs]] us->
  ∃es:List ea,es.length=xs.length/\(∀(j:Nat) it x,(bwI xs)[j]? =some it->es[j]? =some x->LR (VR Rd none) (cg (arZ it)) x.toList)/\adr P gf us.toArray es λW=>∀b o u,Rd b o u->W.cell? ⟨b,o,none⟩=some u
structure Place(P:Program)(T:TypeId->bz)(CT:List kq):Prop where
 t:gJ P T
 c:∀c∈CT,c.ok P
 m:P.follows .mixedOrders=true
 b:∀q∈anX,ar0 P q
variable(hp:Place P T CT)
include hp
omit hp in
def al5{q:apj}(b:apk d a h D=some q):q.d=d/\q.t=a/\q.x=h/\D≠.un/\∃g f c,enc D=.sl g f c/\(c=[]\/f=q.r.w)/\(c=[]↔q.xs=[]):=by
 unfold apk at b;split at b
 .cases b
  exact⟨rfl,rfl,rfl,d8,_,_,_,rfl,.inr rfl,d5⟩
 .cases b
  exact⟨rfl,rfl,rfl,d8,_,_,_,rfl,.inr rfl,d5⟩
 .cases b
  exact⟨rfl,rfl,rfl,d8,_,_,_,rfl,.inl rfl,d5⟩
 .cases b
omit hp in
def WO(a:Do b):rO a=true↔a=[]:=by cases a<;>simp[rO]
def MF{E:cT}{k:cT->At b}{r:b}(h:rT T CT I E k=some r):SS P I (bu E) (λs=>∃o,s=bu o/\k o=some r)/\∀d,I.dst=some d->d<E.n:=by
 unfold rT at h;split at h
 next q g=>
  obtain⟨i,l⟩:=aY h;simp only[axo]at i;obtain⟨X,op,ty,a0,V,gd⟩:=I;unfold arX at g;simp only at g;split at g
  next d=>
   split at g
   next t x t2=>
    obtain⟨p,u,v,G,S,R,Q,F,L,H⟩:=al5 g;subst p u v;obtain⟨⟨w,y⟩,z⟩:=i;have j:q.d<E.n:=axv w;have M:0<q.r.w:=axv y;obtain⟨⟨et,Z,Y,ez⟩,D⟩:=ay6.1 z;refine⟨?_,λW C=>by cases C;exact j⟩;have N:(bu E).ev q.x=.sl S R Q:=by rw[(Sk.enc E).is rfl G,F]
    refine SS.arM (hp.t.el _ _ D) N (L.imp id λe=>by rw[e];exact M) j λf A=>?_;rcases bQ l with⟨n,m⟩|⟨n,m⟩
    .have:=xK.1 m
     refine⟨⟨E.n,(q.d,.sc .b f)::E.t,E.h⟩,rfl,?_⟩;cases f
     .exact this.2
     .exact this.1
    .have B:f=false:=by
      cases f with
      |false=>rfl
      |true=>
       have:=H.1 (A rfl);rw[(WO _).2 this]at n;cases n
     subst B;exact⟨_,rfl,m⟩
   .cases g
  .cases g
 .obtain⟨c,O,U,fr,a,f,j⟩:=WM hp.t hp.c h
  obtain⟨i,l⟩:=aY f;refine⟨SS.mono (K:=λs=>s=bu ⟨E.n,RT I.dst c E.t,O++E.h⟩) ?_ λs J=>⟨_,by rw[J];exact cA.refl,_,rfl,l⟩,j⟩;have:=a (bu E) rfl (Sk.enc E) (Hk.enc E U) (ads i);simp only[bu,RU,fL]at this⊢;exact this
omit hp in
def cA.agn{E:cT}(b:c6 E.t d=.sc .b g):cA P (bu E) (bu ⟨E.n,(d,.sc .b g)::E.t,E.h⟩):=by
 refine cA.same (λi=>?_) λk=>rfl;rw[cN,cN];simp only[c6];by_cases a:i=d
 .rw[a,axX,b];rfl
 .rw[jd a];rfl
def ago{a:cT}{k:cT->At b}{r:b}(h:exG T CT E I a k=some r):GS P E.toArray I (bu a) (λs=>∃i,s=bu i/\k i=some r):=by
 obtain⟨l,D,G,F,v,M⟩:=I;unfold exG at h;split at h
 next q=>simp only at q;subst q;exact GS.plain rfl (MF hp h).1
 next j f q=>
  simp only at q;subst q;split at h
  next s J=>
   split at h
   next c A=>
    obtain⟨m,y⟩:=aY h;simp only[axo]at m;have t:(E.toArray[j]?).bind (·.dst)=some s:=by simpa using J
    have u:s<a.n:=axv m.1;have B:∀d,l=some d->d<a.n:=λd e=>by
     have:=m.2;simp only[e,FV]at this;exact axv this
    have H:=cA.agn (P:=P) A;have L:∀(g:In),c=g->f=g->rT T CT ⟨l,D,G,F,v,some (j,f)⟩ ⟨a.n,(s,.sc .b g)::a.t,a.h⟩ k=some r->GS P E.toArray ⟨l,D,G,F,v,some (j,f)⟩ (bu a) (λs=>∃i,s=bu i/\k i=some r):=by
     intro g w x C;subst w x;exact GS.le H (GS.taken rfl t u (by simp[bu,gD,bM,enc,encS]) (MF hp C).1)
    have K:∀(g:In),c=g->(g==f)=false->k (Jb l ⟨a.n,(s,.sc .b g)::a.t,a.h⟩)=some r->GS P E.toArray ⟨l,D,G,F,v,some (j,f)⟩ (bu a) (λs=>∃i,s=bu i/\k i=some r):=by
     intro g w x C;subst w;refine GS.le H (GS.left (b:=f) (c:=c) rfl t u (by simp[bu,gD,bM,enc,encS]) x B ⟨_,?_,C⟩);cases l<;>rfl
    rcases bQ y with⟨p,z⟩|⟨p,z⟩
    .rcases bQ z with⟨o,n⟩|⟨o,n⟩
     .exact L true p o n
     .exact K true p (by rw[o];rfl) n
    .rcases bQ z with⟨o,n⟩|⟨o,n⟩
     .exact K false p (by rw[o];rfl) n
     .exact L false p o n
   next A=>
    obtain⟨m,y⟩:=aY h;simp only[axo]at m;have t:(E.toArray[j]?).bind (·.dst)=some s:=by simpa using J
    have u:s<a.n:=axv m.1;have B:∀d,l=some d->d<a.n:=λd e=>by
     have:=m.2;simp only[e,FV]at this;exact axv this
    refine GS.an0 (b:=f) rfl t u ?_ B ⟨_,?_,y⟩
    .rw[show bM (bu a).t s=enc (c6 a.t s)from cN a.t s,A];rfl
    .cases l<;>rfl
   .cases h
  .cases h
def WQ{d:bs}:∀{l:bs} {E:cT} {R:Type} {k:cT->At R} {r:R},G6 T CT d l E k=some r->AL P d.toArray l (bu E) (λs=>∃c,s=bu c/\k c=some r)
 |[],E,R,k,r,h=>AL.nil ⟨E,rfl,h⟩
 |o::l,E,R,k,r,h=>by
  simp only[G6]at h;refine AL.cons λt j=>?_;have a:=ago hp h;intro q g e i w next Q m n
  refine a q g e i w next Q m λf p=>n f (j f ?_)
  obtain⟨c,rfl,b⟩:=p;exact WQ b
omit hp in
def agp(a:Do Ea)(t:Do (Nat×EV)):gD (FW t a)=G4 (gD t) (a.map iA):=by
 induction a generalizing t with
 |nil=>rfl
 |cons u a b=>simp only[FW,axJ,G4,b,RU];rfl
omit hp in
def Je(a:Do Ea)(h:eW):bE (mI h a)=Ej (bE h) (a.map iA):=by
 induction a generalizing h with
 |nil=>rfl
 |cons u a b=>simp only[mI,axJ,Ej,b,fL];rfl
omit hp in
def vy{done:Do Ea}{i:Nat}:∀{g:Do Edge} {c:EV},Jc done i g=some c->∃e∈g,Region.binds .any e=true/\∃u,done[e.on]? =some u/\u.d=some i/\u.c=c
 |[],c,h=>by cases h
 |e::g,c,h=>by
  simp only[Jc]at h;rcases bQ h with⟨j,h⟩|⟨j,h⟩
  .split at h
   next u m=>
    split at h
    next d k=>
     rcases bQ h with⟨l,h⟩|⟨_,h⟩
     .cases h
      have:=axu l;subst this;exact⟨e,d5,j,u,m,k,rfl⟩
     .obtain⟨a,b,f⟩:=vy h
      exact⟨a,by simp[b],f⟩
    .obtain⟨a,b,f⟩:=vy h
     exact⟨a,by simp[b],f⟩
   .obtain⟨a,b,f⟩:=vy h
    exact⟨a,by simp[b],f⟩
  .obtain⟨a,b,f⟩:=vy h
   exact⟨a,by simp[b],f⟩
omit hp in
def rU:∀{l:bs} {i:Nat},nk l i=true->(l.all λo=>o.dst !=some i)=true
 |[],i,_=>rfl
 |o::l,i,h=>by
  simp only[nk]at h;simp only[ayw,axo];split at h
  next d c=>
   rcases arU h with⟨a,b⟩|⟨a,b⟩
   .cases b
   .refine⟨?_,rU b⟩
    rw[c];have:d≠i:=λe=>by rw[e,axX]at a;cases a
    simpa using this
  next c=>exact⟨by rw[c];rfl,rU h⟩
omit hp in
def Kn.sk{a:cT}{done:Do Ea}{u:En}(b:Kn E (bu a) (done.map iA) I u A):Sk (WN E a.t done I.after.toList) A:=by
 intro i;unfold WN;split
 next c h=>obtain⟨e,k,g,v,l,j,rfl⟩:=vy h;exact .inr (b.ts e (by simpa using k) g (iA v) i (by rw[axM,l];rfl) j)
 .cases d:nk E i with
  |true=>exact .inr ((b.t0 i (rU d)).trans (cN a.t i))
  |false=>
   cases f:afD E done.length i with
   |true=>exact .inr ((b.t1 i (by rw[axx];exact f)).trans (cN a.t i))
   |false=>exact .inl rfl
omit hp in
def agq{e:Nat->EV}{i:String}{f:dM}{g:fJ}{k:EV->eW->a_->Fr->At b}:
 exO T CT d e G ⟨some B,.lookup a h o false,u,i,f,g⟩ k=cond (blt B d) (qL T G a (eO e h) (eO e o) false λc j=>k c [] j .no) none:=rfl
omit hp in
def agr{e:Nat->EV}{j:String}{f:dM}{g:fJ}{k:EV->eW->a_->Fr->At b}:
 exO T CT d e G ⟨some B,.mapEntry a h o,u,j,f,g⟩ k=cond (blt B d) (HD T e G a h o λc i l=>k c i l .no) none:=rfl
omit hp in
def Kn.hk{l:bs}{E:cT}{done:Do Ea}{o:Oper}{u:Ea}{b:St}(hk:Kn l (bu E) (done.map iA) o (iA u) b)(e:u.sf=none):Hk (bG (mI E.h done)) u.us b:=by
 intro k c;rcases hk.h k c with h|⟨ob,_,d,g,i,f,a,h,_⟩
 .rw[h,<-dc,Je];rfl
 .rw[e]at h;cases h
omit hp in
def WS{k:Nat}:∀{done:Do Ea} {h:eW},nwE done k=true->bG (mI h done) k=bG h k
 |[],_,_=>rfl
 |u::done,h,c=>by
  simp only[nwE,ayw,axo,ayC]at c;rw[mI,WS (done:=done) (by simpa[nwE]using c.2)];have:∀a:eW,eX k (bE a)=false->bG (a++h) k=bG h k:=by
   intro a
   induction a with
   |nil=>intro _;rfl
   |cons p a f=>
    obtain⟨i,o⟩:=p;intro b;simp only[eX,bE,aze,azq]at b;have d:¬k=i:=λe=>by have:=b.1;simp[e]at this
    simp only[ayB,bG,jd d,axr];exact f b.2
  exact this _ c.1
omit hp in
def YQ{v u:Ea}(h:agm v u=true):(iA v).c.gC (iA u).fr=true/\rE (iA u).fr (iA v).os=true:=by
 obtain⟨d,c,b,e,a⟩:=u;cases a with
 |no=>exact⟨z8 _,Yw _⟩
 |_=>simp only[agm,axo]at h;exact⟨h.1,nK h.2⟩
omit hp in
def YR{E:cT}{t:In}{l:bs}{u:Ea}{j:Nat}(y:t=true->∃k d b m c a,u.os=[(k,some (.mp d b m (dO b c a ((bL b c a).getD (zeroV m)))))]/\bG E.h k=some (.mp d b m c)):∀{i:Nat} {done:Do Ea},(∀v∈done,∀o,v.sf=some o->∀k∈v.us,bG E.h k=some o)->G7 t l u j i done=true->alA l (iA u) j i (done.map iA)
 |i,[],_,_=>trivial
 |i,v::done,A,h=>by
  simp only[G7,axo,ayo]at h;obtain⟨⟨⟨G,H⟩,I⟩,J⟩:=h;refine⟨?_,⟨YQ H,I.imp YQ id⟩,YR y (λw O=>A w (ayr _ O)) J⟩;rcases G with(h|h)|⟨h,K,L⟩
  .refine .inl ?_
   simp only[agl,axo]at h;have C:∀(g:eW) (q:Nat->In),g.all (λp=>q p.1)=(bE g).all (λp=>q p.1):=by
    intro g q
    induction g with
    |nil=>rfl
    |cons p g Q=>obtain⟨k,o⟩:=p;simp only[bE,ayw,Q]
   refine⟨by rw[show(iA v).os=bE v.os from rfl,<-C v.os (λk=> !eX k (iA u).os && !(iA u).us.contains k)];exact h.1,λk f e=>?_⟩;have x:=h.2;rw[C u.os (λk=> !v.us.contains k)]at x;obtain⟨p,N,n⟩:=ay7.1 f;have n:p.1=k:=by simpa using n
   have:=axO.1 x p N;rw[n]at this;have e:v.us.contains k=true:=e;rw[e]at this;cases this
  .exact .inr h
  .refine .inl ⟨?_,λk f e=>?_⟩
   .have:v.os=[]:=by simpa using K
    rw[show(iA v).os=bE v.os from rfl,this];rfl
   .obtain⟨B,d,b,m,c,a,r,D⟩:=y h
    obtain⟨o,z⟩:=ay6.1 L;have F:k=B:=by
     rw[show(iA u).os=bE u.os from rfl,r]at f;simp only[eX,bE,aze,List.any_nil,Bool.or_false]at f;exact(by simpa using f:B=k).symm
    subst F;have M:v.us.contains k=true:=e;have s:=A v d5 o z k (by simpa using M);rw[D]at s;cases s;refine⟨_,?_,d,b,m,c,a,z,rfl⟩;rw[show(iA u).os=bE u.os from rfl,r];simp only[bE,bf];rfl
omit hp in
def PD.snoc{done:Do En}{u:En}(e:PD P E A done)(g:E[done.length]? =some I)(k:I.dst=u.d)(n:DS P E A done I u)(l:alA E u done.length 0 done)(m:Ei u.fr A.t=true/\rE u.fr A.h=true):PD P E A (done++[u]):=by
 have p:done.length<E.length:=(axs.1 g).1;refine⟨by simp;omega,λj o c h a=>?_,λi j v c f d a=>?_,λj c a=>?_⟩
 .rcases ayZ j done.length with b|b|b
  .rw[aye b]at a
   rw[aCd bv];exact e.step j o c h a
  .subst b
   simp at a;subst a;obtain rfl:=axt (g.symm.trans h);refine⟨k,?_⟩;rw[aAb];exact n
  .rw[ax4 d7]at a;cases a
 .rcases ayZ j done.length with b|b|b
  .rw[aye b]at a
   rw[aye bv]at d;exact e.fit i j v c f d a
  .subst b
   simp at a;subst a;rw[aye f]at d;have:=Rf l i v d;rwa[axY]at this
  .rw[ax4 d7]at a;cases a
 .rcases ayZ j done.length with b|b|b
  .rw[aye b]at a;exact e.Rg j c a
  .subst b
   simp at a;subst a;exact m
  .rw[ax4 d7]at a;cases a
omit hp in
def WT{E:cT}(h:mu O E=true):Ei O.p (bu E).t=true/\rE O.p (bu E).h=true:=by
 cases O with
 |no=>exact⟨alB _,Yw _⟩
 |_=>simp only[mu,axo]at h;exact⟨h.1,nK h.2⟩
omit hp in
def FS.ds{a:cT}{done:Do Ea}{st:St}(h:FS P I a.n (WN E a.t done I.after.toList) (bG (mI a.h done)) D R K O){c:At eh}(d:c=none)(b:Kn E (bu a) (done.map iA) I (iA ⟨I.dst,D,R,K,O,c⟩) st):
 SS P I st (λs=>s=⟨st.n,kz I.dst (enc D) st.t,bE R++st.h⟩):=
 h st b.n b.sk (Kn.hk b d) ⟨b.ft,b.fh,b.fk⟩
def ags{l:bs}{E:cT}:∀{W:bs} {done:Do Ea} {R:Type} {k:cT->At R} {r:R},LK T CT l E W done k=some r->W=l.drop done.length->PD P l (bu E) (done.map iA)->(∀v∈done,∀o,v.sf=some o->∀k∈v.us,bG E.h k=some o)->
 ∃m,Ou P l (bu E) (m.map iA)/\k ⟨E.n,FW E.t m,mI E.h m⟩=some r
 |[],done,R,k,r,h,hr,A,a9=>by
  simp only[LK]at h;obtain⟨g,p⟩:=aY h;simp only[axo]at g;have ak:(done.map iA).length=l.length:=by
   have g:=A.len;have p:=axD List.length hr;simp at g p⊢;omega
  exact⟨done,⟨ak,A.step,A.fit,A.Rg,g.1,λj o ho e Q ae=>by have:=Eo g.2 j o ho e Q ae;omega⟩,p⟩
 |o::W,done,R,k,r,h,hr,A,a9=>by
  have ho:l[done.length]? =some o:=by
   have:=axD (λx=>x[0]?) hr;simpa using this.symm
  have al:W=l.drop (done.length+1):=by
   have:l.drop (done.length+1)=(l.drop done.length).drop 1:=by rw[azu]
   rw[this,<-hr];rfl
  have X:∀(u:Ea) (en:In),o.dst=u.d->(en=true->∃k d B H J a,u.os=[(k,some (.mp d B H (dO B J a ((bL B J a).getD (zeroV H)))))]/\bG E.h k=some (.mp d B H J))->(∀o,u.sf=some o->∀k∈u.us,bG E.h k=some o)->DS P l (bu E) (done.map iA) o (iA u)->G7 en l u done.length 0 done=true->mu u.fr E=true->∀{R:Type} {k:cT->At R} {r:R},LK T CT l E W (done++[u]) k=some r->∃m,Ou P l (bu E) (m.map iA)/\k ⟨E.n,FW E.t m,mI E.h m⟩=some r:=by
   intro u en hd hE am ag ah ai R k r f;refine ags f (by rw[axG];exact al) ?_ (λv q=>by
    rcases axy.1 q with q|q
    .exact a9 v q
    .rw[axK.1 q];exact am)
   rw[aya];have hl:(done.map iA).length=done.length:=axx _;exact A.snoc (by rw[hl];exact ho) hd ag (by rw[hl];exact YR hE a9 ah) (WT ai)
  simp only[LK]at h;split at h
  next U=>
   have aa:∀n o',sfE E o n done=some o'->∀k∈n,bG E.h k=some o':=λn o' z k f=>by
    unfold sfE at z;split at z
    .split at z
     next k'=>obtain rfl:=axK.1 f;exact(aY z).2
     .cases z
    .cases z
   by_cases hl:∃t x y,o.op=.lookup t x y false
   .obtain⟨t,x,y,G⟩:=hl
    obtain⟨K,op,ty,a3,Z,gd⟩:=o;simp only at G;subst G;cases K with
    |none=>cases h
    |some d=>
    rw[agq]at h;obtain⟨O,h⟩:=aY h;obtain⟨j,dd,B,H,J,a,F,aj,b,c⟩:=OJ hp.t h;obtain⟨g,p⟩:=aY b;simp only[axo]at g;refine X ⟨some d,_,[],[j],.no,_⟩ _ rfl (λe=>by cases e) (aa [j]) (λw f=>GS.plain U ?_) g.1 g.2 p;have D:d<w.n:=by rw[f.n];exact axv O
    have Q:∃a4,(bL B a4 a).getD (zeroV H)=(bL B J a).getD (zeroV H)/\bc w.h j=some (cx (.mp dd B H a4)):=by
     rcases f.h j (by simp[iA])with e|⟨ob,C,d2,ao,ap,an,a2,I,e3⟩
     .refine⟨J,rfl,?_⟩
      rw[e,show(bu E).h=bE E.h from rfl,<-Je,dc,F];rfl
     .simp only[sfE]at I
      obtain⟨n1,n2⟩:=aY I;rw[WS n1,n2]at F;cases F;exact⟨_,Wl aj _ _ _ _,by rw[C,e3]⟩
    obtain⟨a4,C,I⟩:=Q;exact SS.read (c w a4 (some d) ty a3 Z gd f.sk C I) D rfl
   have V:∀n,sfE E o n done=none:=λn=>by
    unfold sfE;split
    next t x y G=>exact absurd ⟨t,x,y,G⟩ hl
    .rfl
   by_cases hm:∃t x y,o.op=.mapEntry t x y
   .obtain⟨t,x,y,G⟩:=hm
    obtain⟨K,op,ty,a3,Z,gd⟩:=o;simp only at G;subst G;cases K with
    |none=>cases h
    |some d=>
    rw[agr]at h;obtain⟨O,h⟩:=aY h;obtain⟨c,j,dd,B,H,J,a,F,fs,b⟩:=I4 (ty:=ty) (pos:=a3) (af:=Z) (gd:=gd) hp.t (axv O) h;obtain⟨g,p⟩:=aY b;simp only[axo]at g;refine X ⟨some d,_,_,[j],.no,_⟩ _ rfl (λe=>⟨j,dd,B,H,J,a,rfl,?_⟩) (aa [j]) (λw f=>GS.plain U (fs.ds (V [j]) f)) g.1 g.2 p;simp only[apm,ayw,List.all_nil,aAD]at e;rw[<-WS e];exact F
   obtain⟨c,Y,n,L,a,b,hd⟩:=WM hp.t hp.c h;obtain⟨g,p⟩:=aY b;simp only[axo]at g;refine X ⟨o.dst,c,Y,n,L,_⟩ _ rfl (λe=>?_) (aa n) (λw f=>GS.plain U (a.ds (V n) f)) g.1 g.2 p;unfold apm at e;split at e
   next t x y G=>exact absurd ⟨t,x,y,G⟩ hm
   .cases e
  next j b U=>
   split at h
   next v q=>
    split at h
    next s z=>
     split at h
     next c hc=>
      obtain⟨g,p⟩:=aY h;simp only[axo]at g;obtain⟨⟨q1,q2⟩,q3⟩:=g;have V:s<E.n:=axv q2;have O:∀d,o.dst=some d->d<E.n:=λd e=>by
       simp only[e,FV]at q3;exact axv q3
      obtain⟨e,Q,S⟩:=ay7.1 q1;simp only[axo]at S;have a7:=axu S.1;have ab:∀i,c=i->done.set j ⟨v.d,.sc .b i,v.os,v.us,v.fr,v.sf⟩=done:=λi e=>by
       subst e;rw[<-hc];obtain⟨F,rfl⟩:=axs.1 q;exact azl F
      have a5:(l.toArray[j]?).bind (·.dst)=some s:=by
       have F:=(axs.1 q).1;have a8:=A.len;rw[axx]at a8;have a1:l[j]? =some l[j]:=axz bv;have:=(A.step j _ (iA v) a1 (by rw[axM,q];rfl)).1;simp only[ayV,a1,aBy,this];exact z
      have a6:∀{u:En} {w:St},Kn l (bu E) (done.map iA) o u w->bM w.t s=.v (.bool c):=λf=>by
       have:=f.ts e (by simpa using Q) S.2 (iA v) s (by rw[axM,a7,q];rfl) z;rw[this];show enc v.c=_;rw[hc];rfl
      have ad:∀i,c=i->b=i->(exO T CT E.n (WN l E.t (done.set j ⟨v.d,.sc .b i,v.os,v.us,v.fr,v.sf⟩) o.after.toList) (bG (mI E.h done)) o λc Y n L=>
       cond (G7 false l ⟨o.dst,c,Y,n,L,none⟩ done.length 0 done && mu L E) (LK T CT l E W (done.set j ⟨v.d,.sc .b i,v.os,v.us,v.fr,v.sf⟩++[⟨o.dst,c,Y,n,L,none⟩]) k) none)=some r->∃m,Ou P l (bu E) (m.map iA)/\k ⟨E.n,FW E.t m,mI E.h m⟩=some r:=by
       intro i C I hh;rw[ab i C]at hh;obtain⟨c2,Y,n,L,a,bb,hd⟩:=WM hp.t hp.c hh;obtain⟨M,g2⟩:=aY bb;simp only[axo]at M;exact X ⟨o.dst,c2,Y,n,L,none⟩ false rfl (λe=>by cases e) (λ_ e=>by cases e) (λw f=>GS.taken U a5 (by rw[f.n];exact V) (by rw[I,<-C];exact a6 f) (a.ds rfl f)) M.1 M.2 g2
      have ac:∀i,c=i->(i==b)=false->(cond (G7 false l ⟨o.dst,.v (.tuple ⟨[]⟩),[],[],.no,none⟩ done.length 0 done) (LK T CT l E W (done.set j ⟨v.d,.sc .b i,v.os,v.us,v.fr,v.sf⟩++[⟨o.dst,.v (.tuple ⟨[]⟩),[],[],.no,none⟩]) k) none)=some r->∃m,Ou P l (bu E) (m.map iA)/\k ⟨E.n,FW E.t m,mI E.h m⟩=some r:=by
       intro i C I hh;rw[ab i C]at hh;obtain⟨M,g2⟩:=aY hh;refine X ⟨o.dst,.v (.tuple ⟨[]⟩),[],[],.no,none⟩ false rfl (λe=>by cases e) (λ_ e=>by cases e) (λw f=>?_) M rfl g2;obtain⟨K,op,ty,a3,Z,gd⟩:=o;refine GS.left (b:=b) (c:=c) U a5 (by rw[f.n];exact V) (a6 f) (by rw[C];exact I) (λd e=>by rw[f.n];exact O d e) ?_;cases K<;>rfl
      rcases bQ p with⟨a0,h3⟩|⟨a0,h3⟩
      .rcases bQ h3 with⟨D,N⟩|⟨D,N⟩
       .exact ad true a0 D N
       .exact ac true a0 (by rw[D];rfl) N
      .rcases bQ h3 with⟨D,N⟩|⟨D,N⟩
       .exact ac false a0 (by rw[D];rfl) N
       .exact ad false a0 D N
     next hc=>
      obtain⟨g,p⟩:=aY h;simp only[axo]at g;obtain⟨⟨q1,q2⟩,q3⟩:=g;obtain⟨M,g2⟩:=aY p;have V:s<E.n:=axv q2;have O:∀d,o.dst=some d->d<E.n:=λd e=>by
       simp only[e,FV]at q3;exact axv q3
      obtain⟨e,Q,S⟩:=ay7.1 q1;simp only[axo]at S;have a7:=axu S.1;have a5:(l.toArray[j]?).bind (·.dst)=some s:=by
       have F:=(axs.1 q).1;have a8:=A.len;rw[axx]at a8;have a1:l[j]? =some l[j]:=axz bv;have:=(A.step j _ (iA v) a1 (by rw[axM,q];rfl)).1;simp only[ayV,a1,aBy,this];exact z
      refine X ⟨o.dst,.v (.tuple ⟨[]⟩),[],[],.no,none⟩ false rfl (λe=>by cases e) (λ_ e=>by cases e) (λw f=>?_) M rfl g2;have a6:bM w.t s=.v undef:=by
       have:=f.ts e (by simpa using Q) S.2 (iA v) s (by rw[axM,a7,q];rfl) z;rw[this];show enc v.c=_;rw[hc];rfl
      obtain⟨K,op,ty,a3,Z,gd⟩:=o;refine GS.an0 (b:=b) U a5 (by rw[f.n];exact V) a6 (λd e=>by rw[f.n];exact O d e) ?_;cases K<;>rfl
     .cases h
    .cases h
   .cases h
def WU{t:In}{l:bs}{E:cT}{k:cT->At b}{r:b}{id:Nat}(h:LK T CT l E l [] k=some r):AC t P (.region id l.toArray true) (bu E) (λx s=>x=.normal/\∃d,s=bu d/\k d=some r):=by
 obtain⟨g,e,f⟩:=ags hp h rfl ⟨d5,λj o u _ a=>by simp at a,λi j v u _ c=>by simp at c,λj u a=>by simp at a⟩ (λv c=>by cases c);refine AC.avd hp.m e ⟨rfl,_,?_,f⟩;simp only[bu,agp,Je]
def WW{t:In}{l:bs}{E:cT}{k:cT->At b}{r:b}{id:Nat}(h:G6 T CT l l E k=some r):AC t P (.region id l.toArray false) (bu E) (λx s=>x=.normal/\∃c,s=bu c/\k c=some r):=by
 refine AC.region ?_;have:=WQ hp h;intro m d e a w Q f g;exact this m d e a w Q f λj i=>g j ⟨rfl,i⟩
end
variable{n:cT}{k:Do AV}{e:Do EV}
section
variable{P:Fd}
def cA.wk{t y:Do (Nat×AV)}{h q:Hp}(H:∀i,Wk (bM t i) (bM y i))(g:∀k n,bc q k=some n->∃ob,bc h k=some ob/\∀Rd e w,OR Rd e w k ob->OR Rd e w k n):cA P ⟨d,t,h⟩ ⟨d,y,q⟩:=by
 intro z s e a w c;have v:∀b o u,bS z s e h w b o u->bS z s e q w b o u:=λb o u r=>⟨r.1,r.2.1,λj ob l G=>by
  obtain⟨m,f,_⟩:=g j ob l;exact r.2.2 j m f G⟩
 refine⟨e,c.n,c.d,⟨c.sr.ext,c.sr.kW,λj ob l=>?_,λj ob b l F=>?_,λj x ob n b p E A B=>?_,c.sr.yv⟩,λi=>H i _ _ _ ((c.tr i).mono v)⟩
 .obtain⟨m,f,p⟩:=g j ob l
  exact(p _ _ _ (c.sr.ob j m f)).mono v
 .obtain⟨m,f,_⟩:=g j ob l
  exact c.sr.base j m b f F
 .obtain⟨I,C,_⟩:=g j ob p
  obtain⟨J,D,_⟩:=g x n E;exact c.sr.inj j x I J b C D A B
def YS{Rd:bI}(h:VR Rd M (.sl true d []) s):∃a,s=.slice a 0 0:=by
 obtain⟨a,e,f,b,_,_,_,_,_,c,_⟩:=h.nC;have:=c rfl;simp only[ayq]at this b;subst this;exact⟨a,b⟩
variable{st:St}
def cA.ar1(i j b:Nat)(H:b<4294967296)(t:EQ)(l:Nat)(f:bM st.t i=.ag k)(G:k[j]? =some (.sl true d [])):
 cA P st ⟨st.n,(i,.ag ((k.map (AV.kill b)).set j (.ow b)))::c8 b st.t,(b,some (.arr t l [] true))::bx b st.h⟩:=by
 intro B r e a w h;have A:=h.tr i;rw[f]at A;obtain⟨n,N,p⟩:=VR.ff A;obtain⟨u,M,O⟩:=p.get G;obtain⟨g,rfl⟩:=YS O;obtain⟨K,v⟩:=h.sr.kill b;obtain⟨L,y⟩:=K.IB b t l g (ef b st.h) H;refine⟨_,h.n,h.d,L,λq=>?_⟩;simp only[bM];split
 next J=>
  subst J;rw[N];have C:LR (VR (bS B r (e.cK b none (.slice g 0 0) 0) ((b,some (.arr t l [] true))::bx b st.h) w) (some (e.cK b none (.slice g 0 0) 0))) (k.map (AV.kill b)) n:=
   ⟨by simpa using p.1,λm c x z Q=>by
    rw[axM]at z;obtain⟨s,E,rfl⟩:=axW.1 z;exact((((p.2 m s x E Q).kill b).mono v).mono y).env rfl b (lg b s) (λ_ f=>Env.bD f) (λ_ f=>Env.de f)⟩
  have o:=C.set j (c:=.ow b) (u:=.slice g 0 0) (by
   have:=VR.ow (Rd:=bS B r (e.cK b none (.slice g 0 0) 0) ((b,some (.arr t l [] true))::bx b st.h) w) (e:=e.cK b none (.slice g 0 0) 0) (k:=b);rw[Env.dN]at this;exact this)
  have D:n.set j (.slice g 0 0)=n:=by
   obtain⟨I,F⟩:=axs.1 M;rw[<-F];exact azl I
  rw[D]at o;exact .ag n o.1 o.2
 .exact((((h.tr.kill b).mono v).mono y).env b (dU b st.t) (λ_ f=>Env.bD f) (λ_ f=>Env.de f)) q
def cA.ar2(b j f:Nat)(M:f<4294967296)(t:EQ)(n:Nat)(B:bc st.h b=some (.box a k))(L:k[j]? =some (.sl true d []))(q:b≠f):
 cA P st ⟨st.n,c8 f st.t,(b,some (.box a ((k.map (AV.kill f)).set j (.ow f))))::(f,some (.arr t n [] true))::bx f st.h⟩:=by
 intro D s e g w l;obtain⟨O,E,p,I,V,r⟩:=l.sr.ob _ _ B;obtain⟨u,U,W⟩:=r.get L;obtain⟨h,rfl⟩:=YS W;obtain⟨Q,z⟩:=l.sr.kill f;obtain⟨R,A⟩:=Q.IB f t n h (ef f st.h) M;have F:LR (VR (bS D s (e.cK f none (.slice h 0 0) 0) ((f,some (.arr t n [] true))::bx f st.h) w) (some (e.cK f none (.slice h 0 0) 0))) (k.map (AV.kill f)) p:=
  ⟨by simpa using r.1,λm c x C X=>by
   rw[axM]at C;obtain⟨v,J,rfl⟩:=axW.1 C;exact((((r.2 m v x J X).kill f).mono z).mono A).env rfl f (lg f v) (λ_ i=>Env.bD i) (λ_ i=>Env.de i)⟩
 have y:=F.set j (c:=.ow f) (u:=.slice h 0 0) (by
  have:=VR.ow (Rd:=bS D s (e.cK f none (.slice h 0 0) 0) ((f,some (.arr t n [] true))::bx f st.h) w) (e:=e.cK f none (.slice h 0 0) 0) (k:=f);rw[Env.dN]at this;exact this)
 have G:p.set j (.slice h 0 0)=p:=by
  obtain⟨N,K⟩:=axs.1 U;rw[<-K];exact azl N
 rw[G]at y;obtain⟨S,H⟩:=R.WC (b:=b) (o:=(Ob.kill f (.box a k))) (o':=.box a ((k.map (AV.kill f)).set j (.ow f))) (by rw[bd q,dt,B];rfl)
  ⟨by rw[Env.la q];exact O,E,p,by rw[Env.bD q];exact I,V,y⟩
 exact⟨_,l.n,l.d,S,(((l.tr.kill f).mono z).mono A).env f (dU f st.t) (λ_ i=>Env.bD i) (λ_ i=>Env.de i)|>.mono H⟩
def cA.apn(b j f p:Nat)(S:p<4294967296)(U:p≠f)(r:b≠p)(K:b≠f){wr:In}(C:bc st.h b=some (.box a k))(N:k[j]? =some (.ow f))(O:bc st.h f=some (.arr u B i wr)):
 cA P st ⟨st.n,c8 p st.t,(b,some (.box a ((k.map (AV.kill p)).set j (.ow p))))::(p,some (.arr u B i wr))::(f,none)::bx p st.h⟩:=by
 intro E t e g w n;obtain⟨R,F,q,J,Z,s⟩:=n.sr.ob _ _ C;obtain⟨h,Y,a0⟩:=s.get N;cases a0;obtain⟨V,z⟩:=n.sr.kill p;obtain⟨W,A⟩:=V.Ow (k:=f) (d:=p) (ob:=.arr u B i wr) (by rw[dt,O];rfl) U (ef p st.h) S;have G:LR (VR (bS E t (e.cK p (e.bX f) (e.sv f) (e.cS f)) ((p,some (.arr u B i wr))::(f,none)::bx p st.h) w) (some (e.cK p (e.bX f) (e.sv f) (e.cS f)))) (k.map (AV.kill p)) q:=
  ⟨by simpa using s.1,λm c x D hx=>by
   rw[axM]at D;obtain⟨v,L,rfl⟩:=axW.1 D;exact((((s.2 m v x L hx).kill p).mono z).mono A).env rfl p (lg p v) (λ_ l=>Env.bD l) (λ_ l=>Env.de l)⟩
 have y:=G.set j (c:=.ow p) (u:=e.sv f) (by
  have:=VR.ow (Rd:=bS E t (e.cK p (e.bX f) (e.sv f) (e.cS f)) ((p,some (.arr u B i wr))::(f,none)::bx p st.h) w) (e:=e.cK p (e.bX f) (e.sv f) (e.cS f)) (k:=p);rw[Env.dN]at this;exact this)
 have H:q.set j (e.sv f)=q:=by
  obtain⟨Q,M⟩:=axs.1 Y;rw[<-M];exact azl Q
 rw[H]at y;obtain⟨X,I⟩:=W.WC (b:=b) (o:=(Ob.kill p (.box a k))) (o':=.box a ((k.map (AV.kill p)).set j (.ow p))) (by rw[bd r,bd K,dt,C];rfl)
  ⟨by rw[Env.la r];exact R,F,q,by rw[Env.bD r];exact J,Z,y⟩
 exact⟨_,n.n,n.d,X,(((n.tr.kill p).mono z).mono A).env p (dU p st.t) (λ_ l=>Env.bD l) (λ_ l=>Env.de l)|>.mono I⟩
def cA.apo(b k p:Nat)(o:p<4294967296)(r:p≠k){wr:In}(g:bM st.t b=.ow k)(n:bc st.h k=some (.arr a B i wr)):
 cA P st ⟨st.n,(b,.ow p)::c8 p st.t,(p,some (.arr a B i wr))::(k,none)::bx p st.h⟩:=by
 intro x j e c w f;have h:=f.tr b;rw[g]at h;obtain⟨t,l⟩:=f.sr.kill p;obtain⟨v,m⟩:=t.Ow (k:=k) (d:=p) (ob:=.arr a B i wr) (by rw[dt,n];rfl) r (ef p st.h) o;refine⟨_,f.n,f.d,v,λq=>?_⟩;simp only[bM];split
 next s=>subst s;generalize c.tmps.getD q undef=u at h;cases h;have:=VR.ow (Rd:=bS x j (e.cK p (e.bX k) (e.sv k) (e.cS k)) ((p,some (.arr a B i wr))::(k,none)::bx p st.h) w) (e:=e.cK p (e.bX k) (e.sv k) (e.cS k)) (k:=p);rw[Env.dN]at this;exact this
 .exact((((f.tr.kill p).mono l).mono m).env p (dU p st.t) (λ_ g=>Env.bD g) (λ_ g=>Env.de g)) q
def cA.apq(b j:Nat){wr:In}(C:bM st.t b=.ag k)(D:k[j]? =some (.ow d))(E:bc st.h d=some (.arr a B i wr)):
 cA P st ⟨st.n,(b,.ag (k.set j (.sl false B i)))::st.t,(d,some (.arr a B i false))::st.h⟩:=by
 intro v o e f w n;obtain⟨g,x,p,r,s,y⟩:=n.sr.V6 E;have h:=n.cS (⟨x,p,r,s⟩:pI v o e st.h w g ((d,some (.arr a B i false))::st.h));refine⟨g,h.n,h.d,h.sr,λq=>?_⟩;simp only[bM];split
 next H=>
  subst H;have l:=n.tr q;rw[C]at l;obtain⟨m,J,t⟩:=VR.ff l;rw[J];obtain⟨u,I,K⟩:=t.get D;cases K;have G:LR (VR (bS v o g ((d,some (.arr a B i false))::st.h) w) (some g)) k m:=t.imp λ_ _ l=>(l.mono p).iR rfl r s;have:=G.set j (c:=.sl false B i) (u:=e.sv d) y.cW;have z:m.set j (e.sv d)=m:=by
   obtain⟨F,A⟩:=axs.1 I;rw[<-A];exact azl F
  rw[z]at this;exact .ag m this.1 this.2
 .exact h.tr q
def cA.apr(b j:Nat){wr:In}(m:bc st.h b=some (.box u k))(H:k[j]? =some (.ow d))(r:bc st.h d=some (.arr a B i wr)):
 cA P st ⟨st.n,st.t,(b,some (.box u (k.set j (.sl false B i))))::(d,some (.arr a B i false))::st.h⟩:=by
 intro O t e f w q;have F:b≠d:=λe=>by rw[e,r]at m;cases m
 obtain⟨l,x,y,z,o,A⟩:=q.sr.V6 r;have h:=q.cS (⟨x,y,z,o⟩:pI O t e st.h w l ((d,some (.arr a B i false))::st.h));have p:bc ((d,some (Ob.arr a B i false))::st.h) b=some (.box u k):=by rw[bd F];exact m
 obtain⟨J,v,n,E,M,s⟩:=h.sr.ob _ _ p;obtain⟨g,L,N⟩:=s.get H;cases N;have:=s.set j (c:=.sl false B i) (u:=l.sv d) (by rw[o];exact A.cW);have C:n.set j (l.sv d)=n:=by
  obtain⟨I,G⟩:=axs.1 L;rw[<-G];exact azl I
 rw[C]at this;obtain⟨K,D⟩:=h.sr.WC p (o':=.box u (k.set j (.sl false B i))) ⟨J,v,n,E,M,this⟩;exact⟨l,h.n,h.d,K,h.tr.mono D⟩
def cA.ar3(b j f:Nat)(U:f<4294967296)(t:EQ)(l:Nat)(E:bc st.h b=some (.nr a k))(G:k[j]? =some (.sl true d []))(p:b≠f):
 cA P st ⟨st.n,c8 f st.t,(b,some (.nr a ((k.map (AV.kill f)).set j (.ow f))))::(f,some (.arr t l [] true))::bx f st.h⟩:=by
 intro y r e g w n;obtain⟨W,a1⟩:=n.sr.ob _ _ E;have S:j<k.length:=(axs.1 G).1;rcases a1 with⟨Y,_⟩|⟨H,I,o,M,a5,N,X,Q,O,v⟩
 .subst Y;simp at S
 obtain⟨u,a7,a8⟩:=v.get G;obtain⟨h,a9,aa,D,_,_,_,_,_,a6,_⟩:=a8.nC;have q:=a6 rfl;simp only[ayq]at q D;subst q;subst D;obtain⟨a2,B⟩:=n.sr.kill f;obtain⟨a3,C⟩:=a2.IB f t l h (ef f st.h) U;have J:LR (VR (bS y r (e.cK f none (.slice h 0 0) 0) ((f,some (.arr t l [] true))::bx f st.h) w) (some (e.cK f none (.slice h 0 0) 0))) (k.map (AV.kill f)) (o.toList.take k.length):=
  ⟨by simpa using v.1,λm c x F hx=>by
   rw[axM]at F;obtain⟨z,q,rfl⟩:=axW.1 F;exact((((v.2 m z x q hx).kill f).mono B).mono C).env rfl f (lg f z) (λ_ i=>Env.bD i) (λ_ i=>Env.de i)⟩
 have A:=J.set j (c:=.ow f) (u:=.slice h 0 0) (by
  have:=VR.ow (Rd:=bS y r (e.cK f none (.slice h 0 0) 0) ((f,some (.arr t l [] true))::bx f st.h) w) (e:=e.cK f none (.slice h 0 0) 0) (k:=f);rw[Env.dN]at this;exact this)
 have K:(o.toList.take k.length).set j (.slice h 0 0)=o.toList.take k.length:=by
  obtain⟨V,R⟩:=axs.1 a7;rw[<-R];exact azl V
 rw[K]at A;have s:((k.map (AV.kill f)).set j (.ow f)).length=k.length:=d5
 have a0:bc ((f,some (Ob.arr t l [] true))::bx f st.h) b=some (Ob.kill f (.nr a k)):=by rw[bd p,dt,E];rfl
 have Z:OR (bS y r (e.cK f none (.slice h 0 0) 0) ((f,some (.arr t l [] true))::bx f st.h) w) (e.cK f none (.slice h 0 0) 0) w b (.nr a ((k.map (AV.kill f)).set j (.ow f))):=
  ⟨by rw[Env.la p];exact W,.inr ⟨H,I,o,by rw[Env.bD p];exact M,by rw[Env.de p,s];exact a5,by rw[s];exact N,X,Q,O,by rw[s];exact A⟩⟩
 obtain⟨a4,L⟩:=a3.WC a0 Z;exact⟨_,n.n,n.d,a4,(((n.tr.kill f).mono B).mono C).env f (dU f st.t) (λ_ i=>Env.bD i) (λ_ i=>Env.de i)|>.mono L⟩
def cA.aps(b j:Nat){k:Nat}{wr:In}{h:Do AV}(o:bc st.h b=some (.nr u h))(t:h[j]? =some (.ow k))(v:bc st.h k=some (.arr a d i wr)):
 cA P st ⟨st.n,st.t,(b,some (.nr u (h.set j (.sl false d i))))::(k,some (.arr a d i false))::st.h⟩:=by
 intro Z y e f w s;have I:b≠k:=λe=>by rw[e,v]at o;cases o
 obtain⟨m,B,C,D,q,E⟩:=s.sr.V6 v;have l:=s.cS (⟨B,C,D,q⟩:pI Z y e st.h w m ((k,some (.arr a d i false))::st.h));have r:bc ((k,some (Ob.arr a d i false))::st.h) b=some (.nr u h):=by rw[bd I];exact o
 obtain⟨Q,U⟩:=l.sr.ob _ _ r;have N:j<h.length:=(axs.1 t).1;rcases U with⟨S,_⟩|⟨z,A,n,H,W,J,R,L,K,x⟩
 .subst S;simp at N
 obtain⟨g,X,Y⟩:=x.get t;cases Y;have:=x.set j (c:=.sl false d i) (u:=m.sv k) (by rw[q];exact E.cW);have F:(n.toList.take h.length).set j (m.sv k)=n.toList.take h.length:=by
  obtain⟨O,M⟩:=axs.1 X;rw[<-M];exact azl O
 rw[F]at this;have p:(h.set j (.sl false d i)).length=h.length:=d5
 obtain⟨V,G⟩:=l.sr.WC r (o':=.nr u (h.set j (.sl false d i))) ⟨Q,.inr ⟨z,A,n,H,by rw[p];exact W,by rw[p];exact J,R,L,K,by rw[p];exact this⟩⟩;exact⟨m,l.n,l.d,V,l.tr.mono G⟩
end
def al6(π:Nat->Nat):Do (Nat×EV)->Do (Nat×EV)
 |[]=>[]
 |(i,c)::t=>(i,yl π c)::al6 π t
def RW(π:Nat->Nat):∀t,gD (al6 π t)=Q1 π (gD t)
 |[]=>rfl
 |(i,c)::t=>by simp only[al6,gD,Q1,HE,RW π t]
def al7(a b k:Nat):Nat:=cond (beq k a) b (cond (beq k b) a k)
def al8(a b:Nat):al7 a b=swp a b:=by
 funext k;unfold al7 swp;by_cases c:k=a
 .subst c;rw[axX];simp
 .rw[jd c,axm c]
  by_cases d:k=b
  .subst d;rw[axX];simp
  .rw[jd d,axm d];rfl
def agt(a b:Nat)(E:cT):cT:=⟨E.n,al6 (al7 a b) E.t,FU (al7 a b) E.h⟩
def FX(k:Nat)(c:EV):EV:=cond ((enc c).gu k) .un c
def RX(k:Nat)(c:EV):enc (FX k c)=(enc c).kill k:=by
 unfold FX AV.kill;cases(enc c).gu k<;>rfl
def yA(k:Nat):Do (Nat×EV)->Do (Nat×EV)
 |[]=>[]
 |(i,c)::t=>(i,FX k c)::yA k t
def jP(k:Nat):∀t,gD (yA k t)=c8 k (gD t)
 |[]=>rfl
 |(i,c)::t=>by simp only[yA,gD,c8,RX,jP k t]
def OU(k:Nat):Oo->Oo
 |some (i,some j)=>cond (beq j k) (some (i,none)) (some (i,some j))
 |o=>o
def RY(k:Nat):eh->eh
 |.box t c=>.box t (c.map (FX k))
 |.arr t r a wr=>.arr t r a wr
 |.mp d f h e=>.mp d f h e
 |.nr t r a b=>.nr t r a (OU k b)
 |.qr t b g a=>.qr t (match b with
  |some j=>cond (beq j k) none (some j)
  |none=>none) g a
def xL(k:Nat)(a:Do EV):cg (a.map (FX k))=(cg a).map (AV.kill k):=by
 rw[dW,dW,ayz,ayz];exact ayp λc _=>RX k c
def RZ(k:Nat)(r:Sc)(a:Do (Do r.c9))(c:Oo):Aa r a (OU k c)=(Aa r a c).map (AV.kill k):=by
 have b:(a.map (nrA r)).map (AV.kill k)=a.map (nrA r):=by
  rw[ayz];exact ayp λx _=>by cases x<;>rfl
 match c with
 |none=>exact b.symm
 |some (i,none)=>simp only[OU,Aa,azk,b];rfl
 |some (i,some j)=>
  simp only[OU,Aa,azk,b];by_cases h:j=k
  .subst h
   rw[axX];simp[nrH,AV.kill,AV.gu]
  .rw[jd h]
   simp[nrH,AV.kill,AV.gu,h]
def adt(k:Nat)(o:eh):cx (RY k o)=(cx o).kill k:=by
 cases o with
 |box t d=>simp only[RY,cx,Ob.kill,xL]
 |arr=>rfl
 |mp=>rfl
 |nr t r c a=>simp only[RY,cx,Ob.kill,RZ]
 |qr t a b c=>
  simp only[RY,cx,Ob.kill,ayz];congr 1;refine ayp λi _=>?_;cases a with
  |none=>rfl
  |some j=>
   show qrA b (cond (beq j k) none (some j)) i=AV.kill k (.pe j i.toNat b 0);by_cases h:j=k
   .subst h
    simp[qrA,AV.kill,AV.gu,axX]
   .rw[jd h]
    simp[qrA,AV.kill,AV.gu,h]
def vz(k:Nat):eW->eW
 |[]=>[]
 |(j,o)::h=>(j,match o with
  |some o=>some (RY k o)
  |none=>none)::vz k h
def iM(k:Nat):∀h,bE (vz k h)=bx k (bE h)
 |[]=>rfl
 |(j,o)::h=>by
  cases o with
  |none=>simp only[vz,bE,bx,Option.map,iM k h]
  |some o=>simp only[vz,bE,bx,Option.map,iM k h,adt]
def ar4(i p:Nat)(t:EQ)(r:Sc)(E:cT):cT:=⟨E.n,(i,.ow p)::yA p E.t,(p,some (.arr t r [] true))::vz p E.h⟩
def ar5(i p:Nat)(t:EQ)(k a:Nat)(E:cT):cT:=⟨E.n,(i,.ow p)::yA p E.t,(p,some (.qr t (some k) a []))::vz p E.h⟩
def agu:Do (Nat×PO)->Nat->At PO
 |[],_=>none
 |(j,o)::t,i=>cond (beq i j) (some o) (agu t i)
def e7(a b:Nat)(E:cT):cT:=cond (blt a 4294967296 && blt b 4294967296) (agt a b E) E
def R0(i k p:Nat)(E:cT):cT:=match bG E.h k with
 |some (.arr t r a wr)=>cond (blt k 4294967296|| !(blt p 4294967296)) (e7 k p E) ⟨E.n,(i,.ow p)::yA p E.t,(p,some (.arr t r a wr))::(k,none)::vz p E.h⟩
 |_=>e7 k p E
def R3(b j k p:Nat)(a:EQ)(c:Do EV)(E:cT):cT:=match bG E.h k with
 |some (.arr t r d wr)=>cond (blt k 4294967296|| !(blt p 4294967296)||beq b p||beq b k) (e7 k p E) ⟨E.n,yA p E.t,(b,some (.box a ((c.map (FX p)).set j (.ow p))))::(p,some (.arr t r d wr))::(k,none)::vz p E.h⟩
 |_=>e7 k p E
def MG(b:Do (Nat×PO))(i:Nat)(d:PV)(E:cT):cT:=
 match d with
 |.k c=>match c with
  |.ow p=>match c6 E.t i with
   |.ow k=>cond (beq k p) E (R0 i k p E)
   |.nil=>match agu b p with
    |some (.arr t r _)=>cond (blt i E.n && blt p 4294967296) (ar4 i p t r E) E
    |some (.qr t k e)=>cond (blt i E.n && blt p 4294967296) (ar5 i p t k e E) E
    |_=>E
   |_=>E
  |.pt p _=>match c6 E.t i with
   |.pt k _=>cond (beq k p) E (e7 k p E)
   |_=>E
  |.mp p=>match c6 E.t i with
   |.mp k=>cond (beq k p) E (e7 k p E)
   |_=>E
  |_=>E
 |.h _=>match c6 E.t i with
  |.ow k=>match bG E.h k with
   |some (.arr t r a _)=>⟨E.n,(i,.sc (.sl r) a)::E.t,(k,some (.arr t r a false))::E.h⟩
   |_=>E
  |_=>E
 |_=>E
def R4(e:Do (Nat×PO))(i j:Nat)(f:PV)(E:cT):cT:=
 match c6 E.t i with
 |.ag a=>match a[j]? with
  |some c=>match f with
   |.k d=>match d with
    |.ow p=>match c with
     |.ow k=>cond (beq k p) E (e7 k p E)
     |.nil=>match agu e p with
      |some (.arr t r _)=>cond (blt p 4294967296) ⟨E.n,(i,.ag ((a.map (FX p)).set j (.ow p)))::yA p E.t,(p,some (.arr t r [] true))::vz p E.h⟩ E
      |_=>E
     |_=>E
    |_=>E
   |.h _=>match c with
    |.ow k=>match bG E.h k with
     |some (.arr t r b _)=>⟨E.n,(i,.ag (a.set j (.sc (.sl r) b)))::E.t,(k,some (.arr t r b false))::E.h⟩
     |_=>E
    |_=>E
   |_=>E
  |none=>E
 |_=>E
def R5(g:Do (Nat×PO))(b j:Nat)(h:PV)(E:cT):cT:=
 match bG E.h b with
 |some (.box d a)=>match a[j]? with
  |some c=>match h with
   |.k f=>match f with
    |.ow p=>match c with
     |.ow k=>cond (beq k p) E (R3 b j k p d a E)
     |.nil=>match agu g p with
      |some (.arr t r _)=>cond (beq b p|| !(blt p 4294967296)) E ⟨E.n,yA p E.t,(b,some (.box d ((a.map (FX p)).set j (.ow p))))::(p,some (.arr t r [] true))::vz p E.h⟩
      |_=>E
     |_=>E
    |.pt p _=>match c with
     |.pt k _=>cond (beq k p) E (e7 k p E)
     |_=>E
    |.mp p=>match c with
     |.mp k=>cond (beq k p) E (e7 k p E)
     |_=>E
    |_=>E
   |.h _=>match c with
    |.ow k=>match bG E.h k with
     |some (.arr t r e _)=>⟨E.n,E.t,(b,some (.box d (a.set j (.sc (.sl r) e))))::(k,some (.arr t r e false))::E.h⟩
     |_=>E
    |_=>E
   |_=>E
  |none=>E
 |_=>E
def agv(p:Nat)(E:cT):cT:=match bG E.h p with
 |some _=>e7 p (4000000+p) E
 |none=>E
def WX(b:PV)(c:EV)(E:cT):cT:=match b with
 |.k a=>match a with
  |.ow p=>match c with
   |.nil=>agv p E
   |_=>E
  |_=>E
 |_=>E
def ar6(i j:Nat)(E:cT):EV:=match c6 E.t i with
 |.ag a=>(a[j]?).getD .un
 |_=>.un
def ar7(b j:Nat)(E:cT):EV:=match bG E.h b with
 |some (.box _ a)=>(a[j]?).getD .un
 |_=>.un
def Jf(a:Do (Nat×PO))(i:Nat):Nat->Do PV->cT->cT
 |_,[],E=>E
 |j,p::b,E=>Jf a i (j+1) b (R4 a i j p (WX p (ar6 i j E) E))
def Jg(a:Do (Nat×PO))(b:Nat):Nat->Do PV->cT->cT
 |_,[],E=>E
 |j,p::c,E=>Jg a b (j+1) c (R5 a b j p (WX p (ar7 b j E) E))
def agw(i j:Nat)(E:cT):EV:=match c6 E.t i with
 |.cl _ a cs=>((a++cs)[j]?).getD .un
 |_=>.un
def R6(i j:Nat)(b:PV)(E:cT):cT:=match b with
 |.k a=>match a with
  |.ow p=>match agw i j E with
   |.ow k=>cond (beq k p) E (e7 k p E)
   |_=>E
  |.pt p _=>match agw i j E with
   |.pt k _=>cond (beq k p) E (e7 k p E)
   |_=>E
  |.mp p=>match agw i j E with
   |.mp k=>cond (beq k p) E (e7 k p E)
   |_=>E
  |_=>E
 |_=>E
def OV(i:Nat):Nat->Do PV->cT->cT
 |_,[],E=>E
 |j,p::a,E=>OV i (j+1) a (R6 i j p E)
def Jh(b:Do (Nat×PO)):Do (Nat×PV)->cT->cT
 |[],E=>E
 |(i,a)::t,E=>Jh b t (match a with
  |.ag l=>Jf b i 0 l E
  |.cl _ c cs=>OV i 0 (c++cs) E
  |a=>MG b i a (WX a (c6 E.t i) E))
def R7(k p:Nat)(E:cT):cT:=match bG E.h k with
 |some (.nr _ _ _ (some (_,some j)))=>cond (beq j p) E (e7 j p E)
 |_=>E
def Ji(a:Do (Nat×PO)):Do (Nat×PO)->cT->cT
 |[],E=>E
 |(k,o)::h,E=>Ji a h (match o with
  |.box _ l=>Jg a k 0 l E
  |.nr _ _ (some (_,p))=>R7 k p E
  |_=>E)
section
variable{P:Fd}
def cA.of_eq{a b:St}(h:a=b):cA P a b:=h▸cA.refl
def adu(a b:Nat)(c:a<4294967296)(d:b<4294967296)(E:cT):cA P (bu E) (bu (agt a b E)):=by
 have:=cA.swap (P:=P) (st:=bu E) a b c d;simp only[bu,agt,RW,vu,al8]at this⊢;exact this
def gV(a b:Nat)(E:cT):cA P (bu E) (bu (e7 a b E)):=by
 unfold e7;cases h:(blt a 4294967296 && blt b 4294967296)with
 |false=>exact cA.refl
 |true=>
  simp only[axo]at h;exact adu a b (axv h.1) (axv h.2) E
def Jj{x y:cT}(a:cA P A (bu x))(b:cA P A (bu y)):cA P A (bu (cond g x y)):=by
 cases g
 .exact b
 .exact a
def gW(h:bG n.h d=some Q):bc (bu n).h d=some (cx Q):=by
 show bc (bE n.h) d=_;rw[dc,h];rfl
def xM(h:c6 n.t d=D):bM (bu n).t d=enc D:=by
 show bM (gD n.t) d=_;rw[cN,h]
def agx(i k p:Nat)(E:cT)(c:c6 E.t i=.ow k)(b:(beq k p)=false):cA P (bu E) (bu (R0 i k p E)):=by
 unfold R0;split
 next t r g wr d=>
  cases a:(blt k 4294967296|| !(blt p 4294967296))with
  |true=>exact gV _ _ _
  |false=>
   simp only[azq,aBz]at a;have f:p≠k:=λe=>by rw[e,axX]at b;cases b
   have:=cA.apo (P:=P) (st:=bu E) i k p (axv a.2) f (xM c) (gW d);simp only[bu,gD,bE,jP,iM,Option.map,cx,enc,axr]at this⊢;exact this
 .exact gV _ _ _
def adv(h:e[d]? =some D):(cg e)[d]? =some (enc D):=by rw[dW,axM,h];rfl
def agy(b j k p:Nat)(d:EQ)(c:Do EV)(E:cT)(i:bG E.h b=some (.box d c))(l:c[j]? =some (.ow k))(f:(beq k p)=false):cA P (bu E) (bu (R3 b j k p d c E)):=by
 unfold R3;split
 next t r o wr m=>
  cases a:(blt k 4294967296|| !(blt p 4294967296)||beq b p||beq b k)with
  |true=>exact gV _ _ _
  |false=>
   simp only[azq,aBz]at a;have n:p≠k:=λe=>by rw[e,axX]at f;cases f
   have g:b≠p:=λe=>by have:=a.1.2;rw[e,axX]at this;cases this
   have h:b≠k:=λe=>by have:=a.2;rw[e,axX]at this;cases this
   have:=cA.apn (P:=P) (st:=bu E) b j k p (axv a.1.1.2) n g h (gW i) (adv l) (gW m);simp only[bu,gD,bE,jP,iM,Option.map,cx,enc,qJ,xL,axr]at this⊢;exact this
 .exact gV _ _ _
def agz{x y:cT}(a:cA P A (bu x))(b:g=false->cA P A (bu y)):cA P A (bu (cond g x y)):=by
 cases g with
 |true=>exact a
 |false=>exact b rfl
def R8(h:Do (Nat×PO))(i:Nat)(j:PV)(E:cT):cA P (bu E) (bu (MG h i j E)):=by
 unfold MG;split
 .split
  .split
   next k b=>exact agz cA.refl λg=>agx _ _ _ _ b g
   next f=>
    split
    next p _ _ t r wr _=>
     cases a:(blt i E.n && blt p 4294967296)with
     |false=>exact cA.refl
     |true=>
      simp only[axo]at a;have:=cA.own (P:=P) (st:=bu E) i p (axv a.2) t r.w (xM f) (axv a.1);simp only[ar4,bu,gD,bE,jP,iM,Option.map,cx,enc,ayy,axL]at this⊢;exact this
    next p _ _ t k m _=>
     cases a:(blt i E.n && blt p 4294967296)with
     |false=>exact cA.refl
     |true=>
      simp only[axo]at a;have:=cA.own (P:=P) (st:=bu E) i p (axv a.2) t 1 (xM f) (axv a.1);simp only[ar5,bu,gD,bE,jP,iM,Option.map,cx,enc,ayy,axL]at this⊢;exact this.trans (cA.alL λRd e w d=>d.ao2)
    .exact cA.refl
   .exact cA.refl
  .split
   .exact Jj cA.refl (gV _ _ _)
   .exact cA.refl
  .split
   .exact Jj cA.refl (gV _ _ _)
   .exact cA.refl
  .exact cA.refl
 .split
  next k b=>
   split
   next t r l wr d=>refine cA.V6 (P:=P) (st:=bu E) i (c:=.sl false r.w (List.map (bJ r) l)) ?_;rw[xM b];simp only[enc,kx,ir,gW d,cx];rfl
   .exact cA.refl
  .exact cA.refl
 .exact cA.refl
def Bg(h:e[d]? =some D):(cg e)[d]? =some (enc D):=by rw[dW,axM,h];rfl
def agA(f:Do (Nat×PO))(i j:Nat)(g:PV)(E:cT):cA P (bu E) (bu (R4 f i j g E)):=by
 unfold R4;split
 next h b=>
  split
  next c a=>
   split
   .split
    .split
     .exact Jj cA.refl (gV _ _ _)
     .split
      next p _ _ t r wr _=>
       cases d:blt p 4294967296 with
       |false=>exact cA.refl
       |true=>
        have:=cA.ar1 (P:=P) (st:=bu E) i j p (axv d) t r.w (xM b) (Bg a);simp only[bu,gD,bE,jP,iM,Option.map,cx,enc,ayy,qJ,xL,axL]at this⊢;exact this
      .exact cA.refl
     .exact cA.refl
    .exact cA.refl
   .split
    next k=>
     split
     next t r l wr e=>have:=cA.apq (P:=P) (st:=bu E) i j (xM b) (Bg a) (gW e);simp only[bu,gD,bE,Option.map,cx,enc,qJ,encS]at this⊢;exact this
     .exact cA.refl
    .exact cA.refl
   .exact cA.refl
  .exact cA.refl
 .exact cA.refl
def agB(l:Do (Nat×PO))(b j:Nat)(m:PV)(E:cT):cA P (bu E) (bu (R5 l b j m E)):=by
 unfold R5;split
 next n o f=>
  split
  next c d=>
   split
   .split
    .split
     .exact agz cA.refl λi=>agy _ _ _ _ _ _ _ f d i
     .split
      next p _ _ t r wr _=>
       cases a:(beq b p|| !(blt p 4294967296))with
       |true=>exact cA.refl
       |false=>
        simp only[azq,aBz]at a;have g:b≠p:=λe=>by have:=a.1;rw[e,axX]at this;cases this
        have:=cA.ar2 (P:=P) (st:=bu E) b j p (axv a.2) t r.w (gW f) (Bg d) g;simp only[bu,gD,bE,jP,iM,Option.map,cx,enc,ayy,qJ,xL,axr]at this⊢;exact this
      .exact cA.refl
     .exact cA.refl
    .split
     .exact Jj cA.refl (gV _ _ _)
     .exact cA.refl
    .split
     .exact Jj cA.refl (gV _ _ _)
     .exact cA.refl
    .exact cA.refl
   .split
    next k=>
     split
     next t r q wr h=>have:=cA.apr (P:=P) (st:=bu E) b j (gW f) (Bg d) (gW h);simp only[bu,gD,bE,Option.map,cx,enc,qJ,encS]at this⊢;exact this
     .exact cA.refl
    .exact cA.refl
   .exact cA.refl
  .exact cA.refl
 .exact cA.refl
def OW(a:PV)(c:EV)(E:cT):cA P (bu E) (bu (WX a c E)):=by
 unfold WX;split
 .split
  .split
   .unfold agv
    split
    .exact gV _ _ _
    .exact cA.refl
   .exact cA.refl
  .exact cA.refl
 .exact cA.refl
def MH(a:Do (Nat×PO))(i:Nat):∀(b:Do PV) (j:Nat) (E:cT),cA P (bu E) (bu (Jf a i j b E))
 |[],_,_=>cA.refl
 |p::b,j,E=>((OW p _ E).trans (agA a i j p _)).trans (MH a i b (j+1) _)
def MI(a:Do (Nat×PO))(b:Nat):∀(c:Do PV) (j:Nat) (E:cT),cA P (bu E) (bu (Jg a b j c E))
 |[],_,_=>cA.refl
 |p::c,j,E=>((OW p _ E).trans (agB a b j p _)).trans (MI a b c (j+1) _)
def Jk(k p:Nat)(E:cT):cA P (bu E) (bu (cond (beq k p) E (e7 k p E))):=Jj cA.refl (gV _ _ E)
def agC(i j:Nat)(a:PV)(E:cT):cA P (bu E) (bu (R6 i j a E)):=by
 unfold R6;split
 .split
  .split
   .exact Jk _ _ E
   .exact cA.refl
  .split
   .exact Jk _ _ E
   .exact cA.refl
  .split
   .exact Jk _ _ E
   .exact cA.refl
  .exact cA.refl
 .exact cA.refl
def MJ(i:Nat):∀(a:Do PV) (j:Nat) (E:cT),cA P (bu E) (bu (OV i j a E))
 |[],_,_=>cA.refl
 |p::a,j,E=>(agC i j p E).trans (MJ i a (j+1) _)
def R9(a:Do (Nat×PO)):∀(t:Do (Nat×PV)) (E:cT),cA P (bu E) (bu (Jh a t E))
 |[],_=>cA.refl
 |(i,b)::t,E=>by
  refine cA.trans ?_ (R9 a t _);split
  .exact MH a i _ 0 E
  .exact MJ i _ 0 E
  .exact(OW _ _ E).trans (R8 a i _ _)
def agD(k p:Nat)(E:cT):cA P (bu E) (bu (R7 k p E)):=by
 unfold R7;split
 .exact Jj cA.refl (gV _ _ E)
 .exact cA.refl
def R_(a:Do (Nat×PO)):∀(h:Do (Nat×PO)) (E:cT),cA P (bu E) (bu (Ji a h E))
 |[],_=>cA.refl
 |(k,o)::h,E=>by
  refine cA.trans ?_ (R_ a h _);split
  .exact MI a k _ 0 E
  .exact agD k _ E
  .exact cA.refl
end
def Jl:Do (Nat×PV)->Do EV->Do (Nat×EV)×Do EV
 |[],a=>([],a)
 |(i,p)::t,a=>((i,(fM p a).1)::(Jl t (fM p a).2).1,(Jl t (fM p a).2).2)
def agE(c:Do (Nat×EV)):Do (Nat×PV)->At (Do EV)
 |[]=>some []
 |(i,p)::t=>match I6 p (c6 c i)with
  |some a=>match agE c t with
   |some b=>some (a++b)
   |none=>none
  |none=>none
def al9(c:eW):Do (Nat×PO)->At (Do EV)
 |[]=>some []
 |(k,p)::h=>match bG c k with
  |some o=>match alW p o with
   |some a=>match al9 c h with
    |some b=>some (a++b)
    |none=>none
   |none=>none
  |none=>none
def YT{g:Do (Nat×EV)}:∀(t:Do (Nat×PV)) {c:Do EV} (rest:Do EV),agE g t=some c->(Jl t (c++rest)).2=rest/\∀i,Wk (enc (c6 g i)) (enc (c6 (Jl t (c++rest)).1 i))
 |[],c,rest,h=>by
  simp only[agE,axq]at h;subst h;exact⟨rfl,λi=>Wk.un⟩
 |(i,p)::t,c,rest,h=>by
  simp only[agE]at h;split at h
  next a k=>
   split at h
   next b l=>
    cases h;have d:=YM p (b++rest) k;have e:=YT t rest l;simp only[Jl,axS,d.1];refine⟨e.1,λj=>?_⟩;simp only[c6];by_cases f:j=i
    .subst f;rw[axX];exact d.2
    .rw[jd f];exact e.2 j
   .cases h
  .cases h
def YU{g:eW}:∀(t:Do (Nat×PO)) {f:Do EV} (rest:Do EV),al9 g t=some f->
 ∀k d,bG (vp t (f++rest)) k=some d->∃o,bG g k=some o/\∀Rd e w,OR Rd e w k (cx o)->OR Rd e w k (cx d)
 |[],f,rest,h,k,d,c=>by cases c
 |(i,p)::t,f,rest,h,k,d,c=>by
  simp only[al9]at h;split at h
  next o s=>
   split at h
   next a q=>
    split at h
    next b r=>
     cases h;obtain⟨l,u,m,n⟩:=YN p (b++rest) q;simp only[vp,axS,l,m,bG]at c;by_cases j:k=i
     .subst j
      rw[axX]at c;cases c;exact⟨o,s,λRd e w=>n Rd e w k⟩
     .rw[jd j]at c
      exact YU t rest r k d c
    .cases h
   .cases h
  .cases h
structure PS where
 t:List (Nat×PV)
 h:List (Nat×PO)
 c:List Sc
def fo(n:Nat)(a:PS)(x:lW a.c):cT:=⟨n,(Jl a.t (iy a.c x)).1,vp a.h (Jl a.t (iy a.c x)).2⟩
def rV(a:Do (Nat×EV)):Do (Nat×PV)->Do (Nat×EV)
 |[]=>[]
 |(i,_)::t=>(i,c6 a i)::rV a t
def canon(c:PS)(E:cT):At (lW c.c):=
 match agE (Ji c.h c.h (Jh c.h c.t ⟨E.n,rV E.t c.t,E.h⟩)).t c.t with
 |some a=>match al9 (Ji c.h c.h (Jh c.h c.t ⟨E.n,rV E.t c.t,E.h⟩)).h c.h with
  |some b=>yy c.c (a++b)
  |none=>none
 |none=>none
def Jm(a:Do (Nat×EV)):∀(t:Do (Nat×PV)) (i:Nat),c6 (rV a t) i=c6 a i\/c6 (rV a t) i=.un
 |[],i=>.inr rfl
 |(j,p)::t,i=>by
  simp only[rV,c6];by_cases h:i=j
  .subst h;rw[axX];exact .inl rfl
  .rw[jd h];exact Jm a t i
def al_(i k p:Nat)(E:cT):(R0 i k p E).n=E.n:=by
 unfold R0;have c:∀(b:In) (x y:cT),x.n=E.n->y.n=E.n->(cond b x y).n=E.n:=λb x y e f=>by cases b<;>assumption
 have d:∀a b:Nat,(e7 a b E).n=E.n:=λa b=>by unfold e7;exact c _ _ _ rfl rfl
 split
 .exact c _ _ _ (d _ _) rfl
 .exact d _ _
def ama(b j k p:Nat)(e:EQ)(f:Do EV)(E:cT):(R3 b j k p e f E).n=E.n:=by
 unfold R3;have c:∀(b:In) (x y:cT),x.n=E.n->y.n=E.n->(cond b x y).n=E.n:=λb x y g h=>by cases b<;>assumption
 have d:∀a b:Nat,(e7 a b E).n=E.n:=λa b=>by unfold e7;exact c _ _ _ rfl rfl
 split
 .exact c _ _ _ (d _ _) rfl
 .exact d _ _
def YV(e:Do (Nat×PO))(i:Nat)(f:PV)(E:cT):(MG e i f E).n=E.n:=by
 unfold MG;have c:∀(b:In) (x y:cT),x.n=E.n->y.n=E.n->(cond b x y).n=E.n:=λb x y g h=>by cases b<;>assumption
 have d:∀a b:Nat,(e7 a b E).n=E.n:=λa b=>by unfold e7;exact c _ _ _ rfl rfl
 repeat' (first|rfl|exact d _ _|exact c _ _ _ rfl rfl|exact c _ _ _ rfl (d _ _)|exact c _ _ _ rfl (al_ _ _ _ _)|split)
def amb(e:Do (Nat×PO))(i j:Nat)(f:PV)(E:cT):(R4 e i j f E).n=E.n:=by
 unfold R4;have c:∀(b:In) (x y:cT),x.n=E.n->y.n=E.n->(cond b x y).n=E.n:=λb x y g h=>by cases b<;>assumption
 have d:∀a b:Nat,(e7 a b E).n=E.n:=λa b=>by unfold e7;exact c _ _ _ rfl rfl
 repeat' (first|rfl|exact d _ _|exact c _ _ _ rfl rfl|exact c _ _ _ rfl (d _ _)|split)
def amc(e:Do (Nat×PO))(i j:Nat)(f:PV)(E:cT):(R5 e i j f E).n=E.n:=by
 unfold R5;have c:∀(b:In) (x y:cT),x.n=E.n->y.n=E.n->(cond b x y).n=E.n:=λb x y g h=>by cases b<;>assumption
 have d:∀a b:Nat,(e7 a b E).n=E.n:=λa b=>by unfold e7;exact c _ _ _ rfl rfl
 repeat' (first|rfl|exact d _ _|exact c _ _ _ rfl rfl|exact c _ _ _ rfl (d _ _)|exact c _ _ _ rfl (ama _ _ _ _ _ _ _)|split)
def WY(a:PV)(c:EV)(E:cT):(WX a c E).n=E.n:=by
 unfold WX;split
 .split
  .split
   .unfold agv
    split
    .unfold e7;cases(blt _ 4294967296 && blt _ 4294967296)<;>rfl
    .rfl
   .rfl
  .rfl
 .rfl
def Sa(b:Do (Nat×PO))(i:Nat):∀(a:Do PV) (j:Nat) (E:cT),(Jf b i j a E).n=E.n
 |[],_,_=>rfl
 |p::a,j,E=>by rw[Jf,Sa b i a,amb,WY]
def Sb(b:Do (Nat×PO))(i:Nat):∀(a:Do PV) (j:Nat) (E:cT),(Jg b i j a E).n=E.n
 |[],_,_=>rfl
 |p::a,j,E=>by rw[Jg,Sb b i a,amc,WY]
def OX(k p:Nat)(E:cT):(cond (beq k p) E (e7 k p E)).n=E.n:=by
 cases beq k p with
 |true=>rfl
 |false=>
  show(e7 k p E).n=E.n;unfold e7;cases(blt k 4294967296 && blt p 4294967296)<;>rfl
def amd(i j:Nat)(a:PV)(E:cT):(R6 i j a E).n=E.n:=by
 unfold R6;split
 .split
  .split
   .exact OX _ _ E
   .rfl
  .split
   .exact OX _ _ E
   .rfl
  .split
   .exact OX _ _ E
   .rfl
  .rfl
 .rfl
def Sd(i:Nat):∀(a:Do PV) (j:Nat) (E:cT),(OV i j a E).n=E.n
 |[],_,_=>rfl
 |p::a,j,E=>(Sd i a (j+1) _).trans (amd i j p E)
def YW(a:Do (Nat×PO)):∀(t:Do (Nat×PV)) (E:cT),(Jh a t E).n=E.n
 |[],_=>rfl
 |(i,b)::t,E=>by
  refine(YW a t _).trans ?_;cases b with
  |ag l=>exact Sa a i _ 0 E
  |cl d e c=>exact Sd i _ 0 E
  |_=>exact(YV a i _ _).trans (WY _ _ E)
def YX(a:Do (Nat×PO)):∀(t:Do (Nat×PO)) (E:cT),(Ji a t E).n=E.n
 |[],_=>rfl
 |(i,c)::t,E=>by
  refine(YX a t _).trans ?_;cases c with
  |box _ l=>exact Sb a i _ 0 E
  |nr t r b=>
   cases b with
   |none=>rfl
   |some q=>
    obtain⟨s,p⟩:=q;show(R7 i p E).n=E.n;unfold R7;split
    next j _=>
     cases beq j p with
     |true=>rfl
     |false=>
      show(e7 j p E).n=E.n;unfold e7;cases(blt j 4294967296 && blt p 4294967296)<;>rfl
    .rfl
  |_=>rfl
def agF{P:Fd}{c:PS}{x:lW c.c}(h:canon c n=some x):cA P (bu n) (bu (fo n.n c x)):=by
 unfold canon at h;have r:cA P (bu n) (bu ⟨n.n,rV n.t c.t,n.h⟩):=by
  refine cA.wk (λi=>?_) λk p d=>⟨p,d,λ_ _ _ h=>h⟩;rw[cN,cN];rcases Jm n.t c.t i with h|h
  .rw[h];exact Wk.refl _
  .rw[h];exact Wk.un
 have f:=r.trans ((R9 (P:=P) c.h c.t _).trans (R_ c.h c.h _));have e:(Ji c.h c.h (Jh c.h c.t ⟨n.n,rV n.t c.t,n.h⟩)).n=n.n:=by rw[YX,YW]
 generalize Ji c.h c.h (Jh c.h c.t ⟨n.n,rV n.t c.t,n.h⟩)=q at h f e;split at h
 next a u=>
  split at h
  next b v=>
   have j:=Be h;have m:=YT c.t b u;have g:=YU c.h [] v;rw[ax6]at g;refine f.trans ?_;obtain⟨z,A,y⟩:=q;simp only at e;subst e;refine cA.wk (λi=>?_) λk p d=>?_
   .rw[cN,cN]
    simp only[fo,<-j];exact m.2 i
   .rw[dc]at d
    obtain⟨w,l,rfl⟩:=axW.1 d;simp only[fo,<-j,m.1]at l;obtain⟨o,s,t⟩:=g k w l;exact⟨cx o,by rw[dc,s];rfl,t⟩
  .cases h
 .cases h
def agG:eW->ca
 |[]=>none
 |(k,o)::h=>match o with
  |some (.nr _ _ _ _)=>some k
  |_=>agG h
def agH:Do (Nat×PO)->Do (Nat×PO)->At (Nat×EQ)
 |_,[]=>none
 |a,(_,o)::h=>match o with
  |.nr _ _ (some (s,p))=>match agu a p with
   |some (.arr b _ _)=>some (s,b)
   |_=>none
  |_=>agH a h
def an8(b:Nat)(t a:EQ)(r:Sc)(c:Do (Do r.c9))(i:Int)(E:cT):cT:=
 ⟨E.n,yA (5000000+b) E.t,(b,some (.nr t r c (some (i,some (5000000+b)))))::(5000000+b,some (.arr a r [] true))::vz (5000000+b) E.h⟩
def apt(e:PS)(E:cT){R:Type}(k:cT->At R):At R:=
 match agG E.h with
 |none=>k E
 |some b=>match bG E.h b with
  |some (.nr t r a d)=>match agH e.h e.h with
   |none=>match d with
    |some (i,some j)=>match bG E.h j with
     |some (.arr c f g wr)=>match eG (.sl f) (.sl r) g with
      |some h=>aW (aZ a i) λ_=>cond (nH (show Do r.c9 from h)) none (k ⟨E.n,E.t,(b,some (.nr t r (a.set i.toNat h) none))::(j,some (.arr c f g false))::E.h⟩)
      |none=>none
     |_=>none
    |_=>k E
   |some (s,c)=>match d with
    |none=>match c6 E.t s with
     |.sc (.i _) i=>cond (blt (5000000+b) 4294967296) (aW (aZ a i) λx=>cond (nH x) (k (an8 b t c r a i E)) none) none
     |_=>k E
    |_=>k E
  |_=>k E
def ame{P:Fd}{G:PS}{R:Type}{k:cT->At R}{r:R}(h:apt G n k=some r):∃f,cA P (bu n) (bu f)/\f.n=n.n/\k f=some r:=by
 unfold apt at h;split at h
 .exact⟨n,cA.refl,rfl,h⟩
 next b _=>
  split at h
  next t c d H u=>
   have o:=gW u;split at h
   .split at h
    next i j=>
     split at h
     next p K m wr A=>
      split at h
      next e F=>
       obtain⟨q,l⟩:=dm F;cases q;have l:e=m:=l;subst l;obtain⟨x,a,h⟩:=br h;obtain⟨z,a⟩:=eM a;rcases bQ h with⟨_,h⟩|⟨D,h⟩
       .cases h
       refine⟨_,?_,by rfl,h⟩;have C:i.toNat<d.length:=(axs.1 a).1;have:=cA.aps (P:=P) (st:=bu n) b i.toNat (k:=j) o (by
        simp only[Aa,nrH];rw[aCa (by simpa using C)]) (gW A)
       refine this.trans (cA.of_eq ?_);have g:(Aa c d (some (i,some j))).set i.toNat (.sl false c.w (List.map (bJ c) e))=Aa c (d.set i.toNat e) none:=by
        simp only[Aa,aBv,azk];congr 1;cases e with
        |nil=>cases D
        |cons y m=>rfl
       simp only[bu,bE,Option.map,cx,g]
      .cases h
     .cases h
    .exact⟨n,cA.refl,rfl,h⟩
   next s p _=>
    split at h
    .split at h
     next J i I=>
      obtain⟨v,h⟩:=aY h;obtain⟨x,a,h⟩:=br h;obtain⟨z,a⟩:=eM a;obtain⟨w,h⟩:=aY h;refine⟨_,?_,by rfl,h⟩;have E:x=[]:=by cases x with
       |nil=>rfl
       |cons y m=>cases w
      subst E;have B:5000000+b<4294967296:=axv v;have:=cA.ar3 (P:=P) (st:=bu n) b i.toNat (5000000+b) B p c.w o (by
       simp only[Aa,axM,a];rfl) bv
      refine this.trans (cA.of_eq ?_);have g:((Aa c d none).map (AV.kill (5000000+b))).set i.toNat (.ow (5000000+b))=Aa c d (some (i,some (5000000+b))):=by
       rw[<-RZ];rfl
      simp only[an8,bu,bE,Option.map,cx,jP,iM,g];rfl
     .exact⟨n,cA.refl,rfl,h⟩
    .exact⟨n,cA.refl,rfl,h⟩
  .exact⟨n,cA.refl,rfl,h⟩
def ar8:Do (Nat×PO)->In
 |[]=>false
 |(_,o)::h=>match o with
  |.nr _ _ _=>true
  |_=>ar8 h
def apu(c:PS)(E:cT)(k:cT->At b):At b:=match agG E.h with
 |none=>k E
 |some a=>cond (ar8 c.h) (k E) (match bG E.h a with
  |some (.nr t r d none)=>k ⟨E.n,E.t,(a,some (.arr t (.sl r) d true))::E.h⟩
  |_=>k E)
def amf{P:Fd}{q:PS}{k:cT->At b}{r:b}(h:apu q n k=some r):∃f,cA P (bu n) (bu f)/\f.n=n.n/\k f=some r:=by
 unfold apu at h;split at h
 .exact⟨n,cA.refl,rfl,h⟩
 next a _=>
  rcases bQ h with⟨_,h⟩|⟨_,h⟩
  .exact⟨n,cA.refl,rfl,h⟩
  split at h
  next t g i m=>
   have o:=gW m;refine⟨_,?_,by rfl,h⟩;have s:cA P (bu n) ⟨n.n,gD n.t,(a,some (.nr t (i.map (nrA g))))::bE n.h⟩:=cA.same (λ_=>rfl) λj=>by
    by_cases l:j=a
    .subst l
     rw[bf];exact o.symm
    .rw[bd l]
   refine s.trans (cA.alL λRd e w p=>?_);refine(p.arO (λc d=>?_) (λc d=>?_) true).A_ (WI g i) (λc d=>?_)
   .obtain⟨x,_,rfl⟩:=axC.1 d
    cases x<;>rfl
   .obtain⟨x,_,rfl⟩:=axC.1 d
    cases x<;>rfl
   .exact eU (.sl g) i c d
  .exact⟨n,cA.refl,rfl,h⟩
def rW(a:PS)(E:cT)(k:lW a.c->At b):At b:=apt a E λc=>apu a c λc=>aW (canon a c) k
def nq{P:Fd}{a:PS}{k:lW a.c->At b}{r:b}(h:rW a n k=some r):∃x,cA P (bu n) (bu (fo n.n a x))/\k x=some r:=by
 obtain⟨o,c,f,i⟩:=ame (P:=P) h;obtain⟨m,d,e,g⟩:=amf (P:=P) i;obtain⟨x,l,j⟩:=br g;have:=agF (P:=P) l;rw[e,f]at this;exact⟨x,c.trans (d.trans this),j⟩
variable{L:Code}
def YY:IR->IR->In
 |.normal,.normal=>true
 |.ret,.ret=>true
 |.exit i,.exit j=>beq i j
 |_,_=>false
def Se{x y:IR}(h:YY x y=true):x=y:=by
 unfold YY at h;split at h
 .rfl
 .rfl
 .rw[axu h]
 .cases h
@[reducible] def LX:Do (IR×PS)->Type
 |[]=>Unit
 |[o]=>lW o.2.c
 |o::p::r=>Sum (lW o.2.c) (LX (p::r))
def FY:(c:Do (IR×PS))->IR->cT->At (LX c)
 |[],_,_=>none
 |[o],x,E=>cond (YY o.1 x) (rW o.2 E some) none
 |o::p::r,x,E=>cond (YY o.1 x) (rW o.2 E λa=>some (.inl a)) (match FY (p::r) x E with
  |some b=>some (.inr b)
  |none=>none)
def Sf(n:Nat):(c:Do (IR×PS))->LX c->{R:Type}->(IR->cT->At R)->At R
 |[],_,_,_=>none
 |[o],v,_,k=>k o.1 (fo n o.2 v)
 |o::p::r,v,_,k=>match v with
  |.inl a=>k o.1 (fo n o.2 a)
  |.inr b=>Sf n (p::r) b k
inductive Pl where
 |z
 |n (a b:Pl)
 |join (ins:PS) (outs:List (Exit×PS)) (p:Pl)
 |loop (ins:PS) (outs:List (Exit×PS)) (p:Pl)
def Pl.l:Pl->Pl
 |.n a _=>a
 |_=>.z
def Pl.r:Pl->Pl
 |.n _ b=>b
 |_=>.z
abbrev ExT:=Pl->cT->(R:Type)->(IR->cT->At R)->At R
def an9(f:ExT)(n:Nat)(a:PS)(b:Do (IR×PS))(p:Pl):Nat->lW a.c->At (LX b)
 |0,_=>none
 |_+1,v=>f p (fo n a v) _ (FY b)
def Jn(f:ExT)(n:Nat)(a:PS)(b:Do (IR×PS))(p:Pl):Nat->lW a.c->At (LX b)
 |0,_=>none
 |m+1,v=>f p (fo n a v) _ λx E=>match x with
  |.normal=>rW a E (Jn f n a b p m)
  |x=>FY b x E
def agI(N:Nat)(c:ExT):ExT:=λd E _ k=>match d with
 |.loop a b p=>rW a E λv=>aW (Jn c E.n a b p N v) λo=>Sf E.n b o k
 |_=>none
def MK(N:Nat)(f:ExT):ExT:=λa E _ k=>match a with
 |.join b c p=>rW b E λv=>aW (an9 f E.n b c p N v) λo=>Sf E.n c o k
 |a=>f a E _ k
def agJ(i:Nat):bs->Nat
 |[]=>i
 |o::l=>match o.dst with
  |some d=>cond (beq d i) (match o.op with
   |.move (.tmp j)=>j
   |_=>i) (agJ i l)
  |none=>agJ i l
def Bh(a:bs):bs->a_
 |[]=>[]
 |o::l=>match o.op with
  |.slice _ (.tmp i) _ _ _=>agJ i a::Bh a l
  |_=>Bh a l
def agL:a_->a_
 |[]=>[]
 |i::l=>cond (l.any (beq i)) (i::agL l) (agL l)
def amg:a_->cT->cT
 |[],E=>E
 |i::l,E=>amg l (MG [] i (.h .u) E)
def adw(l:bs)(E:cT):cT:=amg (agL (Bh l l)) E
section
variable{P:Fd}
def HG:∀(l:a_) (E:cT),cA P (bu E) (bu (amg l E))/\(amg l E).n=E.n
 |[],E=>⟨cA.refl,rfl⟩
 |i::l,E=>⟨cA.trans (R8 [] i _ E) (HG l _).1,(HG l _).2.trans (YV [] i _ E)⟩
end
def FZ:Code->In
 |.seq a b=>FZ a && FZ b
 |.cond _ a b=>FZ a && FZ b
 |.block _ a=>FZ a
 |.loop a=>FZ a
 |.scope a=>FZ a
 |.rangeFunc _ _ _ _=>false
 |_=>true
section
variable(T:EQ->bz)(CT:Do kq)(N:Nat)
noncomputable def yB(c:Code):ExT:=
 Code.rec (motive:=λ_=>ExT)
  (λ_ E _ k=>k .normal E)
  (λ_ f h=>MK N λ_ E _ k=>cond h (LK T CT f.toList (adw f.toList E) f.toList [] (k .normal)) (G6 T CT f.toList f.toList E (k .normal)))
  (λ_ _ d g=>MK N λa E _ k=>d a.l E _ λx e=>match x with
   |.normal=>g a.r e _ k
   |x=>k x e)
  (λc _ _ d g=>MK N λa E _ k=>match eO (c6 E.t) c with
   |.sc .b b=>match c with
    |.tmp i=>cond b (d a.l ⟨E.n,(i,.sc .b true)::E.t,E.h⟩ _ k) (g a.r ⟨E.n,(i,.sc .b false)::E.t,E.h⟩ _ k)
    |_=>cond b (d a.l E _ k) (g a.r E _ k)
   |_=>none)
  (λid _ d=>MK N λa E _ k=>d a.l E _ λx e=>match x with
   |.exit i=>cond (beq i id) (k .normal e) (k (.exit i) e)
   |x=>k x e)
  (λ_ d=>agI N d)
  (λ_ _ _ _ _ _=>λ_ _ _ _=>none)
  (λid _ E _ k=>k (.exit id) E)
  (λ_ d=>λa E _ k=>d a.l E _ λx e=>match x with
   |.goto _=>none
   |x=>k x e)
  (λ_=>λ_ E _ k=>k .normal E)
  (λ_=>λ_ _ _ _=>none)
  (λ_ E _ k=>k .ret E)
  (λ_=>λ_ _ _ _=>none)
  c
end
section
variable{P:Fd}{T:EQ->bz}{CT:Do kq}{N:Nat}
def WZ(t:In)(P:Fd)(c:Code)(f:ExT):Prop:=∀(b:Pl) (E:cT) (R:Type) (k:IR->cT->At R) (r:R),f b E R k=some r->AC t P c (bu E) λx s=>∃a,s=bu a/\a.n=E.n/\k x a=some r
def Jo{n:Nat}:∀{os:Do (IR×PS)} {o:LX os} {R:Type} {k:IR->cT->At R} {r:R},Sf n os o k=some r->∀{x:IR} {E:cT},FY os x E=some o->E.n=n->∃f,cA P (bu E) (bu f)/\f.n=n/\k x f=some r
 |[],o,R,k,r,h,x,E,c,d=>by cases c
 |[j],o,R,k,r,h,x,E,c,d=>by
  simp only[FY]at c;obtain⟨e,a⟩:=aY c;have:=Se e;subst this;obtain⟨y,this,g⟩:=nq (P:=P) a;cases g;rw[d]at this;exact⟨_,this,rfl,h⟩
 |j::p::l,o,R,k,r,h,x,E,c,d=>by
  simp only[FY]at c;rcases bQ c with⟨e,a⟩|⟨e,a⟩
  .have:=Se e
   subst this;obtain⟨y,this,g⟩:=nq (P:=P) a;cases g;rw[d]at this;exact⟨_,this,rfl,h⟩
  .split at a
   next b i=>cases a;exact Jo (os:=p::l) h i d
   .cases a
def WZ.out{E0 E:cT}{c:Do (IR×PS)}{o:LX c}{k:IR->cT->At b}{r:b}(h:AC g P L (bu E) λx s=>∃a,s=bu a/\a.n=E.n/\FY c x a=some o)(d:Sf E.n c o k=some r):
 AC g P L (bu E) λx s=>∃a,cA P s (bu a)/\a.n=E.n/\k x a=some r:=by
 refine h.mono λx s=>?_;rintro⟨a,rfl,e,f⟩;exact Jo d f e
def AC.leK{c:IR->St->Prop}(h:AC g P L A λx s=>∃b,cA P s b/\c x b):AC g P L A c:=by
 intro r C k e a w Q z o v;refine h r C k e a w Q z o λx s B j d n l f i p t=>?_;obtain⟨b,u,y⟩:=B;obtain⟨m,q⟩:=u j d l f i p;exact v x b y j d n m f i q t
def Bi{f:ExT}(a:WZ g P L f):WZ g P L (MK N f):=by
 intro u E R k r h;unfold MK at h;split at h
 next c t p=>
  obtain⟨v,l,e⟩:=nq (P:=P) h;obtain⟨o,b,i⟩:=br e;cases N with
  |zero=>cases b
  |succ M=>
   have:=a p (fo E.n c v) _ _ _ b;have j:=WZ.out (E:=fo E.n c v) (E0:=E) (k:=k) (r:=r) this i;refine AC.le l (AC.leK (j.mono λx s=>?_));rintro⟨d,n,q,m⟩;exact⟨_,n,d,rfl,q,m⟩
 .exact a _ E R k r h
def agM{f:ExT}(r:WZ g P L f)(n:Nat)(b:PS)(e:Do (IR×PS))(p:Pl)(o:LX e)(m:Nat)(v:lW b.c)(h:Jn f n b e p m v=some o):
 AC g P (.loop L) (bu (fo n b v)) λx s=>∃a,s=bu a/\a.n=n/\FY e x a=some o:=by
 refine AC.loop (α:={q:Nat×lW b.c//Jn f n b e p q.1 q.2=some o}) (λq=>bu (fo n b q.1.2)) (λq=>q.1.1) ⟨(m,v),h⟩ cA.refl ?_;rintro⟨⟨m,v⟩,h⟩;cases m with
 |zero=>cases h
 |succ m=>
  simp only[Jn]at h;have:=r p (fo n b v) _ _ _ h;refine AC.mono this λx s=>?_;rintro⟨a,rfl,d,c⟩;cases x with
  |normal=>
   obtain⟨t,j,k⟩:=nq (P:=P) c;rw[d]at j;exact⟨⟨(m,t),k⟩,j,aAG m⟩
  |_=>exact⟨a,rfl,d,c⟩
def W0{ops:bs}:∀{l:bs} {E:cT} {n:Nat} {R:Type} {k:cT->At R},E.n=n->G6 T CT ops l E (λa=>cond (beq a.n n) (k a) none)=G6 T CT ops l E k
 |[],E,n,R,k,f=>by simp only[G6,f,axX,axL]
 |o::l,E,n,R,k,f=>by
  subst f;have step:∀(b:cT),b.n=E.n->rT T CT o b (λa=>G6 T CT ops l a λa=>cond (beq a.n E.n) (k a) none)=rT T CT o b (λa=>G6 T CT ops l a k):=by
   intro b d;unfold rT;have e:=λ(t:Do (Nat×EV)) (h:eW)=>W0 (ops:=ops) (l:=l) (k:=k) (E:=⟨b.n,t,h⟩) d;split<;>simp only[e]
  have skip:∀(b:cT),b.n=E.n->(G6 T CT ops l (Jb o.dst b) λa=>cond (beq a.n E.n) (k a) none)=G6 T CT ops l (Jb o.dst b) k:=λb d=>W0 (E:=Jb o.dst b) d;simp only[G6,exG];split
  .exact step E rfl
  .split
   .split
    next s _ _ c _=>rw[step ⟨E.n,(s,.sc .b true)::E.t,E.h⟩ rfl,step ⟨E.n,(s,.sc .b false)::E.t,E.h⟩ rfl,skip ⟨E.n,(s,.sc .b true)::E.t,E.h⟩ rfl,skip ⟨E.n,(s,.sc .b false)::E.t,E.h⟩ rfl]
    .rw[skip E rfl]
    .rfl
   .rfl
def ar9{c l:bs}{k:cT->At b}{r:b}(h:G6 T CT c l n k=some r):G6 T CT c l n (λa=>cond (beq a.n n.n) (k a) none)=some r:=by rw[W0 rfl];exact h
def agN{l:bs}{E:cT}:∀{rest:bs} {done:Do Ea} {R:Type} {k:cT->At R},LK T CT l E rest done (λa=>cond (beq a.n E.n) (k a) none)=LK T CT l E rest done k
 |[],done,R,k=>by simp only[LK,axX,axL]
 |o::rest,done,R,k=>by
  simp only[LK,agN (rest:=rest)]
def ar_{l c:bs}{done:Do Ea}{k:cT->At b}{r:b}(h:LK T CT l n c done k=some r):LK T CT l n c done (λa=>cond (beq a.n n.n) (k a) none)=some r:=by rw[agN];exact h
def agO(J:Place P T CT)(c:Code):∀t,(t=false->FZ c=true)->WZ t P c (yB T CT N c):=by
 induction c with
 |skip=>
  intro t _ j E R k r h;exact AC.skip ⟨E,rfl,rfl,h⟩
 |region id w H=>
  intro t _;refine Bi (f:=λ_ E _ k=>cond H (LK T CT w.toList (adw w.toList E) w.toList [] (k .normal)) (G6 T CT w.toList w.toList E (k .normal))) ?_;intro j E R k r h;have I:w=w.toList.toArray:=d5
  cases H with
  |true=>
   have:=WU (t:=t) J (id:=id) (k:=λd=>cond (beq d.n (adw w.toList E).n) (k .normal d) none) (l:=w.toList) (E:=adw w.toList E) (r:=r) (by
    exact ar_ h)
   rw[I];refine AC.le (HG (P:=P) (agL (Bh w.toList w.toList)) E).1 ?_;rw[show(adw w.toList E).n=E.n from(HG (P:=P) (agL (Bh w.toList w.toList)) E).2]at this;refine this.mono λx s=>?_;rintro⟨rfl,d,rfl,m⟩;obtain⟨u,z⟩:=aY m;exact⟨d,rfl,axu u,z⟩
  |false=>
   have:=WW (t:=t) J (id:=id) (k:=λd=>cond (beq d.n E.n) (k .normal d) none) (l:=w.toList) (E:=E) (r:=r) (ar9 h);rw[I];refine this.mono λx s=>?_;rintro⟨rfl,d,rfl,m⟩;obtain⟨u,z⟩:=aY m;exact⟨d,rfl,axu u,z⟩
 |seq a b q A=>
  intro t y;have q:=q t λe=>by(have:=y e;simp only[FZ,axo]at this;exact this.1)
  have A:=A t λe=>by(have:=y e;simp only[FZ,axo]at this;exact this.2)
  clear y;refine Bi (f:=λj E _ k=>yB T CT N a j.l E _ λx d=>match x with
   |.normal=>yB T CT N b j.r d _ k
   |x=>k x d) ?_
  intro j E R k r h;refine AC.seq ((q j.l E R _ r h).mono λx s=>?_);rintro⟨d,rfl,n,m⟩;cases x with
  |normal=>
   refine(A j.r d R k r m).mono λx s=>?_;rintro⟨L,rfl,S,O⟩;exact⟨L,rfl,S.trans n,O⟩
  |_=>exact⟨d,rfl,n,m⟩
 |cond c a b q A=>
  intro t y;have q:=q t λe=>by(have:=y e;simp only[FZ,axo]at this;exact this.1)
  have A:=A t λe=>by(have:=y e;simp only[FZ,axo]at this;exact this.2)
  clear y;refine Bi (f:=λj E _ k=>match eO (c6 E.t) c with
   |.sc .b F=>match c with
    |.tmp i=>cond F (yB T CT N a j.l ⟨E.n,(i,.sc .b true)::E.t,E.h⟩ _ k) (yB T CT N b j.r ⟨E.n,(i,.sc .b false)::E.t,E.h⟩ _ k)
    |_=>cond F (yB T CT N a j.l E _ k) (yB T CT N b j.r E _ k)
   |_=>none) ?_
  intro j E R k r h;simp only at h;split at h
  next F C=>
   have D:=(Sk.enc E).is C d8;split at h
   next i=>
    rcases bQ h with⟨B,u⟩|⟨B,u⟩
    .subst B
     exact AC.an1 D (AC.le (cA.agn (P:=P) C) (q j.l _ R k r u))
    .subst B
     exact AC.an2 D (AC.le (cA.agn (P:=P) C) (A j.r _ R k r u))
   .rcases bQ h with⟨B,u⟩|⟨B,u⟩
    .subst B
     exact AC.an1 D (q j.l _ R k r u)
    .subst B
     exact AC.an2 D (A j.r _ R k r u)
  .cases h
 |block id a q=>
  intro t y;have q:=q t y;refine Bi (f:=λj E _ k=>yB T CT N a j.l E _ λx d=>match x with
   |.exit i=>cond (beq i id) (k .normal d) (k (.exit i) d)
   |x=>k x d) ?_
  intro j E R k r h;refine AC.block ((q j.l E R _ r h).mono λx s=>?_);rintro⟨d,rfl,n,m⟩;cases x with
  |exit i=>
   simp only[Wc];rcases bQ m with⟨u,z⟩|⟨u,z⟩
   .rw[axn (axu u)]
    exact⟨d,rfl,n,z⟩
   .rw[axm (λe=>by rw[e,axX]at u;cases u)]
    exact⟨d,rfl,n,z⟩
  |_=>exact⟨d,rfl,n,m⟩
 |loop a q=>
  intro t y;have q:=q t y;intro j E R k r h;change agI N (yB T CT N a) j E R k=some r at h;unfold agI at h;split at h
  next K V p=>obtain⟨v,C,u⟩:=nq (P:=P) h;obtain⟨o,U,z⟩:=br u;have:=agM q E.n K V p o N v U;have M:=WZ.out (E:=fo E.n K v) (E0:=E) (k:=k) (r:=r) this z;refine AC.le C (AC.leK (M.mono λx s=>?_));rintro⟨d,Q,n,m⟩;exact⟨_,Q,d,rfl,n,m⟩
  .cases h
 |exit id=>
  intro t _ j E R k r h;exact AC.exit ⟨E,rfl,rfl,h⟩
 |scope a q=>
  intro t y;have q:=q t y;intro j E R k r h;refine AC.scope ((q j.l E R _ r h).mono λx s=>?_);rintro⟨d,rfl,n,m⟩;cases x with
  |goto l=>cases m
  |_=>exact⟨λl e=>(by cases e),d,rfl,n,m⟩
 |label l=>
  intro t _ j E R k r h;exact AC.label ⟨E,rfl,rfl,h⟩
 |ret=>
  intro t _ j E R k r h;exact AC.ret ⟨E,rfl,rfl,h⟩
 |rangeFunc g X W cb q A=>
  intro t y j E R k r h;cases h
 |_=>
  intro t _ j E R k r h;cases h
end
variable{P:AV}{N:Func}{c:Fd}
def LY:Nat->Do EV->Do (Nat×EV)
 |_,[]=>[]
 |i,c::a=>(i,c)::LY (i+1) a
def vA:∀(a:Do EV) (i:Nat),gD (LY i a)=vf i (cg a)
 |[],_=>rfl
 |c::a,i=>by simp only[LY,gD,cg,vf,vA a (i+1)]
def amh(a:PS)(x:IR)(E:cT):At (lW a.c):=match x with
 |.normal=>rW a E some
 |.ret=>rW a E some
 |_=>none
noncomputable def exF(T:EQ->bz)(e:Nat->Do kq)(N:Nat)(c:Code)(n:Nat)(g:Pl)(d:Do PV)(f:Do (Nat×PO))(a:Do Sc)(b:PS)(x:lW a):At (lW b.c):=
 Nat.rec (motive:=λ_=>At (lW b.c)) none (λM _=>yB T (e M) M c g ⟨n,LY 0 (da d (iy a x)).1,vp f (da d (iy a x)).2⟩ _ (amh b)) N
def agP(T:EQ->bz)(h:eW)(t:EQ):EV->At EV
 |.pt j o=>match(T t).ty with
  |some (b,m)=>match bG h j with
   |some (.box c a)=>cond (!(beq c Iz) && Nat.ble (o+m) a.length) (YA b ((a.drop o).take m)) none
   |_=>none
  |none=>none
 |_=>none
def ED(T:EQ->bz)(E:cT):Do ResultVar->At (Do EV)
 |[]=>some []
 |r::d=>match r with
  |.tmp i=>match ED T E d with
   |some b=>some (c6 E.t i::b)
   |none=>none
  |.cell a t=>match agP T E.h t (c6 E.t a)with
   |some c=>match ED T E d with
    |some b=>some (c::b)
    |none=>none
   |none=>none
def asa:Do EV->EV
 |[c]=>c
 |a=>.tu a
def Bj(T:EQ->bz)(E:cT)(b:Do ResultVar):EV:=match ED T E b with
 |some a=>asa a
 |none=>.un
def fY(a:a_):eW->eW
 |[]=>[]
 |(k,o)::h=>cond (a.contains k) ((k,o)::fY a h) (fY a h)
def je:a_->Code->Code
 |[],c=>c
 |0::p,.seq a _=>je p a
 |_::p,.seq _ b=>je p b
 |0::p,.cond _ a _=>je p a
 |_::p,.cond _ _ b=>je p b
 |_::p,.block _ a=>je p a
 |_::p,.loop a=>je p a
 |_::p,.scope a=>je p a
 |0::p,.rangeFunc _ _ a _=>je p a
 |_::p,.rangeFunc _ _ _ b=>je p b
 |_::_,c=>c
def iB(a:Func):Code:=match a.body with
 |some c=>c
 |none=>.skip
def agQ{T:EQ->bz}(f:gJ c T){p b:EV}(h:agP T n.h a p=some b):AW c (bu n) (enc p) a=some (enc b):=by
 unfold agP at h;split at h
 next j o=>
  split at h
  next k m i=>
   split at h
   next l q g=>obtain⟨d,e⟩:=aY h;simp only[AW,f.ty _ _ i,enc,mq,gW g,cx,fK];simp only[axo]at d;rw[axn ⟨Es d.1,axv d.2⟩,<-ni,<-qK];exact Rt e
   .cases h
  .cases h
 .cases h
def HH{P:Fd}{T:EQ->bz}(d:gJ P T){E:cT}:∀{f:Do ResultVar} {b:Do EV},ED T E f=some b->IL P (bu E) f=some (cg b)
 |[],b,h=>by simp only[ED,axq]at h;subst h;rfl
 |r::f,b,h=>by
  simp only[ED]at h;split at h
  next i=>
   split at h
   next j e=>cases h;simp only[IL,HH d e];rw[show bM (bu E).t i=enc (c6 E.t i)from cN E.t i];rfl
   .cases h
  next a t=>
   split at h
   next c k=>
    split at h
    next j e=>cases h;have g:=agQ d k;rw[<-show bM (bu E).t a=enc (c6 E.t a)from cN E.t a]at g;simp only[IL,HH d e,g];rfl
    .cases h
   .cases h
def amj(a:Do EV):Q_ (cg a)=enc (asa a):=by
 match a with
 |[]=>rfl
 |[c]=>rfl
 |c::d::a=>rfl
def G3.drop{H i:Hp}(h:G3 c v C k H P)(g:∀a ob,bc i a=some ob->bc H a=some ob):G3 c v C k i P:=by
 refine⟨h.1,λB Rd e w I f r=>(h.2 B Rd e w I f r).mono λx z G=>?_⟩;obtain⟨d,l,rfl,f,r⟩:=G;have s:∀b o u,bS B Rd l H z b o u->bS B Rd l i z b o u:=λb o u ⟨m,n,E⟩=>⟨m,n,λa ob F p=>E a ob (g a ob F) p⟩;exact⟨d,l,rfl,⟨f.ext,f.kW,λj ob q=>(f.ob j ob (g j ob q)).mono s,λj ob b q p=>f.base j ob b (g j ob q) p,λj t ob y b m n A D=>f.inj j t ob y b (g j ob m) (g t y n) A D,f.yv⟩,r.mono s⟩
def Ag(d:a_):∀(h:eW) (k:Nat) (o:eh),bG (fY d h) k=some o->bG h k=some o
 |[],k,o,h=>by cases h
 |(j,q)::h,k,o,c=>by
  simp only[fY]at c;simp only[bG];cases g:d.contains j with
  |true=>
   rw[g]at c;simp only[axL,bG]at c;by_cases f:k=j
   .subst f;rw[axX]at c⊢;exact c
   .rw[jd f]at c⊢;exact Ag d h k o c
  |false=>
   rw[g]at c;simp only[axr]at c;have:=Ag d h k o c;by_cases f:k=j
   .subst f
    have n:∀(h:eW),bG (fY d h) k=none:=by
     intro h
     induction h with
     |nil=>rfl
     |cons p h l=>
      obtain⟨a,b⟩:=p;simp only[fY];cases i:d.contains a with
      |false=>exact l
      |true=>
       have m:k≠a:=λe=>by rw[<-e,g]at i;cases i
       simp only[axL,bG,jd m,axr];exact l
    rw[n]at c;cases c
   .rw[jd f];exact this
def Jp:∀h:eW,fY [] h=[]
 |[]=>rfl
 |(k,o)::h=>by simp only[fY,List.contains_nil,axr,Jp h]
def Jq:∀(a:Do PV) (b:Do EV),(da a b).1.length=a.length
 |[],_=>rfl
 |p::a,b=>by simp only[da,axN,Jq a]
def agR{T:EQ->bz}{l:Do kq}(r:Place c T l)(A:c.funcs[v]? =some N)(E:(N.name== "runtime.NumGoroutine")=false)(z:N.body=some L)(t:Pl)
 (g:Do EV) (j:eW) (C:g.length<=N.ntmps) (x:N.ntmps<=1000000) (m:IR->cT->At b) (y:b) (e:PS) (a:lW e.c) (K:a_)
 (B:∀q f,m q f=some y->(q=.normal\/q=.ret)/\cA c (bu f) (bu (fo f.n e a))) (I:(ED T (fo N.ntmps e a) N.results.toList).isSome=true)
 (J:yB T l d L t ⟨N.ntmps,LY 0 g,j⟩ b m=some y):G3 c v (bE j) (cg g) (bE (fY K (fo N.ntmps e a).h)) (enc (Bj T (fo N.ntmps e a) N.results.toList)):=by
 refine G3.drop (H:=bE (fo N.ntmps e a).h) ?_ (λk ob i=>?_)
 .refine G3.intro A E z (by rw[fK];exact C) x ?_
  have:=agO (N:=d) r L true (λh=>by cases h) t ⟨N.ntmps,LY 0 g,j⟩ _ _ _ J;simp only[bu,vA]at this;refine this.mono λq s=>?_;rintro⟨f,rfl,D,i⟩;obtain⟨G,p⟩:=B q f i;refine⟨G,?_⟩;rw[D]at p;obtain⟨u,n⟩:=ay6.1 I;have w:=HH r.t n;refine⟨gD (fo N.ntmps e a).t,cg u,p,w,?_⟩;rw[amj];simp only[Bj,n]
 .rw[dc]at i⊢
  obtain⟨o,F,rfl⟩:=axW.1 i;rw[Ag _ _ _ _ F];rfl
def amk{T:EQ->bz}{m:Nat->Do kq}(E:∀M,d=M+1->Place c T (m M))(B:c.funcs[v]? =some N)(D:(N.name== "runtime.NumGoroutine")=false)(z:N.body.isSome=true)(p:Pl)
 (h:Do PV) (j:Do (Nat×PO)) (f:Do Sc) (b:PS) (own t:In) (l:a_) (n:(Nat.ble h.length N.ntmps && Nat.ble N.ntmps 1000000)=true) (G:∀y,(ED T (fo N.ntmps b y) N.results.toList).isSome=true) (s:own=false->j=[]/\l=[])
 (F:∀y,(!t||((Bj T (fo N.ntmps b y) N.results.toList).pu && puH (fY l (fo N.ntmps b y).h)))=true)
 (M:lW f->At (lW b.c)) (w:∀x,M x=exF T m d (iB N) N.ntmps p h j f b x):
 (kq.mk v h j f (lW b.c) M (λy _ k=>k (Bj T (fo N.ntmps b y) N.results.toList) (fY l (fo N.ntmps b y).h)) own t).ok c:=by
 refine⟨λo=>(s o).1,λx y i=>⟨_,_,λ_ _=>rfl,λo=>?_,λg=>?_,?_⟩⟩
 .rw[(s o).2]
  exact Jp _
 .have:=F y
  simp only at g;rw[g]at this;simpa using this
 obtain⟨a,r⟩:=ay6.1 z;have A:iB N=a:=by simp only[iB,r]
 simp only at i⊢;rw[w,A]at i;simp only[axo]at n;cases d with
 |zero=>cases i
 |succ M=>
 change yB T (m M) M a p ⟨N.ntmps,LY 0 (da h (iy f x)).1,vp j (da h (iy f x)).2⟩ _ (amh b)=some y at i;refine agR (E M rfl) B D r p (da h (iy f x)).1 _ (by rw[Jq];exact axv n.1) (axv n.2) (amh b) y b y l (λq u e=>?_) (G y) i;have g:(q=.normal\/q=.ret)/\rW b u some=some y:=by
  unfold amh at e;split at e
  .exact⟨.inl rfl,e⟩
  .exact⟨.inr rfl,e⟩
  .cases e
 obtain⟨g,e⟩:=g;obtain⟨I,C,H⟩:=nq (P:=c) e;cases H;exact⟨g,C⟩
def Ah{T:EQ->bz}{CT:Nat->Do kq}{N:Nat}(q:∀M,Place c T (CT M)){a:Func}(m:c.funcs[v]? =some a)(o:(a.name== "runtime.NumGoroutine")=false)(l:a.body.isSome=true)(i:Pl)
 (g:Do PV) (e:Do (Nat×PO)) (d:Do Sc) (b:PS) (own h:In) (f:a_) (n:(Nat.ble g.length a.ntmps && Nat.ble a.ntmps 1000000)=true) (s:∀y,(ED T (fo a.ntmps b y) a.results.toList).isSome=true) (p:own=false->e=[]/\f=[])
 (r:∀y,(!h||((Bj T (fo a.ntmps b y) a.results.toList).pu && puH (fY f (fo a.ntmps b y).h)))=true)
 (M:lW d->At (lW b.c)) (j:∀x,M x=exF T CT N (iB a) a.ntmps i g e d b x):
 (kq.mk v g e d (lW b.c) M (λy _ k=>k (Bj T (fo a.ntmps b y) a.results.toList) (fY f (fo a.ntmps b y).h)) own h).ok c:=
 amk (λM _=>q M) m o l i g e d b own h f n s p r M j
structure ML(P:Program)(t:TypeId)(i:bz):Prop where
 ty:∀x,i.ty=some x->V7 P t=some x
 el:∀x,i.el=some x->LH P t=some x
 k7:i.k7=true->k7 P t=true
 bo:i.bo=true->P.underlying t=some .bool
 ar:∀x,i.ar=some x->arA P t=some x
 fd:∀(f:Nat) x,i.fd[f]? =some x->fdA P t f=some x
 pl:∀z l,i.pl=some (z,l)->∃f,plA P t=some (z,f)/\∀(i:Nat) p,l[i]? =some p->f i=some p
 ze:∀x,i.ze=some x->FN P t=some x
 mp:∀x,i.mp=some x->mapA P t=some x
 ik:∀k,i.ik=some k->P.underlying t=some (.int k)
 eq:∀s,i.eq=some s->afM P t s
 sg:i.sg=true->P.underlying t=some .string
 nf:i.nf=true->∃ms,P.underlying t=some (.interface ms)
 zv:∀x,i.zv=some x->zvT P t=some x
def W1:ML c a (bz.mk none none false false none [] none none none none none none none false false none):=
 {ty:=λ_ h=>by cases h
  el:=λ_ h=>by cases h
  k7:=λh=>by cases h
  bo:=λh=>by cases h
  ar:=λ_ h=>by cases h
  fd:=λ_ _ h=>by simp at h
  pl:=λ_ _ h=>by cases h
  ze:=λ_ h=>by cases h
  mp:=λ_ h=>by cases h
  ik:=λ_ h=>by cases h
  eq:=λ_ h=>by cases h
  sg:=λh=>by cases h
  nf:=λh=>by cases h
  zv:=λ_ h=>by cases h}
def Sg{a c:At b}(h:a=c):∀x,c=some x->a=some x:=λ_ d=>h.trans d
def asb{a b:In}(h:a=b):b=true->a=true:=λc=>h.trans c
def boB(P:Fd)(t:EQ):In:=match P.underlying t with
 |some .bool=>true
 |_=>false
def sgB(P:Fd)(t:EQ):In:=match P.underlying t with
 |some .string=>true
 |_=>false
def agS(h:sgB c a=g):g=true->c.underlying a=some .string:=λb=>by
 have h:=h.trans b;unfold sgB at h;split at h
 .assumption
 .cases h
def adx(h:sgB c a=true):ML c a {sg:=true}:=
 {ty:=λ_ h=>by cases h
  el:=λ_ h=>by cases h
  k7:=λh=>by cases h
  bo:=λh=>by cases h
  ar:=λ_ h=>by cases h
  fd:=λ_ _ h=>by simp at h
  pl:=λ_ _ h=>by cases h
  ze:=λ_ h=>by cases h
  mp:=λ_ h=>by cases h
  ik:=λ_ h=>by cases h
  eq:=λ_ h=>by cases h
  sg:=λ_=>agS h rfl
  nf:=λh=>by cases h
  zv:=λ_ h=>by cases h}
def nfB(P:Fd)(t:EQ):In:=match P.underlying t with
 |some (.interface _)=>true
 |_=>false
def agT(h:nfB c a=g):g=true->∃d,c.underlying a=some (.interface d):=λb=>by
 have h:=h.trans b;unfold nfB at h;split at h
 .exact⟨_,by assumption⟩
 .cases h
def apv{b:At Id}(h:(match b with|some _=>zvT c a|none=>none)=b):∀x,b=some x->zvT c a=some x:=λx d=>by
 subst d;exact h
def agU(h:nfB c a=true):ML c a {nf:=true}:=
 {ty:=λ_ h=>by cases h
  el:=λ_ h=>by cases h
  k7:=λh=>by cases h
  bo:=λh=>by cases h
  ar:=λ_ h=>by cases h
  fd:=λ_ _ h=>by simp at h
  pl:=λ_ _ h=>by cases h
  ze:=λ_ h=>by cases h
  mp:=λ_ h=>by cases h
  ik:=λ_ h=>by cases h
  eq:=λ_ h=>by cases h
  sg:=λh=>by cases h
  nf:=λ_=>agT h rfl
  zv:=λ_ h=>by cases h}
def apw(h:boB c a=g):g=true->c.underlying a=some .bool:=λb=>by
 have h:=h.trans b;unfold boB at h;split at h
 .assumption
 .cases h
def ikF(P:Fd)(t:EQ):At IntKind:=match P.underlying t with
 |some (.int k)=>some k
 |_=>none
def apx{b:At IntKind}(h:ikF c a=b):∀k,b=some k->c.underlying a=some (.int k):=λk d=>by
 have h:=h.trans d;unfold ikF at h;split at h
 .cases h;assumption
 .cases h
def apy{l:Do (Nat×In×Nat)}(h:(List.range l.length).map (fdA c a)=l.map some):∀(f:Nat) x,l[f]? =some x->fdA c a f=some x:=λf x d=>by
 have e:=(axs.1 d).1;have b:=axD (λq=>q[f]?) h;simp only[axM,azn e,d,ayt]at b;exact axt b
def plF(P:Fd)(t:EQ)(n:Nat):At (bH×Do FL):=(plA P t).map λp=>(p.1,(List.range n).map p.2)
def apz{o:At (bH×bw)}(h:(match o with
 |some (_,l)=>plF c a l.length
 |none=>none)=o.map λp=>(p.1,p.2.map some)):∀z l,o=some (z,l)->∃f,plA c a=some (z,f)/\∀(i:Nat) p,l[i]? =some p->f i=some p:=λz l j=>by
 subst j;simp only[plF,ayt]at h;cases e:plA c a with
 |none=>rw[e]at h;cases h
 |some q=>
  rw[e]at h;simp only[ayt,axq,axI]at h;refine⟨q.2,by rw[<-h.1],λi p d=>?_⟩;have g:=(axs.1 d).1;have b:=axD (λq=>q[i]?) h.2;simp only[axM,azn g,d,ayt]at b;exact axt b
def fdS(P:Fd)(f:Field)(o:Nat):Sc->In
 |.i k=>decide (f.offset=o) && f.name != "_"&& (match P.underlying f.type with
  |some (.int l)=>decide (k=l)
  |_=>false)
 |.b=>decide (f.offset=o) && f.name != "_"&& (match P.underlying f.type with
  |some .bool=>true
  |_=>false)
 |_=>false
def ady(P:Fd):Do Field->Nat->Sc->In
 |[f],o,.i k=>fdS P f o (.i k)
 |[f],o,.b=>fdS P f o .b
 |f::a,o,.pr x y=>fdS P f o x && ady P a (o+1) y
 |[],_,.u=>true
 |_,_,_=>false
def W2{f:Field}{s:Sc}(h:fdS c f d s=true){D E:ea}{x y:s.c9}{rx ry:bH}(F:D.toList.drop d=db s x++rx)(G:E.toList.drop d=db s y++ry)(e:Nat)(w:GE):
 f.name≠ "_"/\∃a b,(part f.type D f.offset).run c w=.ok a w/\(part f.type E f.offset).run c w=.ok b w/\(Op.equalIn (e+1) f.type a b).run c w=.ok (jc s x y) w/\D.toList.drop (d+1)=rx/\E.toList.drop (d+1)=ry:=by
 have get:∀{o:ea} {v:Id} {r:bH},o.toList.drop d=[v]++r->o[d]? =some v/\o.toList.drop (d+1)=r:=by
  intro o v r H;constructor
  .have A:=axD (λl=>l[0]?) H
   simpa using A
  .have A:=axD (λl=>l.drop 1) H
   simpa[azu,aBe]using A
 cases s with
 |i k=>
  simp only[fdS,axo,ayd,bne_iff_ne,ne_eq]at h;obtain⟨⟨B,C⟩,j⟩:=h;split at j
  next l n=>
   have j:=ayh j;subst j B;obtain⟨p,q⟩:=get F;obtain⟨t,z⟩:=get G;have m:c.plainKey f.type=true:=by simp[Program.plainKey,n]
   refine⟨C,_,_,azw w m p,azw w m t,?_,q,z⟩;have:=aBq w e f.type k k x y n;rw[this];rfl
  .cases j
 |b=>
  simp only[fdS,axo,ayd,bne_iff_ne,ne_eq]at h;obtain⟨⟨B,C⟩,j⟩:=h;split at j
  next n=>
   subst B;obtain⟨p,q⟩:=get F;obtain⟨t,z⟩:=get G;have m:c.plainKey f.type=true:=by simp[Program.plainKey,n]
   refine⟨C,_,_,azw w m p,azw w m t,?_,q,z⟩;exact run_equalIn_bool w e f.type x y n
  .cases j
 |_=>cases h
def aml(d:Nat)(w:GE)(t v:ea):∀(e:Do Field) (o:Nat) (s:Sc) (x y:s.c9),ady c e o s=true->t.toList.drop o=db s x->v.toList.drop o=db s y->
 (Op.eqFields (d+1) t v e).run c w=.ok (jc s x y) w:=by
 intro e
 induction e with
 |nil=>
  intro o s x y h l m;cases s<;>first|(cases h;done)|(simp[Op.eqFields,jc])
 |cons f e B=>
  intro o s x y h l m;cases s with
  |i k=>
   cases e with
   |cons g gs=>cases h
   |nil=>
    obtain⟨j,a,b,p1,p2,p3,_,_⟩:=W2 (s:=.i k) h (x:=x) (y:=y) (rx:=[]) (ry:=[]) (by simpa using l) (by simpa using m) d w;simp only[Op.eqFields,j,ne_eq,aAK,ax0,axE,p1,p2,p3,axF];cases jc (.i k) x y<;>simp
  |b=>
   cases e with
   |cons g gs=>cases h
   |nil=>
    obtain⟨j,a,b,p1,p2,p3,_,_⟩:=W2 (s:=.b) h (x:=x) (y:=y) (rx:=[]) (ry:=[]) (by simpa using l) (by simpa using m) d w;simp only[Op.eqFields,j,ne_eq,aAK,ax0,axE,p1,p2,p3,axF];cases jc .b x y<;>simp
  |sl r=>cases e<;>cases h
  |u=>cases e<;>cases h
  |pr p q=>
   have n:fdS c f o p=true/\ady c e (o+1) q=true:=by
    cases e<;>simpa[ady]using h
   obtain⟨j,a,b,p1,p2,p3,z,A⟩:=W2 n.1 (x:=x.1) (y:=y.1) l m d w;have:=B (o+1) q x.2 y.2 n.2 z A;simp only[Op.eqFields,j,ne_eq,aAK,ax0,axE,p1,p2,p3,axF,jc];cases jc p x.1 y.1 with
   |false=>simp
   |true=>simpa using this
def amm{s:Sc}{e:Array Field}(k:s.key=true)(f:c.underlying a=some (.struct e))(j:c.stoodInHeld a=false)(h:c.eqGuardType c.depth a=false)
 (i:ady c e.toList 0 s=true):afM c a s:=by
 refine⟨k,λx y w=>⟨?_,λl d b=>?_⟩⟩
 .have g:c.fieldsOf a=e:=by simp[Program.fieldsOf,f]
  show(Op.equalIn (9999+1) _ _ _).run c w=_;rw[run_equalIn_struct w 9999 a _ _ (by rw[g];exact f) j,g];exact aml 9998 w _ _ e.toList 0 s x y i d5 d5
 .unfold eqGuard
  cases l<;>simp[axE,h]
def stF(P:Fd)(t:EQ):At (Array Field):=match P.underlying t with
 |some (.struct a)=>some a
 |_=>none
def eqB(P:Fd)(t:EQ)(s:Sc):In:=s.key && !(P.stoodInHeld t) && !(P.eqGuardType P.depth t) && (match stF P t with
 |some a=>ady P a.toList 0 s
 |none=>false)
def apB{o:At Sc}(h:(match o with
 |some s=>eqB c a s
 |none=>true)=true):∀s,o=some s->afM c a s:=λs i=>by
 subst i;simp only[eqB,axo,ayC]at h;obtain⟨⟨⟨e,f⟩,g⟩,d⟩:=h;split at d
 next j b=>
  unfold stF at b;split at b
  .cases b
   exact amm e (by assumption) f g d
  .cases b
 .cases d
noncomputable def avz(T:EQ->bz)(d:Do kq)(N:Nat)(c:Code):ExT:=match c with
 |.region _ g j=>λ_ E _ k=>cond j (LK T d g.toList (adw g.toList E) g.toList [] (k .normal)) (G6 T d g.toList g.toList E (k .normal))
 |.seq a b=>λe E _ k=>yB T d N a e.l E _ λx f=>match x with
  |.normal=>yB T d N b e.r f _ k
  |x=>k x f
 |.cond c a b=>λe E _ k=>match eO (c6 E.t) c with
  |.sc .b h=>match c with
   |.tmp i=>cond h (yB T d N a e.l ⟨E.n,(i,.sc .b true)::E.t,E.h⟩ _ k) (yB T d N b e.r ⟨E.n,(i,.sc .b false)::E.t,E.h⟩ _ k)
   |_=>cond h (yB T d N a e.l E _ k) (yB T d N b e.r E _ k)
  |_=>none
 |.block id a=>λe E _ k=>yB T d N a e.l E _ λx f=>match x with
  |.exit i=>cond (beq i id) (k .normal f) (k (.exit i) f)
  |x=>k x f
 |c=>yB T d N c
def nt:∀a∈([]:Do kq),a.ok c:=λa h=>by cases h
def nL{a:kq}{l:Do kq}(h:a.ok c)(e:∀d∈l,d.ok c):∀d∈a::l,d.ok c:=λd b=>by
 rcases axP.1 b with rfl|b
 .exact h
 .exact e d b
def tgL(P:Fd)(i:bz)(t:EQ):=(V7 P t,LH P t,k7 P t,boB P t,arA P t,(List.range i.fd.length).map (fdA P t),(match i.pl with
 |some (_,l)=>plF P t l.length
 |none=>none),FN P t,mapA P t,ikF P t,(match i.eq with
 |some s=>eqB P t s
 |none=>true),sgB P t,nfB P t,(match i.zv with|some _=>zvT P t|none=>none))
def tgR(i:bz):=(i.ty,i.el,i.k7,i.bo,i.ar,i.fd.map some,i.pl.map (λp=>(p.1,p.2.map some)),i.ze,i.mp,i.ik,true,i.sg,i.nf,i.zv)
def asf{i:bz}(h:tgL c i a=tgR i):ML c a i:=by
 simp only[tgL,tgR,axI]at h;obtain⟨b,k,l,m,n,o,p,q,r,d,e,f,g,j⟩:=h;exact⟨Sg b,Sg k,asb l,apw m,Sg n,apy o,apz p,Sg q,Sg r,apx d,apB e,agS f,agT g,apv j⟩
def tgF(S N:a_):Do (a_×bz)->EQ->bz
 |[],t=>cond (S.any (beq t)) {sg:=true} (cond (N.any (beq t)) {nf:=true} {})
 |(l,i)::r,t=>cond (l.any (beq t)) i (tgF S N r t)
def any_beq(h:K.any (beq d)=true):d∈K:=by
 obtain⟨x,b,a⟩:=ay7.1 h;rw[axu a];exact b
def Sh{P:Fd}{S N:a_}(c:S.all (sgB P)=true)(b:N.all (nfB P)=true):∀{L:Do (a_×bz)},L.map (λp=>p.1.map (tgL P p.2))=L.map (λp=>p.1.map λ_=>tgR p.2)->∀t,ML P t (tgF S N L t)
 |[],_,t=>by
  unfold tgF;cases a:S.any (beq t)with
  |true=>exact adx (axO.1 c t (any_beq a))
  |false=>
   cases d:N.any (beq t)with
   |true=>exact agU (axO.1 b t (any_beq d))
   |false=>exact W1
 |(l,i)::r,h,t=>by
  simp only[axJ,ayv]at h;unfold tgF;cases a:l.any (beq t)with
  |true=>exact asf (List.map_inj_left.1 h.1 t (any_beq a))
  |false=>exact Sh c b h.2 t
def amn{P:Fd}{T:EQ->bz}(h:∀t,ML P t (T t)):gJ P T where
 ty:=λt=>(h t).ty
 el:=λt=>(h t).el
 k7:=λt=>(h t).k7
 bo:=λt=>(h t).bo
 ar:=λt=>(h t).ar
 fd:=λt=>(h t).fd
 pl:=λt=>(h t).pl
 ze:=λt=>(h t).ze
 mp:=λt=>(h t).mp
 ik:=λt=>(h t).ik
 eq:=λt=>(h t).eq
 sg:=λt=>(h t).sg
 nf:=λt=>(h t).nf
 zv:=λt=>(h t).zv
section
open Go.ChangeShapes Go.WideShapes Go.ChangeAt Go.RowKit
section
variable{H:Type}{enc:EQ×Id->H}{P:Fd}
def F0(j:laidOutB P=true){W g:GE}(i:Ext W g):∀{a:Do EQ} {f:bH} {c:Do (DataW H)} {p:Do MemPlace},
 (∀t∈a,P.readableRec t=true/\t<P.types.size)->DataW.TrodAll enc P W 0 (λ_=>true) true a f c p->(∀x∈p,x.block<W.heap.size)->
 DataW.TrodAll enc P g 0 (λb=>decide (b<W.heap.size)) true a f c p
 |[],[],[],_,_,h,_=>h
 |[],[],_::_,_,_,h,_=>h.elim
 |[],_::_,_,_,_,h,_=>h.elim
 |_::_,[],_,_,_,h,_=>h.elim
 |_::_,_::_,[],_,_,h,_=>h.elim
 |t::a,v::f,d::c,p,l,h,k=>by
  obtain⟨p1,r,n,o,rfl⟩:=h;have m:=l t d5;exact⟨p1,r,Below.trod j m.1 m.2 n i.LN (λx e=>k x (by simp[e])),F0 j i (λu q=>l u (by simp[q])) o (λx e=>k x (by simp[e])),rfl⟩
def agV(y:laidOutB P=true){s:ChangeSpec}{args:ea}{b gs:Do (DataW H)}{i:Do MemPlace}{tb:EQ}
 (l:s.vars=[]) (A:∀t∈N.params.toList,P.readableRec t=true/\t<P.types.size) (B:N.resultTypes= #[tb]) (C:P.underlying tb=some .bool)
 (c:DataW.Whole enc P N.params.toList s.vars false m args.toList b gs i)
 (d:s.fn H (b++gs)={results:=[.lit (.bool true)],args:=b})
 (r:Calls P v args m λe E=>e=.returned (.bool true)/\Ext m E):
 Calls P v args m λe f=>∃a,e=.returned a/\s.post enc P N false true false false m args a f:=by
 refine r.mono λe f ⟨u,k⟩=>⟨_,u,?_⟩;have z:∀p∈i,p.block<m.heap.size:=c.lt;have o:=c;obtain⟨p,q,n,j,rfl,F,G⟩:=o;rw[l]at j;have w:gs=[]:=by
  cases gs with
  |nil=>rfl
  |cons g gs=>exact j.elim
 subst w;refine⟨b,[],p++q,[],p,[],c,?_,?_,?_,Below.frame k.LN _,λh=>by cases h⟩
 .rw[d,B]
  exact trodAll_mk1 (shut_bool C true)
 .rw[d]
  exact F0 y k A n (λx D=>z x (by simp[D]))
 .rw[l,d]
  rfl
