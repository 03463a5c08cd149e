/- part 3 -/
import Derived.Test.YtmdbmigbihboaaaGreatDoorZWholeNothing2
set_option linter.all false
noncomputable section
open Go Go.RowKit
set_option maxRecDepth 100000
namespace Go.Proofs.YtmdbmigbihboaaaGreatDoor
variable{h o:Operand}{b:Type}{a:TypeId}{s:Value}
def WY(a:List b)(l m:Int)(z:b):Option (List b):=if 0<=l/\0<=m/\l+m<=a.length then some (K7 a l.toNat m.toNat z)else none
def Ix(T:TypeId->bs)(ev:Nat->EV)(hg:Nat->Option ea)(t:TypeId)(x:Operand)(k:eQ->aZ->Option b):Option b:=
 match eI ev x with
 |.sw j l m a=>match hg j with
  |some (.arr e r f wr)=>match(T t).el with
   |some (_,c,_,z)=>cond (Nat.beq a r.w && Nat.beq c r.w && Nat.blt 0 a && wr) (match qK r z with
    |some []=>aW (WY f l m (zeroV r)) λg=>k [(j,some (.arr e r g true))] [j]
    |_=>none) none
   |none=>none
  |_=>none
 |_=>none
def Iy(s:Sc){β:Type}:List (s.cZ×β)->s.cZ->Nat
 |[],_=>0
 |p::a,x=>cond (iF s p.1 x) 0 (Iy s a x+1)
def ZG(a:Sc)(z:Value):Bool:=match a with
 |.i k=>match z with
  |.int l n=>decide (k=l/\n=0)
  |_=>false
 |_=>false
def BT(T:TypeId->bs)(ev:Nat->EV)(hg:Nat->Option ea)(t:TypeId)(x y:Operand)(k:EV->eQ->aZ->Option b):Option b:=
 match eI ev x with
 |.mp j=>match hg j with
  |some (.mp d c e f)=>match(T t).mp with
   |some (g,z)=>match Ir c (eI ev y)with
    |some a=>cond (kJ d c && kJ g c && ZG e z) (k (.tu [iS e ((bJ c f a).getD (zeroV e)),.sc (.i .i64) ((Iy c f a:Nat):Int)]) [(j,some (.mp d c e (dS c f a ((bJ c f a).getD (zeroV e)))))] [j]) none
    |none=>none
   |none=>none
  |_=>none
 |_=>none
def PX{α β:Type}(a:List (α×β))(i:Int)(b:β):Option (List (α×β)):=if 0<=i then(a[i.toNat]?).map λp=>a.set i.toNat (p.1,b)else none
def zu(T:TypeId->bs)(ev:Nat->EV)(hg:Nat->Option ea)(t:TypeId)(x y v:Operand)(k:eQ->aZ->Option b):Option b:=
 match eI ev x with
 |.mp j=>match hg j with
  |some (.mp d c e f)=>match(T t).mp with
   |some (h,_)=>match qL ev y with
    |some i=>match WU e (eI ev v)with
     |some a=>cond (kJ d c && kJ h c) (aW (PX f i a) λg=>k [(j,some (.mp d c e g))] [j]) none
     |none=>none
    |none=>none
   |none=>none
  |_=>none
 |_=>none
section
variable{P:Program}{T:TypeId->bs}{ev:Nat->EV}{hg:Nat->Option ea}{n d:Nat}{ty:TypeId}{pos:String}{af:dI}{gd:fE}
def afi{α β:Type}(f:α->β)(a:List α)(l m:Nat)(z:α):(K7 a l m z).map f=K7 (a.map f) l m (f z):=by
 simp[K7,ase,asu]
def oZ.append{a b a' b':List (List AV)}(h:oZ a b)(k:oZ a' b'):oZ (a++a') (b++b'):=by
 induction h with
 |nil=>exact k
 |cons c _ e=>exact .cons c e
def oZ.same:∀a:List (List AV),oZ a a
 |[]=>.nil
 |r::a=>.cons (nA.refl r) (oZ.same a)
def PY(G:gw P T){k:eQ->aZ->Option b}{r:b}(c:Ix T ev hg a h k=some r):
 ∃x y,FS P ⟨none,.call ⟨.builtin .clear, #[h], #[a]⟩,ty,pos,af,gd⟩ n ev hg .un x y .no/\k x y=some r:=by
 unfold Ix at c;split at c
 ·rename_i j l m N w
  split at c
  ·rename_i e f A wr H
   split at c
   ·rename_i E V O z L
    obtain⟨v,t⟩:=aY c;simp only[apS]at v;obtain⟨⟨⟨p,q⟩,g⟩,B⟩:=v;have p:=apX p;have q:=apX q;have g:0<N:=apY g;subst B;split at t
    ·rename_i M
     obtain⟨W,i,I⟩:=bj t;unfold WY at i;split at i
     ·rename_i R
      cases i;refine⟨_,_,λo U J F S=>?_,I⟩;obtain⟨X,u,C,Q,D⟩:=mN f M;rw[aqy]at u;subst u;subst q;rw[p]at w g;have:=SS.clear (P:=P) (K:=λs=>s=⟨o.n,o.t,(j,some (.arr e f.w (K7 (List.map (bF f) A) l.toNat m.toNat (z.map lq)) true))::o.h⟩) (ty:=ty) (pos:=pos) (af:=af) (gd:=gd) (G.el _ _ L) (J.is w (by intro e;cases e)) (F.at (by simp) H) (by rw[ap1];omega) g D rfl;refine this.lF ?_;refine cn.wh (h:=o.h) (rows':=List.map (bF f) (K7 A l.toNat m.toNat (zeroV f))) ?_ (eO f _);rw[afi];exact(oZ.same _).append ((oZ.rep C m.toNat).append (oZ.same _))
     ·cases i
    ·cases t
   ·cases c
  ·cases c
 ·cases c
def La{a g:Sc}(c:a.key=true):∀(b:List (a.cZ×g.cZ)) (x:a.cZ),FR (mD a g b) (o0 a x)=Iy a b x
 |[],_=>rfl
 |p::b,x=>by
  rw[mD,aqc,FR,Iy];by_cases h:p.1=x
  ·rw[apR (by rw[h]),(fu a _ _ c).2 h];rfl
  ·rw[apQ (λe=>h (C6 a _ _ c e))]
   have:iF a p.1 x=false:=by
    cases i:iF a p.1 x with
    |false=>rfl
    |true=>exact absurd ((fu a _ _ c).1 i) h
   rw[this];have f:=La c b x;rw[mD]at f;rw[f];rfl
def ZH{a:Sc}(h:ZG a s=true):Kj s=enc (iS a (zeroV a)):=by
 unfold ZG at h;split at h
 ·split at h
  ·obtain⟨rfl,rfl⟩:=aqK h
   rfl
  ·cases h
 ·cases h
def Dg(C:gw P T){k:EV->eQ->aZ->Option b}{r:b}(K:d<n)(g:BT T ev hg a h o k=some r):
 ∃c j p i m l f,hg j=some (.mp p i m l)/\FS P ⟨some d,.mapEntry a h o,ty,pos,af,gd⟩ n ev hg c [(j,some (.mp p i m (dS i l f ((bJ i l f).getD (zeroV m)))))] [j] .no/\k c [(j,some (.mp p i m (dS i l f ((bJ i l f).getD (zeroV m)))))] [j]=some r:=by
 unfold BT at g;split at g
 ·rename_i j F
  split at g
  ·rename_i p i m l v
   split at g
   ·rename_i N z E
    split at g
    ·rename_i f s
     obtain⟨u,A⟩:=aY g;simp only[apS]at u;obtain⟨⟨q,x⟩,y⟩:=u;have D:=oh q x;subst D;obtain⟨I,t⟩:=qY q f;have H:=ZH y;refine⟨_,_,_,_,_,_,f,v,λJ M w B L=>?_,A⟩;have G:J.ev o=enc (eI ev o):=w.is rfl (λe=>by rw[e]at s;cases i<;>simp[Ir,Gf]at s);have look:(fc (mD i m l) (o0 i f)).getD (Kj z)=enc (iS m ((bJ i l f).getD (zeroV m))):=by
      rw[nZ t,H];cases bJ i l f<;>rfl
     refine SS.mapEntry (C.mp _ _ E) (w.is F (by intro e;cases e)) (B.at (by simp) v) (by rw[G];exact wg q s) I (by omega) ?_;rw[look,C7 t,La t];rfl
    ·cases g
   ·cases g
  ·cases g
 ·cases g
def Iz(F:gw P T){x y v:Operand}{k:eQ->aZ->Option b}{r:b}(h:zu T ev hg a x y v k=some r):
 ∃w B,FS P ⟨none,.entryStore a x y v,ty,pos,af,gd⟩ n ev hg .un w B .no/\k w B=some r:=by
 unfold zu at h;split at h
 ·rename_i j O
  split at h
  ·rename_i Q l g o J
   split at h
   ·rename_i X z M
    split at h
    ·rename_i i H
     split at h
     ·rename_i f t
      obtain⟨s,D⟩:=aY h;simp only[apS]at s;have G:=oh s.1 s.2;subst G;obtain⟨R,m,K⟩:=bj D;unfold PX at m;split at m
      ·rename_i S
       obtain⟨p,L,rfl⟩:=aqo.1 m;refine⟨_,_,λA V u E U=>?_,K⟩;have C:enc (eI ev v)=enc (iS g f):=by rcases R3 t with h|h<;>exact h.1
       have N:A.ev v=enc (eI ev v):=u.is rfl (λe=>by rw[e]at t;cases g<;>simp[WU]at t);obtain⟨W,q⟩:=jA H u;have I:((i.toNat:Nat):Int)=i:=by omega
       refine SS.entryStore (i:=i.toNat) (kv:=o0 l p.1) (c0:=enc (iS g p.2)) (F.mp _ _ M) (u.is O (by intro e;cases e)) (by rw[I];exact q) (h1:=A.h) (c:=enc (iS g f)) (by rw[N,C];exact Dc g f) (E.at (by simp) J) ?_ ?_
       ·show(mD l g o)[i.toNat]? =_
        rw[mD,aqd,L];rfl
       ·simp only[bz,Option.map,b_]
        have:(mD l g o).set i.toNat (o0 l p.1,enc (iS g f))=mD l g (o.set i.toNat (p.1,f)):=by
         rw[mD,mD,arP]
        rw[this];rfl
      ·cases m
     ·cases h
    ·cases h
   ·cases h
  ·cases h
 ·cases h
end
variable{H:Bs}{t:Env}{C:Hp}{J:List (Nat×AV)}{B:Nat}{M:Option Env}{u:TypeId}{m:World}{j:bE}{F:bD}
section
variable{P:Program}
def SR.PZ(f:SR H j t C m){b:Nat}{o o':Ob}(B:a_ C b=some o)(D:OR (bO H j t C m) t m b o'):
 SR H j t ((b,some o')::C) m/\∀e g u,bO H j t C m e g u->bO H j t ((b,some o')::C) m e g u:=by
 have k:∀a ob,a_ ((b,some o')::C) a=some ob->∃i,a_ C a=some i:=λa ob c=>by
  by_cases h:a=b
  ·subst h;exact⟨o,B⟩
  ·rw[bc h]at c;exact⟨ob,c⟩
 have r:∀e g u,bO H j t C m e g u->bO H j t ((b,some o')::C) m e g u:=λe g u q=>⟨q.1,q.2.1,λa ob c p=>by
  obtain⟨i,l⟩:=k a ob c;exact q.2.2 a i l p⟩
 refine⟨⟨f.ext,f.jO,λa ob c=>?_,λa ob e c p=>?_,λa s ob E e z A v w=>?_,f.t_⟩,r⟩
 ·refine OR.mono r ?_
  by_cases h:a=b
  ·subst h
   rw[bf]at c;cases c;exact D
  ·rw[bc h]at c
   exact f.ob a ob c
 ·obtain⟨i,l⟩:=k a ob c
  exact f.base a i e l p
 ·obtain⟨F,x⟩:=k a ob z
  obtain⟨G,y⟩:=k s E A;exact f.inj a s F G e x y v w
def FT(c:AV):Prop:=∃q i s,c=.pe q i s 0/\4294967296<=q
def FT.cell{c:AV}(h:FT c){Rd:bE}(b:VR Rd M c s):s.oneCell'=true:=by
 obtain⟨q,i,a,rfl,_⟩:=h;cases b;rfl
def FT.vr{w t:World}{b Rd j:bE}{e f:Env}{h k:Hp}{c:AV}(p:FT c)(l:SR H b e h w)(m:SR H b f k t)(r:VR Rd (some e) c s):VR j (some f) c s:=by
 obtain⟨q,i,a,rfl,g⟩:=p;cases r with
 |pe o=>exact .pe (by rw[(m.t_ q g).1,<-(l.t_ q g).1];exact o)
def P0(a:bD):(a.map λu=>([.v u]:List AV)).flatten=a.map AV.v:=by
 induction a with
 |nil=>rfl
 |cons u a b=>simp[b]
def LR.R6{Rd:bE}{E:Option Env}(b:bD):LR (VR Rd E) (b.map AV.v) b:=⟨by simp,λj c u a e=>by
 rw[aqd]at a;rw[e]at a;cases a;exact .v⟩
variable{st:St}
def Ga.toV{a:Act}(h:Ga H j t st a m){k:Nat}{E:TypeId}{cs:List AV}(w:a_ st.h k=some (.nr E cs))(G:∀c∈cs,FT c):
 ∃f,LR (VR (bO H j t st.h m) (some t)) cs f/\Ga H j t ⟨st.n,st.t,(k,some (.arr E 1 (f.map λu=>[.v u]) true))::st.h⟩ a m:=by
 obtain⟨p,J⟩:=h.sr.ob _ _ w;obtain⟨f,D,F⟩:∃f,LR (VR (bO H j t st.h m) (some t)) cs f/\OR (bO H j t st.h m) t m k (.arr E 1 (f.map λu=>[.v u]) true):=by
  rcases J with⟨rfl,i,l⟩|⟨b,B,o,x,i,l,y,z,A,g⟩
  ·exact⟨[],LR.nil,by simp,by simp,λ_=>p,.inl ⟨rfl,i,l⟩⟩
  ·refine⟨o.toList.take cs.length,g,λr I=>?_,λc q=>?_,λ_=>p,.inr ⟨b,B,o,x,?_,?_,y,z,by rw[A,arh],?_,by rw[p];exact aql _⟩⟩
   ·obtain⟨u,_,rfl⟩:=ap4.1 I;rfl
   ·rw[P0]at q
    obtain⟨u,M,rfl⟩:=ap4.1 q;obtain⟨e,s,rfl⟩:=aqB M;have v:e<cs.length:=by rw[<-g.1];exact s
    exact(G _ (asi v)).cell (g.2 e _ _ (ap0 v) (ap0 s))
   ·rw[ap1,g.1];exact i
   ·rw[ap1,g.1];exact l
   ·rw[P0,ap1]
    have:=LR.R6 (Rd:=bO H j t st.h m) (E:=none) (o.toList.take cs.length);rw[g.1];exact this
 obtain⟨L,C⟩:=h.sr.PZ w F;exact⟨f,D,h.n,h.d,L,h.tr.mono C⟩
def Ga.ofV{e:Act}{n:Nat}{d:Nat}{cs:List AV}
 (f:Ga H j t ⟨n,J,(d,some (.arr a 1 (F.map λu=>[.v u]) true))::C⟩ e m) (p:F.length=cs.length) (w:∀(b:Nat) c u,cs[b]? =some c->F[b]? =some u->∀Rd,VR Rd (some t) c u):
 Ga H j t ⟨n,J,(d,some (.nr a cs))::C⟩ e m:=by
 have i:=(f.sr.ob d _ bf).ah9;rw[P0]at i;have q:=i.anZ (cs':=cs) (by simp[p]) λb c k h o u s=>by
  rw[aqd]at h;obtain⟨x,v,rfl⟩:=aqo.1 h;rw[s.bN];exact w b k x o v _
 obtain⟨r,l⟩:=f.sr.PZ bf q;exact(⟨f.n,f.d,r,f.tr.mono l⟩:Ga H j t ⟨n,J,(d,some (.nr a cs))::(d,some (.arr a 1 (F.map λu=>[.v u]) true))::C⟩ e m).kE λb=>by
  by_cases g:b=d
  ·subst g;rw[bf,bf]
  ·rw[bc g,bc g,bc g]
variable{d:Nat}{ty:TypeId}{pos:String}{af:dI}{gd:fE}{K:St->Prop}
def SS.an7{t E:TypeId}{x:Operand}{q i s J:Nat}(ht:FA P t=some (E,1,J,F))(h:st.ev x=.pe q i s 0)(Z:4294967296<=q)(O:d<st.n)
 (M:K ⟨st.n,(d,.ow d)::cY d st.t,(d,some (.nr E [.pe q i s 0]))::br d st.h⟩):SS P ⟨some d,.buildSlice t 1 #[(0,x)],ty,pos,af,gd⟩ st K:=by
 intro y p e a w next Q l Y
 have r:FT (.pe q i s 0):=⟨q,i,s,rfl,Z⟩;have o:=l.ev x;rw[h]at o;have R:d≠q:=by have:=l.n.2;omega
 cases x with
 |tmp j=>
  obtain⟨u,G⟩:∃u,u=a.eval (.tmp j):=⟨_,rfl⟩;rw[<-G]at o;have z:=r.cell o;have V:a.tmps.getD j undef=u:=G.symm;have U:Ga y p e ⟨st.n,(j,.v u)::st.t,st.h⟩ a w:=⟨l.n,l.d,l.sr,λk=>by
   by_cases b:k=j
   ·subst b;simp only[bG,aqs];rw[V];exact .v
   ·simp only[bG,apQ b];exact l.tr k⟩
  have S:(⟨st.n,(j,.v u)::st.t,st.h⟩:St).ev (.tmp j)=.v u:=by show bG ((j,.v u)::st.t) j=_;simp[bG]
  have N:cellsOf (.v u)=some [.v u]:=by simp[cellsOf,AV.one,z]
  have step:=SS.we (P:=P) (st:=⟨st.n,(j,.v u)::st.t,st.h⟩) (t:=t) (len:=1) (parts:= #[(0,.tmp j)]) (h':=st.h) (aS:=[.v u]) (cs:=[.v u]) (qs:=[(0,[.v u])]) (d:=d) (ty:=ty) (pos:=pos) (af:=af) (gd:=gd)
   (K:=λs'=>s'=⟨st.n,(d,.ow d)::cY d ((j,.v u)::st.t),(d,some (.arr E 1 ([u].map λu=>[.v u]) true))::br d st.h⟩) ht
   (by simp only[aqc,aqZ,S];rfl) (by simp[k5,N]) rfl (by simp[AV.one,z]) (by omega) (by omega) O rfl
  refine step y p e a w next Q U λa2 a0 L I w' B=>?_
  subst a0;have H:VR (bO y p e st.h w) (some e) (.pe q i s 0) u:=o;have m:=B.ofV (cs:=[.pe q i s 0]) rfl λj c u' A a1 Rd=>by
   cases j with
   |zero=>cases A;cases a1;exact r.vr l.sr B.sr H
   |succ j=>simp at A
  refine Y _ M L I w' ⟨m.n,m.d,m.sr,λk=>?_⟩;have b:=m.tr k;by_cases C:k=d
  ·subst C;simpa[bG]using b
  ·simp only[bG,apQ C,cY]at b⊢
   by_cases D:k=j
   ·subst D
    rw[apR rfl]at b;have X:AV.kill d (.v u)=.v u:=by simp[AV.kill,AV.ga]
    rw[X]at b;rw[b.bN,sN];have:bG st.t k=.pe q i s 0:=h;rw[this];have W:AV.kill d (.pe q i s 0)=.pe q i s 0:=by simp[AV.kill,AV.ga,R.symm]
    rw[W];exact r.vr l.sr m.sr H
   ·rwa[apQ D]at b
 |const v=>simp only[St.ev,lq]at h;split at h<;>cases h
 |global g=>simp only[St.ev,gA]at h;split at h<;>cases h
 |func f=>cases h
def Ga.zc{a:Act}{n:Nat}{h h2:Hp}(hg:Ga H j t ⟨n,J,h⟩ a m)(r:∀k,a_ h2 k=a_ h k\/a_ h2 k=none):Ga H j t ⟨n,J,h2⟩ a m:=by
 have f:∀k ob,a_ h2 k=some ob->a_ h k=some ob:=λk ob c=>by
  rcases r k with e|e
  ·rw[<-e];exact c
  ·rw[e]at c;cases c
 have g:∀b o u,bO H j t h m b o u->bO H j t h2 m b o u:=λb o u ⟨e,h2,p⟩=>⟨e,h2,λk ob c q=>p k ob (f k ob c) q⟩;exact⟨hg.n,hg.d,⟨hg.sr.ext,hg.sr.jO,λk ob c=>(hg.sr.ob k ob (f k ob c)).mono g,λk ob b c=>hg.sr.base k ob b (f k ob c),λk i ob l b e h2=>hg.sr.inj k i ob l b (f k ob e) (f i l h2),hg.sr.t_⟩,hg.tr.mono g⟩
def SS.an8{t E:TypeId}{x y:Operand}{k l A:Nat}{cs ds:List AV}(ht:FA P t=some (E,1,A,F))(hx:st.ev x=.ow k)(hy:st.ev y=.ow l)(Y:a_ st.h k=some (.nr E cs))(Z:a_ st.h l=some (.nr E ds))
 (v:k≠l) (V:d≠k) (C:∀c∈cs,FT c) (D:∀c∈ds,FT c) (hm:cs.length+ds.length<=maxLen) (S:(cs.length+ds.length)*A<=140737488355328) (U:d<st.n)
 (R:K ⟨st.n,(d,.ow d)::cY d st.t,(d,some (.nr E (cs++ds)))::(k,none)::(l,none)::br d st.h⟩):SS P ⟨some d,.call ⟨.builtin .append, #[x,y], #[t,t]⟩,ty,pos,af,gd⟩ st K:=by
 intro w0 M e a w next Q s hn
 obtain⟨p,J,G⟩:=s.toV Y C;obtain⟨vs,L,H⟩:=G.toV (k:=l) (E:=E) (cs:=ds) (by show a_ ((k,some _)::st.h) l=_;rw[bc (Ne.symm v)];exact Z) D;have a1:d<4294967296:=by have:=s.n.2;omega
 obtain⟨b,f⟩:∃b:St,b=⟨st.n,st.t,(l,some (.arr E 1 (vs.map λu=>[.v u]) true))::(k,some (.arr E 1 (p.map λu=>[.v u]) true))::st.h⟩:=⟨_,rfl⟩;rw[<-f]at H;have B:∀F:Operand,b.ev F=st.ev F:=λF=>by rw[f];cases F<;>rfl
 have o:p.length=cs.length:=J.1;have z:vs.length=ds.length:=L.1;have step:=SS.KM (P:=P) (st:=b) (x:=x) (y:=y) (h1:=(l,some (.arr E 1 (vs.map λu=>[.v u]) false))::b.h) (rows:=p.map λu=>[.v u]) (ys:=vs.map λu=>[.v u]) (wr:=true) (tt:=false) (d:=d) (ty:=ty) (pos:=pos) (af:=af) (gd:=gd)
  (K:=λs'=>s'=⟨b.n,(d,.ow d)::cY d b.t,(d,some (.arr E 1 ((p++vs).map λu=>[.v u]) true))::(k,none)::br d ((l,some (.arr E 1 (vs.map λu=>[.v u]) false))::b.h)⟩) ht (by rw[B];exact hx)
  (by rw[B,hy,f];simp only[hJ,bf]) (by rw[bc v,f];show a_ ((l,some _)::(k,some _)::st.h) k=_;rw[bc v,bf]) V (by omega)
  (by rw[ap1,ap1,o,z];exact hm) (by rw[ap1,ap1,o,z];exact S) (by rw[f];exact U) (by rw[aqH])
 refine step w0 M e a w next Q H λa2 a0 O N w' r=>?_
 subst a0;have W:=r.ofV (cs:=cs++ds) (by simp[o,z]) λj c u g h Rd=>by
  by_cases X:j<cs.length
  ·rw[aqF X]at g
   rw[aqF (by omega)]at h;exact(C c (ap_ g)).vr s.sr r.sr (J.2 j c u g h)
  ·rw[aq7 (by omega)]at g h
   rw[o]at h;exact(D c (ap_ g)).vr G.sr r.sr (L.2 _ c u g h)
 have I:=W.zc (h2:=(d,some (.nr E (cs++ds)))::(k,none)::(l,none)::br d st.h) λj=>by
  by_cases q:j=d
  ·subst q;exact .inl (by rw[bf,bf])
  ·rw[bc q,bc q]
   by_cases i:j=k
   ·subst i;exact .inr (by rw[bf])
   ·rw[bc i,bc i]
    by_cases m:j=l
    ·subst m;exact .inr (by rw[bf])
    ·rw[bc m,f]
     refine .inl ?_;rw[dp,dp,bc m,bc m,bc i]
 rw[f]at I;exact hn _ R O N w' I
def SS.afj{t E:TypeId}{x y:Operand}{l sz0 m:Nat}{ds:List AV}(R:FA P t=some (E,1,m,F))(U:st.ev x=.sl true sz0 [])(V:st.ev y=.ow l)(L:a_ st.h l=some (.nr E ds))
 (Z:d≠l) (q:∀c∈ds,FT c) (M:ds.length<=maxLen) (H:ds.length*m<=140737488355328) (I:d<st.n)
 (G:K ⟨st.n,(d,.ow d)::cY d st.t,(d,some (.nr E ds))::(l,none)::br d st.h⟩):SS P ⟨some d,.call ⟨.builtin .append, #[x,y], #[t,t]⟩,ty,pos,af,gd⟩ st K:=by
 intro Y B e a w next Q z N
 obtain⟨g,A,s⟩:=z.toV L q;obtain⟨b,f⟩:∃b:St,b=⟨st.n,st.t,(l,some (.arr E 1 (g.map λu=>[.v u]) true))::st.h⟩:=⟨_,rfl⟩;rw[<-f]at s;have o:∀F:Operand,b.ev F=st.ev F:=λF=>by rw[f];cases F<;>rfl
 have k:g.length=ds.length:=A.1;have step:=SS.F_ (P:=P) (st:=b) (x:=x) (y:=y) (h1:=(l,some (.arr E 1 (g.map λu=>[.v u]) false))::b.h) (sz0:=sz0) (ys:=g.map λu=>[.v u]) (tt:=false) (d:=d) (ty:=ty) (pos:=pos) (af:=af) (gd:=gd)
  (K:=λW=>W=⟨b.n,(d,.ow d)::cY d b.t,(d,some (.arr E 1 (g.map λu=>[.v u]) true))::br d ((l,some (.arr E 1 (g.map λu=>[.v u]) false))::b.h)⟩) R (by rw[o];exact U)
  (by rw[o,V,f];simp only[hJ,bf]) (by omega) (by rw[ap1,k];exact M) (by rw[ap1,k];exact H) (by rw[f];exact I) rfl
 refine step Y B e a w next Q s λa0 O D C X r=>?_
 subst O;have J:=r.ofV (cs:=ds) k λj c u p S Rd=>(q c (ap_ p)).vr z.sr r.sr (A.2 _ c u p S);have v:=J.zc (h2:=(d,some (.nr E ds))::(l,none)::br d st.h) λj=>by
  by_cases i:j=d
  ·subst i;exact .inl (by rw[bf,bf])
  ·rw[bc i,bc i]
   by_cases h:j=l
   ·subst h;exact .inr (by rw[bf])
   ·rw[bc h,f]
    refine .inl ?_;rw[dp,dp,bc h,bc h]
 rw[f]at v;exact N _ G D C X v
end
def ZI(ev:Nat->EV)(a:Nat)(b:vT):Option (Nat×Int×Nat):=match b with
 |[(0,x)]=>match eI ev x with
  |.pe q i s 0=>cond (Nat.beq a 1 && Nat.ble 4294967296 q) (some (q,i,s)) none
  |_=>none
 |_=>none
def P1(T:TypeId->bs)(d:Nat)(t:TypeId)(p:Nat×Int×Nat)(k:EV->eQ->aZ->Fr->Option b):Option b:=match(T t).el with
 |some (e,a,_,_)=>cond (Nat.beq a 1) (k (.ow d) [(d,some (.qr e (some p.1) p.2.2 [p.2.1]))] [] (.one d)) none
 |none=>none
def ZJ(ev:Nat->EV)(hg:Nat->Option ea)(a:fU):Option (TypeId×Nat×Nat×aX×Nat):=match a with
 |⟨[_,y]⟩=>match eI ev y with
  |.ow l=>match hg l with
   |some (.qr t (some q) s b)=>cond (Nat.ble 4294967296 q) (some (t,q,s,b,l)) none
   |_=>none
  |_=>none
 |_=>none
def P2(T:TypeId->bs)(ev:Nat->EV)(hg:Nat->Option ea)(d:Nat)(t i:TypeId)(x:Operand)(p:TypeId×Nat×Nat×aX×Nat)(k:EV->eQ->aZ->Fr->Option b):Option b:=match(T t).el with
 |some (e,h,a,_)=>cond (Nat.beq t i && Nat.beq h 1 && Nat.beq e p.1 && !(Nat.beq d p.2.2.2.2)) (match eI ev x with
  |.nil=>aW (eN a ([]:aX) p.2.2.2.1) λc=>k (.ow d) [(d,some (.qr e (some p.2.1) p.2.2.1 c)),(p.2.2.2.2,none)] [p.2.2.2.2] (.one d)
  |.ow j=>match hg j with
   |some (.qr l (some f) g m)=>cond (Nat.beq l e && Nat.beq f p.2.1 && Nat.beq g p.2.2.1 && !(Nat.beq j p.2.2.2.2) && !(Nat.beq d j)) (aW (eN a m p.2.2.2.1) λc=>k (.ow d) [(d,some (.qr e (some p.2.1) p.2.2.1 c)),(j,none),(p.2.2.2.2,none)] [j,p.2.2.2.2] (.one d)) none
   |_=>none
  |_=>none) none
 |none=>none
section
variable{P:Program}{T:TypeId->bs}{ev:Nat->EV}{hg:Nat->Option ea}{n d:Nat}{ty:TypeId}{pos:String}{af:dI}{gd:fE}
def IA{q s:Nat}(b:4294967296<=q)(e:aX):∀c∈e.map (Zl s (some q)),FT c:=λc a=>by
 obtain⟨i,_,rfl⟩:=ap4.1 a;exact⟨q,i.toNat,s,rfl,b⟩
def WZ(D:gw P T){m:CI}{p:Nat×Int×Nat}{k:EV->eQ->aZ->Fr->Option b}{r:b}(L:d<n)(g:ZI ev B m.toList=some p)(h:P1 T d a p k=some r):
 ∃c v w o,FS P ⟨some d,.buildSlice a B m,ty,pos,af,gd⟩ n ev hg c v w o/\k c v w o=some r:=by
 obtain⟨l⟩:=m;unfold ZI at g;split at g
 ·rename_i x u
  simp only at u;subst u;split at g
  ·rename_i q i s H
   obtain⟨j,y⟩:=aY g;cases y;simp only[apS]at j;obtain rfl:=apX j.1;have F:=apY j.2;unfold P1 at h;split at h
   ·rename_i e N f z E
    obtain⟨A,C⟩:=aY h;obtain rfl:=apX A;refine⟨_,_,_,_,λst M G J t=>?_,C⟩;have:=SS.an7 (P:=P) (t:=a) (x:=x) (ty:=ty) (pos:=pos) (af:=af) (gd:=gd) (d:=d) (i:=i.toNat) (K:=λI=>I=⟨st.n,jz (some d) (.ow d) (cY d st.t),[(d,some (.nr e [.pe q i.toNat s 0]))]++br d st.h⟩) (D.el _ _ E) (G.is H (by intro e;cases e)) F (by omega) rfl;exact SS.fresh t.t t.h this
   ·cases h
  ·cases g
 ·cases g
def W0(Q:gw P T){D:fU}{p:TypeId×Nat×Nat×aX×Nat}{k:EV->eQ->aZ->Fr->Option b}{r:b}(hd:d<n)(m:ZJ ev hg D=some p)(R:D.toList.head?=some h)(f:P2 T ev hg d a u h p k=some r):
 ∃c W X M,FS P ⟨some d,.call ⟨.builtin .append,D, #[a,u]⟩,ty,pos,af,gd⟩ n ev hg c W X M/\k c W X M=some r:=by
 unfold ZJ at m;split at m
 ·rename_i Y y
  simp only[List.head?_cons,apU]at R;subst R;split at m
  ·rename_i l V
   split at m
   ·rename_i t0 q s ys U
    obtain⟨h1,h2⟩:=aY m;cases h2;have F:=apY h1;unfold P2 at f;split at f
    ·rename_i e sz g z S
     obtain⟨N,o⟩:=aY f;simp only[apS,aq1]at N;obtain⟨⟨⟨Z,a2⟩,a3⟩,x⟩:=N;obtain rfl:=apX Z;obtain rfl:=apX a2;obtain rfl:=apX a3;have x:d≠l:=λe=>by rw[e,aqp]at x;cases x
     split at o
     ·rename_i G
      obtain⟨zs,i,E⟩:=bj o;unfold eN at i;split at i
      ·rename_i t
       cases i;simp only[aqI,aqq]at t;refine⟨_,_,_,_,λst hn w C v=>?_,E⟩;have:=SS.afj (P:=P) (t:=a) (x:=Y) (y:=y) (ty:=ty) (pos:=pos) (af:=af) (gd:=gd) (d:=d) (sz0:=0) (ds:=ys.map (Zl s (some q))) (K:=λI=>I=⟨st.n,jz (some d) (.ow d) (cY d st.t),[(d,some (.nr e (ys.map (Zl s (some q))))),(l,none)]++br d st.h⟩) (Q.el _ _ S) (w.is G (by intro e;cases e)) (w.is V (by intro e;cases e)) (C.at (by simp) U) x (IA F ys) (by rw[ap1];exact t.2) (by rw[ap1];exact t.1) (by omega) rfl;exact SS.fresh v.t v.h this
      ·cases i
     ·rename_i j G
      split at o
      ·rename_i t1 H J L hj
       obtain⟨O,h6⟩:=aY o;simp only[apS,aq1]at O;obtain⟨⟨⟨⟨b1,b2⟩,b3⟩,A⟩,B⟩:=O;obtain rfl:=apX b1;obtain rfl:=apX b2;obtain rfl:=apX b3;have A:j≠l:=λe=>by rw[e,aqp]at A;cases A
       have B:d≠j:=λe=>by rw[e,aqp]at B;cases B
       obtain⟨zs,i,E⟩:=bj h6;unfold eN at i;split at i
       ·rename_i t
        cases i;refine⟨_,_,_,_,λst hn w C v=>?_,E⟩;have:=SS.an8 (P:=P) (t:=a) (x:=Y) (y:=y) (ty:=ty) (pos:=pos) (af:=af) (gd:=gd) (d:=d) (cs:=L.map (Zl J (some H))) (ds:=ys.map (Zl J (some H))) (K:=λI=>I=⟨st.n,jz (some d) (.ow d) (cY d st.t),[(d,some (.nr t1 ((L++ys).map (Zl J (some H))))),(j,none),(l,none)]++br d st.h⟩) (Q.el _ _ S) (w.is G (by intro e;cases e)) (w.is V (by intro e;cases e)) (C.at (by simp) hj) (C.at (by simp) U) A B (IA F L) (IA F ys) (by rw[ap1,ap1];exact t.2) (by rw[ap1,ap1];exact t.1) (by omega) (by rw[aqH];rfl);exact SS.fresh v.t v.h this
       ·cases i
      ·cases o
     ·cases o
    ·cases f
   ·cases m
  ·cases m
 ·cases m
end
def P3(T:TypeId->bs)(ev:Nat->EV)(hg:Nat->Option ea)(t:TypeId)(x y:Operand)(k:EV->aZ->Option b):Option b:=match(T t).el with
 |some (e,c,_,_)=>match eI ev x with
  |.ow j=>match hg j with
   |some (.arr f r a wr)=>match qL ev y with
    |some l=>cond (Nat.beq e f && Nat.beq c r.w && wr && !(l4 a)) (aW (jm a l (a.length:Int)) λ_=>k (.sw j l ((a.length:Int) - l) c) [j]) none
    |none=>none
   |_=>none
  |_=>none
 |none=>none
section
variable{P:Program}{T:TypeId->bs}{ev:Nat->EV}{hg:Nat->Option ea}{st:St}{dd:bU}{ty:TypeId}{pos:String}{af:dI}{gd:fE}
def RS.akJ{k q x l:Nat}{p:IntKind}{rows:List (List AV)}{wr:Bool}(E:FA P a=some (u,q,x,F))(G:st.ev h=.ow k)(z:a_ st.h k=some (.arr u q rows wr))(I:st.ev o=.v (.int p (l:Int)))
 (A:l<=rows.length) (B:rows≠[]):RS P ⟨dd,.slice a h (some o) none none,ty,pos,af,gd⟩ st (.sw k l (rows.length - l) q):=λY M e c w j=>by
 obtain⟨i,Z,p2,p3,p4,X,rfl,_,_⟩:=cT E;have m:=j.ev h;have H:c.eval h=e.sv k:=by
  rw[G]at m;generalize c.eval h=f at m;cases m with
  |ow=>rfl
 have v:=j.ev o;rw[I]at v;have J:=v.bN;obtain⟨_,_,_,C⟩:=j.sr.ob _ _ z;rcases C with⟨y,_⟩|⟨b,g,N,r,D,s,U,Q,O,S,R⟩
 ·exact absurd y B
 refine⟨.slice (if g=l then some ⟨b,0,none⟩else(some (⟨b,0,none⟩:Addr)).map (·.add (l*i.size))) (rows.length - l) (g - l),?_,λL W=>?_⟩
 ·by_cases t:g=l
  ·rw[apR t]
   exact VR.sw r (λV=>by omega) (by omega) (by omega)
  ·rw[apQ t]
   simp only[aq3,aqz,aqq];exact VR.sw r (λ_=>rfl) (by omega) (by omega)
 ·have:=fa (P:=P) p2 p3 (some ⟨b,0,none⟩) rows.length g l rows.length none g (some (.int p (l:Int))) none none L (.inr ⟨p,rfl⟩) (.inl ⟨rfl,rfl⟩) (.inl ⟨rfl,rfl⟩) A (apT _) s (apT _) s
  simp[execOp,Instr.slice,H,D,J,this]
def W1(B:gw P T){k:EV->aZ->Option b}{r:b}(f:P3 T ev hg a h o k=some r):
 ∃c t,Pg P (.slice a h (some o) none none) ev hg c t/\k c t=some r:=by
 unfold P3 at f;split at f
 ·rename_i e Q g z C
  split at f
  ·rename_i j I
   split at f
   ·rename_i M L i wr F
    split at f
    ·rename_i l E
     obtain⟨q,A⟩:=aY f;simp only[apS,aq1]at q;obtain⟨⟨⟨u,m⟩,v⟩,w⟩:=q;obtain rfl:=apX u;have m:=apX m;subst m;subst v;obtain⟨R,p,G⟩:=bj A;unfold jm at p;split at p
     ·rename_i N
      refine⟨_,_,λst x ty pos af gd s D=>?_,G⟩;obtain⟨O,J⟩:=jA E s;have H:((l.toNat:Nat):Int)=l:=by omega
      have:=RS.akJ (P:=P) (dd:=x) (ty:=ty) (pos:=pos) (af:=af) (gd:=gd) (l:=l.toNat) (rows:=List.map (bF L) i) (B.el _ _ C) (s.is I (by intro e;cases e)) (D.at (by simp) F) (by rw[H];exact J) (by rw[ap1];omega) (λe=>by
       cases i with
       |nil=>cases w
       |cons _ _=>cases e)
      rw[ap1]at this;have y:((i.length:Int) - l).toNat=i.length - l.toNat:=by omega
      simp only[enc,y];exact this
     ·cases p
    ·cases f
   ·cases f
  ·cases f
 ·cases f
end
variable{i:List (List AV)}
section
variable{P:Program}{st:St}{d:Nat}{ty:TypeId}{pos:String}{af:dI}{gd:fE}{K:St->Prop}
def SR.shrink(q:SR H j t C m){k e:Nat}(w:a_ C B=some (.arr a k i true))(hn:nP B C=true)(Y:B<4294967296)(z:e<=i.length):
 ∃l h,t.sv B=.slice l i.length h/\i.length<=h/\(∀f,l=some f->f.off=0/\f.spot=none\/h=0)/\
 SR H j (t.cK B (t.bS B) (.slice l e h) 0) ((B,some (.arr a k (i.take e) true))::C) m/\
 ∀b o u,bO H j t C m b o u->bO H j (t.cK B (t.bS B) (.slice l e h) 0) ((B,some (.arr a k (i.take e) true))::C) m b o u:=by
 obtain⟨a6,N,Z,a4⟩:=q.ob _ _ w;have hl:=Z rfl;have I:∀r∈i.take e,r.length=k:=λr p=>a6 r (ar_ p);have F:(i.take e).flatten=i.flatten.take (e*k):=by
  have J:i.flatten=(i.take e).flatten++(i.drop e).flatten:=by rw[<-ars,arK]
  have L:(i.take e).flatten.length=e*k:=by rw[ej I,aqD,aq_ z]
  rw[J,<-L,asD]
 have O:∀c∈(i.take e).flatten,c.one=true:=λc n=>N c (by rw[F]at n;exact ar_ n);have E:∀l h,(∀Rd,(∀b o u,bO H j t C m b o u->Rd b o u)->OR Rd (t.cK B (t.bS B) (.slice l e h) 0) m B (.arr a k (i.take e) true))->
  SR H j (t.cK B (t.bS B) (.slice l e h) 0) ((B,some (.arr a k (i.take e) true))::C) m/\
  ∀b o u,bO H j t C m b o u->bO H j (t.cK B (t.bS B) (.slice l e h) 0) ((B,some (.arr a k (i.take e) true))::C) m b o u:=λl h a2=>
  q.tR B (t.bS B) (.slice l e h) 0 _ q.ext (.inl ⟨hn,Y⟩) (apT _) (λ_ _ _=>rfl) (λb v _=>⟨(q.base _ _ _ w v).1,(q.base _ _ _ w v).2,.inl ⟨_,w,v⟩⟩)
   (λb o u ob ho v a8 a7=>by omega) (λRd s _ a9 a3=>by obtain rfl:=apZ a3;exact a2 Rd s)
 rcases a4 with⟨p,S,f,y⟩|⟨D,h,x,R,a5,U,a1,W,V,G,_⟩
 ·subst p
  have a0:e=0:=by simpa using z
  subst a0;refine⟨f,0,by rw[y];rfl,apT _,λ_ _=>.inr rfl,E f 0 λRd s=>⟨(λr p=>by cases p),(λc n=>by cases n),λ_=>Env.bW,.inl ⟨rfl,by rw[Env.bT];exact S,f,by rw[Env.dJ]⟩⟩⟩
 ·refine⟨some ⟨D,0,none⟩,h,a5,U,λf y=>by cases y;exact .inl ⟨rfl,rfl⟩,E _ h λRd s=>⟨I,O,λ_=>Env.bW,.inr ⟨D,h,x,by rw[Env.bT];exact R,by rw[Env.dJ,aqD,aq_ z],by rw[aqD];omega,a1,W,V,?_,by rw[Env.bW];exact aql _⟩⟩⟩
  rw[F,aqD];have M:x.toList.take (min (e*k) i.flatten.length)=(x.toList.take i.flatten.length).take (e*k):=by rw[ar8]
  rw[M];refine⟨by have Q:=G.1;simp only[aqD]at Q⊢;omega,λg c u n A=>?_⟩;rw[aqw]at n A;split at n
  ·rename_i X
   rw[apR X]at A;exact(G.2 g c u n A).mono s
  ·cases n
def SS.ZL{t E:TypeId}{x y:Operand}{k p B m:Nat}{o:IntKind}{rows:List (List AV)}(ht:FA P t=some (E,p,B,F))(hx:st.ev x=.ow k)(U:a_ st.h k=some (.arr E p rows true))(hy:st.ev y=.v (.int o (m:Int)))
 (O:d≠k) (v:m<=rows.length) (N:d<st.n)
 (G:K ⟨st.n,(d,.ow d)::cY d st.t,(d,some (.arr E p (rows.take m) true))::(k,none)::br d st.h⟩):SS P ⟨some d,.slice t x none (some y) none,ty,pos,af,gd⟩ st K:=by
 intro q l e a w next Q f W
 obtain⟨i,zv,p2,p3,p4,p5,rfl,rfl,_⟩:=cT ht;have n:=f.ev x;have a3:a.eval x=e.sv k:=by
  rw[hx]at n;generalize a.eval x=u at n;cases n with
  |ow=>rfl
 have A:=f.ev y;rw[hy]at A;have a4:=A.bN;obtain⟨Z,H⟩:=f.sr.kill d;have V:a_ (br d st.h) k=some (.arr E i.size rows true):=by rw[dp,U];rfl
 obtain⟨a0,I⟩:=Z.Ic V O (d_ d st.h) (by have:=f.n.2;omega);have X:nP d ((d,some (.arr E i.size rows true))::(k,none)::br d st.h)=true:=by
  have:=WM (d_ d st.h) k;simp only[nP,aqY,apS]at this⊢;exact⟨by simp[Ob.ga],this⟩
 obtain⟨b,c,z,M,L,a1,J⟩:=a0.shrink bf X (by have:=f.n.2;omega) v;rw[Env.dJ]at z;have Y:(Instr.sliceAt t (a.eval x) none (some (a.eval y)) none).run P w=.ok (.slice b m c) w:=by
  rw[a3,z,a4];have:=fa (P:=P) p2 p3 b rows.length c 0 m none c none (some (.int o (m:Int))) none w (.inl ⟨rfl,rfl⟩) (.inr ⟨o,rfl⟩) (.inl ⟨rfl,rfl⟩) (aql _) v (by omega) (apT _) M;rw[this];congr 2;cases b with
  |none=>simp
  |some b=>
   rcases L b rfl with⟨r,s⟩|C
   ·obtain⟨bb,oo,ss⟩:=b
    simp only at r s;subst r;subst s;split
    ·rfl
    ·simp[aqz]
   ·rw[apR C]
 have S:∀j,a_ ((d,some (.arr E i.size (rows.take m) true))::(k,none)::br d st.h) j=a_ ((d,some (.arr E i.size (rows.take m) true))::(d,some (.arr E i.size rows true))::(k,none)::br d st.h) j:=λj=>by
  by_cases h:j=d
  ·subst h;rw[bf,bf]
  ·rw[bc h,bc h,bc h]
 have a2:TR (bO q l ((e.cK d (e.bS k) (e.sv k) (e.cM k)).cK d ((e.cK d (e.bS k) (e.sv k) (e.cM k)).bS d) (.slice b m c) 0) ((d,some (.arr E i.size (rows.take m) true))::(d,some (.arr E i.size rows true))::(k,none)::br d st.h) w) ((e.cK d (e.bS k) (e.sv k) (e.cM k)).cK d ((e.cK d (e.bS k) (e.sv k) (e.cM k)).bS d) (.slice b m c) 0) ((d,.ow d)::cY d st.t) (a.tmps.setIfInBounds d (.slice b m c)):=by
  refine TR.put ?_ (by rw[f.n.1];exact N) ?_
  ·have D:=(((((f.tr.kill d).mono H).mono I).env d (dO d st.t) (e':=e.cK d (e.bS k) (e.sv k) (e.cM k)) (λ_ g=>Env.bx g) (λ_ g=>Env.db g)).mono J)
   exact D.env d (dO d st.t) (λ_ g=>Env.bx g) (λ_ g=>Env.db g)
  ·have:=VR.ow (Rd:=bO q l ((e.cK d (e.bS k) (e.sv k) (e.cM k)).cK d ((e.cK d (e.bS k) (e.sv k) (e.cM k)).bS d) (.slice b m c) 0) ((d,some (.arr E i.size (rows.take m) true))::(d,some (.arr E i.size rows true))::(k,none)::br d st.h) w) (e:=(e.cK d (e.bS k) (e.sv k) (e.cM k)).cK d ((e.cK d (e.bS k) (e.sv k) (e.cM k)).bS d) (.slice b m c) 0) (k:=d)
   rw[Env.dJ]at this;exact this
 have R:Ga q l _ ⟨st.n,(d,.ow d)::cY d st.t,_⟩ (a.put (some d) (.slice b m c)) w:=⟨by simpa[Act.put]using f.n,f.d,a1,a2⟩;refine eo (w':=w) ?_ (W _ G _ _ _ (R.kE S));simp[execOp,Instr.slice,Y]
end
variable{R:eQ}{Q:ea}{O:Fr}{v:FuncId}{I:Oper}
@[reducible] def ky:List Sc->Type
 |[]=>Unit
 |[s]=>s.cZ
 |s::t::r=>s.cZ×ky (t::r)
def hS:(cs:List Sc)->ky cs->List EV
 |[],_=>[]
 |[s],x=>[.sc s x]
 |s::t::r,x=>.sc s x.1::hS (t::r) x.2
def uc:(cs:List Sc)->List EV->Option (ky cs)
 |[],[]=>some ()
 |[],_::_=>none
 |[s],c::cs=>match c,cs with
  |.sc f x,[]=>eB f s x
  |_,_=>none
 |s::t::r,c::cs=>match c with
  |.sc f x=>match eB f s x with
   |some a=>match uc (t::r) cs with
    |some b=>some (a,b)
    |none=>none
   |none=>none
  |_=>none
 |_::_,[]=>none
def wu:∀{cs:List Sc} {l:List EV} {x:ky cs},uc cs l=some x->l=hS cs x
 |[],[],x,h=>rfl
 |[],_::_,x,h=>by simp[uc]at h
 |[s],[],x,h=>by simp[uc]at h
 |[s],c::cs,x,h=>by
  simp only[uc]at h;split at h
  ·obtain⟨rfl,rfl⟩:=di h
   rfl
  ·cases h
 |s::t::r,[],x,h=>by simp[uc]at h
 |s::t::r,c::cs,x,h=>by
  simp only[uc]at h;split at h
  ·split at h
   ·rename_i a f
    split at h
    ·rename_i b g
     obtain⟨rfl,rfl⟩:=di f;have:=wu g;cases h;rw[this];rfl
    ·cases h
   ·cases h
  ·cases h
inductive PV where
 |h (s:Sc)
 |t (r:Sc)
 |k (c:EV)
 |ag (l:List PV)
 |tu (l:List PV)
 |fp (l:List PV)
 |cl (fn:Fn) (fs cs:List PV)
 |pe (k sz o:Nat)
def peE(k a o:Nat):EV->EV
 |.sc s x=>match eB s (.i .i64) x with
  |some i=>.pe k i a o
  |none=>.un
 |_=>.un
def IB:EV->EV
 |.sc (.sl r) a=>.ts r a
 |_=>.un
mutual
def fH:PV->List EV->EV×List EV
 |.h _,cs=>(cs.headD .un,cs.tail)
 |.t _,cs=>(IB (cs.headD .un),cs.tail)
 |.k c,cs=>(c,cs)
 |.ag l,cs=>(.ag (c9 l cs).1,(c9 l cs).2)
 |.tu l,cs=>(.tu (c9 l cs).1,(c9 l cs).2)
 |.fp l,cs=>(.fp (c9 l cs).1,(c9 l cs).2)
 |.cl f a b,cs=>(.cl f (c9 a cs).1 (c9 b (c9 a cs).2).1,(c9 b (c9 a cs).2).2)
 |.pe k g o,cs=>(peE k g o (cs.headD .un),cs.tail)
def c9:List PV->List EV->List EV×List EV
 |[],cs=>([],cs)
 |p::a,cs=>((fH p cs).1::(c9 a (fH p cs).2).1,(c9 a (fH p cs).2).2)
end
inductive PO where
 |box (t:TypeId) (l:List PV)
 |arr (t:TypeId) (r:Sc) (wr:Bool)
 |mp (d:TypeDesc) (kc vc:Sc)
 |nr (t:TypeId) (r:Sc) (ho:Kl)
 |qr (t:TypeId) (k sz:Nat)
def qrE(t:TypeId)(k a:Nat):EV->Option ea
 |.sc s x=>match eB s (.sl (.i .i64)) x with
  |some b=>some (.qr t (some k) a b)
  |none=>none
 |_=>none
def afk(t:TypeId)(r:Sc)(wr:Bool):EV->Option ea
 |.sc s x=>match eB s (.sl r) x with
  |some a=>some (.arr t r a wr)
  |none=>none
 |_=>none
def mpE(d:TypeDesc)(a b:Sc):EV->Option ea
 |.sc s x=>match eB s (.sl (.pr a b)) x with
  |some f=>some (.mp d a b f)
  |none=>none
 |_=>none
def nrE(t:TypeId)(r:Sc):EV->Option ea
 |.sc s x=>match eB s (.sl (.sl r)) x with
  |some a=>some (.nr t r a none)
  |none=>none
 |_=>none
def aii(t:TypeId)(r:Sc)(p:Nat):EV->EV->Option ea
 |.sc s x,.sc a y=>match eB s (.sl (.sl r)) x with
  |some b=>match eB a (.i .i64) y with
   |some i=>some (.nr t r b (some (i,some p)))
   |none=>none
  |none=>none
 |_,_=>none
def iv:PO->List EV->Option ea×List EV
 |.box t l,cs=>(some (.box t (c9 l cs).1),(c9 l cs).2)
 |.arr t r wr,cs=>(afk t r wr (cs.headD .un),cs.tail)
 |.mp d a f,cs=>(mpE d a f (cs.headD .un),cs.tail)
 |.nr t r none,cs=>(nrE t r (cs.headD .un),cs.tail)
 |.nr t r (some (_,p)),cs=>(aii t r p (cs.headD .un) (cs.tail.headD .un),cs.tail.tail)
 |.qr t k b,cs=>(qrE t k b (cs.headD .un),cs.tail)
def q_:List (Nat×PO)->List EV->eQ
 |[],_=>[]
 |(k,o)::h,cs=>(k,(iv o cs).1)::q_ h (iv o cs).2
structure iZ where
 f:FuncId
 ps:List PV
 hs:List (Nat×PO)
 cs:List Sc
 α:Type
 M:ky cs->Option α
 el:α->(R:Type)->(EV->eQ->Option R)->Option R
 own:Bool
 pu:Bool
def iZ.as(c:iZ)(x:ky c.cs):List EV:=(c9 c.ps (hS c.cs x)).1
def iZ.H0(c:iZ)(x:ky c.cs):eQ:=q_ c.hs (c9 c.ps (hS c.cs x)).2
def Sc.ns:Sc->Bool
 |.sl _=>false
 |.pr x y=>x.ns && y.ns
 |.i _=>true
 |.b=>true
 |.u=>true
mutual
def EV.pu:EV->Bool
 |.un=>true
 |.sc s x=>match s with
  |.sl _=>false
  |_=>true
 |.nil=>true
 |.ts r g=>false
 |.v x=>true
 |.ow k=>true
 |.pt k o=>true
 |.pe k i b o=>true
 |.sw k l n b=>true
 |.mp k=>true
 |.fp cs=>false
 |.ag cs=>EV.FF cs
 |.tu cs=>EV.FF cs
 |.cl f a cs=>EV.FF a && EV.FF cs
def EV.FF:List EV->Bool
 |[]=>true
 |c::cs=>EV.pu c && EV.FF cs
end
def ea.pu:ea->Bool
 |.box t cs=>EV.FF cs
 |.arr t r g wr=>r.ns
 |.mp d f a b=>a.ns
 |.nr _ _ _ _=>false
 |.qr .. =>false
def puH(h:eQ):Bool:=h.all λp=>match p.2 with
 |some o=>o.pu
 |none=>true
def iZ.ok(P:Program)(c:iZ):Prop:=
 (c.own=false->c.hs=[])/\∀x y,c.M x=some y->∃e H,(∀(R:Type) (k:EV->eQ->Option R),c.el y R k=k e H)/\(c.own=false->H=[])/\(c.pu=true->e.pu=true/\puH H=true)/\
  Bw P c.f (bz (c.H0 x)) (bX (c.as x)) (bz H) (enc e)
mutual
def tU(π:Nat->Nat):EV->EV
 |.un=>.un
 |.sc s x=>.sc s x
 |.nil=>.nil
 |.ts r g=>.ts r g
 |.v x=>.v x
 |.ow k=>.ow (π k)
 |.pt k o=>.pt (π k) o
 |.pe k i a o=>.pe (π k) i a o
 |.sw k l n a=>.sw (π k) l n a
 |.mp k=>.mp (π k)
 |.fp cs=>.fp cs
 |.ag cs=>.ag (ra π cs)
 |.tu cs=>.tu (ra π cs)
 |.cl b f cs=>.cl b (ra π f) (ra π cs)
def ra(π:Nat->Nat):List EV->List EV
 |[]=>[]
 |c::cs=>tU π c::ra π cs
end
mutual
def BU(π:Nat->Nat):∀c:EV,enc (tU π c)=(enc c).ie π
 |.un=>rfl
 |.sc s x=>by cases s<;>rfl
 |.nil=>rfl
 |.ts r g=>rfl
 |.v x=>rfl
 |.ow k=>rfl
 |.pt k o=>rfl
 |.pe k i b o=>rfl
 |.sw k l n b=>rfl
 |.mp k=>rfl
 |.fp cs=>rfl
 |.ag cs=>by simp only[tU,enc,AV.ie,l5 π cs]
 |.tu cs=>by simp only[tU,enc,AV.ie,l5 π cs]
 |.cl f a cs=>by simp only[tU,enc,AV.ie,l5 π cs,l5 π a]
def l5(π:Nat->Nat):∀cs:List EV,bX (ra π cs)=AV.qS π (bX cs)
 |[]=>rfl
 |c::cs=>by simp only[ra,bX,AV.qS,BU π c,l5 π cs]
end
def R7(π:Nat->Nat):H8->H8
 |some (i,some j)=>some (i,some (π j))
 |o=>o
def IC(π:Nat->Nat):ea->ea
 |.box t cs=>.box t (ra π cs)
 |.arr t r a wr=>.arr t r a wr
 |.mp d g i f=>.mp d g i f
 |.nr t r a b=>.nr t r a (R7 π b)
 |.qr t b h a=>.qr t (b.map π) h a
def afl(π:Nat->Nat)(r:Sc)(x:List r.cZ):(WO r x).ie π=WO r x:=by cases x<;>rfl
def afm(π:Nat->Nat)(r:Sc)(a:List (List r.cZ))(f:H8):vf r a (R7 π f)=AV.qS π (vf r a f):=by
 have b:(a.map (WO r)).map (AV.ie π)=a.map (WO r):=by
  rw[aq4];exact aqJ λx _=>afl π r x
 rw[kF]
 match f with
 |none=>exact b.symm
 |some (i,none)=>simp only[R7,vf,arP,b];rfl
 |some (i,some j)=>simp only[R7,vf,arP,b];rfl
def Dh(π:Nat->Nat)(o:ea):b_ (IC π o)=(b_ o).ie π:=by
 cases o with
 |box t cs=>simp only[IC,b_,Ob.ie,l5]
 |arr=>rfl
 |mp=>rfl
 |nr t r b a=>simp only[IC,b_,Ob.ie,afm]
 |qr t a f b=>
  simp only[IC,b_,Ob.ie,kF,aq4];congr 1;exact aqJ λi _=>by cases a<;>rfl
def Ap(π:Nat->Nat):eQ->eQ
 |[]=>[]
 |(k,o)::h=>(π k,match o with
  |some o=>some (IC π o)
  |none=>none)::Ap π h
def rb(π:Nat->Nat):∀h:eQ,bz (Ap π h)=ke π (bz h)
 |[]=>rfl
 |(k,o)::h=>by
  have:∀o:ea,b_ (IC π o)=(b_ o).ie π:=Dh π;cases o with
  |none=>simp only[Ap,bz,ke,Option.map,rb π h]
  |some o=>simp only[Ap,bz,ke,Option.map,rb π h,this]
mutual
def FU(π:Nat->Nat):PV->PV
 |.h s=>.h s
 |.t r=>.t r
 |.k c=>.k (tU π c)
 |.ag l=>.ag (mO π l)
 |.tu l=>.tu (mO π l)
 |.fp l=>.fp l
 |.cl a b cs=>.cl a (mO π b) (mO π cs)
 |.pe k f o=>.pe (π k) f o
def mO(π:Nat->Nat):List PV->List PV
 |[]=>[]
 |p::a=>FU π p::mO π a
end
def re(π:Nat->Nat):PO->PO
 |.box t l=>.box t (mO π l)
 |.arr t r wr=>.arr t r wr
 |.mp d a f=>.mp d a f
 |.nr t r none=>.nr t r none
 |.nr t r (some (s,p))=>.nr t r (some (s,π p))
 |.qr t k b=>.qr t (π k) b
def R8(p k:Nat)(D:bH):bH:=cond (Nat.ble 4294967296 p) (match ua D p with
 |some _=>D
 |none=>D++[(p,k)]) D
mutual
def akK:PV->EV->bH->bH
 |.h _,_,D=>D
 |.t _,_,D=>D
 |.k a,c,D=>match a,c with
  |.ow p,.ow k=>R8 p k D
  |.pt p _,.pt k _=>R8 p k D
  |.mp p,.mp k=>R8 p k D
  |_,_=>D
 |.ag l,c,D=>match c with
  |.ag cs=>o8 l cs D
  |_=>D
 |.tu _,_,D=>D
 |.fp _,_,D=>D
 |.cl _ b g,c,D=>match c with
  |.cl _ f h=>o8 g h (o8 b f D)
  |_=>D
 |.pe p _ _,c,D=>match c with
  |.pe k _ _ _=>R8 p k D
  |_=>D
def o8:List PV->List EV->bH->bH
 |[],_,D=>D
 |p::a,cs,D=>match cs with
  |[]=>D
  |c::cs=>o8 a cs (akK p c D)
end
def Lb(hg:Nat->Option ea):List (Nat×PO)->bH->bH
 |[],D=>D
 |(p,b)::a,D=>Lb hg a (match b with
  |.box _ l=>match ua D p with
   |some k=>match hg k with
    |some (.box _ cs)=>o8 l cs D
    |_=>D
   |none=>D
  |_=>D)
def ZM(hg:Nat->Option ea)(s:Sc):EV->Option (s.cZ×aZ)
 |.ow k=>match hg k with
  |some (.arr _ r a _)=>match eB (.sl r) s a with
   |some y=>some (y,[k])
   |none=>none
  |_=>none
 |c=>match Gf s c with
  |some y=>some (y,[])
  |none=>none
def R9:EV->EV->Bool
 |.un,_=>true
 |.nil,.nil=>true
 |.ow a,.ow b=>Nat.beq a b
 |.pt a o,.pt b q=>Nat.beq a b && Nat.beq o q
 |.mp a,.mp b=>Nat.beq a b
 |.v (.func (.func f) ⟨[]⟩ ⟨[]⟩),.v (.func (.func g) ⟨[]⟩ ⟨[]⟩)=>Nat.beq f g
 |_,_=>false
def Lc{a b:EV}(h:R9 a b=true):Wk (enc b) (enc a):=by
 unfold R9 at h;split at h
 ·exact Wk.un
 ·exact Wk.refl _
 ·rw[apX h];exact Wk.refl _
 ·simp only[apS]at h
  rw[apX h.1,apX h.2];exact Wk.refl _
 ·rw[apX h];exact Wk.refl _
 ·rw[apX h];exact Wk.refl _
 ·cases h
def R_:EV->Bool
 |.un=>true
 |.nil=>true
 |.v _=>true
 |_=>false
def sW:PV->Bool
 |.h _=>true
 |.t _=>true
 |.k c=>R_ c
 |_=>false
def fnB:Fn->Fn->Bool
 |.func f,.func g=>Nat.beq f g
 |_,_=>false
def ZN{a b:Fn}(h:fnB a b=true):a=b:=by
 unfold fnB at h;split at h
 ·rw[apX h]
 ·cases h
def Wk.fp{cs a:List AV}(h:nA cs a):Wk (.fp cs) (.fp a):=by
 intro Rd E u k;cases k with
 |fp b i g f=>
  have j:LR (VR Rd none) cs b:=⟨i,g⟩;have:=h.lr j;exact .fp b this.1 this.2 f
def Wk.cl{fn:Fn}{fs g cs f:List AV}(h:nA fs g)(k:nA cs f):Wk (.cl fn fs cs) (.cl fn g f):=by
 intro Rd E u q;cases q with
 |cl i j o p l m=>
  have a:LR (VR Rd E) fs i:=⟨o,l⟩;have b:LR (VR Rd E) cs j:=⟨p,m⟩;have a:=h.lr a;have b:=k.lr b;exact .cl i j a.1 b.1 a.2 b.2
mutual
def Di:PV->EV->Option (List EV)
 |.h s,c=>match Gf s c with
  |some x=>some [.sc s x]
  |none=>none
 |.t r,c=>match c with
  |.ts u f=>match eB (.sl u) (.sl r) f with
   |some z=>some [.sc (.sl r) z]
   |none=>none
  |.nil=>some [.sc (.sl r) (show List r.cZ from [])]
  |_=>none
 |.k g,c=>cond (R9 g c) (some []) none
 |.ag l,c=>match c with
  |.ag cs=>ud l cs
  |_=>none
 |.tu l,c=>match c with
  |.tu cs=>ud l cs
  |_=>none
 |.fp l,c=>match c with
  |.fp cs=>ud l cs
  |_=>none
 |.cl h m f,c=>match c with
  |.cl j p y=>cond (fnB h j) (match ud m p with
   |some a=>match ud f y with
    |some b=>some (a++b)
    |none=>none
   |none=>none) none
  |_=>none
 |.pe k v o,c=>match c with
  |.pe q i w t=>cond (Nat.beq k q && Nat.beq v w && Nat.beq o t) (some [.sc (.i .i64) i]) none
  |_=>none
def ud:List PV->List EV->Option (List EV)
 |[],cs=>match cs with
  |[]=>some []
  |_::_=>none
 |p::f,cs=>match cs with
  |[]=>none
  |c::cs=>match Di p c with
   |some a=>match ud f cs with
    |some b=>some (a++b)
    |none=>none
   |none=>none
end
def hU(s:Sc)(x:s.cZ):eB s s x=some x:=by
 have j:∀s:Sc,Sc.eqP s s=some ⟨rfl⟩:=by
  intro s
  induction s with
  |i k=>simp[Sc.eqP]
  |b=>rfl
  |sl r f=>simp[Sc.eqP,f]
  |pr a l g h=>simp[Sc.eqP,g,h]
  |u=>rfl
 unfold eB;rw[j]
mutual
def Sa:∀(p:PV) {c:EV} {f:List EV} (rest:List EV),Di p c=some f->(fH p (f++rest)).2=rest/\Wk (enc c) (enc (fH p (f++rest)).1)
 |.h s,c,f,rest,h=>by
  simp only[Di]at h;split at h
  ·rename_i x y
   cases h;exact⟨rfl,PA y⟩
  ·cases h
 |.t r,c,f,rest,h=>by
  simp only[Di]at h;split at h
  ·split at h
   ·rename_i F z
    cases h;obtain⟨e,rfl⟩:=di z;cases e;exact⟨rfl,Wk.refl _⟩
   ·cases h
  ·cases h
   exact⟨rfl,Wk.Pz⟩
  ·cases h
 |.k B,c,f,rest,h=>by
  simp only[Di]at h;obtain⟨i,g⟩:=aY h;cases g;exact⟨rfl,Lc i⟩
 |.ag l,c,f,rest,h=>by
  simp only[Di]at h;split at h
  ·obtain⟨a,b⟩:=l6 l rest h
   exact⟨a,Wk.ag b⟩
  ·cases h
 |.tu l,c,f,rest,h=>by
  simp only[Di]at h;split at h
  ·obtain⟨a,b⟩:=l6 l rest h
   exact⟨a,Wk.tu b⟩
  ·cases h
 |.fp l,c,f,rest,h=>by
  simp only[Di]at h;split at h
  ·obtain⟨a,b⟩:=l6 l rest h
   exact⟨a,Wk.fp b⟩
  ·cases h
 |.cl C u A,c,f,rest,h=>by
  simp only[Di]at h;split at h
  ·obtain⟨i,g⟩:=aY h
   obtain rfl:=ZN i;split at g
   ·rename_i a v
    split at g
    ·rename_i b w
     cases g;obtain⟨j,m⟩:=l6 u (b++rest) v;obtain⟨q,t⟩:=l6 A rest w;simp only[fH,aqm,j];exact⟨q,Wk.cl m t⟩
    ·cases g
   ·cases g
  ·cases h
 |.pe k E o,c,f,rest,h=>by
  simp only[Di]at h;split at h
  ·obtain⟨i,g⟩:=aY h
   cases g;simp only[apS]at i;rw[apX i.1.1,apX i.1.2,apX i.2];refine⟨rfl,?_⟩;simp only[fH,arn,aro,peE,hU];exact Wk.refl _
  ·cases h
def l6:∀(g:List PV) {cs:List EV} {f:List EV} (rest:List EV),ud g cs=some f->(c9 g (f++rest)).2=rest/\nA (bX cs) (bX (c9 g (f++rest)).1)
 |[],cs,f,rest,h=>by
  simp only[ud]at h;split at h
  ·cases h
   exact⟨rfl,.nil⟩
  ·cases h
 |p::g,cs,f,rest,h=>by
  simp only[ud]at h;split at h
  ·cases h
  ·rename_i c cs
   split at h
   ·rename_i a k
    split at h
    ·rename_i b l
     cases h;have i:=Sa p (b++rest) k;have j:=l6 g rest l;simp only[c9,aqm,i.1];exact⟨j.1,.cons i.2 j.2⟩
    ·cases h
   ·cases h
end
def afn:PO->ea->Option (List EV)
 |.box t l,.box a cs=>cond (Nat.beq t a) (ud l cs) none
 |.arr t r wr,.arr a g b z=>cond (Nat.beq t a && (!wr||z)) (match eB (.sl g) (.sl r) b with
  |some f=>some [.sc (.sl r) f]
  |none=>none) none
 |.mp d h j,.mp m u y o=>cond (kJ d h && kJ m h) (match eB (.sl (.pr u y)) (.sl (.pr h j)) o with
  |some f=>some [.sc (.sl (.pr h j)) f]
  |none=>none) none
 |.nr t r none,.nr a g b none=>cond (Nat.beq t a) (match eB (.sl (.sl g)) (.sl (.sl r)) b with
  |some f=>some [.sc (.sl (.sl r)) f]
  |none=>none) none
 |.nr t r (some (_,p)),.nr a g b (some (i,some q))=>cond (Nat.beq t a && Nat.beq p q) (match eB (.sl (.sl g)) (.sl (.sl r)) b with
  |some f=>some [.sc (.sl (.sl r)) f,.sc (.i .i64) i]
  |none=>none) none
 |.arr t r wr,.nr a g b none=>cond (Nat.beq t a) (match eB (.sl (.sl g)) (.sl r) b with
  |some f=>some [.sc (.sl r) f]
  |none=>none) none
 |.qr t k v,.qr a (some s) w b=>cond (Nat.beq t a && Nat.beq k s && Nat.beq v w) (some [.sc (.sl (.i .i64)) (show aX from b)]) none
 |_,_=>none
def P4(r:Sc):∀a:List (List r.cZ),oZ ((a.map (WO r)).map λc=>[c]) (List.map (bF (.sl r)) a)
 |[]=>.nil
 |x::a=>by
  refine .cons (.cons ?_ .nil) (P4 r a);cases x with
  |nil=>exact Wk.empty rfl
  |cons y b=>exact Wk.refl _
def OR.akL{Rd:bE}{e:Env}{cs g:List AV}(l:nA cs g)(h:OR Rd e m B (.box a cs)):OR Rd e m B (.box a g):=by
 obtain⟨f,b,o,i,j,k⟩:=h;exact⟨f,b,o,i,j,l.lr k⟩
def Sb(p:PO){B:List EV}(rest:List EV)(h:afn p Q=some B):(iv p (B++rest)).2=rest/\∃C,(iv p (B++rest)).1=some C/\∀Rd e w k,OR Rd e w k (b_ Q)->OR Rd e w k (b_ C):=by
 unfold afn at h;split at h
 ·rename_i t l z cs
  obtain⟨f,g⟩:=aY h;have f:=apX f;subst f;obtain⟨a,b⟩:=l6 l rest g;exact⟨a,_,rfl,λRd e w k j=>OR.akL b j⟩
 ·rename_i t r wr z v m V
  obtain⟨f,g⟩:=aY h;simp only[apS]at f;have o:=apX f.1;subst o;split at g
  ·rename_i A u
   cases g;obtain⟨e1,rfl⟩:=di u;cases e1;refine⟨rfl,.arr t r m wr,?_,λRd e w k j=>?_⟩
   ·simp only[iv,arn,aro,afk,hU]
   ·obtain⟨E,F,G,H⟩:=j
    refine⟨E,F,λM=>G ?_,H⟩;have:=f.2;rw[M]at this;simpa using this
  ·cases g
 ·rename_i d N O R S U I
  obtain⟨f,g⟩:=aY h;simp only[apS]at f;have o:=oh f.1 f.2;subst o;split at g
  ·rename_i A u
   cases g;obtain⟨e1,rfl⟩:=di u;cases e1;refine⟨rfl,.mp d N O I,?_,λRd e w k j=>j⟩;simp only[iv,arn,aro,mpE,hU]
  ·cases g
 ·rename_i t r z v m
  obtain⟨f,g⟩:=aY h;have o:=apX f;subst o;split at g
  ·rename_i A u
   cases g;obtain⟨e1,rfl⟩:=di u;cases e1;refine⟨rfl,.nr t r m none,?_,λRd e w k j=>j⟩;simp only[iv,arn,aro,nrE,hU]
  ·cases g
 ·rename_i t r s p z v m i q
  obtain⟨f,g⟩:=aY h;simp only[apS]at f;have o:=apX f.1;have J:=apX f.2;subst o;subst J;split at g
  ·rename_i A u
   cases g;obtain⟨e1,rfl⟩:=di u;cases e1;refine⟨rfl,.nr t r m (some (i,some p)),?_,λRd e w k j=>j⟩;simp only[iv,aq6,aqC,aro,List.tail_cons,aii,hU]
  ·cases g
 ·rename_i t r wr z v m
  obtain⟨f,g⟩:=aY h;have o:=apX f;subst o;split at g
  ·rename_i A u
   cases g;obtain⟨e1,rfl⟩:=di u;cases e1;refine⟨rfl,.arr t (.sl v) m wr,?_,λRd e w k j=>?_⟩
   ·simp only[iv,arn,aro,afk,hU]
   ·have L:OR Rd e w k (.nr t (m.map (WO v))):=j
    refine(L.akG (λc y=>?_) (λc y=>?_) wr).wh (P4 v m) (λc y=>?_)
    ·obtain⟨x,_,rfl⟩:=ap4.1 y
     cases x<;>rfl
    ·obtain⟨x,_,rfl⟩:=ap4.1 y
     cases x<;>rfl
    ·exact eO (.sl v) m c y
  ·cases g
 ·obtain⟨f,g⟩:=aY h
  cases g;simp only[apS]at f;rw[apX f.1.1,apX f.1.2,apX f.2];refine⟨rfl,_,?_,λRd e w k j=>j⟩;simp only[iv,arn,aro,qrE];rw[hU (.sl (.i .i64))]
 ·cases h
mutual
def o9(hg:Nat->Option ea)(bo:Bool):PV->EV->Option (List EV×aZ)
 |.h s,c=>match ZM hg s c with
  |some (x,gs)=>some ([.sc s x],gs)
  |none=>none
 |.t r,c=>match c with
  |.ts w f=>match eB (.sl w) (.sl r) f with
   |some B=>some ([.sc (.sl r) B],[])
   |none=>none
  |.nil=>some ([.sc (.sl r) (show List r.cZ from [])],[])
  |_=>none
 |.k g,c=>cond (R9 g c) (some ([],[])) none
 |.ag l,c=>match c with
  |.ag cs=>lu hg bo l cs
  |_=>none
 |.tu _,_=>none
 |.fp l,c=>match c with
  |.fp cs=>cond (l.all sW) (match lu hg bo l cs with
   |some (vs,[])=>some (vs,[])
   |_=>none) none
  |.pt k o=>cond (bo && Nat.beq o 0 && l.all sW) (match hg k with
   |some (.box t cs)=>cond (!(Nat.beq t CL)) (match lu hg bo l cs with
    |some (vs,gs)=>some (vs,k::gs)
    |none=>none) none
   |_=>none) none
  |_=>none
 |.cl h m f,c=>match c with
  |.cl j p A=>cond (fnB h j) (match lu hg bo m p with
   |some (a,q)=>match lu hg bo f A with
    |some (b,g2)=>some (a++b,q++g2)
    |none=>none
   |none=>none) none
  |_=>none
 |.pe k y o,c=>match c with
  |.pe u i z v=>cond (Nat.beq k u && Nat.beq y z && Nat.beq o v) (some ([.sc (.i .i64) i],[])) none
  |_=>none
def lu(hg:Nat->Option ea)(bo:Bool):List PV->List EV->Option (List EV×aZ)
 |[],cs=>match cs with
  |[]=>some ([],[])
  |_::_=>none
 |p::g,cs=>match cs with
  |[]=>none
  |c::cs=>match o9 hg bo p c with
   |some (a,f)=>match lu hg bo g cs with
    |some (b,g2)=>some (a++b,f++g2)
    |none=>none
   |none=>none
end
def jo(cs:List EV):Prop:=∀c∈cs,∃s x,c=EV.sc s x
def rf:∀(cs:List Sc) (x:ky cs),jo (hS cs x)
 |[],_=>λc h=>by cases h
 |[s],x=>λc h=>by simp only[hS,aqe]at h;exact⟨_,_,h⟩
 |s::t::r,x=>λc h=>by
  simp only[hS]at h;rcases aqj.1 h with h|h
  ·exact⟨_,_,h⟩
  ·exact rf (t::r) x.2 c h
def jo.tail{cs:List EV}(h:jo cs):jo cs.tail:=λc a=>h c (List.mem_of_mem_tail a)
def ZO(π:Nat->Nat){cs:List EV}(h:jo cs):tU π (cs.headD .un)=cs.headD .un:=by
 cases cs with
 |nil=>rfl
 |cons c cs=>obtain⟨s,x,rfl⟩:=h c (by simp);rfl
def W2(π:Nat->Nat){cs:List EV}(h:jo cs):tU π (IB (cs.headD .un))=IB (cs.headD .un):=by
 cases cs with
 |nil=>rfl
 |cons c cs=>
  obtain⟨s,x,rfl⟩:=h c (by simp);cases s<;>rfl
mutual
def Gl(π:Nat->Nat):∀(p:PV) {cs:List EV},jo cs->(fH (FU π p) cs).1=tU π (fH p cs).1/\(fH (FU π p) cs).2=(fH p cs).2/\jo (fH p cs).2
 |.h s,cs,h=>⟨(ZO π h).symm,rfl,h.tail⟩
 |.t r,cs,h=>⟨(W2 π h).symm,rfl,h.tail⟩
 |.k c,cs,h=>⟨rfl,rfl,h⟩
 |.ag l,cs,h=>by
  obtain⟨a,b,c⟩:=gC π l h;exact⟨by simp only[FU,fH,tU,a],by simp only[FU,fH,b],c⟩
 |.tu l,cs,h=>by
  obtain⟨a,b,c⟩:=gC π l h;exact⟨by simp only[FU,fH,tU,a],by simp only[FU,fH,b],c⟩
 |.fp l,cs,h=>⟨rfl,rfl,(gC π l h).2.2⟩
 |.cl q j m,cs,h=>by
  obtain⟨a,b,c⟩:=gC π j h;obtain⟨f,g,i⟩:=gC π m c;exact⟨by simp only[FU,fH,tU,a,b,f],by simp only[FU,fH,b,g],i⟩
 |.pe k t o,cs,h=>by
  refine⟨?_,rfl,h.tail⟩;simp only[FU,fH];cases cs with
  |nil=>rfl
  |cons c cs=>
   obtain⟨s,x,rfl⟩:=h c (by simp);simp only[aro,peE];cases eB s (.i .i64) x<;>rfl
def gC(π:Nat->Nat):∀(f:List PV) {cs:List EV},jo cs->(c9 (mO π f) cs).1=ra π (c9 f cs).1/\(c9 (mO π f) cs).2=(c9 f cs).2/\jo (c9 f cs).2
 |[],cs,h=>⟨rfl,rfl,h⟩
 |p::f,cs,h=>by
  obtain⟨a,b,c⟩:=Gl π p h;obtain⟨g,i,j⟩:=gC π f c;exact⟨by simp only[mO,c9,ra,a,b,g],by simp only[mO,c9,b,i],j⟩
end
def VR.close{Rd:bE}{c:AV}(h:VR Rd M c s)(b:c.gp (λ_=>true)=true):VR Rd none c s:=by
 induction h with
 |un=>exact .un
 |v=>exact .v
 |sl i r o g l a f p m k=>exact .sl i r o g l a f p m
 |ow=>simp[AV.gp]at b
 |pt=>simp[AV.gp]at b
 |pe=>simp[AV.gp]at b
 |sw=>simp[AV.gp]at b
 |fp i g l m k=>exact .fp i g l m
 |ag i g l k=>exact .ag i g λj c s a f=>k j c s a f (e_ (by simpa[AV.gp]using b) j c a)
 |tu i g l k=>exact .tu i g λj c s a f=>k j c s a f (e_ (by simpa[AV.gp]using b) j c a)
 |mp=>simp[AV.gp]at b
 |cl i u g q l w k t=>
  simp only[AV.gp,apS]at b;exact .cl i u g q (λj c s a f=>k j c s a f (e_ b.1 j c a)) (λj c s a f=>t j c s a f (e_ b.2 j c a))
def ZP(s:Sc)(x:s.cZ)(p:Nat->Bool):(encS s x).gp p=true:=by cases s<;>rfl
def P5(c:EV)(a:c=.un\/∃s x,c=EV.sc s x)(p:Nat->Bool):(enc (IB c)).gp p=true:=by
 rcases a with rfl|⟨s,x,rfl⟩
 ·rfl
 ·cases s<;>rfl
def i_{cs:List EV}(h:jo cs):cs.headD .un=.un\/∃s x,cs.headD .un=EV.sc s x:=by
 cases cs with
 |nil=>exact .inl rfl
 |cons c cs=>exact .inr (h c (by simp))
def Ld{p:PV}(a:sW p=true){cs:List EV}(h:jo cs):(enc (fH p cs).1).gp (λ_=>true)=true:=by
 cases p with
 |h s=>
  rcases i_ h with e|⟨b,x,e⟩
  ·simp only[fH,e];rfl
  ·simp only[fH,e];exact ZP _ _ _
 |t r=>exact P5 _ (i_ h) _
 |k c=>cases c<;>first|rfl|(simp[sW,R_]at a)
 |_=>simp[sW]at a
def o_:∀{f:List PV} (_:f.all sW=true) {cs:List EV},jo cs->∀c∈bX (c9 f cs).1,c.gp (λ_=>true)=true
 |[],_,cs,h,c,a=>by cases a
 |p::f,b,cs,h,c,a=>by
  simp only[aqY,apS]at b;simp only[c9,bX]at a;rcases aqj.1 a with rfl|a
  ·exact Ld b.1 h
  ·exact o_ b.2 (Gl id p h).2.2 c a
section
variable{hg:Nat->Option ea}{bo:Bool}{R1 R2:bE}{e e1:Env}{gF:aZ}
structure GF(hg:Nat->Option ea)(R1 R2:bE)(e e1:Env)(gF:aZ):Prop where
 mono:∀b o u,R1 b o u->R2 b o u
 bS:∀j,e1.bS j=e.bS j
 sv:∀j,e1.sv j=e.sv j
 row:∀k,gF.contains k=true->∀t r xs wr,hg k=some (.arr t r xs wr)->VR R2 none (.sl false r.w (List.map (bF r) xs)) (e.sv k)
 box:∀k,gF.contains k=true->∀t cs,t≠CL->hg k=some (.box t cs)->∃b us,e.bS k=some b/\LR (VR R1 (some e)) (bX cs) us/\∀(j:Nat) u,us[j]? =some u->R2 b j u
def GF.carry(g:GF hg R1 R2 e e1 gF){c:AV}(h:VR R1 (some e) c s):VR R2 (some e1) c s:=(h.mono g.mono).ir rfl g.bS g.sv
def ZQ(g:GF hg R1 R2 e e1 gF){a:Sc}{c:EV}{x:a.cZ}{gs:aZ}(h:ZM hg a c=some (x,gs))(i:∀k,gs.contains k=true->gF.contains k=true)(f:VR R1 (some e) (enc c) s):VR R2 (some e1) (encS a x) s:=by
 unfold ZM at h;split at h
 ·rename_i k
  split at h
  ·rename_i t r l wr j
   split at h
   ·rename_i y b
    cases h;obtain⟨rfl,rfl⟩:=di b;cases f;exact(g.row k (i k (by simp)) t r _ wr j).cS
   ·cases h
  ·cases h
 ·split at h
  ·rename_i y b
   cases h;exact PA b _ _ _ (g.carry f)
  ·cases h
mutual
def W3:∀(p:PV) {c:EV} {f:List EV} {gs:aZ},o9 hg bo p c=some (f,gs)->jo f
 |.h s,c,f,gs,h=>by
  simp only[o9]at h;split at h
  ·cases h
   intro c b;simp only[aqe]at b;exact⟨_,_,b⟩
  ·cases h
 |.t r,c,f,gs,h=>by
  simp only[o9]at h;split at h
  ·split at h
   ·cases h
    intro c b;simp only[aqe]at b;exact⟨_,_,b⟩
   ·cases h
  ·cases h
   intro c b;simp only[aqe]at b;exact⟨_,_,b⟩
  ·cases h
 |.k t,c,f,gs,h=>by
  simp only[o9]at h;obtain⟨_,a⟩:=aY h;cases a;intro c b;cases b
 |.ag l,c,f,gs,h=>by
  simp only[o9]at h;split at h
  ·exact fR l h
  ·cases h
 |.tu l,c,f,gs,h=>by simp[o9]at h
 |.fp l,c,f,gs,h=>by
  simp only[o9]at h;split at h
  ·obtain⟨_,a⟩:=aY h
   split at a
   ·rename_i g
    cases a;exact fR l g
   ·cases a
  ·obtain⟨_,a⟩:=aY h
   split at a
   ·obtain⟨_,a⟩:=aY a
    split at a
    ·rename_i g
     cases a;exact fR l g
    ·cases a
   ·cases a
  ·cases h
 |.cl u i q,c,f,gs,h=>by
  simp only[o9]at h;split at h
  ·obtain⟨_,a⟩:=aY h
   split at a
   ·rename_i j
    split at a
    ·rename_i m
     cases a;intro c b;rcases ap3.1 b with b|b
     ·exact fR i j c b
     ·exact fR q m c b
    ·cases a
   ·cases a
  ·cases h
 |.pe k v o,c,f,gs,h=>by
  simp only[o9]at h;split at h
  ·obtain⟨_,a⟩:=aY h
   cases a;intro c b;simp only[aqe]at b;exact⟨_,_,b⟩
  ·cases h
def fR:∀(f:List PV) {cs:List EV} {b:List EV} {gs:aZ},lu hg bo f cs=some (b,gs)->jo b
 |[],cs,b,gs,h=>by
  simp only[lu]at h;split at h
  ·cases h;intro c a;cases a
  ·cases h
 |p::f,cs,b,gs,h=>by
  simp only[lu]at h;split at h
  ·cases h
  ·split at h
   ·rename_i g
    split at h
    ·rename_i i
     cases h;intro c a;rcases ap3.1 a with a|a
     ·exact W3 p g c a
     ·exact fR f i c a
    ·cases h
   ·cases h
end
mutual
def afo(g:GF hg R1 R2 e e1 gF):∀(p:PV) {c:EV} {w:List EV} {gs:aZ} (rest:List EV),jo rest->o9 hg bo p c=some (w,gs)->(∀k,gs.contains k=true->gF.contains k=true)->(fH p (w++rest)).2=rest/\∀u,VR R1 (some e) (enc c) u->VR R2 (some e1) (enc (fH p (w++rest)).1) u
 |.h s,c,w,gs,rest,q,h,v=>by
  simp only[o9]at h;split at h
  ·rename_i x X hx
   cases h;exact⟨rfl,λu i=>ZQ g hx v i⟩
  ·cases h
 |.t r,c,w,gs,rest,q,h,v=>by
  simp only[o9]at h;split at h
  ·split at h
   ·rename_i ys hy
    cases h;obtain⟨e,rfl⟩:=di hy;cases e;exact⟨rfl,λu i=>g.carry i⟩
   ·cases h
  ·cases h
   exact⟨rfl,λu i=>Wk.Pz _ _ _ (g.carry i)⟩
  ·cases h
 |.k c0,c,w,gs,rest,q,h,v=>by
  simp only[o9]at h;obtain⟨m,f⟩:=aY h;cases f;exact⟨rfl,λu i=>Lc m _ _ _ (g.carry i)⟩
 |.ag l,c,w,gs,rest,q,h,v=>by
  simp only[o9]at h;split at h
  ·obtain⟨a,b⟩:=kK g l rest q h v
   refine⟨a,λu i=>?_⟩;obtain⟨z,rfl,H⟩:=VR.e9 i;have:=b z H;exact .ag z this.1 this.2
  ·cases h
 |.tu l,c,w,gs,rest,q,h,v=>by simp[o9]at h
 |.fp l,c,w,gs,rest,q,h,v=>by
  simp only[o9]at h;split at h
  ·rename_i cs
   obtain⟨B,f⟩:=aY h;split at f
   ·rename_i vs C
    cases f;obtain⟨a,b⟩:=kK g l rest q C (λk A=>by simp at A);have J:jo (w++rest):=λc y=>(ap3.1 y).elim (fR l C c) (q c);refine⟨a,λu i=>?_⟩;cases i with
    |fp z G y F=>
     have:=b z ⟨G,λj c u m f=>(y j c u m f).cS⟩;exact .fp z this.1 (λj c u m f=>(this.2 j c u m f).close (o_ B J c (ap_ m))) λj u I=>g.mono _ _ _ (F j u I)
   ·cases f
  ·rename_i k o
   obtain⟨B,f⟩:=aY h;simp only[apS]at B;have ho:=apX B.1.2;subst ho;split at f
   ·rename_i t cs A
    obtain⟨a3,f⟩:=aY f;split at f
    ·rename_i vs X C
     cases f;obtain⟨a,b⟩:=kK g l rest q C (λk' M=>v k' (by simp at M⊢;exact .inr M));have J:jo (w++rest):=λc y=>(ap3.1 y).elim (fR l C c) (q c);refine⟨a,λu i=>?_⟩;obtain⟨bb,z,E,H,y⟩:=g.box k (v k (by simp)) t cs (zl a3) A;cases i with
     |pt L=>
      rw[E]at L;cases L;have:=b z H;exact .fp z this.1 (λj c u m f=>(this.2 j c u m f).close (o_ B.2 J c (ap_ m))) λj u I=>by rw[aqq];exact y j u I
    ·cases f
   ·cases f
  ·cases h
 |.cl fn W Q,c,w,gs,rest,q,h,v=>by
  simp only[o9]at h;split at h
  ·obtain⟨m,f⟩:=aY h
   obtain rfl:=ZN m;split at f
   ·rename_i a g1 F
    split at f
    ·rename_i b g2 E
     cases f;have a0:jo (b++rest):=λc y=>(ap3.1 y).elim (fR Q E c) (q c);obtain⟨R,S⟩:=kK g W (b++rest) a0 F (λk A=>v k (by simp at A⊢;exact .inl A));obtain⟨U,V⟩:=kK g Q rest q E (λk A=>v k (by simp at A⊢;exact .inr A));simp only[fH,aqm,R];refine⟨U,λu i=>?_⟩;cases i with
     |cl z vs G Z y Y=>
      have N:=S z ⟨G,y⟩;have O:=V vs ⟨Z,Y⟩;exact .cl z vs N.1 O.1 N.2 O.2
    ·cases f
   ·cases f
  ·cases h
 |.pe k sz o,c,w,gs,rest,q,h,v=>by
  simp only[o9]at h;split at h
  ·obtain⟨m,f⟩:=aY h
   cases f;simp only[apS]at m;rw[apX m.1.1,apX m.1.2,apX m.2];refine⟨rfl,λu i=>?_⟩;simp only[fH,arn,aro,peE,hU];exact g.carry i
  ·cases h
def kK(g:GF hg R1 R2 e e1 gF):∀(l:List PV) {cs:List EV} {o:List EV} {gs:aZ} (rest:List EV),jo rest->lu hg bo l cs=some (o,gs)->(∀k,gs.contains k=true->gF.contains k=true)->(c9 l (o++rest)).2=rest/\∀f,LR (VR R1 (some e)) (bX cs) f->LR (VR R2 (some e1)) (bX (c9 l (o++rest)).1) f
 |[],cs,o,gs,rest,r,h,q=>by
  simp only[lu]at h;split at h
  ·cases h
   exact⟨rfl,λf i=>by
    have:f=[]:=aqT (by simpa[bX]using i.1);subst this;exact LR.nil⟩
  ·cases h
 |p::l,cs,o,gs,rest,r,h,q=>by
  simp only[lu]at h;split at h
  ·cases h
  ·rename_i c cs
   split at h
   ·rename_i a G C
    split at h
    ·rename_i b H s
     cases h;have F:jo (b++rest):=λc E=>(ap3.1 E).elim (fR l s c) (r c);obtain⟨t,w⟩:=afo g p (b++rest) F C (λk m=>q k (by simp at m⊢;exact .inl m));obtain⟨y,z⟩:=kK g l rest r s (λk m=>q k (by simp at m⊢;exact .inr m));simp only[c9,aqm,t];refine⟨y,λf i=>?_⟩;cases f with
     |nil=>have:=i.1;simp[bX]at this
     |cons u f=>
      exact LR.cons (w u (i.2 0 _ u rfl rfl)) (z f ⟨by simpa[bX]using i.1,λj c v A B=>i.2 (j+1) c v (by simpa[bX]using A) (by simpa using B)⟩)
    ·cases h
   ·cases h
end
end
def Le:ea->Bool
 |.arr _ _ _ wr=>wr
 |_=>true
def Dj(hg:Nat->Option ea)(D:bH)(B:Nat):List (Nat×PO)->Option (List EV)
 |[]=>some []
 |(p,g)::f=>match ua D p with
  |some k=>match hg k with
   |some o=>cond (Le o) (match afn (re (fQ D B) g) o with
    |some a=>match Dj hg D B f with
     |some b=>some (a++b)
     |none=>none
    |none=>none) none
   |none=>none
  |none=>none
def gD(hg:Nat->Option ea):aZ->eQ
 |[]=>[]
 |k::gs=>match hg k with
  |some (.arr t r a _)=>(k,some (.arr t r a false))::gD hg gs
  |_=>gD hg gs
def Lf(hg:Nat->Option ea)(k:Nat):Bool:=match hg k with
 |some (.arr _ _ _ _)=>true
 |_=>false
def ZR(D:bH):eQ:=D.map λq=>(q.2,none)
def deW(hg:Nat->Option ea):EV->EV×aZ×Bool
 |.sw k l n a=>match hg k with
  |some (.arr _ r b _)=>cond (Nat.beq r.w a) (.sc (.sl r) (show List r.cZ from(b.drop l.toNat).take n.toNat),[k],Nat.ble (l.toNat+n.toNat) b.length) (.sw k l n a,[],true)
  |_=>(.sw k l n a,[],true)
 |c=>(c,[],true)
def zw(hg:Nat->Option ea):List EV->List EV×aZ×Bool
 |[]=>([],[],true)
 |c::cs=>((deW hg c).1::(zw hg cs).1,(deW hg c).2.1++(zw hg cs).2.1,(deW hg c).2.2 && (zw hg cs).2.2)
def ZS(e:Env)(R2:bE)(k:Nat)(r:Sc)(f:List r.cZ):Prop:=
 ∀b,e.bS k=some b->∃a,LR (VR R2 none) (List.map (bF r) f).flatten a/\∀(j:Nat) u,a[j]? =some u->R2 b j u
def ail{hg:Nat->Option ea}{R1 R2:bE}{e:Env}(B:∀b o s,R1 b o s->R2 b o s)(c:EV)
 (v:∀k,(deW hg c).2.1.contains k=true->∀t r f wr,hg k=some (.arr t r f wr)->ZS e R2 k r f) (i:(deW hg c).2.2=true) (y:VR R1 (some e) (enc c) s):VR R2 (some e) (enc (deW hg c).1) s:=by
 unfold deW at v i⊢;split
 ·rename_i k l n Y
  simp only at v i;split
  ·rename_i t r f wr L
   rw[L]at v i;simp only at v i;cases w:Nat.beq r.w Y with
   |false=>exact y.mono B
   |true=>
    rw[w]at v i;simp only[aqh]at v i⊢;have w:=apX w;subst w;have i:=apY i;cases y with
    | @sw e0 k0 l0 n0 a2 b o N h V O Q=>
     obtain⟨G,H,R⟩:=v k (by simp) t r f wr L b h;have C:∀q∈List.map (bF r) f,q.length=r.w:=by
      intro q u;obtain⟨z,_,rfl⟩:=ap4.1 u;exact eT r z
     have M:((List.map (bF r) f).drop l.toNat|>.take n.toNat).length=n.toNat:=by
      rw[aqD,arH,ap1];omega
     have W:∀q∈((List.map (bF r) f).drop l.toNat|>.take n.toNat),q.length=r.w:=λq u=>C q (asN (ar_ u));have I:((List.map (bF r) f).drop l.toNat|>.take n.toNat).flatten=((List.map (bF r) f).flatten.drop (l.toNat*r.w)).take (n.toNat*r.w):=by
      rw[k7 _ _ (λq u=>C q (asN u)),k8 _ _ C]
     have a1:(G.drop (l.toNat*r.w)).take (n.toNat*r.w)=(G.drop (l.toNat*r.w)).take (n.toNat*r.w):=rfl;have:=VR.sl (Rd:=R2) (E:=some e) (tight:=false) (sz:=r.w) (rows:=((List.map (bF r) f).drop l.toNat|>.take n.toNat)) (a:=some ⟨b,o,none⟩) (cap:=N)
      ((G.drop (l.toNat*r.w)).take (n.toNat*r.w)) W (eO r _|> λA=>by
       intro c g;obtain⟨q,u,S⟩:=arR.1 g;exact A c (arR.2 ⟨q,asN (ar_ u),S⟩))
      (by rw[I,aqD,aqD,arH,arH,H.1])
      (λj c s g F=>by
       rw[I]at g;rw[aqw]at g F;split at g
       ·rename_i p
        rw[apR p,arb]at F;rw[arb]at g;exact H.2 _ c s g F
       ·cases g) (by rw[M];exact O) Q (λA=>by cases A)
      (λZ=>⟨b,o,rfl,λj s p=>by
       rw[aqw]at p;split at p
       ·rename_i J
        rw[arb]at p;have U:0<n.toNat:=by
         cases X:n.toNat with
         |zero=>rw[X]at J;simp at J
         |succ m=>omega
        rw[V U];exact R _ s p
       ·cases p⟩)
     rw[M,<-asu,<-ase]at this;exact this
  ·rename_i a0
   exact y.mono B
 ·exact y.mono B
def Sd{hg:Nat->Option ea}{R1 R2:bE}{e:Env}(l:∀b o u,R1 b o u->R2 b o u):∀(cs:List EV) {f:bD}
 (i:∀k,(zw hg cs).2.1.contains k=true->∀t r m wr,hg k=some (.arr t r m wr)->ZS e R2 k r m) (g:(zw hg cs).2.2=true) (a:LR (VR R1 (some e)) (bX cs) f),LR (VR R2 (some e)) (bX (zw hg cs).1) f
 |[],f,i,g,a=>by
  have:f=[]:=aqT (by simpa[bX]using a.1);subst this;exact LR.nil
 |c::cs,f,i,g,a=>by
  simp only[zw,apS]at g;cases f with
  |nil=>have:=a.1;simp[bX]at this
  |cons u f=>
   simp only[zw,bX];exact LR.cons (ail l c (λk h=>i k (by simp only[zw];simp at h⊢;exact .inl h)) g.1 (a.2 0 _ u rfl rfl))
    (Sd l cs (λk h=>i k (by simp only[zw];simp at h⊢;exact .inr h)) g.2 ⟨by simpa[bX]using a.1,λj c v p q=>a.2 (j+1) c v (by simpa[bX]using p) (by simpa using q)⟩)
def ZT(hg:Nat->Option ea)(d:Nat)(c:iZ)(aS:List EV)(D:bH)(k:EV->eQ->aZ->Fr->Option b):Option (Option b):=
 match cond c.pu (zw hg aS) (aS,[],true)with
 |(f,a,g)=>match lu hg c.pu (mO (fQ D (1000*(d+1))) c.ps) f with
 |some (vs,gs)=>match Dj hg D (1000*(d+1)) c.hs with
  |some ws=>match uc c.cs (vs++ws)with
   |some x=>cond (Kh (1000*(d+1)) D && (a++gs).all (λk=>(Pf D k).isNone) && D.all (λq=>c.hs.any λr=>Nat.beq r.1 q.1) && (c.pu||(a++gs).all (Lf hg)))
    (some (cond g (aW (c.M x) λy=>c.el y b λe H=>cond c.own
     (cond (lY D (bz H) && (enc e).gp (λk=> !FB D k))
      (k (tU (fQ D (1000*(d+1))) e) (Ap (fQ D (1000*(d+1))) H++(ZR D++cond c.pu [] (gD hg (a++gs)))) ((a++gs)++D.map (·.2)) (.bS (1000*(d+1)))) none)
     (cond ((enc e).gp (λ_=>true) && D.isEmpty) (k e (cond c.pu [] (gD hg (a++gs))) (a++gs) .no) none)) none))
    none
   |none=>none
  |none=>none
 |none=>none
def ZU:EV->Bool
 |.un=>false
 |_=>true
def ZV(hg:Nat->Option ea)(d:Nat)(c:iZ)(aS:List EV)(k:EV->eQ->aZ->Fr->Option b):Option (Option b):=
 cond (aS.all ZU) (ZT hg d c aS (Lb hg c.hs (o8 c.ps aS [])) k) none
def Dl(hg:Nat->Option ea)(d:Nat)(f:FuncId)(aS:List EV){R:Type}(k:EV->eQ->aZ->Fr->Option R):List iZ->Option R
 |[]=>none
 |c::cs=>cond (Nat.beq c.f f) (match ZV hg d c aS k with
  |some r=>r
  |none=>Dl hg d f aS k cs) (Dl hg d f aS k cs)
def fnE(ev:Nat->EV):Operand->Option (FuncId×List EV×List EV)
 |.func f=>some (f,[],[])
 |.tmp i=>match ev i with
  |.v (.func (.func g) ⟨[]⟩ ⟨[]⟩)=>some (g,[],[])
  |.cl (.func g) a cs=>some (g,a,cs)
  |_=>none
 |_=>none
def afp:bH->Nat->Nat->Bool
 |[],_,_=>false
 |(m,e)::l,n,d=>cond (Nat.beq m n && Nat.beq e d) true (afp l n d)
def Dm(T:TypeId->bs)(ev:Nat->EV)(hg:Nat->Option ea)(d:Nat)(t:TypeId)(x:Operand)(g f i:iL)(k:EV->eQ->aZ->Fr->Option b):Option b:=
 match g,f,i with
 |none,some y,none=>match(T t).el with
  |some (e,l,_,_)=>match eI ev x with
   |.ow j=>match hg j with
    |some (.arr a r o wr)=>match qL ev y with
     |some h=>cond (Nat.beq e a && Nat.beq l r.w && wr && !(Nat.beq d j)) (aW (jm o 0 h) λp=>k (.ow d) [(d,some (.arr e r p true)),(j,none)] [j] (.one d)) none
     |none=>none
    |_=>none
   |_=>none
  |none=>none
 |some y,none,none=>P3 T ev hg t x y λc m=>k c [] m .no
 |_,_,_=>none
def exO(T:TypeId->bs)(s:List iZ)(n:Nat)(ev:Nat->EV)(hg:Nat->Option ea)(o:Oper)(k:EV->eQ->aZ->Fr->Option b):Option b:=
 match o.dst with
 |some d=>cond (Nat.blt d n) (match o.op with
  |.call ⟨.value f,h,_⟩=>match fnE ev f with
   |some (f,u,cs)=>Dl hg d f (u++(h.toList.map (eI ev)++cs)) k s
   |none=>none
  |.box t x=>exM T ev hg d (.box t x) k
  |.alloc t=>exM T ev hg d (.alloc t) k
  |.makeSlice t x y=>cond (afp gNr n d) (De T ev d t x y k) (exM T ev hg d (.makeSlice t x y) k)
  |.makeMap t x=>exM T ev hg d (.makeMap t x) k
  |.slice t x m l q=>cond (afp gNr n d) (Dm T ev hg d t x m l q k) (exM T ev hg d (.slice t x m l q) k)
  |.buildSlice t i j=>match ZI ev i j.toList with
   |some p=>P1 T d t p k
   |none=>cond (afp gNr n d) (PU T ev hg d t i j.toList k) (exM T ev hg d (.buildSlice t i j) k)
  |.call ⟨.builtin .append,h,r⟩=>match ZJ ev hg h,h.toList.head?,r with
   |some p,some x,⟨[t,w]⟩=>P2 T ev hg d t w x p k
   |_,_,_=>exM T ev hg d (.call ⟨.builtin .append,h,r⟩) k
  |.mapEntry t x y=>BT T ev hg t x y λc g a=>k c g a .no
  |op=>exR T ev hg op λc a=>k c [] a .no) none
 |none=>match o.op with
  |.store t x y=>Iw T ev hg t x y λg a=>k .un g a .no
  |.mapUpdate t x y v=>wj T ev hg t x y v λg a=>k .un g a .no
  |.insert t x y v=>wj T ev hg t x y v λg a=>k .un g a .no
  |.entryStore t x y v=>zu T ev hg t x y v λg a=>k .un g a .no
  |.call ⟨.builtin .clear,⟨[x]⟩,⟨[t]⟩⟩=>Ix T ev hg t x λg a=>k .un g a .no
  |_=>none
section
variable{P:Program}{T:TypeId->bs}{ev:Nat->EV}{hg:Nat->Option ea}{n d:Nat}{ty:TypeId}{pos:String}{af:dI}{gd:fE}
variable{st:St}{K:St->Prop}
def aim{args:fU}(b:Sk ev st)(a:∀c∈args.toList.map (eI ev),c≠.un):args.toList.map st.ev=bX (args.toList.map (eI ev)):=by
 rw[dR,aq4];refine aqJ λx f=>?_;exact b.is rfl (a _ (ap4.2 ⟨x,f,rfl⟩))
def Lg{p:Nat->Bool}:∀{os:eQ} {h:Hp},Bz hg os->(∀k o,(k,o)∈os->p k=false)->hL p (bz os++h)=bz os++hL p h
 |[],h,_,_=>rfl
 |(k,o)::os,h,b,f=>by
  obtain⟨t,r,g,wr,j,rfl⟩:=b k o (by simp);have i:=Lg (os:=os) (h:=h) (λk o a=>b k o (by simp[a])) (λk o a=>f k o (by simp[a]));simp only[bz,aq6,hL,i,f k _ (by simp:(k,some (ea.arr t r g false))∈(k,some (ea.arr t r g false))::os)];rfl
def W4(π:Nat->Nat)(f:PO){cs:List EV}(h:jo cs):(iv (re π f) cs).1=(iv f cs).1.map (IC π)/\(iv (re π f) cs).2=(iv f cs).2/\jo (iv f cs).2:=by
 cases f with
 |box t l=>
  obtain⟨a,b,c⟩:=gC π l h;exact⟨by simp only[re,iv,a,Option.map,IC],by simp only[re,iv,b],c⟩
 |arr t r wr=>
  refine⟨?_,rfl,h.tail⟩;simp only[re,iv];rcases i_ h with e|⟨s,x,e⟩
  ·rw[e];rfl
  ·rw[e]
   simp only[afk];cases eB s (.sl r) x<;>rfl
 |mp d j o=>
  refine⟨?_,rfl,h.tail⟩;simp only[re,iv];rcases i_ h with e|⟨s,x,e⟩
  ·rw[e];rfl
  ·rw[e]
   simp only[mpE];cases eB s (.sl (.pr j o)) x<;>rfl
 |nr t r i=>
  cases i with
  |none=>
   refine⟨?_,rfl,h.tail⟩;simp only[re,iv];rcases i_ h with e|⟨s,x,e⟩
   ·rw[e];rfl
   ·rw[e]
    simp only[nrE];cases eB s (.sl (.sl r)) x<;>rfl
  |some q=>
   obtain⟨v,p⟩:=q;refine⟨?_,rfl,h.tail.tail⟩;simp only[re,iv];rcases i_ h with e|⟨s,x,e⟩
   ·rw[e];rfl
   ·rw[e]
    rcases i_ h.tail with g|⟨m,u,g⟩
    ·rw[g];rfl
    ·rw[g]
     simp only[aii];cases eB s (.sl (.sl r)) x with
     |none=>rfl
     |some y=>cases eB m (.i .i64) u<;>rfl
 |qr t k w=>
  refine⟨?_,rfl,h.tail⟩;simp only[re,iv];rcases i_ h with e|⟨s,x,e⟩
  ·rw[e];rfl
  ·rw[e]
   simp only[qrE];cases eB s (.sl (.i .i64)) x<;>rfl
def Dn{D:bH}{B:Nat}:∀(i:List (Nat×PO)) {ws:List EV} (rest:List EV),Dj hg D B i=some ws->jo (ws++rest)->
 (∀p j,bC (q_ i (ws++rest)) p=some j->∃k o,ua D p=some k/\hg k=some o/\Le o=true/\∀Rd e w,OR Rd e w k (b_ o)->OR Rd e w k (b_ (IC (fQ D B) j)))/\
 (∀p,i.any (λr=>Nat.beq r.1 p)=true->∃k o,ua D p=some k/\hg k=some o/\Le o=true)
 |[],ws,rest,h,u=>⟨λp j l=>(by cases l),λp F=>(by cases F)⟩
 |(p,y)::i,ws,rest,h,u=>by
  simp only[Dj]at h;split at h
  ·rename_i k t
   split at h
   ·rename_i o l
    obtain⟨s,g⟩:=aY h;split at g
    ·rename_i a A
     split at g
     ·rename_i b C
      cases g;have v:jo (a++(b++rest)):=by rw[<-aqm];exact u
      obtain⟨z,N,m,M⟩:=Sb (re (fQ D B) y) (b++rest) A;obtain⟨J,L,O⟩:=W4 (fQ D B) y v;have G:jo (b++rest):=λc E=>v c (ap3.2 (.inr E));obtain⟨H,I⟩:=Dn i rest C G;refine⟨λq j f=>?_,λq f=>?_⟩
      ·simp only[q_,aqm,bC]at f
       rw[L]at z;rw[z]at f;by_cases e:q=p
       ·subst e
        rw[aqp]at f;simp only[aqh]at f;rw[J,f]at m;simp only[Option.map,apU]at m;subst m;exact⟨k,o,t,l,s,λRd e w=>M Rd e w k⟩
       ·rw[iG e]at f
        exact H q j f
      ·simp only[arI,aqO]at f
       rcases f with f|f
       ·have:=apX f
        subst this;exact⟨k,o,t,l,s⟩
       ·exact I q f
     ·cases g
    ·cases g
   ·cases h
  ·cases h
def sX(hg:Nat->Option ea):∀gs:aZ,Bz hg (gD hg gs)/\∀p∈gD hg gs,gs.contains p.1=true
 |[]=>⟨λk o h=>(by cases h),λp h=>(by cases h)⟩
 |k::gs=>by
  obtain⟨a,b⟩:=sX hg gs;simp only[gD];split
  ·rename_i t r g wr f
   refine⟨λj o h=>?_,λp h=>?_⟩
   ·rcases aqj.1 h with h|h
    ·cases h;exact⟨t,r,g,wr,f,rfl⟩
    ·exact a j o h
   ·rcases aqj.1 h with rfl|h
    ·simp
    ·have:=b p h;simp at this⊢;exact .inr this
  ·exact⟨a,λp h=>by have:=b p h;simp at this⊢;exact .inr this⟩
def ZW{q:Bs}{l:bE}{e:Env}{h:Hp}{w:World}{p:aZ}(z:SR q l e h w)(y:HC hg p h):∀gs:aZ,(∀k,gs.contains k=true->p.contains k=true)->
 ∃e1,nk q l e h w e1 (bz (gD hg gs)++h)/\∀k,gs.contains k=true->∀t r i wr,hg k=some (.arr t r i wr)->VR (bO q l e1 (bz (gD hg gs)++h) w) none (.sl false r.w (List.map (bF r) i)) (e.sv k)
 |[],_=>⟨e,nk.refl z,λk f=>by simp at f⟩
 |k::gs,A=>by
  obtain⟨e1,g,B⟩:=ZW z y gs (λj a=>A j (by simp at a⊢;exact .inr a));simp only[gD];split
  ·rename_i t r i wr f
   have I:HC hg p (bz (gD hg gs)++h):=y.put (sX hg gs).1 λ_ h=>h;obtain⟨M,L⟩:=I k (A k (by simp)) t r i wr f;obtain⟨C,E,v,F,G,H⟩:=g.sr.Pm L;refine⟨C,g.trans ⟨E,v,F,G⟩,λj a o m u s b=>?_⟩;by_cases e:j=k
   ·subst e
    rw[f]at b;cases b;rw[<-g.sv j];exact H
   ·have a:gs.contains j=true:=by simp at a⊢;exact a.resolve_left e
    exact(B j a o m u s b).mono v
  ·rename_i J
   refine⟨e1,g,λj a o m u s b=>?_⟩;by_cases e:j=k
   ·subst e
    exact absurd b (J _ _ _ _)
   ·exact B j (by simp at a⊢;exact a.resolve_left e) o m u s b
def P6{e:Env}(g:SR H j e C m)(f:a_ C B=some (b_ Q))(a:Le Q=true):e.cM B=0:=by
 have:=g.ob B _ f;cases Q with
 |box t cs=>exact this.1
 |arr t r b wr=>exact this.2.2.1 a
 |mp d i l h=>exact this.1
 |nr t r b a=>exact this.1
 |qr t a k b=>exact this.1
def afr{h:Hp}(a:∀p∈R,p.1≠B):a_ (bz R++h) B=a_ h B:=by
 rw[ep,BQ];rw[apQ];simp only[ary,asH,not_exists,not_and];exactλp b=>a p b
def Lh{D:bH}{cs:List EV}:bX (ra (fQ D B) cs)=(bX cs).map (AV.ie (fQ D B)):=by rw[l5,kF]
section
variable{c:iZ}{aS:List EV}{D:bH}{vs ws:List EV}{gs:aZ}{x:ky c.cs}
def Gm{e:Env}(t:SR H j e C m)(i:∀p,c.hs.any (λr=>Nat.beq r.1 p)=true->∃k o,ua D p=some k/\hg k=some o/\Le o=true)(l:D.all (λq=>c.hs.any λr=>Nat.beq r.1 q.1)=true)
 (s:∀k o,(∃p,ua D p=some k)->hg k=some o->a_ C k=some (b_ o)):Handed D e C:=by
 intro p k f;have h:=aqg.1 l _ (f_ f);obtain⟨u,o,a,b,g⟩:=i p h;rw[f]at a;cases a;have:=s k o ⟨p,f⟩ b;exact⟨⟨_,this⟩,P6 t this g⟩
def rh(M:lu hg c.pu (mO (fQ D (1000*(d+1))) c.ps) aS=some (vs,gs))(Z:Dj hg D (1000*(d+1)) c.hs=some ws)(A:vs++ws=hS c.cs x)
 (H:gs.all (λk=>(Pf D k).isNone)=true) (I:D.all (λq=>c.hs.any λr=>Nat.beq r.1 q.1)=true) (m:(c.pu||gs.all (Lf hg))=true) (U:c.pu=false) (Q:Bv (D.map (·.2))=true) {st:St} (s:Hk hg (gs++D.map (·.2)) st):
 RJ st D (1000*(d+1)) (bz (gD hg gs)++st.h) (bz (c.H0 x)) (bX (c.as x)) (bX aS):=by
 intro E i e w us Y R;have y:jo (vs++ws):=by rw[A];exact rf _ _
 have z:jo ws:=λc O=>y c (ap3.2 (.inr O));obtain⟨e1,b,v1⟩:=ZW Y s.hc gs (λk a=>by simp at a⊢;exact .inl a);have X:∀k,gs.contains k=true->Lf hg k=true:=λk a=>by
  rw[U]at m;exact aqg.1 (by simpa using m) k (by simpa using a)
 have g:GF hg (bO E i e st.h w) (bO E i e1 (bz (gD hg gs)++st.h) w) e e1 gs:=
  ⟨b.rd,b.bS,b.sv,v1,λk a t cs _ N=>by have:=X k a;unfold Lf at this;rw[N]at this;cases this⟩
 obtain⟨j,l⟩:=kK g _ ws z M (λk h=>h);obtain⟨B,C,r3⟩:=gC (fQ D (1000*(d+1))) c.ps y;rw[A]at B C j l;have L:c.H0 x=q_ c.hs ws:=by unfold iZ.H0;rw[<-C,j]
 obtain⟨F,x2⟩:=Dn c.hs [] Z (by simpa using z);rw[aqy]at F;have u:∀k o,(∃p,ua D p=some k)->hg k=some o->a_ (bz (gD hg gs)++st.h) k=some (b_ o):=by
  rintro k o ⟨p,a⟩ f;have W:Pf D k=some p:=lZ Q (f_ a);rw[afr λq V=>?_]
  ·exact s.at (by simp only[atq,ap3,aqQ];exact .inr (ap4.2 ⟨_,f_ a,rfl⟩)) f
  ·rintro rfl
   have J:=(sX hg gs).2 q V;have:=aqg.1 H q.1 (by simpa using J);rw[W]at this;cases this
 refine⟨e1,b,Gm b.sr x2 I u,λp ob v=>?_,?_⟩
 ·rw[L,da]at v
  obtain⟨o',S,rfl⟩:=aqo.1 v;obtain⟨k,o,G,y2,y3,y4⟩:=F p o' S;refine⟨k,_,G,u k o ⟨p,G⟩ y2,λRd f=>?_⟩;rw[<-Dh];exact y4 Rd e1 w f
 ·have:=l us R
  rw[B,Lh]at this;exact this
def wx{a0:List EV}{B:aZ}(S:zw hg aS=(a0,B,true))(ha:lu hg c.pu (mO (fQ D (1000*(d+1))) c.ps) a0=some (vs,gs))(hw:Dj hg D (1000*(d+1)) c.hs=some ws)(hx:vs++ws=hS c.cs x)
 (h2:(B++gs).all (λk=>(Pf D k).isNone)=true) (h3:D.all (λq=>c.hs.any λr=>Nat.beq r.1 q.1)=true) (ah:Bv (D.map (·.2))=true) {st:St} (hH:Hk hg ((B++gs)++D.map (·.2)) st):
 Pr st D (1000*(d+1)) (bz (c.H0 x)) (bX (c.as x)) (bX aS):=by
 intro w0 ad e w us C I;have aa:jo (vs++ws):=by rw[hx];exact rf _ _
 have ab:jo ws:=λc l=>aa c (ap3.2 (.inr l));obtain⟨x1,x2⟩:=Dn c.hs [] hw (by simpa using ab);rw[aqy]at x1;have H:∀k o,(B++gs).contains k=true->hg k=some o->a_ st.h k=some (b_ o):=λk o f i=>hH.at (by simp at f⊢;rcases f with f|f<;>simp[f]) i;have X:∀k o,(∃p,ua D p=some k)->hg k=some o->a_ st.h k=some (b_ o):=by
  rintro k o ⟨p,f⟩ i;exact hH.at (by simp only[atq,ap3,aqQ];exact .inr (ap4.2 ⟨_,f_ f,rfl⟩)) i
 have Y:Handed D e st.h:=Gm C x2 h3 X;have W:∀k o b,(B++gs).contains k=true->hg k=some o->e.bS k=some b->¬(cB D (1000*(d+1)) e w).hI b:=by
  rintro k o b f i hb (V|⟨p,N,l,R⟩)
  ·have:=(C.base k _ b (H k o f i) hb).2
   simp only[cB]at V;omega
  ·obtain⟨⟨ob,aj⟩,_⟩:=Y p N l
   have:=C.inj _ _ _ _ _ (H k o f i) aj hb R;subst this;have h5:=aqg.1 h2 k (by simpa using f);rw[lZ ah (f_ l)]at h5;cases h5
 have J:∀b o u,bO w0 ad e st.h w b o u->RB D (1000*(d+1)) e w b o u:=by
  rintro b o u ⟨y,M,E⟩;refine⟨y,?_⟩;rintro(V|⟨p,N,l,R⟩)
  ·have:=arT w _ y
   simp only[cB]at V;simp only at this;omega
  ·obtain⟨⟨ob,i⟩,I⟩:=Y p N l
   have:=E N ob i R;omega
 have al:∀k,(B++gs).contains k=true->∀t r z wr,hg k=some (.arr t r z wr)->ZS e (RB D (1000*(d+1)) e w) k r z:=λk f t r z wr i b' O=>by
  obtain⟨y,M,E,Z⟩:=C.ob k _ (H k _ f i);rcases Z with⟨m,v,a,F⟩|⟨b,ae,G,m,v,F,a4,Q,a6,A,a8⟩
  ·rw[v]at O;cases O
  ·rw[m]at O
   cases O;refine⟨G.toList.take (List.map (bF r) z).flatten.length,⟨A.1,λj c u l L=>(A.2 j c u l L).mono J⟩,λj u s=>?_⟩;have U:j<(List.map (bF r) z).flatten.length:=by
    have:=(apV.1 s).1;rw[A.1]at this;exact this
   rw[aqw,apR U]at s;exact⟨by rw[aqV w b' j G t (0,0) Q];simpa using s,W k _ b' f i m⟩
 have g:GF hg (RB D (1000*(d+1)) e w) (RB D (1000*(d+1)) e w) e e (B++gs):=by
  refine⟨λ_ _ _ h=>h,λ_=>rfl,λ_=>rfl,λk f t r z wr i=>?_,λk f t cs ak i=>?_⟩
  ·obtain⟨y,M,E,Z⟩:=C.ob k _ (H k _ f i)
   rcases Z with⟨m,v,a,F⟩|⟨b,ae,G,m,v,F,a4,Q,a6,A,a8⟩
   ·rw[m,F]
    exact VR.sl (rows:=[]) [] (by simp) (by simp) rfl (by simp) (apT _) (aql _) (by simp) (by simp)
   ·rw[v]
    refine VR.sl (G.toList.take (List.map (bF r) z).flatten.length) y M A.1 (λj c u l L=>(A.2 j c u l L).mono J) F a4 (by simp) (λ_=>⟨b,0,rfl,λj u s=>?_⟩);have U:j<(List.map (bF r) z).flatten.length:=by
     have:=(apV.1 s).1;rw[A.1]at this;exact this
    rw[aqw,apR U]at s;exact⟨by rw[aqq,aqV w b j G t (0,0) Q];simpa using s,W k _ b f i m⟩
  ·obtain⟨q0,b,ac,y,M,E⟩:=C.ob k _ (H k _ f i)
   refine⟨b,ac,y,⟨E.1,λj c u l L=>(E.2 j c u l L).mono J⟩,λj u s=>⟨?_,W k _ b f i y⟩⟩;rw[aqV w b j ac.toArray t (0,0) (M.cells ak)];simpa using s
 have I:=Sd (hg:=hg) J aS (by rw[S];exactλk f=>al k (by simp at f⊢;exact .inl f)) (by rw[S]) I;rw[S]at I;obtain⟨m,v⟩:=kK g _ ws ab ha (λk h=>by simp at h⊢;exact .inr h);obtain⟨r1,r2,r3⟩:=gC (fQ D (1000*(d+1))) c.ps aa;rw[hx]at r1 r2 m v;have ag:c.H0 x=q_ c.hs ws:=by unfold iZ.H0;rw[<-r2,m]
 refine⟨Y,λp ob a9=>?_,?_⟩
 ·rw[ag,da]at a9
  obtain⟨o',ai,rfl⟩:=aqo.1 a9;obtain⟨k,o,y1,y2,y3,y4⟩:=x1 p o' ai;refine⟨k,_,y1,X k o ⟨p,y1⟩ y2,?_⟩;rw[<-Dh];exact y4 _ e w ((C.ob k _ (X k o ⟨p,y1⟩ y2)).mono J)
 ·have:=v us I
  rw[r1,Lh]at this;exact this
end
def Li(D:bH):bz (ZR D)=nq D:=by
 induction D with
 |nil=>rfl
 |cons q D a=>simp only[ZR,aqc,bz,nq,Option.map]at a⊢;rw[a]
mutual
def P7:∀c:EV,c.pu=true->(enc c).pu=true
 |.un,_=>rfl
 |.sc s x,h=>by cases s<;>first|rfl|(simp[EV.pu]at h)
 |.nil,_=>rfl
 |.ts r g,h=>by simp[EV.pu]at h
 |.v x,_=>rfl
 |.ow k,_=>rfl
 |.pt k o,_=>rfl
 |.pe k i b o,_=>rfl
 |.sw k l n b,_=>rfl
 |.mp k,_=>rfl
 |.fp cs,h=>by simp[EV.pu]at h
 |.ag cs,h=>by simp only[EV.pu]at h;simp only[enc,AV.pu];exact sY cs h
 |.tu cs,h=>by simp only[EV.pu]at h;simp only[enc,AV.pu];exact sY cs h
 |.cl f a cs,h=>by simp only[EV.pu,apS]at h;simp only[enc,AV.pu,sY a h.1,sY cs h.2];rfl
def sY:∀cs:List EV,EV.FF cs=true->AV.FF (bX cs)=true
 |[],_=>rfl
 |c::cs,h=>by simp only[EV.FF,apS]at h;simp only[bX,AV.FF,P7 c h.1,sY cs h.2];rfl
end
def BV:∀(s:Sc) (x:s.cZ),s.ns=true->∀c∈bF s x,c.pu=true
 |.i _,_,_,c,h=>by simp only[bF,aqe]at h;subst h;rfl
 |.b,_,_,c,h=>by simp only[bF,aqe]at h;subst h;rfl
 |.sl _,_,b,c,h=>by simp[Sc.ns]at b
 |.pr a f,x,b,c,h=>by
  simp only[Sc.ns,apS]at b;simp only[bF,ap3]at h;exact h.elim (BV a x.1 b.1 c) (BV f x.2 b.2 c)
 |.u,_,_,c,h=>by simp[bF]at h
def Se:∀{cs:List AV},(∀c∈cs,c.pu=true)->AV.FF cs=true
 |[],_=>rfl
 |x::cs,a=>by simp[AV.FF,a x (by simp),Se (cs:=cs) λc b=>a c (by simp[b])]
def afs(s:Sc)(x:s.cZ)(f:s.ns=true):(enc (iS s x)).pu=true:=by
 cases s with
 |i k=>rfl
 |b=>rfl
 |sl r=>simp[Sc.ns]at f
 |pr a g=>simp only[iS,enc,gB,AV.pu];exact Se (BV _ _ f)
 |u=>rfl
def ain(b:puH R=true):ah4 (bz R):=by
 intro k ob f;rw[da]at f;obtain⟨o,a,rfl⟩:=aqo.1 f;clear f;have:o.pu=true:=by
  induction R with
  |nil=>cases a
  |cons p R m=>
   obtain⟨j,w⟩:=p;simp only[puH,aqY,apS]at b;simp only[bC]at a;by_cases e:k=j
   ·subst e
    rw[aqp]at a;simp only[aqh]at a;subst a;exact b.1
   ·rw[iG e]at a
    exact m (by simpa[puH]using b.2) a
 cases o with
 |box t cs=>exact sY cs this
 |arr t r g wr=>
  intro c h;obtain⟨q,l,i⟩:=arR.1 h;obtain⟨z,_,rfl⟩:=ap4.1 l;exact BV r z this c i
 |mp d v s u=>
  intro p b;obtain⟨q,_,rfl⟩:=ap4.1 b;exact afs s q.2 this
 |nr t r g a=>cases this
 |qr t a y g=>cases this
def ENE(P:Program)(a:Op)(ev:Nat->EV)(f:FuncId)(aS:List EV):Prop:=
 ∀(st:St) (d:Nat) (ty:TypeId) (pos:String) (af:dI) (gd:fE),Sk ev st->Ki P ⟨some d,a,ty,pos,af,gd⟩ st f (bX aS)
def ZX{c:iZ}(A:c.ok P){L:Op}{aS:List EV}(m:(∀c∈aS,c≠.un)->ENE P L ev c.f aS){k:EV->eQ->aZ->Fr->Option b}{r:b}(hd:d<n)(h:ZV hg d c aS k=some (some r)):
 ∃e os us U,FS P ⟨some d,L,ty,pos,af,gd⟩ n ev hg e os us U/\k e os us U=some r:=by
 unfold ZV at h;obtain⟨a4,h⟩:=aY h;have a3:∀c∈aS,c≠.un:=λc A e=>by
  have:=aqg.1 a4 c A;rw[e]at this;cases this
 have m:=m a3;generalize Lb hg c.hs (o8 c.ps aS [])=D at h;unfold ZT at h;generalize a:cond c.pu (zw hg aS) (aS,[],true)=aw at h;obtain⟨a5,M,ck⟩:=aw;simp only at h;split at h
 ·rename_i vs gs z
  split at h
  ·rename_i ws F
   split at h
   ·rename_i x q
    have q:=wu q;obtain⟨l,h⟩:=aY h;simp only[apS]at l;obtain⟨⟨⟨G,I⟩,J⟩,Z⟩:=l;have B:Bv (D.map (·.2))=true:=by simp only[Kh,apS]at G;exact G.1.2
    have h:=apZ h;obtain⟨rfl,h⟩:=aY h;obtain⟨y,hy,l⟩:=bj h;obtain⟨e,H,a0,Q,Y,v⟩:=A.2 x y hy;rw[a0]at l;have C:=sX hg (M++gs);rcases bL l with⟨R,l⟩|⟨R,a2⟩
    ·obtain⟨g,N⟩:=aY l
     simp only[apS]at g;refine⟨_,_,_,_,λst hn w u j=>?_,N⟩;have X:∀k o,(k,o)∈gD hg (M++gs)->(Fr.bS (1000*(d+1))).p k=false:=λk o W=>by
      cases hp:(Fr.bS (1000*(d+1))).p k with
      |false=>rfl
      |true=>
       obtain⟨t,r',xs,wr,e1,_⟩:=C.1 k o W;have S:=u.at (by have:=C.2 (k,o) W;simp at this⊢;rcases this with this|this<;>simp[this]) e1;rw[j.k k hp]at S;cases S
     cases i:c.pu with
     |false=>
      rw[i]at a;simp only[apW,aqa]at a;obtain⟨rfl,rfl,_⟩:=a;simp only[aqC]at C X;have f:=rh z F q I J Z i B u;have:=SS.aky (P:=P) (op:=L) (ty:=ty) (pos:=pos) (af:=af) (gd:=gd) (d:=d)
       (K:=λs=>s=⟨st.n,jz (some d) (enc (tU (fQ D (1000*(d+1))) e)) (qf (mA (1000*(d+1))) st.t),bz (Ap (fQ D (1000*(d+1))) H++(ZR D++gD hg gs))++hL (mA (1000*(d+1))) st.h⟩) v (m st d ty pos af gd w) f G g.1 g.2 (by omega) (by
       rw[Lg (p:=mA (1000*(d+1))) (h:=st.h) C.1 X,fG,fG,rb,BU,Li,aqm,aqm];rfl)
      exact SS.Zh j.t j.h j.k this
     |true=>
      rw[i]at a;simp only[aqh]at a;have f:=wx a z F q I J B u;have E:=Y i;have:=SS.RK (P:=P) (op:=L) (ty:=ty) (pos:=pos) (af:=af) (gd:=gd) (d:=d)
       (K:=λs=>s=⟨st.n,jz (some d) (enc (tU (fQ D (1000*(d+1))) e)) (qf (mA (1000*(d+1))) st.t),bz (Ap (fQ D (1000*(d+1))) H++(ZR D++[]))++hL (mA (1000*(d+1))) st.h⟩) v (P7 _ E.1) (ain E.2) (m st d ty pos af gd w) f G g.1 g.2 (by omega) (by
       rw[fG,fG,rb,BU,Li,aqm,aqm];rfl)
      exact SS.Zh j.t j.h j.k this
    ·have a1:=A.1 R
     have Q:=Q R;subst Q;obtain⟨g,N⟩:=aY a2;simp only[apS]at g;have hD:D=[]:=by simpa using g.2
     subst hD;have O:c.H0 x=[]:=by unfold iZ.H0;rw[a1];rfl
     rw[O]at v;refine⟨_,_,_,_,λst hn w u j=>?_,N⟩;have V:Hk hg ((M++gs)++([]:bH).map (·.2)) st:=by simpa using u
     cases i:c.pu with
     |false=>
      rw[i]at a;simp only[apW,aqa]at a;obtain⟨rfl,rfl,_⟩:=a;have f:=rh z F q I J Z i B V;rw[O]at f;exact SS.akB v (m st d ty pos af gd w) f g.1 (by omega) rfl
     |true=>
      rw[i]at a;simp only[aqh]at a;have f:=wx a z F q I J B V;rw[O]at f;have E:=Y i;exact SS.ah6 v (P7 _ E.1) (m st d ty pos af gd w) f g.1 (by omega) rfl
   ·cases h
  ·cases h
 ·cases h
def W5{f:List iZ}(i:∀c∈f,c.ok P){o:Op}{aS:List EV}(t:(∀c∈aS,c≠.un)->ENE P o ev v aS){k:EV->eQ->aZ->Fr->Option b}{r:b}(s:d<n)(h:Dl hg d v aS k f=some r):
 ∃e p q l,FS P ⟨some d,o,ty,pos,af,gd⟩ n ev hg e p q l/\k e p q l=some r:=by
 induction f with
 |nil=>cases h
 |cons c cs m=>
  simp only[Dl]at h;rcases bL h with⟨g,a⟩|⟨_,a⟩
  ·have g:=apX g
   split at a
   ·rename_i w u
    subst g;subst a;exact ZX (i c (by simp)) t s u
   ·exact m (λc j=>i c (by simp[j])) a
  ·exact m (λc j=>i c (by simp[j])) a
def aio{x:Operand}{h cs:List EV}{b:fU}{f:iM}(a:fnE ev x=some (v,h,cs))(o:∀c∈h++(b.toList.map (eI ev)++cs),c≠.un):ENE P (.call ⟨.value x,b,f⟩) ev v (h++(b.toList.map (eI ev)++cs)):=by
 intro st d ty pos af gd k;have m:=aim (args:=b) k λc l=>o c (by simp only[ap3];exact .inr (.inl l));rw[kH,kH,<-m];unfold fnE at a;split at a
 ·cases a
  have:=Ki.func (P:=P) (d:=d) (ty:=ty) (pos:=pos) (af:=af) (gd:=gd) (st:=st) (f:=v) (args:=b) (ts:=f);simpa only[bX,aqC,aqy]using this
 ·rename_i i
  split at a
  ·rename_i g j
   cases a;have:=Ki.val (P:=P) (d:=d) (ty:=ty) (pos:=pos) (af:=af) (gd:=gd) (st:=st) (f:=v) (args:=b) (ts:=f) (k.is (x:=.tmp i) j (by intro e;cases e));simpa only[bX,aqC,aqy]using this
  ·rename_i g q p j
   cases a;have:=Ki.cl (P:=P) (d:=d) (ty:=ty) (pos:=pos) (af:=af) (gd:=gd) (st:=st) (f:=v) (args:=b) (ts:=f) (k.is (x:=.tmp i) j (by intro e;cases e));rw[<-aqm];exact this
  ·cases a
 ·cases a
def Lj(A:gw P T){x:Operand}{F i G:iL}{k:EV->eQ->aZ->Fr->Option b}{r:b}(M:d<n)(h:Dm T ev hg d a x F i G k=some r):
 ∃c H p v,FS P ⟨some d,.slice a x F i G,ty,pos,af,gd⟩ n ev hg c H p v/\k c H p v=some r:=by
 unfold Dm at h;split at h
 ·rename_i y
  split at h
  ·rename_i e sz f z N
   split at h
   ·rename_i j R
    split at h
    ·rename_i W u I wr O
     split at h
     ·rename_i C i
      obtain⟨q,J⟩:=aY h;simp only[apS,aq1]at q;obtain⟨⟨⟨s,t⟩,U⟩,o⟩:=q;have s:=apX s;subst s;have t:=apX t;subst t;subst U;have o:d≠j:=λe=>by rw[e,aqp]at o;cases o
      obtain⟨zs,l,Q⟩:=bj J;unfold jm at l;split at l
      ·rename_i X
       obtain rfl:=apZ l;refine⟨_,_,_,_,?_,Q⟩;intro st Y E L B;obtain⟨Z,S⟩:=jA i E;obtain⟨m,rfl⟩:∃m:Nat,C=(m:Int):=⟨C.toNat,by omega⟩;have:=SS.ZL (P:=P) (t:=a) (x:=x) (y:=y) (ty:=ty) (pos:=pos) (af:=af) (gd:=gd) (d:=d) (k:=j) (m:=m) (rows:=List.map (bF u) I) (K:=λV=>V=⟨st.n,jz (some d) (.ow d) (cY d st.t),((d,some (.arr e u.w ((List.map (bF u) I).take m) true))::(j,none)::[])++br d st.h⟩)
        (A.el _ _ N) (E.is R (by intro e;cases e)) (L.at (by simp) O) S o (by rw[ap1];omega) (by omega) rfl
       have w:=SS.fresh B.t B.h this;rw[<-ase]at w;exact w
      ·cases l
     ·cases h
    ·cases h
   ·cases h
  ·cases h
 ·obtain⟨c,p,g,f⟩:=W1 A h
  exact⟨c,_,p,_,FS.read g M,f⟩
 ·cases h
def FS.insert{x y v:Operand}{c:EV}{f:aZ}(h:FS P ⟨none,.mapUpdate a x y v,ty,pos,af,gd⟩ n ev hg c R f O):FS P ⟨none,.insert a x y v,ty,pos,af,gd⟩ n ev hg c R f O:=by
 intro st i j k l p g e b w next Q m o
 have:=h st i j k l p g e b w next Q m o
 unfold Oper.wp at this⊢;simpa[execOp,Oper.upon]using this
def P8{z:List iZ}(l:gw P T)(C:∀c∈z,c.ok P){k:EV->eQ->aZ->Fr->Option b}{r:b}(h:exO T z n ev hg I k=some r):
 ∃c s m u,FS P I n ev hg c s m u/\k c s m u=some r/\∀d,I.dst=some d->d<n:=by
 obtain⟨L,A,ty,pos,af,gd⟩:=I;unfold exO at h;split at h
 ·rename_i d w
  simp only at w;subst w;obtain⟨B,j⟩:=aY h;have o:d<n:=apY B;have E:∀v,some d=some v->v<n:=λv e=>by cases e;exact o
  have q:(∃c s m u,FS P ⟨some d,A,ty,pos,af,gd⟩ n ev hg c s m u/\k c s m u=some r)->∃c s m u,FS P ⟨some d,A,ty,pos,af,gd⟩ n ev hg c s m u/\k c s m u=some r/\∀v,some d=some v->v<n:=by
   rintro⟨c,s,m,u,a,g⟩;exact⟨c,s,m,u,a,g,E⟩
  split at j
  ·rename_i f J Q i
   simp only at i;subst i;split at j
   ·rename_i M N cs F
    exact q (W5 (ty:=ty) (pos:=pos) (af:=af) (gd:=gd) C (λG=>aio F G) o j)
   ·cases j
  ·rename_i i;simp only at i;subst i;exact q (vk l o j)
  ·rename_i i;simp only at i;subst i;exact q (vk l o j)
  ·rename_i i
   simp only at i;subst i;rcases bL j with⟨_,j⟩|⟨_,j⟩
   ·exact q (K3 l o j)
   ·exact q (vk l o j)
  ·rename_i i;simp only at i;subst i;exact q (vk l o j)
  ·rename_i i
   simp only at i;subst i;rcases bL j with⟨_,j⟩|⟨_,j⟩
   ·exact q (Lj l o j)
   ·exact q (vk l o j)
  ·rename_i i
   simp only at i;subst i;split at j
   ·rename_i p y
    exact q (WZ (ty:=ty) (pos:=pos) (af:=af) (gd:=gd) l o y j)
   ·rcases bL j with⟨_,j⟩|⟨_,j⟩
    ·exact q (WX l o j)
    ·exact q (vk l o j)
  ·rename_i i;simp only at i;subst i
   split at j
   ·rename_i p x t O y H
    exact q (W0 (ty:=ty) (pos:=pos) (af:=af) (gd:=gd) l o y H j)
   ·exact q (vk l o j)
  ·rename_i i;simp only at i;subst i
   obtain⟨c,_,_,_,_,_,_,_,a,g⟩:=Dg (ty:=ty) (pos:=pos) (af:=af) (gd:=gd) l o j;exact q ⟨c,_,_,_,a,g⟩
  ·obtain⟨c,m,a,g⟩:=aie l j
   exact q ⟨c,_,m,_,FS.read a o,g⟩
 ·rename_i w
  simp only at w;subst w;split at h
  ·rename_i i;simp only at i;subst i
   obtain⟨s,m,a,g⟩:=PW (ty:=ty) (pos:=pos) (af:=af) (gd:=gd) l h;exact⟨_,_,_,_,a,g,λd e=>by cases e⟩
  ·rename_i i;simp only at i;subst i
   obtain⟨s,m,a,g⟩:=An (ty:=ty) (pos:=pos) (af:=af) (gd:=gd) l h;exact⟨_,_,_,_,a,g,λd e=>by cases e⟩
  ·rename_i i;simp only at i;subst i
   obtain⟨s,m,a,g⟩:=An (ty:=ty) (pos:=pos) (af:=af) (gd:=gd) l h;exact⟨_,_,_,_,FS.insert a,g,λd e=>by cases e⟩
  ·rename_i i;simp only at i;subst i
   obtain⟨s,m,a,g⟩:=Iz (ty:=ty) (pos:=pos) (af:=af) (gd:=gd) l h;exact⟨_,_,_,_,a,g,λd e=>by cases e⟩
  ·rename_i i;simp only at i;subst i
   obtain⟨s,m,a,g⟩:=PY (ty:=ty) (pos:=pos) (af:=af) (gd:=gd) l h;exact⟨_,_,_,_,a,g,λd e=>by cases e⟩
  ·cases h
end
def W6(P:Program)(d:FuncId)(lb:eb)(c:List eb)(Cl:World->Prop):Prop:=
 ∀(l:Nat) (J:Nat->World->Prop) (W:World),(∀j W,J j W->Cl W)->(∀j W,J j W->J j W.drew)->
  (∀j b x,c[j]? =some x->J j b->YieldAt Fence.wide 0 P l x b λe a=>e=.returned (.bool true)/\J (j+1) a)->
  J 0 W->CallsIn Fence.wide 0 P d (#[.func (.yield l) #[] #[]]++lb) W λe a=>(∃v,e=.returned v)/\J c.length a
section
variable{P:Program}{st:St}{dA:Exit->St->Prop}
end
variable{g:Bool}{D:EV}{d:Nat}{G:Nat->Option ea}{A:St}{E:bp}{K:aZ}
def akM{b x y:Bool}(h:cond b x y=true):(b=true/\x=true)\/(b=false/\y=true):=by
 cases b with
 |true=>exact .inl ⟨rfl,h⟩
 |false=>exact .inr ⟨rfl,h⟩
structure cL where
 n:Nat
 t:List (Nat×EV)
 h:eQ
def bm(E:cL):St:=⟨E.n,gu E.t,bz E.h⟩
def Lk:bU->EV->List (Nat×EV)->List (Nat×EV)
 |some d,c,t=>(d,c)::t
 |none,_,t=>t
def Ll(d:bU)(c:EV)(t:List (Nat×EV)):gu (Lk d c t)=jz d (enc c) (gu t):=by cases d<;>rfl
def akN(p:Nat->Bool):ea->Bool
 |.nr _ _ _ a=>match a with
  |some (_,some j)=> !p j
  |_=>true
 |.qr _ a _ _=>match a with
  |some j=> !p j
  |none=>true
 |o=>(b_ o).gp p
def Dp(p:Nat->Bool)(h:eQ):Bool:=h.all λq=> !p q.1 && (match q.2 with
 |some o=>akN p o
 |none=>true)
def aft{p:Nat->Bool}(h:akN p Q=true):(b_ Q).gp p=true:=by
 cases Q with
 |qr t d f e=>
  refine CS λc a=>?_;obtain⟨i,_,rfl⟩:=ap4.1 a;cases d with
  |none=>rfl
  |some j=>exact h
 |nr t r e d=>
  refine CS λc a=>?_;have b:∀c∈e.map (WO r),c.gp p=true:=λc a=>by
   obtain⟨x,_,rfl⟩:=ap4.1 a;cases x<;>rfl
  match d,h,a with
  |none,_,a=>exact b c a
  |some (i,none),_,a=>
   rcases asz a with a|rfl
   ·exact b c a
   ·rfl
  |some (i,some j),h,a=>
   rcases asz a with a|rfl
   ·exact b c a
   ·exact h
 |_=>exact h
def l7{p:Nat->Bool}:∀{h:eQ},Dp p h=true->oU p (bz h)=true
 |[],_=>rfl
 |(k,o)::h,a=>by
  simp only[Dp,aqY,apS]at a;have b:=l7 (p:=p) (h:=h) (by simpa[Dp]using a.2);unfold oU at b⊢;simp only[bz,aqY,b,ate,apS];refine⟨a.1.1,?_⟩;cases o with
  |none=>rfl
  |some o=>exact aft a.1.2
def la(a:Fr)(E:cL):Bool:=match a with
 |.no=>true
 |.one d=>zd (Fr.one d).p (gu E.t) && Dp (Fr.one d).p E.h
 |.bS B=>zd (Fr.bS B).p (gu E.t) && Dp (Fr.bS B).p E.h
def qX.no:qX .no A:=⟨λx=>vd _,λk ob _=>ob.vd,λk h=>by cases h⟩
def qX.of(c:zd O.p A.t=true)(b:oU O.p A.h=true):qX O A:=
 ⟨C1 c,λk ob a=>C2 b a,λk a=>ny (oW b a)⟩
def W7{E:cL}(h:la O E=true):qX O (bm E):=by
 cases O with
 |no=>exact qX.no
 |one d=>simp only[la,apS]at h;exact qX.of h.1 (l7 h.2)
 |bS B=>simp only[la,apS]at h;exact qX.of h.1 (l7 h.2)
def Sk.enc(E:cL):Sk (cW E.t) (bm E):=λi=>.inr (cH E.t i)
def Hk.enc(E:cL)(a:aZ):Hk (bC E.h) a (bm E):=λk _=>da E.h k
noncomputable def akO:Nat:=Classical.choose (⟨1,rfl⟩:∃n:Nat,n=1)
def afu:akO=1:=Classical.choose_spec (⟨1,rfl⟩:∃n:Nat,n=1)
open Classical in
noncomputable def aip{R:Type}(f:Bool->Option R):Option R:=match f true,f false with
 |some a,some b=>if a=b then some a else none
 |_,_=>none
noncomputable def dem(f:Bool->Option b):Option b:=Nat.rec (motive:=λ_=>Option b) none (λ_ _=>aip f) akO
def aiq(f:Bool->Option b):dem f=aip f:=by
 unfold dem;rw[afu];rfl
def sZ{f:Bool->Option b}{r:b}:dem f=some r↔f true=some r/\f false=some r:=by
 rw[aiq];unfold aip;cases d:f true with
 |none=>simp
 |some a=>
  cases g:f false with
  |none=>simp
  |some c=>
   simp only;split
   ·rename_i h;subst h;simp
   ·rename_i h
    simp only[apU,reduceCtorEq,asv,not_and];rintro rfl e;exact h e.symm
inductive ItT where
 |go (d:Nat) (t:TypeId) (x:Operand)
 |nx (d:Nat) (x:Operand)
 |en (d:Nat) (x:Operand)
structure ItB where
 k:Nat
 km:Nat
 n0:Int
 m:Int
 c:Int
 kc:Sc
 vc:Sc
 es:List (kc.cZ×vc.cZ)
 d:TypeDesc
structure air where
 d:Nat
 t:TypeId
 x:Operand
 c:EV
 r:Sc
 xs:List r.cZ
def ais(d:Nat)(t:TypeId)(x:Operand):EV->Option air
 |.sc (.sl r) a=>some ⟨d,t,x,.sc (.sl r) a,r,a⟩
 |.ts r a=>some ⟨d,t,x,.ts r a,r,a⟩
 |.nil=>some ⟨d,t,x,.nil,.b,[]⟩
 |_=>none
def akP(o:Oper)(a:Nat->EV):Option air:=match o.dst with
 |some d=>match o.op with
  |.binOp .eql t x (.const (.slice none 0 0)) _=>ais d t x (eI a x)
  |_=>none
 |none=>none
section
variable(T:TypeId->bs)(CT:List iZ)
noncomputable def pa(o:Oper)(E:cL)(k:cL->Option b):Option b:=
 match akP o (cW E.t)with
 |some q=>cond (Nat.blt q.d E.n && Nat.blt 0 q.r.w && (T q.t).el.isSome) (cond (o5 q.xs) (dem λa=>k ⟨E.n,(q.d,.sc .b a)::E.t,E.h⟩) (k ⟨E.n,(q.d,.sc .b false)::E.t,E.h⟩)) none
 |none=>exO T CT E.n (cW E.t) (bC E.h) o λc e f d=>cond (la d E) (k ⟨E.n,Lk o.dst c E.t,e++E.h⟩) none
def Dq(d:bU)(E:cL):cL:=⟨E.n,Lk d (.v (.tuple ⟨[]⟩)) E.t,E.h⟩
def Aq(d:bU)(n:Nat):Bool:=match d with
 |some d=>Nat.blt d n
 |none=>true
noncomputable def exG(d:bp)(o:Oper)(E:cL)(k:cL->Option b):Option b:=
 match o.guard with
 |none=>pa T CT o E k
 |some (j,a)=>match(d[j]?).bind (·.dst)with
  |some s=>match cW E.t s with
   |.sc .b c=>cond (Nat.blt s E.n && Aq o.dst E.n) (cond c
    (cond a (pa T CT o ⟨E.n,(s,.sc .b true)::E.t,E.h⟩ k) (k (Dq o.dst ⟨E.n,(s,.sc .b true)::E.t,E.h⟩)))
    (cond a (k (Dq o.dst ⟨E.n,(s,.sc .b false)::E.t,E.h⟩)) (pa T CT o ⟨E.n,(s,.sc .b false)::E.t,E.h⟩ k))) none
   |.v (.tuple ⟨[]⟩)=>cond (Nat.blt s E.n && Aq o.dst E.n) (k (Dq o.dst E)) none
   |_=>none
  |none=>none
noncomputable def BA(a:bp):bp->(E:cL)->{R:Type}->(cL->Option R)->Option R
 |[],E,_,k=>k E
 |o::l,E,_,k=>exG T CT a o E λb=>BA a l b k
structure y7 where
 d:bU
 c:EV
 os:eQ
 us:aZ
 fr:Fr
 sf:Option ea
def Ar(t:List (Nat×EV)):List y7->List (Nat×EV)
 |[]=>t
 |u::a=>Ar (Lk u.d u.c t) a
def lx(h:eQ):List y7->eQ
 |[]=>h
 |u::a=>lx (u.os++h) a
def alE(s:Option ea)(_:Nat)(ob:Ob):Prop:=∃d b e c a,s=some (.mp d b e c)/\ob=b_ (.mp d b e (dS b c a ((bJ b c a).getD (zeroV e))))
def hV(u:y7):En:=⟨u.d,enc u.c,bz u.os,u.us,u.fr.p,alE u.sf⟩
def nwE(done:List y7)(k:Nat):Bool:=done.all λw=> !eW k (bz w.os)
def sfE(E:cL)(o:Oper)(a:aZ)(done:List y7):Option ea:=match o.op with
 |.lookup _ _ _ false=>match a with
  |[k]=>cond (nwE done k) (bC E.h k) none
  |_=>none
 |_=>none
def aiu(o:Oper)(a:eQ)(done:List y7):Bool:=match o.op with
 |.mapEntry _ _ _=>a.all λp=>nwE done p.1
 |_=>false
def Dr(done:List y7)(i:Nat):List Edge->Option EV
 |[]=>none
 |e::a=>cond (Region.binds .any e) (match done[e.on]? with
  |some u=>match u.d with
   |some d=>cond (Nat.beq d i) (some u.c) (Dr done i a)
   |none=>Dr done i a
  |none=>Dr done i a) (Dr done i a)
def lR(l:bp)(i:Nat):Bool:=match l with
 |[]=>true
 |o::l=>match o.dst with
  |some d=>cond (Nat.beq d i) false (lR l i)
  |none=>lR l i
def P9(l:bp)(t:List (Nat×EV))(done:List y7)(a:List Edge)(i:Nat):EV:=
 match Dr done i a with
 |some c=>c
 |none=>cond (lR l i) (cW t i) (cond (Zf l done.length i) (cW t i) .un)
def ZY(v u:y7):Bool:=v.os.all (λp=> !eW p.1 (bz u.os) && !u.us.contains p.1) && u.os.all (λp=> !v.us.contains p.1)
def ZZ(v u:y7):Bool:=match u.fr with
 |.no=>true
 |.one d=>(enc v.c).gp (Fr.one d).p && Dp (Fr.one d).p v.os
 |.bS B=>(enc v.c).gp (Fr.bS B).p && Dp (Fr.bS B).p v.os
def BB(a:Bool)(l:bp)(u:y7)(j:Nat):Nat->List y7->Bool
 |_,[]=>true
 |i,v::done=>(ZY v u||ee l j i||(a && (v.os.isEmpty && v.sf.isSome))) && ZZ v u && (ZZ u v||ee l j i) && BB a l u j (i+1) done
def FG(l:bp)(E:cL):bp->List y7->{R:Type}->(cL->Option R)->Option R
 |[],done,_,k=>cond (Ak l && KJ 0 l) (k ⟨E.n,Ar E.t done,lx E.h done⟩) none
 |o::g,done,_,k=>match o.guard with
  |none=>exO T CT E.n (P9 l E.t done o.after.toList) (bC (lx E.h done)) o λc f d a=>
   cond (BB (aiu o f done) l ⟨o.dst,c,f,d,a,sfE E o d done⟩ done.length 0 done && la a E) (FG l E g (done++[⟨o.dst,c,f,d,a,sfE E o d done⟩]) k) none
  |some (j,b)=>match done[j]? with
   |some v=>match v.d with
    |some s=>match v.c with
     |.sc .b c=>cond (o.after.toList.any (λe=>Nat.beq e.on j && Region.binds .any e) && Nat.blt s E.n && Aq o.dst E.n) (cond c
      (cond b (exO T CT E.n (P9 l E.t (done.set j ⟨v.d,.sc .b true,v.os,v.us,v.fr,v.sf⟩) o.after.toList) (bC (lx E.h done)) o λc f d a=>
       cond (BB false l ⟨o.dst,c,f,d,a,none⟩ done.length 0 done && la a E) (FG l E g (done.set j ⟨v.d,.sc .b true,v.os,v.us,v.fr,v.sf⟩++[⟨o.dst,c,f,d,a,none⟩]) k) none)
       (cond (BB false l ⟨o.dst,.v (.tuple ⟨[]⟩),[],[],.no,none⟩ done.length 0 done) (FG l E g (done.set j ⟨v.d,.sc .b true,v.os,v.us,v.fr,v.sf⟩++[⟨o.dst,.v (.tuple ⟨[]⟩),[],[],.no,none⟩]) k) none))
      (cond b (cond (BB false l ⟨o.dst,.v (.tuple ⟨[]⟩),[],[],.no,none⟩ done.length 0 done) (FG l E g (done.set j ⟨v.d,.sc .b false,v.os,v.us,v.fr,v.sf⟩++[⟨o.dst,.v (.tuple ⟨[]⟩),[],[],.no,none⟩]) k) none)
       (exO T CT E.n (P9 l E.t (done.set j ⟨v.d,.sc .b false,v.os,v.us,v.fr,v.sf⟩) o.after.toList) (bC (lx E.h done)) o λc f d a=>
        cond (BB false l ⟨o.dst,c,f,d,a,none⟩ done.length 0 done && la a E) (FG l E g (done.set j ⟨v.d,.sc .b false,v.os,v.us,v.fr,v.sf⟩++[⟨o.dst,c,f,d,a,none⟩]) k) none))) none
     |.v (.tuple ⟨[]⟩)=>cond (o.after.toList.any (λe=>Nat.beq e.on j && Region.binds .any e) && Nat.blt s E.n && Aq o.dst E.n)
      (cond (BB false l ⟨o.dst,.v (.tuple ⟨[]⟩),[],[],.no,none⟩ done.length 0 done) (FG l E g (done++[⟨o.dst,.v (.tuple ⟨[]⟩),[],[],.no,none⟩]) k) none) none
     |_=>none
    |none=>none
   |none=>none
end
section
variable{P:Program}{T:TypeId->bs}{CT:List iZ}
def bwI(a:List b):List (Int×b):=((List.range a.length).zip a).reverse.map λp=>((p.1:Int),p.2)
@[reducible] def hdR:Sc:=.pr (.i .i64) (.i .i64)
def akR(q:Int×hdR.cZ):List EV:=[.sc (.i .i64) q.1,iS hdR q.2]
structure akS(P:Program)(gf:Nat):Prop where
 en:Enters P gf
 y:∀(Rd:bE) (us:bD) (xs:List hdR.cZ),(∀b o u,GT b o u->Rd b o u)->LR (VR Rd none) [.fp [encS (.sl hdR) xs]] us->
  ∃es:List eb,es.length=xs.length/\(∀(j:Nat) it x,(bwI xs)[j]? =some it->es[j]? =some x->LR (VR Rd none) (bX (akR it)) x.toList)/\W6 P gf us.toArray es λW=>∀b o u,Rd b o u->W.cell? ⟨b,o,none⟩=some u
structure Place(P:Program)(T:TypeId->bs)(CT:List iZ):Prop where
 t:gw P T
 c:∀c∈CT,c.ok P
 m:P.follows .mixedOrders=true
 b:∀q∈ahc,akS P q
variable(hp:Place P T CT)
include hp
omit hp in
def afw{q:air}(b:ais d a h D=some q):q.d=d/\q.t=a/\q.x=h/\D≠.un/\∃g f c,enc D=.sl g f c/\(c=[]\/f=q.r.w)/\(c=[]↔q.xs=[]):=by
 unfold ais at b;split at b
 ·cases b
  exact⟨rfl,rfl,rfl,(by intro e;cases e),_,_,_,rfl,.inr rfl,by simp⟩
 ·cases b
  exact⟨rfl,rfl,rfl,(by intro e;cases e),_,_,_,rfl,.inr rfl,by simp⟩
 ·cases b
  exact⟨rfl,rfl,rfl,(by intro e;cases e),_,_,_,rfl,.inl rfl,by simp⟩
 ·cases b
omit hp in
def P_(a:List b):o5 a=true↔a=[]:=by cases a<;>simp[o5]
def Gn{E:cL}{k:cL->Option b}{r:b}(h:pa T CT I E k=some r):SS P I (bm E) (λs=>∃o,s=bm o/\k o=some r)/\∀d,I.dst=some d->d<E.n:=by
 unfold pa at h;split at h
 ·rename_i q g
  obtain⟨i,l⟩:=aY h;simp only[apS]at i;obtain⟨X,op,ty,a0,V,gd⟩:=I;unfold akP at g;simp only at g;split at g
  ·rename_i d
   split at g
   ·rename_i t x t2
    obtain⟨p,u,v,G,S,R,Q,F,L,H⟩:=afw g;subst p u v;obtain⟨⟨w,y⟩,z⟩:=i;have j:q.d<E.n:=apY w;have M:0<q.r.w:=apY y;obtain⟨⟨et,Z,Y,ez⟩,D⟩:=arw.1 z;refine⟨?_,λW C=>by cases C;exact j⟩;have N:(bm E).ev q.x=.sl S R Q:=by rw[(Sk.enc E).is rfl G,F]
    refine SS.akE (hp.t.el _ _ D) N (L.imp id λe=>by rw[e];exact M) j λf A=>?_;rcases bL l with⟨n,m⟩|⟨n,m⟩
    ·have:=sZ.1 m
     refine⟨⟨E.n,(q.d,.sc .b f)::E.t,E.h⟩,rfl,?_⟩;cases f
     ·exact this.2
     ·exact this.1
    ·have B:f=false:=by
      cases f with
      |false=>rfl
      |true=>
       have:=H.1 (A rfl);rw[(P_ _).2 this]at n;cases n
     subst B;exact⟨_,rfl,m⟩
   ·cases g
  ·cases g
 ·obtain⟨c,O,U,fr,a,f,j⟩:=P8 hp.t hp.c h
  obtain⟨i,l⟩:=aY f;refine⟨SS.mono (K:=λs=>s=bm ⟨E.n,Lk I.dst c E.t,O++E.h⟩) ?_ λs J=>⟨_,by rw[J];exact cn.refl,_,rfl,l⟩,j⟩;have:=a (bm E) rfl (Sk.enc E) (Hk.enc E U) (W7 i);simp only[bm,Ll,fG]at this⊢;exact this
omit hp in
def cn.Z0{E:cL}(b:cW E.t d=.sc .b g):cn P (bm E) (bm ⟨E.n,(d,.sc .b g)::E.t,E.h⟩):=by
 refine cn.same (λi=>?_) λk=>rfl;rw[cH,cH];simp only[cW];by_cases a:i=d
 ·rw[a,aqp,b];rfl
 ·rw[iG a];rfl
def Z1{a:cL}{k:cL->Option b}{r:b}(h:exG T CT E I a k=some r):GS P E.toArray I (bm a) (λs=>∃i,s=bm i/\k i=some r):=by
 obtain⟨l,D,G,F,v,M⟩:=I;unfold exG at h;split at h
 ·rename_i q
  simp only at q;subst q;exact GS.plain rfl (Gn hp h).1
 ·rename_i j f q
  simp only at q;subst q;split at h
  ·rename_i s J
   split at h
   ·rename_i c A
    obtain⟨m,y⟩:=aY h;simp only[apS]at m;have t:(E.toArray[j]?).bind (·.dst)=some s:=by simpa using J
    have u:s<a.n:=apY m.1;have B:∀d,l=some d->d<a.n:=λd e=>by
     have:=m.2;simp only[e,Aq]at this;exact apY this
    have H:=cn.Z0 (P:=P) A;have L:∀(g:Bool),c=g->f=g->pa T CT ⟨l,D,G,F,v,some (j,f)⟩ ⟨a.n,(s,.sc .b g)::a.t,a.h⟩ k=some r->GS P E.toArray ⟨l,D,G,F,v,some (j,f)⟩ (bm a) (λs=>∃i,s=bm i/\k i=some r):=by
     intro g w x C;subst w x;exact GS.le H (GS.taken rfl t u (by simp[bm,gu,bG,enc,encS]) (Gn hp C).1)
    have K:∀(g:Bool),c=g->(g==f)=false->k (Dq l ⟨a.n,(s,.sc .b g)::a.t,a.h⟩)=some r->GS P E.toArray ⟨l,D,G,F,v,some (j,f)⟩ (bm a) (λs=>∃i,s=bm i/\k i=some r):=by
     intro g w x C;subst w;refine GS.le H (GS.left (b:=f) (c:=c) rfl t u (by simp[bm,gu,bG,enc,encS]) x B ⟨_,?_,C⟩);cases l<;>rfl
    rcases bL y with⟨p,z⟩|⟨p,z⟩
    ·rcases bL z with⟨o,n⟩|⟨o,n⟩
     ·exact L true p o n
     ·exact K true p (by rw[o];rfl) n
    ·rcases bL z with⟨o,n⟩|⟨o,n⟩
     ·exact K false p (by rw[o];rfl) n
     ·exact L false p o n
   ·rename_i A
    obtain⟨m,y⟩:=aY h;simp only[apS]at m;have t:(E.toArray[j]?).bind (·.dst)=some s:=by simpa using J
    have u:s<a.n:=apY m.1;have B:∀d,l=some d->d<a.n:=λd e=>by
     have:=m.2;simp only[e,Aq]at this;exact apY this
    refine GS.ahf (b:=f) rfl t u ?_ B ⟨_,?_,y⟩
    ·rw[show bG (bm a).t s=enc (cW a.t s)from cH a.t s,A];rfl
    ·cases l<;>rfl
   ·cases h
  ·cases h
def Qa{d:bp}:∀{l:bp} {E:cL} {R:Type} {k:cL->Option R} {r:R},BA T CT d l E k=some r->AL P d.toArray l (bm E) (λs=>∃c,s=bm c/\k c=some r)
 |[],E,R,k,r,h=>AL.nil ⟨E,rfl,h⟩
 |o::l,E,R,k,r,h=>by
  simp only[BA]at h;refine AL.cons λt j=>?_;have a:=Z1 hp h;intro q g e i w next Q m n
  refine a q g e i w next Q m λf p=>n f (j f ?_)
  obtain⟨c,rfl,b⟩:=p;exact Qa b
omit hp in
def Z2(a:List y7)(t:List (Nat×EV)):gu (Ar t a)=By (gu t) (a.map hV):=by
 induction a generalizing t with
 |nil=>rfl
 |cons u a b=>simp only[Ar,aqc,By,b,Ll];rfl
omit hp in
def Ds(a:List y7)(h:eQ):bz (lx h a)=zf (bz h) (a.map hV):=by
 induction a generalizing h with
 |nil=>rfl
 |cons u a b=>simp only[lx,aqc,zf,b,fG];rfl
omit hp in
def ri{done:List y7}{i:Nat}:∀{g:List Edge} {c:EV},Dr done i g=some c->∃e∈g,Region.binds .any e=true/\∃u,done[e.on]? =some u/\u.d=some i/\u.c=c
 |[],c,h=>by cases h
 |e::g,c,h=>by
  simp only[Dr]at h;rcases bL h with⟨j,h⟩|⟨j,h⟩
  ·split at h
   ·rename_i u m
    split at h
    ·rename_i d k
     rcases bL h with⟨l,h⟩|⟨_,h⟩
     ·cases h
      have:=apX l;subst this;exact⟨e,by simp,j,u,m,k,rfl⟩
     ·obtain⟨a,b,f⟩:=ri h
      exact⟨a,by simp[b],f⟩
    ·obtain⟨a,b,f⟩:=ri h
     exact⟨a,by simp[b],f⟩
   ·obtain⟨a,b,f⟩:=ri h
    exact⟨a,by simp[b],f⟩
  ·obtain⟨a,b,f⟩:=ri h
   exact⟨a,by simp[b],f⟩
omit hp in
def pc:∀{l:bp} {i:Nat},lR l i=true->(l.all λo=>o.dst !=some i)=true
 |[],i,_=>rfl
 |o::l,i,h=>by
  simp only[lR]at h;simp only[aqY,apS];split at h
  ·rename_i d c
   rcases akM h with⟨a,b⟩|⟨a,b⟩
   ·cases b
   ·refine⟨?_,pc b⟩
    rw[c];have:d≠i:=λe=>by rw[e,aqp]at a;cases a
    simpa using this
  ·rename_i c
   exact⟨by rw[c];rfl,pc h⟩
omit hp in
def Kn.sk{a:cL}{done:List y7}{u:En}(b:Kn E (bm a) (done.map hV) I u A):Sk (P9 E a.t done I.after.toList) A:=by
 intro i;unfold P9;split
 ·rename_i c h
  obtain⟨e,k,g,v,l,j,rfl⟩:=ri h;exact .inr (b.ts e (by simpa using k) g (hV v) i (by rw[aqd,l];rfl) j)
 ·cases d:lR E i with
  |true=>exact .inr ((b.t0 i (pc d)).trans (cH a.t i))
  |false=>
   cases f:Zf E done.length i with
   |true=>exact .inr ((b.t1 i (by rw[ap1];exact f)).trans (cH a.t i))
   |false=>exact .inl rfl
omit hp in
def Z3{e:Nat->EV}{i:String}{f:dI}{g:fE}{k:EV->eQ->aZ->Fr->Option b}:
 exO T CT d e G ⟨some B,.lookup a h o false,u,i,f,g⟩ k=cond (Nat.blt B d) (og T G a (eI e h) (eI e o) false λc j=>k c [] j .no) none:=rfl
omit hp in
def Z4{e:Nat->EV}{j:String}{f:dI}{g:fE}{k:EV->eQ->aZ->Fr->Option b}:
 exO T CT d e G ⟨some B,.mapEntry a h o,u,j,f,g⟩ k=cond (Nat.blt B d) (BT T e G a h o λc i l=>k c i l .no) none:=rfl
omit hp in
def Kn.hk{l:bp}{E:cL}{done:List y7}{o:Oper}{u:y7}{b:St}(hk:Kn l (bm E) (done.map hV) o (hV u) b)(e:u.sf=none):Hk (bC (lx E.h done)) u.us b:=by
 intro k c;rcases hk.h k c with h|⟨ob,_,d,g,i,f,a,h,_⟩
 ·rw[h,<-da,Ds];rfl
 ·rw[e]at h;cases h
omit hp in
def Qb{k:Nat}:∀{done:List y7} {h:eQ},nwE done k=true->bC (lx h done) k=bC h k
 |[],_,_=>rfl
 |u::done,h,c=>by
  simp only[nwE,aqY,apS,aq1]at c;rw[lx,Qb (done:=done) (by simpa[nwE]using c.2)];have:∀a:eQ,eW k (bz a)=false->bC (a++h) k=bC h k:=by
   intro a
   induction a with
   |nil=>intro _;rfl
   |cons p a f=>
    obtain⟨i,o⟩:=p;intro b;simp only[eW,bz,arI,arU]at b;have d:¬k=i:=λe=>by have:=b.1;simp[e]at this
    simp only[aq6,bC,iG d,apW];exact f b.2
  exact this _ c.1
omit hp in
def Sf{v u:y7}(h:ZZ v u=true):(hV v).c.gp (hV u).fr=true/\oU (hV u).fr (hV v).os=true:=by
 obtain⟨d,c,b,e,a⟩:=u;cases a with
 |no=>exact⟨vd _,RR _⟩
 |one d=>simp only[ZZ,apS]at h;exact⟨h.1,l7 h.2⟩
 |bS B=>simp only[ZZ,apS]at h;exact⟨h.1,l7 h.2⟩
omit hp in
def Sg{E:cL}{t:Bool}{l:bp}{u:y7}{j:Nat}(y:t=true->∃k d b m c a,u.os=[(k,some (.mp d b m (dS b c a ((bJ b c a).getD (zeroV m)))))]/\bC E.h k=some (.mp d b m c)):∀{i:Nat} {done:List y7},(∀v∈done,∀o,v.sf=some o->∀k∈v.us,bC E.h k=some o)->BB t l u j i done=true->ae3 l (hV u) j i (done.map hV)
 |i,[],_,_=>trivial
 |i,v::done,A,h=>by
  simp only[BB,apS,aqO]at h;obtain⟨⟨⟨G,H⟩,I⟩,J⟩:=h;refine⟨?_,⟨Sf H,I.imp Sf id⟩,Sg y (λw O=>A w (aqU _ O)) J⟩;rcases G with(h|h)|⟨h,K,L⟩
  ·refine .inl ?_
   simp only[ZY,apS]at h;have C:∀(g:eQ) (q:Nat->Bool),g.all (λp=>q p.1)=(bz g).all (λp=>q p.1):=by
    intro g q
    induction g with
    |nil=>rfl
    |cons p g Q=>obtain⟨k,o⟩:=p;simp only[bz,aqY,Q]
   refine⟨by rw[show(hV v).os=bz v.os from rfl,<-C v.os (λk=> !eW k (hV u).os && !(hV u).us.contains k)];exact h.1,λk f e=>?_⟩;have x:=h.2;rw[C u.os (λk=> !v.us.contains k)]at x;obtain⟨p,N,n⟩:=ary.1 f;have n:p.1=k:=by simpa using n
   have:=aqg.1 x p N;rw[n]at this;have e:v.us.contains k=true:=e;rw[e]at this;cases this
  ·exact .inr h
  ·refine .inl ⟨?_,λk f e=>?_⟩
   ·have:v.os=[]:=by simpa using K
    rw[show(hV v).os=bz v.os from rfl,this];rfl
   ·obtain⟨B,d,b,m,c,a,r,D⟩:=y h
    obtain⟨o,z⟩:=arw.1 L;have F:k=B:=by
     rw[show(hV u).os=bz u.os from rfl,r]at f;simp only[eW,bz,arI,List.any_nil,Bool.or_false]at f;exact(by simpa using f:B=k).symm
    subst F;have M:v.us.contains k=true:=e;have s:=A v (by simp) o z k (by simpa using M);rw[D]at s;cases s;refine⟨_,?_,d,b,m,c,a,z,rfl⟩;rw[show(hV u).os=bz u.os from rfl,r];simp only[bz,bf];rfl
omit hp in
def PD.snoc{done:List En}{u:En}(e:PD P E A done)(g:E[done.length]? =some I)(k:I.dst=u.d)(n:DS P E A done I u)(l:ae3 E u done.length 0 done)(m:zd u.fr A.t=true/\oU u.fr A.h=true):PD P E A (done++[u]):=by
 have p:done.length<E.length:=(apV.1 g).1;refine⟨by simp;omega,λj o c h a=>?_,λi j v c f d a=>?_,λj c a=>?_⟩
 ·rcases arx j done.length with b|b|b
  ·rw[aqF b]at a
   rw[auR (by omega)];exact e.step j o c h a
  ·subst b
   simp at a;subst a;obtain rfl:=apZ (g.symm.trans h);refine⟨k,?_⟩;rw[asD];exact n
  ·rw[aqE (by simp;omega)]at a;cases a
 ·rcases arx j done.length with b|b|b
  ·rw[aqF b]at a
   rw[aqF (by omega)]at d;exact e.fit i j v c f d a
  ·subst b
   simp at a;subst a;rw[aqF f]at d;have:=KF l i v d;rwa[aqq]at this
  ·rw[aqE (by simp;omega)]at a;cases a
 ·rcases arx j done.length with b|b|b
  ·rw[aqF b]at a;exact e.KG j c a
  ·subst b
   simp at a;subst a;exact m
  ·rw[aqE (by simp;omega)]at a;cases a
omit hp in
def Qc{E:cL}(h:la O E=true):zd O.p (bm E).t=true/\oU O.p (bm E).h=true:=by
 cases O with
 |no=>exact⟨ae4 _,RR _⟩
 |one d=>simp only[la,apS]at h;exact⟨h.1,l7 h.2⟩
 |bS B=>simp only[la,apS]at h;exact⟨h.1,l7 h.2⟩
omit hp in
def FS.ds{a:cL}{done:List y7}{st:St}(h:FS P I a.n (P9 E a.t done I.after.toList) (bC (lx a.h done)) D R K O){c:Option ea}(d:c=none)(b:Kn E (bm a) (done.map hV) I (hV ⟨I.dst,D,R,K,O,c⟩) st):
 SS P I st (λs=>s=⟨st.n,jz I.dst (enc D) st.t,bz R++st.h⟩):=
 h st b.n b.sk (Kn.hk b d) ⟨b.ft,b.fh,b.fk⟩
def Z5{l:bp}{E:cL}:∀{W:bp} {done:List y7} {R:Type} {k:cL->Option R} {r:R},FG T CT l E W done k=some r->W=l.drop done.length->PD P l (bm E) (done.map hV)->(∀v∈done,∀o,v.sf=some o->∀k∈v.us,bC E.h k=some o)->
 ∃m,Ia P l (bm E) (m.map hV)/\k ⟨E.n,Ar E.t m,lx E.h m⟩=some r
 |[],done,R,k,r,h,hr,A,a9=>by
  simp only[FG]at h;obtain⟨g,p⟩:=aY h;simp only[apS]at g;have ak:(done.map hV).length=l.length:=by
   have g:=A.len;have p:=ap5 List.length hr;simp at g p⊢;omega
  exact⟨done,⟨ak,A.step,A.fit,A.KG,g.1,λj o ho e Q ae=>by have:=zi g.2 j o ho e Q ae;omega⟩,p⟩
 |o::W,done,R,k,r,h,hr,A,a9=>by
  have ho:l[done.length]? =some o:=by
   have:=ap5 (λx=>x[0]?) hr;simpa using this.symm
  have al:W=l.drop (done.length+1):=by
   have:l.drop (done.length+1)=(l.drop done.length).drop 1:=by rw[arX]
   rw[this,<-hr];rfl
  have X:∀(u:y7) (en:Bool),o.dst=u.d->(en=true->∃k d B H J a,u.os=[(k,some (.mp d B H (dS B J a ((bJ B J a).getD (zeroV H)))))]/\bC E.h k=some (.mp d B H J))->(∀o,u.sf=some o->∀k∈u.us,bC E.h k=some o)->DS P l (bm E) (done.map hV) o (hV u)->BB en l u done.length 0 done=true->la u.fr E=true->∀{R:Type} {k:cL->Option R} {r:R},FG T CT l E W (done++[u]) k=some r->∃m,Ia P l (bm E) (m.map hV)/\k ⟨E.n,Ar E.t m,lx E.h m⟩=some r:=by
   intro u en hd hE am ag ah ai R k r f;refine Z5 f (by rw[aqb];exact al) ?_ (λv q=>by
    rcases ap3.1 q with q|q
    ·exact a9 v q
    ·rw[aqe.1 q];exact am)
   rw[aqH];have hl:(done.map hV).length=done.length:=ap1 _;exact A.snoc (by rw[hl];exact ho) hd ag (by rw[hl];exact Sg hE a9 ah) (Qc ai)
  simp only[FG]at h;split at h
  ·rename_i U
   have aa:∀n o',sfE E o n done=some o'->∀k∈n,bC E.h k=some o':=λn o' z k f=>by
    unfold sfE at z;split at z
    ·split at z
     ·rename_i k'
      obtain rfl:=aqe.1 f;exact(aY z).2
     ·cases z
    ·cases z
   by_cases hl:∃t x y,o.op=.lookup t x y false
   ·obtain⟨t,x,y,G⟩:=hl
    obtain⟨K,op,ty,a3,Z,gd⟩:=o;simp only at G;subst G;cases K with
    |none=>cases h
    |some d=>
    rw[Z3]at h;obtain⟨O,h⟩:=aY h;obtain⟨j,dd,B,H,J,a,F,aj,b,c⟩:=Is hp.t h;obtain⟨g,p⟩:=aY b;simp only[apS]at g;refine X ⟨some d,_,[],[j],.no,_⟩ _ rfl (λe=>by cases e) (aa [j]) (λw f=>GS.plain U ?_) g.1 g.2 p;have D:d<w.n:=by rw[f.n];exact apY O
    have Q:∃a4,(bJ B a4 a).getD (zeroV H)=(bJ B J a).getD (zeroV H)/\a_ w.h j=some (b_ (.mp dd B H a4)):=by
     rcases f.h j (by simp[hV])with e|⟨ob,C,d2,ao,ap,an,a2,I,e3⟩
     ·refine⟨J,rfl,?_⟩
      rw[e,show(bm E).h=bz E.h from rfl,<-Ds,da,F];rfl
     ·simp only[sfE]at I
      obtain⟨n1,n2⟩:=aY I;rw[Qb n1,n2]at F;cases F;exact⟨_,PB aj _ _ _ _,by rw[C,e3]⟩
    obtain⟨a4,C,I⟩:=Q;exact SS.read (c w a4 (some d) ty a3 Z gd f.sk C I) D rfl
   have V:∀n,sfE E o n done=none:=λn=>by
    unfold sfE;split
    ·rename_i t x y G;exact absurd ⟨t,x,y,G⟩ hl
    ·rfl
   by_cases hm:∃t x y,o.op=.mapEntry t x y
   ·obtain⟨t,x,y,G⟩:=hm
    obtain⟨K,op,ty,a3,Z,gd⟩:=o;simp only at G;subst G;cases K with
    |none=>cases h
    |some d=>
    rw[Z4]at h;obtain⟨O,h⟩:=aY h;obtain⟨c,j,dd,B,H,J,a,F,fs,b⟩:=Dg (ty:=ty) (pos:=a3) (af:=Z) (gd:=gd) hp.t (apY O) h;obtain⟨g,p⟩:=aY b;simp only[apS]at g;refine X ⟨some d,_,_,[j],.no,_⟩ _ rfl (λe=>⟨j,dd,B,H,J,a,rfl,?_⟩) (aa [j]) (λw f=>GS.plain U (fs.ds (V [j]) f)) g.1 g.2 p;simp only[aiu,aqY,List.all_nil,ate]at e;rw[<-Qb e];exact F
   obtain⟨c,Y,n,L,a,b,hd⟩:=P8 hp.t hp.c h;obtain⟨g,p⟩:=aY b;simp only[apS]at g;refine X ⟨o.dst,c,Y,n,L,_⟩ _ rfl (λe=>?_) (aa n) (λw f=>GS.plain U (a.ds (V n) f)) g.1 g.2 p;unfold aiu at e;split at e
   ·rename_i t x y G;exact absurd ⟨t,x,y,G⟩ hm
   ·cases e
  ·rename_i j b U
   split at h
   ·rename_i v q
    split at h
    ·rename_i s z
     split at h
     ·rename_i c hc
      obtain⟨g,p⟩:=aY h;simp only[apS]at g;obtain⟨⟨q1,q2⟩,q3⟩:=g;have V:s<E.n:=apY q2;have O:∀d,o.dst=some d->d<E.n:=λd e=>by
       simp only[e,Aq]at q3;exact apY q3
      obtain⟨e,Q,S⟩:=ary.1 q1;simp only[apS]at S;have a7:=apX S.1;have ab:∀i,c=i->done.set j ⟨v.d,.sc .b i,v.os,v.us,v.fr,v.sf⟩=done:=λi e=>by
       subst e;rw[<-hc];obtain⟨F,rfl⟩:=apV.1 q;exact arQ F
      have a5:(l.toArray[j]?).bind (·.dst)=some s:=by
       have F:=(apV.1 q).1;have a8:=A.len;rw[ap1]at a8;have a1:l[j]? =some l[j]:=ap0 (by omega);have:=(A.step j _ (hV v) a1 (by rw[aqd,q];rfl)).1;simp only[arj,a1,aud,this];exact z
      have a6:∀{u:En} {w:St},Kn l (bm E) (done.map hV) o u w->bG w.t s=.v (.bool c):=λf=>by
       have:=f.ts e (by simpa using Q) S.2 (hV v) s (by rw[aqd,a7,q];rfl) z;rw[this];show enc v.c=_;rw[hc];rfl
      have ad:∀i,c=i->b=i->(exO T CT E.n (P9 l E.t (done.set j ⟨v.d,.sc .b i,v.os,v.us,v.fr,v.sf⟩) o.after.toList) (bC (lx E.h done)) o λc Y n L=>
       cond (BB false l ⟨o.dst,c,Y,n,L,none⟩ done.length 0 done && la L E) (FG T CT l E W (done.set j ⟨v.d,.sc .b i,v.os,v.us,v.fr,v.sf⟩++[⟨o.dst,c,Y,n,L,none⟩]) k) none)=some r->∃m,Ia P l (bm E) (m.map hV)/\k ⟨E.n,Ar E.t m,lx E.h m⟩=some r:=by
       intro i C I hh;rw[ab i C]at hh;obtain⟨c2,Y,n,L,a,bb,hd⟩:=P8 hp.t hp.c hh;obtain⟨M,g2⟩:=aY bb;simp only[apS]at M;exact X ⟨o.dst,c2,Y,n,L,none⟩ false rfl (λe=>by cases e) (λ_ e=>by cases e) (λw f=>GS.taken U a5 (by rw[f.n];exact V) (by rw[I,<-C];exact a6 f) (a.ds rfl f)) M.1 M.2 g2
      have ac:∀i,c=i->(i==b)=false->(cond (BB false l ⟨o.dst,.v (.tuple ⟨[]⟩),[],[],.no,none⟩ done.length 0 done) (FG T CT l E W (done.set j ⟨v.d,.sc .b i,v.os,v.us,v.fr,v.sf⟩++[⟨o.dst,.v (.tuple ⟨[]⟩),[],[],.no,none⟩]) k) none)=some r->∃m,Ia P l (bm E) (m.map hV)/\k ⟨E.n,Ar E.t m,lx E.h m⟩=some r:=by
       intro i C I hh;rw[ab i C]at hh;obtain⟨M,g2⟩:=aY hh;refine X ⟨o.dst,.v (.tuple ⟨[]⟩),[],[],.no,none⟩ false rfl (λe=>by cases e) (λ_ e=>by cases e) (λw f=>?_) M rfl g2;obtain⟨K,op,ty,a3,Z,gd⟩:=o;refine GS.left (b:=b) (c:=c) U a5 (by rw[f.n];exact V) (a6 f) (by rw[C];exact I) (λd e=>by rw[f.n];exact O d e) ?_;cases K<;>rfl
      rcases bL p with⟨a0,h3⟩|⟨a0,h3⟩
      ·rcases bL h3 with⟨D,N⟩|⟨D,N⟩
       ·exact ad true a0 D N
       ·exact ac true a0 (by rw[D];rfl) N
      ·rcases bL h3 with⟨D,N⟩|⟨D,N⟩
       ·exact ac false a0 (by rw[D];rfl) N
       ·exact ad false a0 D N
     ·rename_i hc
      obtain⟨g,p⟩:=aY h;simp only[apS]at g;obtain⟨⟨q1,q2⟩,q3⟩:=g;obtain⟨M,g2⟩:=aY p;have V:s<E.n:=apY q2;have O:∀d,o.dst=some d->d<E.n:=λd e=>by
       simp only[e,Aq]at q3;exact apY q3
      obtain⟨e,Q,S⟩:=ary.1 q1;simp only[apS]at S;have a7:=apX S.1;have a5:(l.toArray[j]?).bind (·.dst)=some s:=by
       have F:=(apV.1 q).1;have a8:=A.len;rw[ap1]at a8;have a1:l[j]? =some l[j]:=ap0 (by omega);have:=(A.step j _ (hV v) a1 (by rw[aqd,q];rfl)).1;simp only[arj,a1,aud,this];exact z
      refine X ⟨o.dst,.v (.tuple ⟨[]⟩),[],[],.no,none⟩ false rfl (λe=>by cases e) (λ_ e=>by cases e) (λw f=>?_) M rfl g2;have a6:bG w.t s=.v undef:=by
       have:=f.ts e (by simpa using Q) S.2 (hV v) s (by rw[aqd,a7,q];rfl) z;rw[this];show enc v.c=_;rw[hc];rfl
      obtain⟨K,op,ty,a3,Z,gd⟩:=o;refine GS.ahf (b:=b) U a5 (by rw[f.n];exact V) a6 (λd e=>by rw[f.n];exact O d e) ?_;cases K<;>rfl
     ·cases h
    ·cases h
   ·cases h
def Qd{t:Bool}{l:bp}{E:cL}{k:cL->Option b}{r:b}{id:Nat}(h:FG T CT l E l [] k=some r):AC t P (.region id l.toArray true) (bm E) (λx s=>x=.normal/\∃d,s=bm d/\k d=some r):=by
 obtain⟨g,e,f⟩:=Z5 hp h rfl ⟨by simp,λj o u _ a=>by simp at a,λi j v u _ c=>by simp at c,λj u a=>by simp at a⟩ (λv c=>by cases c);refine AC.anW hp.m e ⟨rfl,_,?_,f⟩;simp only[bm,Z2,Ds]
def Qe{t:Bool}{l:bp}{E:cL}{k:cL->Option b}{r:b}{id:Nat}(h:BA T CT l l E k=some r):AC t P (.region id l.toArray false) (bm E) (λx s=>x=.normal/\∃c,s=bm c/\k c=some r):=by
 refine AC.region ?_;have:=Qa hp h;intro m d e a w Q f g;exact this m d e a w Q f λj i=>g j ⟨rfl,i⟩
end
variable{n:cL}{k:List AV}{e:List EV}
section
variable{P:Program}
def cn.wk{t y:List (Nat×AV)}{h q:Hp}(H:∀i,Wk (bG t i) (bG y i))(g:∀k n,a_ q k=some n->∃ob,a_ h k=some ob/\∀Rd e w,OR Rd e w k ob->OR Rd e w k n):cn P ⟨d,t,h⟩ ⟨d,y,q⟩:=by
 intro z s e a w c;have v:∀b o u,bO z s e h w b o u->bO z s e q w b o u:=λb o u r=>⟨r.1,r.2.1,λj ob l G=>by
  obtain⟨m,f,_⟩:=g j ob l;exact r.2.2 j m f G⟩
 refine⟨e,c.n,c.d,⟨c.sr.ext,c.sr.jO,λj ob l=>?_,λj ob b l F=>?_,λj x ob n b p E A B=>?_,c.sr.t_⟩,λi=>H i _ _ _ ((c.tr i).mono v)⟩
 ·obtain⟨m,f,p⟩:=g j ob l
  exact(p _ _ _ (c.sr.ob j m f)).mono v
 ·obtain⟨m,f,_⟩:=g j ob l
  exact c.sr.base j m b f F
 ·obtain⟨I,C,_⟩:=g j ob p
  obtain⟨J,D,_⟩:=g x n E;exact c.sr.inj j x I J b C D A B
def Sh{Rd:bE}(h:VR Rd M (.sl true d []) s):∃a,s=.slice a 0 0:=by
 obtain⟨a,e,f,b,_,_,_,_,_,c,_⟩:=h.lW;have:=c rfl;simp only[aqI]at this b;subst this;exact⟨a,b⟩
variable{st:St}
def cn.akT(i j b:Nat)(H:b<4294967296)(t:TypeId)(l:Nat)(f:bG st.t i=.ag k)(G:k[j]? =some (.sl true d [])):
 cn P st ⟨st.n,(i,.ag ((k.map (AV.kill b)).set j (.ow b)))::cY b st.t,(b,some (.arr t l [] true))::br b st.h⟩:=by
 intro B r e a w h;have A:=h.tr i;rw[f]at A;obtain⟨n,N,p⟩:=VR.e9 A;obtain⟨u,M,O⟩:=p.get G;obtain⟨g,rfl⟩:=Sh O;obtain⟨K,v⟩:=h.sr.kill b;obtain⟨L,y⟩:=K.CN b t l g (d_ b st.h) H;refine⟨_,h.n,h.d,L,λq=>?_⟩;simp only[bG];split
 ·rename_i J
  subst J;rw[N];have C:LR (VR (bO B r (e.cK b none (.slice g 0 0) 0) ((b,some (.arr t l [] true))::br b st.h) w) (some (e.cK b none (.slice g 0 0) 0))) (k.map (AV.kill b)) n:=
   ⟨by simpa using p.1,λm c x z Q=>by
    rw[aqd]at z;obtain⟨s,E,rfl⟩:=aqo.1 z;exact((((p.2 m s x E Q).kill b).mono v).mono y).env rfl b (j_ b s) (λ_ f=>Env.bx f) (λ_ f=>Env.db f)⟩
  have o:=C.set j (c:=.ow b) (u:=.slice g 0 0) (by
   have:=VR.ow (Rd:=bO B r (e.cK b none (.slice g 0 0) 0) ((b,some (.arr t l [] true))::br b st.h) w) (e:=e.cK b none (.slice g 0 0) 0) (k:=b);rw[Env.dJ]at this;exact this)
  have D:n.set j (.slice g 0 0)=n:=by
   obtain⟨I,F⟩:=apV.1 M;rw[<-F];exact arQ I
  rw[D]at o;exact .ag n o.1 o.2
 ·exact((((h.tr.kill b).mono v).mono y).env b (dO b st.t) (λ_ f=>Env.bx f) (λ_ f=>Env.db f)) q
def cn.akU(b j f:Nat)(M:f<4294967296)(t:TypeId)(n:Nat)(B:a_ st.h b=some (.box a k))(L:k[j]? =some (.sl true d []))(q:b≠f):
 cn P st ⟨st.n,cY f st.t,(b,some (.box a ((k.map (AV.kill f)).set j (.ow f))))::(f,some (.arr t n [] true))::br f st.h⟩:=by
 intro D s e g w l;obtain⟨O,E,p,I,V,r⟩:=l.sr.ob _ _ B;obtain⟨u,U,W⟩:=r.get L;obtain⟨h,rfl⟩:=Sh W;obtain⟨Q,z⟩:=l.sr.kill f;obtain⟨R,A⟩:=Q.CN f t n h (d_ f st.h) M;have F:LR (VR (bO D s (e.cK f none (.slice h 0 0) 0) ((f,some (.arr t n [] true))::br f st.h) w) (some (e.cK f none (.slice h 0 0) 0))) (k.map (AV.kill f)) p:=
  ⟨by simpa using r.1,λm c x C X=>by
   rw[aqd]at C;obtain⟨v,J,rfl⟩:=aqo.1 C;exact((((r.2 m v x J X).kill f).mono z).mono A).env rfl f (j_ f v) (λ_ i=>Env.bx i) (λ_ i=>Env.db i)⟩
 have y:=F.set j (c:=.ow f) (u:=.slice h 0 0) (by
  have:=VR.ow (Rd:=bO D s (e.cK f none (.slice h 0 0) 0) ((f,some (.arr t n [] true))::br f st.h) w) (e:=e.cK f none (.slice h 0 0) 0) (k:=f);rw[Env.dJ]at this;exact this)
 have G:p.set j (.slice h 0 0)=p:=by
  obtain⟨N,K⟩:=apV.1 U;rw[<-K];exact arQ N
 rw[G]at y;obtain⟨S,H⟩:=R.PZ (b:=b) (o:=(Ob.kill f (.box a k))) (o':=.box a ((k.map (AV.kill f)).set j (.ow f))) (by rw[bc q,dp,B];rfl)
  ⟨by rw[Env.j0 q];exact O,E,p,by rw[Env.bx q];exact I,V,y⟩
 exact⟨_,l.n,l.d,S,(((l.tr.kill f).mono z).mono A).env f (dO f st.t) (λ_ i=>Env.bx i) (λ_ i=>Env.db i)|>.mono H⟩
def cn.aiv(b j f p:Nat)(S:p<4294967296)(U:p≠f)(r:b≠p)(K:b≠f){wr:Bool}(C:a_ st.h b=some (.box a k))(N:k[j]? =some (.ow f))(O:a_ st.h f=some (.arr u B i wr)):
 cn P st ⟨st.n,cY p st.t,(b,some (.box a ((k.map (AV.kill p)).set j (.ow p))))::(p,some (.arr u B i wr))::(f,none)::br p st.h⟩:=by
 intro E t e g w n;obtain⟨R,F,q,J,Z,s⟩:=n.sr.ob _ _ C;obtain⟨h,Y,a0⟩:=s.get N;cases a0;obtain⟨V,z⟩:=n.sr.kill p;obtain⟨W,A⟩:=V.Ic (k:=f) (d:=p) (ob:=.arr u B i wr) (by rw[dp,O];rfl) U (d_ p st.h) S;have G:LR (VR (bO E t (e.cK p (e.bS f) (e.sv f) (e.cM f)) ((p,some (.arr u B i wr))::(f,none)::br p st.h) w) (some (e.cK p (e.bS f) (e.sv f) (e.cM f)))) (k.map (AV.kill p)) q:=
  ⟨by simpa using s.1,λm c x D hx=>by
   rw[aqd]at D;obtain⟨v,L,rfl⟩:=aqo.1 D;exact((((s.2 m v x L hx).kill p).mono z).mono A).env rfl p (j_ p v) (λ_ l=>Env.bx l) (λ_ l=>Env.db l)⟩
 have y:=G.set j (c:=.ow p) (u:=e.sv f) (by
  have:=VR.ow (Rd:=bO E t (e.cK p (e.bS f) (e.sv f) (e.cM f)) ((p,some (.arr u B i wr))::(f,none)::br p st.h) w) (e:=e.cK p (e.bS f) (e.sv f) (e.cM f)) (k:=p);rw[Env.dJ]at this;exact this)
 have H:q.set j (e.sv f)=q:=by
  obtain⟨Q,M⟩:=apV.1 Y;rw[<-M];exact arQ Q
 rw[H]at y;obtain⟨X,I⟩:=W.PZ (b:=b) (o:=(Ob.kill p (.box a k))) (o':=.box a ((k.map (AV.kill p)).set j (.ow p))) (by rw[bc r,bc K,dp,C];rfl)
  ⟨by rw[Env.j0 r];exact R,F,q,by rw[Env.bx r];exact J,Z,y⟩
 exact⟨_,n.n,n.d,X,(((n.tr.kill p).mono z).mono A).env p (dO p st.t) (λ_ l=>Env.bx l) (λ_ l=>Env.db l)|>.mono I⟩
def cn.aiw(b k p:Nat)(o:p<4294967296)(r:p≠k){wr:Bool}(g:bG st.t b=.ow k)(n:a_ st.h k=some (.arr a B i wr)):
 cn P st ⟨st.n,(b,.ow p)::cY p st.t,(p,some (.arr a B i wr))::(k,none)::br p st.h⟩:=by
 intro x j e c w f;have h:=f.tr b;rw[g]at h;obtain⟨t,l⟩:=f.sr.kill p;obtain⟨v,m⟩:=t.Ic (k:=k) (d:=p) (ob:=.arr a B i wr) (by rw[dp,n];rfl) r (d_ p st.h) o;refine⟨_,f.n,f.d,v,λq=>?_⟩;simp only[bG];split
 ·rename_i s
  subst s;generalize c.tmps.getD q undef=u at h;cases h;have:=VR.ow (Rd:=bO x j (e.cK p (e.bS k) (e.sv k) (e.cM k)) ((p,some (.arr a B i wr))::(k,none)::br p st.h) w) (e:=e.cK p (e.bS k) (e.sv k) (e.cM k)) (k:=p);rw[Env.dJ]at this;exact this
 ·exact((((f.tr.kill p).mono l).mono m).env p (dO p st.t) (λ_ g=>Env.bx g) (λ_ g=>Env.db g)) q
def cn.aix(b j:Nat){wr:Bool}(C:bG st.t b=.ag k)(D:k[j]? =some (.ow d))(E:a_ st.h d=some (.arr a B i wr)):
 cn P st ⟨st.n,(b,.ag (k.set j (.sl false B i)))::st.t,(d,some (.arr a B i false))::st.h⟩:=by
 intro v o e f w n;obtain⟨g,x,p,r,s,y⟩:=n.sr.Pm E;have h:=n.cM (⟨x,p,r,s⟩:nk v o e st.h w g ((d,some (.arr a B i false))::st.h));refine⟨g,h.n,h.d,h.sr,λq=>?_⟩;simp only[bG];split
 ·rename_i H
  subst H;have l:=n.tr q;rw[C]at l;obtain⟨m,J,t⟩:=VR.e9 l;rw[J];obtain⟨u,I,K⟩:=t.get D;cases K;have G:LR (VR (bO v o g ((d,some (.arr a B i false))::st.h) w) (some g)) k m:=t.imp λ_ _ l=>(l.mono p).ir rfl r s;have:=G.set j (c:=.sl false B i) (u:=e.sv d) y.cS;have z:m.set j (e.sv d)=m:=by
   obtain⟨F,A⟩:=apV.1 I;rw[<-A];exact arQ F
  rw[z]at this;exact .ag m this.1 this.2
 ·exact h.tr q
def cn.aiy(b j:Nat){wr:Bool}(m:a_ st.h b=some (.box u k))(H:k[j]? =some (.ow d))(r:a_ st.h d=some (.arr a B i wr)):
 cn P st ⟨st.n,st.t,(b,some (.box u (k.set j (.sl false B i))))::(d,some (.arr a B i false))::st.h⟩:=by
 intro O t e f w q;have F:b≠d:=λe=>by rw[e,r]at m;cases m
 obtain⟨l,x,y,z,o,A⟩:=q.sr.Pm r;have h:=q.cM (⟨x,y,z,o⟩:nk O t e st.h w l ((d,some (.arr a B i false))::st.h));have p:a_ ((d,some (Ob.arr a B i false))::st.h) b=some (.box u k):=by rw[bc F];exact m
 obtain⟨J,v,n,E,M,s⟩:=h.sr.ob _ _ p;obtain⟨g,L,N⟩:=s.get H;cases N;have:=s.set j (c:=.sl false B i) (u:=l.sv d) (by rw[o];exact A.cS);have C:n.set j (l.sv d)=n:=by
  obtain⟨I,G⟩:=apV.1 L;rw[<-G];exact arQ I
 rw[C]at this;obtain⟨K,D⟩:=h.sr.PZ p (o':=.box u (k.set j (.sl false B i))) ⟨J,v,n,E,M,this⟩;exact⟨l,h.n,h.d,K,h.tr.mono D⟩
def cn.akV(b j f:Nat)(U:f<4294967296)(t:TypeId)(l:Nat)(E:a_ st.h b=some (.nr a k))(G:k[j]? =some (.sl true d []))(p:b≠f):
 cn P st ⟨st.n,cY f st.t,(b,some (.nr a ((k.map (AV.kill f)).set j (.ow f))))::(f,some (.arr t l [] true))::br f st.h⟩:=by
 intro y r e g w n;obtain⟨W,a1⟩:=n.sr.ob _ _ E;have S:j<k.length:=(apV.1 G).1;rcases a1 with⟨Y,_⟩|⟨H,I,o,M,a5,N,X,Q,O,v⟩
 ·subst Y;simp at S
 obtain⟨u,a7,a8⟩:=v.get G;obtain⟨h,a9,aa,D,_,_,_,_,_,a6,_⟩:=a8.lW;have q:=a6 rfl;simp only[aqI]at q D;subst q;subst D;obtain⟨a2,B⟩:=n.sr.kill f;obtain⟨a3,C⟩:=a2.CN f t l h (d_ f st.h) U;have J:LR (VR (bO y r (e.cK f none (.slice h 0 0) 0) ((f,some (.arr t l [] true))::br f st.h) w) (some (e.cK f none (.slice h 0 0) 0))) (k.map (AV.kill f)) (o.toList.take k.length):=
  ⟨by simpa using v.1,λm c x F hx=>by
   rw[aqd]at F;obtain⟨z,q,rfl⟩:=aqo.1 F;exact((((v.2 m z x q hx).kill f).mono B).mono C).env rfl f (j_ f z) (λ_ i=>Env.bx i) (λ_ i=>Env.db i)⟩
 have A:=J.set j (c:=.ow f) (u:=.slice h 0 0) (by
  have:=VR.ow (Rd:=bO y r (e.cK f none (.slice h 0 0) 0) ((f,some (.arr t l [] true))::br f st.h) w) (e:=e.cK f none (.slice h 0 0) 0) (k:=f);rw[Env.dJ]at this;exact this)
 have K:(o.toList.take k.length).set j (.slice h 0 0)=o.toList.take k.length:=by
  obtain⟨V,R⟩:=apV.1 a7;rw[<-R];exact arQ V
 rw[K]at A;have s:((k.map (AV.kill f)).set j (.ow f)).length=k.length:=by simp
 have a0:a_ ((f,some (Ob.arr t l [] true))::br f st.h) b=some (Ob.kill f (.nr a k)):=by rw[bc p,dp,E];rfl
 have Z:OR (bO y r (e.cK f none (.slice h 0 0) 0) ((f,some (.arr t l [] true))::br f st.h) w) (e.cK f none (.slice h 0 0) 0) w b (.nr a ((k.map (AV.kill f)).set j (.ow f))):=
  ⟨by rw[Env.j0 p];exact W,.inr ⟨H,I,o,by rw[Env.bx p];exact M,by rw[Env.db p,s];exact a5,by rw[s];exact N,X,Q,O,by rw[s];exact A⟩⟩
 obtain⟨a4,L⟩:=a3.PZ a0 Z;exact⟨_,n.n,n.d,a4,(((n.tr.kill f).mono B).mono C).env f (dO f st.t) (λ_ i=>Env.bx i) (λ_ i=>Env.db i)|>.mono L⟩
def cn.aiz(b j:Nat){k:Nat}{wr:Bool}{h:List AV}(o:a_ st.h b=some (.nr u h))(t:h[j]? =some (.ow k))(v:a_ st.h k=some (.arr a d i wr)):
 cn P st ⟨st.n,st.t,(b,some (.nr u (h.set j (.sl false d i))))::(k,some (.arr a d i false))::st.h⟩:=by
 intro Z y e f w s;have I:b≠k:=λe=>by rw[e,v]at o;cases o
 obtain⟨m,B,C,D,q,E⟩:=s.sr.Pm v;have l:=s.cM (⟨B,C,D,q⟩:nk Z y e st.h w m ((k,some (.arr a d i false))::st.h));have r:a_ ((k,some (Ob.arr a d i false))::st.h) b=some (.nr u h):=by rw[bc I];exact o
 obtain⟨Q,U⟩:=l.sr.ob _ _ r;have N:j<h.length:=(apV.1 t).1;rcases U with⟨S,_⟩|⟨z,A,n,H,W,J,R,L,K,x⟩
 ·subst S;simp at N
 obtain⟨g,X,Y⟩:=x.get t;cases Y;have:=x.set j (c:=.sl false d i) (u:=m.sv k) (by rw[q];exact E.cS);have F:(n.toList.take h.length).set j (m.sv k)=n.toList.take h.length:=by
  obtain⟨O,M⟩:=apV.1 X;rw[<-M];exact arQ O
 rw[F]at this;have p:(h.set j (.sl false d i)).length=h.length:=by simp
 obtain⟨V,G⟩:=l.sr.PZ r (o':=.nr u (h.set j (.sl false d i))) ⟨Q,.inr ⟨z,A,n,H,by rw[p];exact W,by rw[p];exact J,R,L,K,by rw[p];exact this⟩⟩;exact⟨m,l.n,l.d,V,l.tr.mono G⟩
end
def afx(π:Nat->Nat):List (Nat×EV)->List (Nat×EV)
 |[]=>[]
 |(i,c)::t=>(i,tU π c)::afx π t
def Lm(π:Nat->Nat):∀t,gu (afx π t)=Kr π (gu t)
 |[]=>rfl
 |(i,c)::t=>by simp only[afx,gu,Kr,BU,Lm π t]
def afy(a b k:Nat):Nat:=cond (Nat.beq k a) b (cond (Nat.beq k b) a k)
def afz(a b:Nat):afy a b=swp a b:=by
 funext k;unfold afy swp;by_cases c:k=a
 ·subst c;rw[aqp];simp
 ·rw[iG c,apQ c]
  by_cases d:k=b
  ·subst d;rw[aqp];simp
  ·rw[iG d,apQ d];rfl
def Z6(a b:Nat)(E:cL):cL:=⟨E.n,afx (afy a b) E.t,Ap (afy a b) E.h⟩
def As(k:Nat)(c:EV):EV:=cond ((enc c).ga k) .un c
def Ln(k:Nat)(c:EV):enc (As k c)=(enc c).kill k:=by
 unfold As AV.kill;cases(enc c).ga k<;>rfl
def ue(k:Nat):List (Nat×EV)->List (Nat×EV)
 |[]=>[]
 |(i,c)::t=>(i,As k c)::ue k t
def ja(k:Nat):∀t,gu (ue k t)=cY k (gu t)
 |[]=>rfl
 |(i,c)::t=>by simp only[ue,gu,cY,Ln,ja k t]
def IE(k:Nat):H8->H8
 |some (i,some j)=>cond (Nat.beq j k) (some (i,none)) (some (i,some j))
 |o=>o
def Lo(k:Nat):ea->ea
 |.box t c=>.box t (c.map (As k))
 |.arr t r a wr=>.arr t r a wr
 |.mp d f h e=>.mp d f h e
 |.nr t r a b=>.nr t r a (IE k b)
 |.qr t b g a=>.qr t (match b with
  |some j=>cond (Nat.beq j k) none (some j)
  |none=>none) g a
def s0(k:Nat)(a:List EV):bX (a.map (As k))=(bX a).map (AV.kill k):=by
 rw[dR,dR,aq4,aq4];exact aqJ λc _=>Ln k c
def Lp(k:Nat)(r:Sc)(a:List (List r.cZ))(c:H8):vf r a (IE k c)=(vf r a c).map (AV.kill k):=by
 have b:(a.map (WO r)).map (AV.kill k)=a.map (WO r):=by
  rw[aq4];exact aqJ λx _=>by cases x<;>rfl
 match c with
 |none=>exact b.symm
 |some (i,none)=>simp only[IE,vf,arP,b];rfl
 |some (i,some j)=>
  simp only[IE,vf,arP,b];by_cases h:j=k
  ·subst h
   rw[aqp];simp[nrH,AV.kill,AV.ga]
  ·rw[iG h]
   simp[nrH,AV.kill,AV.ga,h]
def W8(k:Nat)(o:ea):b_ (Lo k o)=(b_ o).kill k:=by
 cases o with
 |box t d=>simp only[Lo,b_,Ob.kill,s0]
 |arr=>rfl
 |mp=>rfl
 |nr t r c a=>simp only[Lo,b_,Ob.kill,Lp]
 |qr t a b c=>
  simp only[Lo,b_,Ob.kill,aq4];congr 1;refine aqJ λi _=>?_;cases a with
  |none=>rfl
  |some j=>
   show Zl b (cond (Nat.beq j k) none (some j)) i=AV.kill k (.pe j i.toNat b 0);by_cases h:j=k
   ·subst h
    simp[Zl,AV.kill,AV.ga,aqp]
   ·rw[iG h]
    simp[Zl,AV.kill,AV.ga,h]
def rj(k:Nat):eQ->eQ
 |[]=>[]
 |(j,o)::h=>(j,match o with
  |some o=>some (Lo k o)
  |none=>none)::rj k h
def ig(k:Nat):∀h,bz (rj k h)=br k (bz h)
 |[]=>rfl
 |(j,o)::h=>by
  cases o with
  |none=>simp only[rj,bz,br,Option.map,ig k h]
  |some o=>simp only[rj,bz,br,Option.map,ig k h,W8]
def akW(i p:Nat)(t:TypeId)(r:Sc)(E:cL):cL:=⟨E.n,(i,.ow p)::ue p E.t,(p,some (.arr t r [] true))::rj p E.h⟩
def akX(i p:Nat)(t:TypeId)(k a:Nat)(E:cL):cL:=⟨E.n,(i,.ow p)::ue p E.t,(p,some (.qr t (some k) a []))::rj p E.h⟩
def Z7:List (Nat×PO)->Nat->Option PO
 |[],_=>none
 |(j,o)::t,i=>cond (Nat.beq i j) (some o) (Z7 t i)
def eU(a b:Nat)(E:cL):cL:=cond (Nat.blt a 4294967296 && Nat.blt b 4294967296) (Z6 a b E) E
def Lq(i k p:Nat)(E:cL):cL:=match bC E.h k with
 |some (.arr t r a wr)=>cond (Nat.blt k 4294967296|| !(Nat.blt p 4294967296)) (eU k p E) ⟨E.n,(i,.ow p)::ue p E.t,(p,some (.arr t r a wr))::(k,none)::rj p E.h⟩
 |_=>eU k p E
def Lr(b j k p:Nat)(a:TypeId)(c:List EV)(E:cL):cL:=match bC E.h k with
 |some (.arr t r d wr)=>cond (Nat.blt k 4294967296|| !(Nat.blt p 4294967296)||Nat.beq b p||Nat.beq b k) (eU k p E) ⟨E.n,ue p E.t,(b,some (.box a ((c.map (As p)).set j (.ow p))))::(p,some (.arr t r d wr))::(k,none)::rj p E.h⟩
 |_=>eU k p E
def Gp(b:List (Nat×PO))(i:Nat)(d:PV)(E:cL):cL:=
 match d with
 |.k c=>match c with
  |.ow p=>match cW E.t i with
   |.ow k=>cond (Nat.beq k p) E (Lq i k p E)
   |.nil=>match Z7 b p with
    |some (.arr t r _)=>cond (Nat.blt i E.n && Nat.blt p 4294967296) (akW i p t r E) E
    |some (.qr t k e)=>cond (Nat.blt i E.n && Nat.blt p 4294967296) (akX i p t k e E) E
    |_=>E
   |_=>E
  |.pt p _=>match cW E.t i with
   |.pt k _=>cond (Nat.beq k p) E (eU k p E)
   |_=>E
  |.mp p=>match cW E.t i with
   |.mp k=>cond (Nat.beq k p) E (eU k p E)
   |_=>E
  |_=>E
 |.h _=>match cW E.t i with
  |.ow k=>match bC E.h k with
   |some (.arr t r a _)=>⟨E.n,(i,.sc (.sl r) a)::E.t,(k,some (.arr t r a false))::E.h⟩
   |_=>E
  |_=>E
 |_=>E
def Ls(e:List (Nat×PO))(i j:Nat)(f:PV)(E:cL):cL:=
 match cW E.t i with
 |.ag a=>match a[j]? with
  |some c=>match f with
   |.k d=>match d with
    |.ow p=>match c with
     |.ow k=>cond (Nat.beq k p) E (eU k p E)
     |.nil=>match Z7 e p with
      |some (.arr t r _)=>cond (Nat.blt p 4294967296) ⟨E.n,(i,.ag ((a.map (As p)).set j (.ow p)))::ue p E.t,(p,some (.arr t r [] true))::rj p E.h⟩ E
      |_=>E
     |_=>E
    |_=>E
   |.h _=>match c with
    |.ow k=>match bC E.h k with
     |some (.arr t r b _)=>⟨E.n,(i,.ag (a.set j (.sc (.sl r) b)))::E.t,(k,some (.arr t r b false))::E.h⟩
     |_=>E
    |_=>E
   |_=>E
  |none=>E
 |_=>E
def Lt(g:List (Nat×PO))(b j:Nat)(h:PV)(E:cL):cL:=
 match bC E.h b with
 |some (.box d a)=>match a[j]? with
  |some c=>match h with
   |.k f=>match f with
    |.ow p=>match c with
     |.ow k=>cond (Nat.beq k p) E (Lr b j k p d a E)
     |.nil=>match Z7 g p with
      |some (.arr t r _)=>cond (Nat.beq b p|| !(Nat.blt p 4294967296)) E ⟨E.n,ue p E.t,(b,some (.box d ((a.map (As p)).set j (.ow p))))::(p,some (.arr t r [] true))::rj p E.h⟩
      |_=>E
     |_=>E
    |.pt p _=>match c with
     |.pt k _=>cond (Nat.beq k p) E (eU k p E)
     |_=>E
    |.mp p=>match c with
     |.mp k=>cond (Nat.beq k p) E (eU k p E)
     |_=>E
    |_=>E
   |.h _=>match c with
    |.ow k=>match bC E.h k with
     |some (.arr t r e _)=>⟨E.n,E.t,(b,some (.box d (a.set j (.sc (.sl r) e))))::(k,some (.arr t r e false))::E.h⟩
     |_=>E
    |_=>E
   |_=>E
  |none=>E
 |_=>E
def Z8(p:Nat)(E:cL):cL:=match bC E.h p with
 |some _=>eU p (4000000+p) E
 |none=>E
def Qf(b:PV)(c:EV)(E:cL):cL:=match b with
 |.k a=>match a with
  |.ow p=>match c with
   |.nil=>Z8 p E
   |_=>E
  |_=>E
 |_=>E
def akY(i j:Nat)(E:cL):EV:=match cW E.t i with
 |.ag a=>(a[j]?).getD .un
 |_=>.un
def akZ(b j:Nat)(E:cL):EV:=match bC E.h b with
 |some (.box _ a)=>(a[j]?).getD .un
 |_=>.un
def Dt(a:List (Nat×PO))(i:Nat):Nat->List PV->cL->cL
 |_,[],E=>E
 |j,p::b,E=>Dt a i (j+1) b (Ls a i j p (Qf p (akY i j E) E))
def Du(a:List (Nat×PO))(b:Nat):Nat->List PV->cL->cL
 |_,[],E=>E
 |j,p::c,E=>Du a b (j+1) c (Lt a b j p (Qf p (akZ b j E) E))
def Z9(i j:Nat)(E:cL):EV:=match cW E.t i with
 |.cl _ a cs=>((a++cs)[j]?).getD .un
 |_=>.un
def Lu(i j:Nat)(b:PV)(E:cL):cL:=match b with
 |.k a=>match a with
  |.ow p=>match Z9 i j E with
   |.ow k=>cond (Nat.beq k p) E (eU k p E)
   |_=>E
  |.pt p _=>match Z9 i j E with
   |.pt k _=>cond (Nat.beq k p) E (eU k p E)
   |_=>E
  |.mp p=>match Z9 i j E with
   |.mp k=>cond (Nat.beq k p) E (eU k p E)
   |_=>E
  |_=>E
 |_=>E
def IF(i:Nat):Nat->List PV->cL->cL
 |_,[],E=>E
 |j,p::a,E=>IF i (j+1) a (Lu i j p E)
def Dv(b:List (Nat×PO)):List (Nat×PV)->cL->cL
 |[],E=>E
 |(i,a)::t,E=>Dv b t (match a with
  |.ag l=>Dt b i 0 l E
  |.cl _ c cs=>IF i 0 (c++cs) E
  |a=>Gp b i a (Qf a (cW E.t i) E))
def Lv(k p:Nat)(E:cL):cL:=match bC E.h k with
 |some (.nr _ _ _ (some (_,some j)))=>cond (Nat.beq j p) E (eU j p E)
 |_=>E
def Dw(a:List (Nat×PO)):List (Nat×PO)->cL->cL
 |[],E=>E
 |(k,o)::h,E=>Dw a h (match o with
  |.box _ l=>Du a k 0 l E
  |.nr _ _ (some (_,p))=>Lv k p E
  |_=>E)
section
variable{P:Program}
def cn.of_eq{a b:St}(h:a=b):cn P a b:=h▸cn.refl
def W9(a b:Nat)(c:a<4294967296)(d:b<4294967296)(E:cL):cn P (bm E) (bm (Z6 a b E)):=by
 have:=cn.swap (P:=P) (st:=bm E) a b c d;simp only[bm,Z6,Lm,rb,afz]at this⊢;exact this
def gL(a b:Nat)(E:cL):cn P (bm E) (bm (eU a b E)):=by
 unfold eU;cases h:(Nat.blt a 4294967296 && Nat.blt b 4294967296)with
 |false=>exact cn.refl
 |true=>
  simp only[apS]at h;exact W9 a b (apY h.1) (apY h.2) E
def Dx{x y:cL}(a:cn P A (bm x))(b:cn P A (bm y)):cn P A (bm (cond g x y)):=by
 cases g
 ·exact b
 ·exact a
def gM(h:bC n.h d=some Q):a_ (bm n).h d=some (b_ Q):=by
 show a_ (bz n.h) d=_;rw[da,h];rfl
def s_(h:cW n.t d=D):bG (bm n).t d=enc D:=by
 show bG (gu n.t) d=_;rw[cH,h]
def Z_(i k p:Nat)(E:cL)(c:cW E.t i=.ow k)(b:(Nat.beq k p)=false):cn P (bm E) (bm (Lq i k p E)):=by
 unfold Lq;split
 ·rename_i t r g wr d
  cases a:(Nat.blt k 4294967296|| !(Nat.blt p 4294967296))with
  |true=>exact gL _ _ _
  |false=>
   simp only[arU,aue]at a;have f:p≠k:=λe=>by rw[e,aqp]at b;cases b
   have:=cn.aiw (P:=P) (st:=bm E) i k p (apY a.2) f (s_ c) (gM d);simp only[bm,gu,bz,ja,ig,Option.map,b_,enc,apW]at this⊢;exact this
 ·exact gL _ _ _
def W_(h:e[d]? =some D):(bX e)[d]? =some (enc D):=by rw[dR,aqd,h];rfl
def aaa(b j k p:Nat)(d:TypeId)(c:List EV)(E:cL)(i:bC E.h b=some (.box d c))(l:c[j]? =some (.ow k))(f:(Nat.beq k p)=false):cn P (bm E) (bm (Lr b j k p d c E)):=by
 unfold Lr;split
 ·rename_i t r o wr m
  cases a:(Nat.blt k 4294967296|| !(Nat.blt p 4294967296)||Nat.beq b p||Nat.beq b k)with
  |true=>exact gL _ _ _
  |false=>
   simp only[arU,aue]at a;have n:p≠k:=λe=>by rw[e,aqp]at f;cases f
   have g:b≠p:=λe=>by have:=a.1.2;rw[e,aqp]at this;cases this
   have h:b≠k:=λe=>by have:=a.2;rw[e,aqp]at this;cases this
   have:=cn.aiv (P:=P) (st:=bm E) b j k p (apY a.1.1.2) n g h (gM i) (W_ l) (gM m);simp only[bm,gu,bz,ja,ig,Option.map,b_,enc,od,s0,apW]at this⊢;exact this
 ·exact gL _ _ _
def aab{x y:cL}(a:cn P A (bm x))(b:g=false->cn P A (bm y)):cn P A (bm (cond g x y)):=by
 cases g with
 |true=>exact a
 |false=>exact b rfl
def Lw(h:List (Nat×PO))(i:Nat)(j:PV)(E:cL):cn P (bm E) (bm (Gp h i j E)):=by
 unfold Gp;split
 ·split
  ·split
   ·rename_i k b
    exact aab cn.refl λg=>Z_ _ _ _ _ b g
   ·rename_i f
    split
    ·rename_i p _ _ t r wr _
     cases a:(Nat.blt i E.n && Nat.blt p 4294967296)with
     |false=>exact cn.refl
     |true=>
      simp only[apS]at a;have:=cn.own (P:=P) (st:=bm E) i p (apY a.2) t r.w (s_ f) (apY a.1);simp only[akW,bm,gu,bz,ja,ig,Option.map,b_,enc,aqZ,aqh]at this⊢;exact this
    ·rename_i p _ _ t k m _
     cases a:(Nat.blt i E.n && Nat.blt p 4294967296)with
     |false=>exact cn.refl
     |true=>
      simp only[apS]at a;have:=cn.own (P:=P) (st:=bm E) i p (apY a.2) t 1 (s_ f) (apY a.1);simp only[akX,bm,gu,bz,ja,ig,Option.map,b_,enc,aqZ,aqh]at this⊢;exact this.trans (cn.afc λRd e w d=>d.ah9)
    ·exact cn.refl
   ·exact cn.refl
  ·split
   ·exact Dx cn.refl (gL _ _ _)
   ·exact cn.refl
  ·split
   ·exact Dx cn.refl (gL _ _ _)
   ·exact cn.refl
  ·exact cn.refl
 ·split
  ·rename_i k b
   split
   ·rename_i t r l wr d
    refine cn.Pm (P:=P) (st:=bm E) i (c:=.sl false r.w (List.map (bF r) l)) ?_;rw[s_ b];simp only[enc,jx,hJ,gM d,b_];rfl
   ·exact cn.refl
  ·exact cn.refl
 ·exact cn.refl
def wy(h:e[d]? =some D):(bX e)[d]? =some (enc D):=by rw[dR,aqd,h];rfl
def aac(f:List (Nat×PO))(i j:Nat)(g:PV)(E:cL):cn P (bm E) (bm (Ls f i j g E)):=by
 unfold Ls;split
 ·rename_i h b
  split
  ·rename_i c a
   split
   ·split
    ·split
     ·exact Dx cn.refl (gL _ _ _)
     ·split
      ·rename_i p _ _ t r wr _
       cases d:Nat.blt p 4294967296 with
       |false=>exact cn.refl
       |true=>
        have:=cn.akT (P:=P) (st:=bm E) i j p (apY d) t r.w (s_ b) (wy a);simp only[bm,gu,bz,ja,ig,Option.map,b_,enc,aqZ,od,s0,aqh]at this⊢;exact this
      ·exact cn.refl
     ·exact cn.refl
    ·exact cn.refl
   ·split
    ·rename_i k
     split
     ·rename_i t r l wr e
      have:=cn.aix (P:=P) (st:=bm E) i j (s_ b) (wy a) (gM e);simp only[bm,gu,bz,Option.map,b_,enc,od,encS]at this⊢;exact this
     ·exact cn.refl
    ·exact cn.refl
   ·exact cn.refl
  ·exact cn.refl
 ·exact cn.refl
def aad(l:List (Nat×PO))(b j:Nat)(m:PV)(E:cL):cn P (bm E) (bm (Lt l b j m E)):=by
 unfold Lt;split
 ·rename_i n o f
  split
  ·rename_i c d
   split
   ·split
    ·split
     ·exact aab cn.refl λi=>aaa _ _ _ _ _ _ _ f d i
     ·split
      ·rename_i p _ _ t r wr _
       cases a:(Nat.beq b p|| !(Nat.blt p 4294967296))with
       |true=>exact cn.refl
       |false=>
        simp only[arU,aue]at a;have g:b≠p:=λe=>by have:=a.1;rw[e,aqp]at this;cases this
        have:=cn.akU (P:=P) (st:=bm E) b j p (apY a.2) t r.w (gM f) (wy d) g;simp only[bm,gu,bz,ja,ig,Option.map,b_,enc,aqZ,od,s0,apW]at this⊢;exact this
      ·exact cn.refl
     ·exact cn.refl
    ·split
     ·exact Dx cn.refl (gL _ _ _)
     ·exact cn.refl
    ·split
     ·exact Dx cn.refl (gL _ _ _)
     ·exact cn.refl
    ·exact cn.refl
   ·split
    ·rename_i k
     split
     ·rename_i t r q wr h
      have:=cn.aiy (P:=P) (st:=bm E) b j (gM f) (wy d) (gM h);simp only[bm,gu,bz,Option.map,b_,enc,od,encS]at this⊢;exact this
     ·exact cn.refl
    ·exact cn.refl
   ·exact cn.refl
  ·exact cn.refl
 ·exact cn.refl
def IG(a:PV)(c:EV)(E:cL):cn P (bm E) (bm (Qf a c E)):=by
 unfold Qf;split
 ·split
  ·split
   ·unfold Z8
    split
    ·exact gL _ _ _
    ·exact cn.refl
   ·exact cn.refl
  ·exact cn.refl
 ·exact cn.refl
def Gq(a:List (Nat×PO))(i:Nat):∀(b:List PV) (j:Nat) (E:cL),cn P (bm E) (bm (Dt a i j b E))
 |[],_,_=>cn.refl
 |p::b,j,E=>((IG p _ E).trans (aac a i j p _)).trans (Gq a i b (j+1) _)
def Gr(a:List (Nat×PO))(b:Nat):∀(c:List PV) (j:Nat) (E:cL),cn P (bm E) (bm (Du a b j c E))
 |[],_,_=>cn.refl
 |p::c,j,E=>((IG p _ E).trans (aad a b j p _)).trans (Gr a b c (j+1) _)
def Dy(k p:Nat)(E:cL):cn P (bm E) (bm (cond (Nat.beq k p) E (eU k p E))):=Dx cn.refl (gL _ _ E)
def aae(i j:Nat)(a:PV)(E:cL):cn P (bm E) (bm (Lu i j a E)):=by
 unfold Lu;split
 ·split
  ·split
   ·exact Dy _ _ E
   ·exact cn.refl
  ·split
   ·exact Dy _ _ E
   ·exact cn.refl
  ·split
   ·exact Dy _ _ E
   ·exact cn.refl
  ·exact cn.refl
 ·exact cn.refl
def Gs(i:Nat):∀(a:List PV) (j:Nat) (E:cL),cn P (bm E) (bm (IF i j a E))
 |[],_,_=>cn.refl
 |p::a,j,E=>(aae i j p E).trans (Gs i a (j+1) _)
def Lx(a:List (Nat×PO)):∀(t:List (Nat×PV)) (E:cL),cn P (bm E) (bm (Dv a t E))
 |[],_=>cn.refl
 |(i,b)::t,E=>by
  refine cn.trans ?_ (Lx a t _);split
  ·exact Gq a i _ 0 E
  ·exact Gs i _ 0 E
  ·exact(IG _ _ E).trans (Lw a i _ _)
def aaf(k p:Nat)(E:cL):cn P (bm E) (bm (Lv k p E)):=by
 unfold Lv;split
 ·exact Dx cn.refl (gL _ _ E)
 ·exact cn.refl
def Ly(a:List (Nat×PO)):∀(h:List (Nat×PO)) (E:cL),cn P (bm E) (bm (Dw a h E))
 |[],_=>cn.refl
 |(k,o)::h,E=>by
  refine cn.trans ?_ (Ly a h _);split
  ·exact Gr a k _ 0 E
  ·exact aaf k _ E
  ·exact cn.refl
end
def Dz:List (Nat×PV)->List EV->List (Nat×EV)×List EV
 |[],a=>([],a)
 |(i,p)::t,a=>((i,(fH p a).1)::(Dz t (fH p a).2).1,(Dz t (fH p a).2).2)
def aag(c:List (Nat×EV)):List (Nat×PV)->Option (List EV)
 |[]=>some []
 |(i,p)::t=>match Di p (cW c i)with
  |some a=>match aag c t with
   |some b=>some (a++b)
   |none=>none
  |none=>none
def afA(c:eQ):List (Nat×PO)->Option (List EV)
 |[]=>some []
 |(k,p)::h=>match bC c k with
  |some o=>match afn p o with
   |some a=>match afA c h with
    |some b=>some (a++b)
    |none=>none
   |none=>none
  |none=>none
def Si{g:List (Nat×EV)}:∀(t:List (Nat×PV)) {c:List EV} (rest:List EV),aag g t=some c->(Dz t (c++rest)).2=rest/\∀i,Wk (enc (cW g i)) (enc (cW (Dz t (c++rest)).1 i))
 |[],c,rest,h=>by
  simp only[aag,apU]at h;subst h;exact⟨rfl,λi=>Wk.un⟩
 |(i,p)::t,c,rest,h=>by
  simp only[aag]at h;split at h
  ·rename_i a k
   split at h
   ·rename_i b l
    cases h;have d:=Sa p (b++rest) k;have e:=Si t rest l;simp only[Dz,aqm,d.1];refine⟨e.1,λj=>?_⟩;simp only[cW];by_cases f:j=i
    ·subst f;rw[aqp];exact d.2
    ·rw[iG f];exact e.2 j
   ·cases h
  ·cases h
def Sj{g:eQ}:∀(t:List (Nat×PO)) {f:List EV} (rest:List EV),afA g t=some f->
 ∀k d,bC (q_ t (f++rest)) k=some d->∃o,bC g k=some o/\∀Rd e w,OR Rd e w k (b_ o)->OR Rd e w k (b_ d)
 |[],f,rest,h,k,d,c=>by cases c
 |(i,p)::t,f,rest,h,k,d,c=>by
  simp only[afA]at h;split at h
  ·rename_i o s
   split at h
   ·rename_i a q
    split at h
    ·rename_i b r
     cases h;obtain⟨l,u,m,n⟩:=Sb p (b++rest) q;simp only[q_,aqm,l,m,bC]at c;by_cases j:k=i
     ·subst j
      rw[aqp]at c;cases c;exact⟨o,s,λRd e w=>n Rd e w k⟩
     ·rw[iG j]at c
      exact Sj t rest r k d c
    ·cases h
   ·cases h
  ·cases h
structure PS where
 t:List (Nat×PV)
 h:List (Nat×PO)
 c:List Sc
def eX(n:Nat)(a:PS)(x:ky a.c):cL:=⟨n,(Dz a.t (hS a.c x)).1,q_ a.h (Dz a.t (hS a.c x)).2⟩
def pd(a:List (Nat×EV)):List (Nat×PV)->List (Nat×EV)
 |[]=>[]
 |(i,_)::t=>(i,cW a i)::pd a t
def canon(c:PS)(E:cL):Option (ky c.c):=
 match aag (Dw c.h c.h (Dv c.h c.t ⟨E.n,pd E.t c.t,E.h⟩)).t c.t with
 |some a=>match afA (Dw c.h c.h (Dv c.h c.t ⟨E.n,pd E.t c.t,E.h⟩)).h c.h with
  |some b=>uc c.c (a++b)
  |none=>none
 |none=>none
def DA(a:List (Nat×EV)):∀(t:List (Nat×PV)) (i:Nat),cW (pd a t) i=cW a i\/cW (pd a t) i=.un
 |[],i=>.inr rfl
 |(j,p)::t,i=>by
  simp only[pd,cW];by_cases h:i=j
  ·subst h;rw[aqp];exact .inl rfl
  ·rw[iG h];exact DA a t i
def afB(i k p:Nat)(E:cL):(Lq i k p E).n=E.n:=by
 unfold Lq;have c:∀(b:Bool) (x y:cL),x.n=E.n->y.n=E.n->(cond b x y).n=E.n:=λb x y e f=>by cases b<;>assumption
 have d:∀a b:Nat,(eU a b E).n=E.n:=λa b=>by unfold eU;exact c _ _ _ rfl rfl
 split
 ·exact c _ _ _ (d _ _) rfl
 ·exact d _ _
def afC(b j k p:Nat)(e:TypeId)(f:List EV)(E:cL):(Lr b j k p e f E).n=E.n:=by
 unfold Lr;have c:∀(b:Bool) (x y:cL),x.n=E.n->y.n=E.n->(cond b x y).n=E.n:=λb x y g h=>by cases b<;>assumption
 have d:∀a b:Nat,(eU a b E).n=E.n:=λa b=>by unfold eU;exact c _ _ _ rfl rfl
 split
 ·exact c _ _ _ (d _ _) rfl
 ·exact d _ _
def Sl(e:List (Nat×PO))(i:Nat)(f:PV)(E:cL):(Gp e i f E).n=E.n:=by
 unfold Gp;have c:∀(b:Bool) (x y:cL),x.n=E.n->y.n=E.n->(cond b x y).n=E.n:=λb x y g h=>by cases b<;>assumption
 have d:∀a b:Nat,(eU a b E).n=E.n:=λa b=>by unfold eU;exact c _ _ _ rfl rfl
 repeat' (first|rfl|exact d _ _|exact c _ _ _ rfl rfl|exact c _ _ _ rfl (d _ _)|exact c _ _ _ rfl (afB _ _ _ _)|split)
def afD(e:List (Nat×PO))(i j:Nat)(f:PV)(E:cL):(Ls e i j f E).n=E.n:=by
 unfold Ls;have c:∀(b:Bool) (x y:cL),x.n=E.n->y.n=E.n->(cond b x y).n=E.n:=λb x y g h=>by cases b<;>assumption
 have d:∀a b:Nat,(eU a b E).n=E.n:=λa b=>by unfold eU;exact c _ _ _ rfl rfl
 repeat' (first|rfl|exact d _ _|exact c _ _ _ rfl rfl|exact c _ _ _ rfl (d _ _)|split)
def afE(e:List (Nat×PO))(i j:Nat)(f:PV)(E:cL):(Lt e i j f E).n=E.n:=by
 unfold Lt;have c:∀(b:Bool) (x y:cL),x.n=E.n->y.n=E.n->(cond b x y).n=E.n:=λb x y g h=>by cases b<;>assumption
 have d:∀a b:Nat,(eU a b E).n=E.n:=λa b=>by unfold eU;exact c _ _ _ rfl rfl
 repeat' (first|rfl|exact d _ _|exact c _ _ _ rfl rfl|exact c _ _ _ rfl (d _ _)|exact c _ _ _ rfl (afC _ _ _ _ _ _ _)|split)
def Qg(a:PV)(c:EV)(E:cL):(Qf a c E).n=E.n:=by
 unfold Qf;split
 ·split
  ·split
   ·unfold Z8
    split
    ·unfold eU;cases(Nat.blt _ 4294967296 && Nat.blt _ 4294967296)<;>rfl
    ·rfl
   ·rfl
  ·rfl
 ·rfl
def Lz(b:List (Nat×PO))(i:Nat):∀(a:List PV) (j:Nat) (E:cL),(Dt b i j a E).n=E.n
 |[],_,_=>rfl
 |p::a,j,E=>by rw[Dt,Lz b i a,afD,Qg]
def LA(b:List (Nat×PO))(i:Nat):∀(a:List PV) (j:Nat) (E:cL),(Du b i j a E).n=E.n
 |[],_,_=>rfl
 |p::a,j,E=>by rw[Du,LA b i a,afE,Qg]
def IH(k p:Nat)(E:cL):(cond (Nat.beq k p) E (eU k p E)).n=E.n:=by
 cases Nat.beq k p with
 |true=>rfl
 |false=>
  show(eU k p E).n=E.n;unfold eU;cases(Nat.blt k 4294967296 && Nat.blt p 4294967296)<;>rfl
def afF(i j:Nat)(a:PV)(E:cL):(Lu i j a E).n=E.n:=by
 unfold Lu;split
 ·split
  ·split
   ·exact IH _ _ E
   ·rfl
  ·split
   ·exact IH _ _ E
   ·rfl
  ·split
   ·exact IH _ _ E
   ·rfl
  ·rfl
 ·rfl
def LB(i:Nat):∀(a:List PV) (j:Nat) (E:cL),(IF i j a E).n=E.n
 |[],_,_=>rfl
 |p::a,j,E=>(LB i a (j+1) _).trans (afF i j p E)
def Sm(a:List (Nat×PO)):∀(t:List (Nat×PV)) (E:cL),(Dv a t E).n=E.n
 |[],_=>rfl
 |(i,b)::t,E=>by
  refine(Sm a t _).trans ?_;cases b with
  |ag l=>exact Lz a i _ 0 E
  |cl d e c=>exact LB i _ 0 E
  |_=>exact(Sl a i _ _).trans (Qg _ _ E)
def Sq(a:List (Nat×PO)):∀(t:List (Nat×PO)) (E:cL),(Dw a t E).n=E.n
 |[],_=>rfl
 |(i,c)::t,E=>by
  refine(Sq a t _).trans ?_;cases c with
  |box _ l=>exact LA a i _ 0 E
  |nr t r b=>
   cases b with
   |none=>rfl
   |some q=>
    obtain⟨s,p⟩:=q;show(Lv i p E).n=E.n;unfold Lv;split
    ·rename_i j _
     cases Nat.beq j p with
     |true=>rfl
     |false=>
      show(eU j p E).n=E.n;unfold eU;cases(Nat.blt j 4294967296 && Nat.blt p 4294967296)<;>rfl
    ·rfl
  |_=>rfl
def aah{P:Program}{c:PS}{x:ky c.c}(h:canon c n=some x):cn P (bm n) (bm (eX n.n c x)):=by
 unfold canon at h;have r:cn P (bm n) (bm ⟨n.n,pd n.t c.t,n.h⟩):=by
  refine cn.wk (λi=>?_) λk p d=>⟨p,d,λ_ _ _ h=>h⟩;rw[cH,cH];rcases DA n.t c.t i with h|h
  ·rw[h];exact Wk.refl _
  ·rw[h];exact Wk.un
 have f:=r.trans ((Lx (P:=P) c.h c.t _).trans (Ly c.h c.h _));have e:(Dw c.h c.h (Dv c.h c.t ⟨n.n,pd n.t c.t,n.h⟩)).n=n.n:=by rw[Sq,Sm]
 generalize Dw c.h c.h (Dv c.h c.t ⟨n.n,pd n.t c.t,n.h⟩)=q at h f e;split at h
 ·rename_i a u
  split at h
  ·rename_i b v
   have j:=wu h;have m:=Si c.t b u;have g:=Sj c.h [] v;rw[aqy]at g;refine f.trans ?_;obtain⟨z,A,y⟩:=q;simp only at e;subst e;refine cn.wk (λi=>?_) λk p d=>?_
   ·rw[cH,cH]
    simp only[eX,<-j];exact m.2 i
   ·rw[da]at d
    obtain⟨w,l,rfl⟩:=aqo.1 d;simp only[eX,<-j,m.1]at l;obtain⟨o,s,t⟩:=g k w l;exact⟨b_ o,by rw[da,s];rfl,t⟩
  ·cases h
 ·cases h
def aai:eQ->bU
 |[]=>none
 |(k,o)::h=>match o with
  |some (.nr _ _ _ _)=>some k
  |_=>aai h
def aaj:List (Nat×PO)->List (Nat×PO)->Option (Nat×TypeId)
 |_,[]=>none
 |a,(_,o)::h=>match o with
  |.nr _ _ (some (s,p))=>match Z7 a p with
   |some (.arr b _ _)=>some (s,b)
   |_=>none
  |_=>aaj a h
def ahn(b:Nat)(t a:TypeId)(r:Sc)(c:List (List r.cZ))(i:Int)(E:cL):cL:=
 ⟨E.n,ue (5000000+b) E.t,(b,some (.nr t r c (some (i,some (5000000+b)))))::(5000000+b,some (.arr a r [] true))::rj (5000000+b) E.h⟩
def aiA(e:PS)(E:cL){R:Type}(k:cL->Option R):Option R:=
 match aai E.h with
 |none=>k E
 |some b=>match bC E.h b with
  |some (.nr t r a d)=>match aaj e.h e.h with
   |none=>match d with
    |some (i,some j)=>match bC E.h j with
     |some (.arr c f g wr)=>match eB (.sl f) (.sl r) g with
      |some h=>aW (ba a i) λ_=>cond (l4 (show List r.cZ from h)) none (k ⟨E.n,E.t,(b,some (.nr t r (a.set i.toNat h) none))::(j,some (.arr c f g false))::E.h⟩)
      |none=>none
     |_=>none
    |_=>k E
   |some (s,c)=>match d with
    |none=>match cW E.t s with
     |.sc (.i _) i=>cond (Nat.blt (5000000+b) 4294967296) (aW (ba a i) λx=>cond (l4 x) (k (ahn b t c r a i E)) none) none
     |_=>k E
    |_=>k E
  |_=>k E
def afG{P:Program}{G:PS}{R:Type}{k:cL->Option R}{r:R}(h:aiA G n k=some r):∃f,cn P (bm n) (bm f)/\f.n=n.n/\k f=some r:=by
 unfold aiA at h;split at h
 ·exact⟨n,cn.refl,rfl,h⟩
 ·rename_i b _
  split at h
  ·rename_i t c d H u
   have o:=gM u;split at h
   ·split at h
    ·rename_i i j
     split at h
     ·rename_i p K m wr A
      split at h
      ·rename_i e F
       obtain⟨q,l⟩:=di F;cases q;have l:e=m:=l;subst l;obtain⟨x,a,h⟩:=bj h;obtain⟨z,a⟩:=eH a;rcases bL h with⟨_,h⟩|⟨D,h⟩
       ·cases h
       refine⟨_,?_,by rfl,h⟩;have C:i.toNat<d.length:=(apV.1 a).1;have:=cn.aiz (P:=P) (st:=bm n) b i.toNat (k:=j) o (by
        simp only[vf,nrH];rw[auO (by simpa using C)]) (gM A)
       refine this.trans (cn.of_eq ?_);have g:(vf c d (some (i,some j))).set i.toNat (.sl false c.w (List.map (bF c) e))=vf c (d.set i.toNat e) none:=by
        simp only[vf,aua,arP];congr 1;cases e with
        |nil=>cases D
        |cons y m=>rfl
       simp only[bm,bz,Option.map,b_,g]
      ·cases h
     ·cases h
    ·exact⟨n,cn.refl,rfl,h⟩
   ·rename_i s p _
    split at h
    ·split at h
     ·rename_i J i I
      obtain⟨v,h⟩:=aY h;obtain⟨x,a,h⟩:=bj h;obtain⟨z,a⟩:=eH a;obtain⟨w,h⟩:=aY h;refine⟨_,?_,by rfl,h⟩;have E:x=[]:=by cases x with
       |nil=>rfl
       |cons y m=>cases w
      subst E;have B:5000000+b<4294967296:=apY v;have:=cn.akV (P:=P) (st:=bm n) b i.toNat (5000000+b) B p c.w o (by
       simp only[vf,aqd,a];rfl) (by omega)
      refine this.trans (cn.of_eq ?_);have g:((vf c d none).map (AV.kill (5000000+b))).set i.toNat (.ow (5000000+b))=vf c d (some (i,some (5000000+b))):=by
       rw[<-Lp];rfl
      simp only[ahn,bm,bz,Option.map,b_,ja,ig,g];rfl
     ·exact⟨n,cn.refl,rfl,h⟩
    ·exact⟨n,cn.refl,rfl,h⟩
  ·exact⟨n,cn.refl,rfl,h⟩
def ak0:List (Nat×PO)->Bool
 |[]=>false
 |(_,o)::h=>match o with
  |.nr _ _ _=>true
  |_=>ak0 h
def aiB(c:PS)(E:cL)(k:cL->Option b):Option b:=match aai E.h with
 |none=>k E
 |some a=>cond (ak0 c.h) (k E) (match bC E.h a with
  |some (.nr t r d none)=>k ⟨E.n,E.t,(a,some (.arr t (.sl r) d true))::E.h⟩
  |_=>k E)
def afH{P:Program}{q:PS}{k:cL->Option b}{r:b}(h:aiB q n k=some r):∃f,cn P (bm n) (bm f)/\f.n=n.n/\k f=some r:=by
 unfold aiB at h;split at h
 ·exact⟨n,cn.refl,rfl,h⟩
 ·rename_i a _
  rcases bL h with⟨_,h⟩|⟨_,h⟩
  ·exact⟨n,cn.refl,rfl,h⟩
  split at h
  ·rename_i t g i m
   have o:=gM m;refine⟨_,?_,by rfl,h⟩;have s:cn P (bm n) ⟨n.n,gu n.t,(a,some (.nr t (i.map (WO g))))::bz n.h⟩:=cn.same (λ_=>rfl) λj=>by
    by_cases l:j=a
    ·subst l
     rw[bf];exact o.symm
    ·rw[bc l]
   refine s.trans (cn.afc λRd e w p=>?_);refine(p.akG (λc d=>?_) (λc d=>?_) true).wh (P4 g i) (λc d=>?_)
   ·obtain⟨x,_,rfl⟩:=ap4.1 d
    cases x<;>rfl
   ·obtain⟨x,_,rfl⟩:=ap4.1 d
    cases x<;>rfl
   ·exact eO (.sl g) i c d
  ·exact⟨n,cn.refl,rfl,h⟩
def pf(a:PS)(E:cL)(k:ky a.c->Option b):Option b:=aiA a E λc=>aiB a c λc=>aW (canon a c) k
def lS{P:Program}{a:PS}{k:ky a.c->Option b}{r:b}(h:pf a n k=some r):∃x,cn P (bm n) (bm (eX n.n a x))/\k x=some r:=by
 obtain⟨o,c,f,i⟩:=afG (P:=P) h;obtain⟨m,d,e,g⟩:=afH (P:=P) i;obtain⟨x,l,j⟩:=bj g;have:=aah (P:=P) l;rw[e,f]at this;exact⟨x,c.trans (d.trans this),j⟩
variable{L:Code}
def Sr:Exit->Exit->Bool
 |.normal,.normal=>true
 |.ret,.ret=>true
 |.exit i,.exit j=>Nat.beq i j
 |_,_=>false
def LC{x y:Exit}(h:Sr x y=true):x=y:=by
 unfold Sr at h;split at h
 ·rfl
 ·rfl
 ·rw[apX h]
 ·cases h
@[reducible] def FV:List (Exit×PS)->Type
 |[]=>Unit
 |[o]=>ky o.2.c
 |o::p::r=>Sum (ky o.2.c) (FV (p::r))
def Au:(c:List (Exit×PS))->Exit->cL->Option (FV c)
 |[],_,_=>none
 |[o],x,E=>cond (Sr o.1 x) (pf o.2 E some) none
 |o::p::r,x,E=>cond (Sr o.1 x) (pf o.2 E λa=>some (.inl a)) (match Au (p::r) x E with
  |some b=>some (.inr b)
  |none=>none)
def LD(n:Nat):(c:List (Exit×PS))->FV c->{R:Type}->(Exit->cL->Option R)->Option R
 |[],_,_,_=>none
 |[o],v,_,k=>k o.1 (eX n o.2 v)
 |o::p::r,v,_,k=>match v with
  |.inl a=>k o.1 (eX n o.2 a)
  |.inr b=>LD n (p::r) b k
inductive Pl where
 |z
 |n (a b:Pl)
 |join (ins:PS) (outs:List (Exit×PS)) (p:Pl)
 |loop (ins:PS) (outs:List (Exit×PS)) (p:Pl)
def Pl.l:Pl->Pl
 |.n a _=>a
 |_=>.z
def Pl.r:Pl->Pl
 |.n _ b=>b
 |_=>.z
abbrev Y4:=Pl->cL->(R:Type)->(Exit->cL->Option R)->Option R
def aho(f:Y4)(n:Nat)(a:PS)(b:List (Exit×PS))(p:Pl):Nat->ky a.c->Option (FV b)
 |0,_=>none
 |_+1,v=>f p (eX n a v) _ (Au b)
def DB(f:Y4)(n:Nat)(a:PS)(b:List (Exit×PS))(p:Pl):Nat->ky a.c->Option (FV b)
 |0,_=>none
 |m+1,v=>f p (eX n a v) _ λx E=>match x with
  |.normal=>pf a E (DB f n a b p m)
  |x=>Au b x E
def aak(N:Nat)(c:Y4):Y4:=λd E _ k=>match d with
 |.loop a b p=>pf a E λv=>aW (DB c E.n a b p N v) λo=>LD E.n b o k
 |_=>none
def Gt(N:Nat)(f:Y4):Y4:=λa E _ k=>match a with
 |.join b c p=>pf b E λv=>aW (aho f E.n b c p N v) λo=>LD E.n c o k
 |a=>f a E _ k
def aal(i:Nat):bp->Nat
 |[]=>i
 |o::l=>match o.dst with
  |some d=>cond (Nat.beq d i) (match o.op with
   |.move (.tmp j)=>j
   |_=>i) (aal i l)
  |none=>aal i l
def wz(a:bp):bp->aZ
 |[]=>[]
 |o::l=>match o.op with
  |.slice _ (.tmp i) _ _ _=>aal i a::wz a l
  |_=>wz a l
def aam:aZ->aZ
 |[]=>[]
 |i::l=>cond (l.any (Nat.beq i)) (i::aam l) (aam l)
def afI:aZ->cL->cL
 |[],E=>E
 |i::l,E=>afI l (Gp [] i (.h .u) E)
def Xa(l:bp)(E:cL):cL:=afI (aam (wz l l)) E
section
variable{P:Program}
def BW:∀(l:aZ) (E:cL),cn P (bm E) (bm (afI l E))/\(afI l E).n=E.n
 |[],E=>⟨cn.refl,rfl⟩
 |i::l,E=>⟨cn.trans (Lw [] i _ E) (BW l _).1,(BW l _).2.trans (Sl [] i _ E)⟩
end
def Av:Code->Bool
 |.seq a b=>Av a && Av b
 |.cond _ a b=>Av a && Av b
 |.block _ a=>Av a
 |.loop a=>Av a
 |.scope a=>Av a
 |.rangeFunc _ _ _ _=>false
 |_=>true
section
variable(T:TypeId->bs)(CT:List iZ)(N:Nat)
noncomputable def uf(c:Code):Y4:=
 Code.rec (motive:=λ_=>Y4)
  (λ_ E _ k=>k .normal E)
  (λ_ f h=>Gt N λ_ E _ k=>cond h (FG T CT f.toList (Xa f.toList E) f.toList [] (k .normal)) (BA T CT f.toList f.toList E (k .normal)))
  (λ_ _ d g=>Gt N λa E _ k=>d a.l E _ λx e=>match x with
   |.normal=>g a.r e _ k
   |x=>k x e)
  (λc _ _ d g=>Gt N λa E _ k=>match eI (cW E.t) c with
   |.sc .b b=>match c with
    |.tmp i=>cond b (d a.l ⟨E.n,(i,.sc .b true)::E.t,E.h⟩ _ k) (g a.r ⟨E.n,(i,.sc .b false)::E.t,E.h⟩ _ k)
    |_=>cond b (d a.l E _ k) (g a.r E _ k)
   |_=>none)
  (λid _ d=>Gt N λa E _ k=>d a.l E _ λx e=>match x with
   |.exit i=>cond (Nat.beq i id) (k .normal e) (k (.exit i) e)
   |x=>k x e)
  (λ_ d=>aak N d)
  (λ_ _ _ _ _ _=>λ_ _ _ _=>none)
  (λid _ E _ k=>k (.exit id) E)
  (λ_ d=>λa E _ k=>d a.l E _ λx e=>match x with
   |.goto _=>none
   |x=>k x e)
  (λ_=>λ_ E _ k=>k .normal E)
  (λ_=>λ_ _ _ _=>none)
  (λ_ E _ k=>k .ret E)
  (λ_=>λ_ _ _ _=>none)
  c
end
section
variable{P:Program}{T:TypeId->bs}{CT:List iZ}{N:Nat}
def Qh(t:Bool)(P:Program)(c:Code)(f:Y4):Prop:=∀(b:Pl) (E:cL) (R:Type) (k:Exit->cL->Option R) (r:R),f b E R k=some r->AC t P c (bm E) λx s=>∃a,s=bm a/\a.n=E.n/\k x a=some r
def DC{n:Nat}:∀{os:List (Exit×PS)} {o:FV os} {R:Type} {k:Exit->cL->Option R} {r:R},LD n os o k=some r->∀{x:Exit} {E:cL},Au os x E=some o->E.n=n->∃f,cn P (bm E) (bm f)/\f.n=n/\k x f=some r
 |[],o,R,k,r,h,x,E,c,d=>by cases c
 |[j],o,R,k,r,h,x,E,c,d=>by
  simp only[Au]at c;obtain⟨e,a⟩:=aY c;have:=LC e;subst this;obtain⟨y,this,g⟩:=lS (P:=P) a;cases g;rw[d]at this;exact⟨_,this,rfl,h⟩
 |j::p::l,o,R,k,r,h,x,E,c,d=>by
  simp only[Au]at c;rcases bL c with⟨e,a⟩|⟨e,a⟩
  ·have:=LC e
   subst this;obtain⟨y,this,g⟩:=lS (P:=P) a;cases g;rw[d]at this;exact⟨_,this,rfl,h⟩
  ·split at a
   ·rename_i b i
    cases a;exact DC (os:=p::l) h i d
   ·cases a
def Qh.out{E0 E:cL}{c:List (Exit×PS)}{o:FV c}{k:Exit->cL->Option b}{r:b}(h:AC g P L (bm E) λx s=>∃a,s=bm a/\a.n=E.n/\Au c x a=some o)(d:LD E.n c o k=some r):
 AC g P L (bm E) λx s=>∃a,cn P s (bm a)/\a.n=E.n/\k x a=some r:=by
 refine h.mono λx s=>?_;rintro⟨a,rfl,e,f⟩;exact DC d f e
def AC.leK{c:Exit->St->Prop}(h:AC g P L A λx s=>∃b,cn P s b/\c x b):AC g P L A c:=by
 intro r C k e a w Q z o v;refine h r C k e a w Q z o λx s B j d n l f i p t=>?_;obtain⟨b,u,y⟩:=B;obtain⟨m,q⟩:=u j d l f i p;exact v x b y j d n m f i q t
def wA{f:Y4}(a:Qh g P L f):Qh g P L (Gt N f):=by
 intro u E R k r h;unfold Gt at h;split at h
 ·rename_i c t p
  obtain⟨v,l,e⟩:=lS (P:=P) h;obtain⟨o,b,i⟩:=bj e;cases N with
  |zero=>cases b
  |succ M=>
   have:=a p (eX E.n c v) _ _ _ b;have j:=Qh.out (E:=eX E.n c v) (E0:=E) (k:=k) (r:=r) this i;refine AC.le l (AC.leK (j.mono λx s=>?_));rintro⟨d,n,q,m⟩;exact⟨_,n,d,rfl,q,m⟩
 ·exact a _ E R k r h
def aan{f:Y4}(r:Qh g P L f)(n:Nat)(b:PS)(e:List (Exit×PS))(p:Pl)(o:FV e)(m:Nat)(v:ky b.c)(h:DB f n b e p m v=some o):
 AC g P (.loop L) (bm (eX n b v)) λx s=>∃a,s=bm a/\a.n=n/\Au e x a=some o:=by
 refine AC.loop (α:={q:Nat×ky b.c//DB f n b e p q.1 q.2=some o}) (λq=>bm (eX n b q.1.2)) (λq=>q.1.1) ⟨(m,v),h⟩ cn.refl ?_;rintro⟨⟨m,v⟩,h⟩;cases m with
 |zero=>cases h
 |succ m=>
  simp only[DB]at h;have:=r p (eX n b v) _ _ _ h;refine AC.mono this λx s=>?_;rintro⟨a,rfl,d,c⟩;cases x with
  |normal=>
   obtain⟨t,j,k⟩:=lS (P:=P) c;rw[d]at j;exact⟨⟨(m,t),k⟩,j,Nat.lt_succ_self m⟩
  |exit i=>exact⟨a,rfl,d,c⟩
  |goto l=>exact⟨a,rfl,d,c⟩
  |ret=>exact⟨a,rfl,d,c⟩
  |panic u=>exact⟨a,rfl,d,c⟩
  |outgrown=>exact⟨a,rfl,d,c⟩
def Qi{ops:bp}:∀{l:bp} {E:cL} {n:Nat} {R:Type} {k:cL->Option R},E.n=n->BA T CT ops l E (λa=>cond (Nat.beq a.n n) (k a) none)=BA T CT ops l E k
 |[],E,n,R,k,f=>by simp only[BA,f,aqp,aqh]
 |o::l,E,n,R,k,f=>by
  subst f;have step:∀(b:cL),b.n=E.n->pa T CT o b (λa=>BA T CT ops l a λa=>cond (Nat.beq a.n E.n) (k a) none)=pa T CT o b (λa=>BA T CT ops l a k):=by
   intro b d;unfold pa;have e:=λ(t:List (Nat×EV)) (h:eQ)=>Qi (ops:=ops) (l:=l) (k:=k) (E:=⟨b.n,t,h⟩) d;split<;>simp only[e]
  have skip:∀(b:cL),b.n=E.n->(BA T CT ops l (Dq o.dst b) λa=>cond (Nat.beq a.n E.n) (k a) none)=BA T CT ops l (Dq o.dst b) k:=λb d=>Qi (E:=Dq o.dst b) d;simp only[BA,exG];split
  ·exact step E rfl
  ·split
   ·split
    ·rename_i s _ _ c _
     rw[step ⟨E.n,(s,.sc .b true)::E.t,E.h⟩ rfl,step ⟨E.n,(s,.sc .b false)::E.t,E.h⟩ rfl,skip ⟨E.n,(s,.sc .b true)::E.t,E.h⟩ rfl,skip ⟨E.n,(s,.sc .b false)::E.t,E.h⟩ rfl]
    ·rw[skip E rfl]
    ·rfl
   ·rfl
def ak1{c l:bp}{k:cL->Option b}{r:b}(h:BA T CT c l n k=some r):BA T CT c l n (λa=>cond (Nat.beq a.n n.n) (k a) none)=some r:=by rw[Qi rfl];exact h
def aao{l:bp}{E:cL}:∀{rest:bp} {done:List y7} {R:Type} {k:cL->Option R},FG T CT l E rest done (λa=>cond (Nat.beq a.n E.n) (k a) none)=FG T CT l E rest done k
 |[],done,R,k=>by simp only[FG,aqp,aqh]
 |o::rest,done,R,k=>by
  simp only[FG,aao (rest:=rest)]
def ak2{l c:bp}{done:List y7}{k:cL->Option b}{r:b}(h:FG T CT l n c done k=some r):FG T CT l n c done (λa=>cond (Nat.beq a.n n.n) (k a) none)=some r:=by rw[aao];exact h
def aap(J:Place P T CT)(c:Code):∀t,(t=false->Av c=true)->Qh t P c (uf T CT N c):=by
 induction c with
 |skip=>
  intro t _ j E R k r h;exact AC.skip ⟨E,rfl,rfl,h⟩
 |region id w H=>
  intro t _;refine wA (f:=λ_ E _ k=>cond H (FG T CT w.toList (Xa w.toList E) w.toList [] (k .normal)) (BA T CT w.toList w.toList E (k .normal))) ?_;intro j E R k r h;have I:w=w.toList.toArray:=by simp
  cases H with
  |true=>
   have:=Qd (t:=t) J (id:=id) (k:=λd=>cond (Nat.beq d.n (Xa w.toList E).n) (k .normal d) none) (l:=w.toList) (E:=Xa w.toList E) (r:=r) (by
    exact ak2 h)
   rw[I];refine AC.le (BW (P:=P) (aam (wz w.toList w.toList)) E).1 ?_;rw[show(Xa w.toList E).n=E.n from(BW (P:=P) (aam (wz w.toList w.toList)) E).2]at this;refine this.mono λx s=>?_;rintro⟨rfl,d,rfl,m⟩;obtain⟨u,z⟩:=aY m;exact⟨d,rfl,apX u,z⟩
  |false=>
   have:=Qe (t:=t) J (id:=id) (k:=λd=>cond (Nat.beq d.n E.n) (k .normal d) none) (l:=w.toList) (E:=E) (r:=r) (ak1 h);rw[I];refine this.mono λx s=>?_;rintro⟨rfl,d,rfl,m⟩;obtain⟨u,z⟩:=aY m;exact⟨d,rfl,apX u,z⟩
 |seq a b q A=>
  intro t y;have q:=q t λe=>by(have:=y e;simp only[Av,apS]at this;exact this.1)
  have A:=A t λe=>by(have:=y e;simp only[Av,apS]at this;exact this.2)
  clear y;refine wA (f:=λj E _ k=>uf T CT N a j.l E _ λx d=>match x with
   |.normal=>uf T CT N b j.r d _ k
   |x=>k x d) ?_
  intro j E R k r h;refine AC.seq ((q j.l E R _ r h).mono λx s=>?_);rintro⟨d,rfl,n,m⟩;cases x with
  |normal=>
   refine(A j.r d R k r m).mono λx s=>?_;rintro⟨L,rfl,S,O⟩;exact⟨L,rfl,S.trans n,O⟩
  |exit i=>exact⟨d,rfl,n,m⟩
  |goto l=>exact⟨d,rfl,n,m⟩
  |ret=>exact⟨d,rfl,n,m⟩
  |panic G=>exact⟨d,rfl,n,m⟩
  |outgrown=>exact⟨d,rfl,n,m⟩
 |cond c a b q A=>
  intro t y;have q:=q t λe=>by(have:=y e;simp only[Av,apS]at this;exact this.1)
  have A:=A t λe=>by(have:=y e;simp only[Av,apS]at this;exact this.2)
  clear y;refine wA (f:=λj E _ k=>match eI (cW E.t) c with
   |.sc .b F=>match c with
    |.tmp i=>cond F (uf T CT N a j.l ⟨E.n,(i,.sc .b true)::E.t,E.h⟩ _ k) (uf T CT N b j.r ⟨E.n,(i,.sc .b false)::E.t,E.h⟩ _ k)
    |_=>cond F (uf T CT N a j.l E _ k) (uf T CT N b j.r E _ k)
   |_=>none) ?_
  intro j E R k r h;simp only at h;split at h
  ·rename_i F C
   have D:=(Sk.enc E).is C (by intro e;cases e);split at h
   ·rename_i i
    rcases bL h with⟨B,u⟩|⟨B,u⟩
    ·subst B
     exact AC.ahg D (AC.le (cn.Z0 (P:=P) C) (q j.l _ R k r u))
    ·subst B
     exact AC.ahh D (AC.le (cn.Z0 (P:=P) C) (A j.r _ R k r u))
   ·rcases bL h with⟨B,u⟩|⟨B,u⟩
    ·subst B
     exact AC.ahg D (q j.l _ R k r u)
    ·subst B
     exact AC.ahh D (A j.r _ R k r u)
  ·cases h
 |block id a q=>
  intro t y;have q:=q t y;refine wA (f:=λj E _ k=>uf T CT N a j.l E _ λx d=>match x with
   |.exit i=>cond (Nat.beq i id) (k .normal d) (k (.exit i) d)
   |x=>k x d) ?_
  intro j E R k r h;refine AC.block ((q j.l E R _ r h).mono λx s=>?_);rintro⟨d,rfl,n,m⟩;cases x with
  |exit i=>
   simp only[Pt];rcases bL m with⟨u,z⟩|⟨u,z⟩
   ·rw[apR (apX u)]
    exact⟨d,rfl,n,z⟩
   ·rw[apQ (λe=>by rw[e,aqp]at u;cases u)]
    exact⟨d,rfl,n,z⟩
  |normal=>exact⟨d,rfl,n,m⟩
  |goto l=>exact⟨d,rfl,n,m⟩
  |ret=>exact⟨d,rfl,n,m⟩
  |panic G=>exact⟨d,rfl,n,m⟩
  |outgrown=>exact⟨d,rfl,n,m⟩
 |loop a q=>
  intro t y;have q:=q t y;intro j E R k r h;change aak N (uf T CT N a) j E R k=some r at h;unfold aak at h;split at h
  ·rename_i K V p
   obtain⟨v,C,u⟩:=lS (P:=P) h;obtain⟨o,U,z⟩:=bj u;have:=aan q E.n K V p o N v U;have M:=Qh.out (E:=eX E.n K v) (E0:=E) (k:=k) (r:=r) this z;refine AC.le C (AC.leK (M.mono λx s=>?_));rintro⟨d,Q,n,m⟩;exact⟨_,Q,d,rfl,n,m⟩
  ·cases h
 |exit id=>
  intro t _ j E R k r h;exact AC.exit ⟨E,rfl,rfl,h⟩
 |scope a q=>
  intro t y;have q:=q t y;intro j E R k r h;refine AC.scope ((q j.l E R _ r h).mono λx s=>?_);rintro⟨d,rfl,n,m⟩;cases x with
  |goto l=>cases m
  |exit i=>exact⟨λl e=>(by cases e),d,rfl,n,m⟩
  |normal=>exact⟨λl e=>(by cases e),d,rfl,n,m⟩
  |ret=>exact⟨λl e=>(by cases e),d,rfl,n,m⟩
  |panic G=>exact⟨λl e=>(by cases e),d,rfl,n,m⟩
  |outgrown=>exact⟨λl e=>(by cases e),d,rfl,n,m⟩
 |label l=>
  intro t _ j E R k r h;exact AC.label ⟨E,rfl,rfl,h⟩
 |ret=>
  intro t _ j E R k r h;exact AC.ret ⟨E,rfl,rfl,h⟩
 |rangeFunc g X W cb q A=>
  intro t y j E R k r h;cases h
 |_=>
  intro t _ j E R k r h;cases h
end
variable{P:AV}{N:Func}{c:Program}
def FW:Nat->List EV->List (Nat×EV)
 |_,[]=>[]
 |i,c::a=>(i,c)::FW (i+1) a
def rk:∀(a:List EV) (i:Nat),gu (FW i a)=qU i (bX a)
 |[],_=>rfl
 |c::a,i=>by simp only[FW,gu,bX,qU,rk a (i+1)]
def afJ(a:PS)(x:Exit)(E:cL):Option (ky a.c):=match x with
 |.normal=>pf a E some
 |.ret=>pf a E some
 |_=>none
noncomputable def exF(T:TypeId->bs)(e:Nat->List iZ)(N:Nat)(c:Code)(n:Nat)(g:Pl)(d:List PV)(f:List (Nat×PO))(a:List Sc)(b:PS)(x:ky a):Option (ky b.c):=
 Nat.rec (motive:=λ_=>Option (ky b.c)) none (λM _=>uf T (e M) M c g ⟨n,FW 0 (c9 d (hS a x)).1,q_ f (c9 d (hS a x)).2⟩ _ (afJ b)) N
def aaq(T:TypeId->bs)(h:eQ)(t:TypeId):EV->Option EV
 |.pt j o=>match(T t).ty with
  |some (b,m)=>match bC h j with
   |some (.box c a)=>cond (!(Nat.beq c CL) && Nat.ble (o+m) a.length) (RX b ((a.drop o).take m)) none
   |_=>none
  |none=>none
 |_=>none
def zx(T:TypeId->bs)(E:cL):List ResultVar->Option (List EV)
 |[]=>some []
 |r::d=>match r with
  |.tmp i=>match zx T E d with
   |some b=>some (cW E.t i::b)
   |none=>none
  |.cell a t=>match aaq T E.h t (cW E.t a)with
   |some c=>match zx T E d with
    |some b=>some (c::b)
    |none=>none
   |none=>none
def ak3:List EV->EV
 |[c]=>c
 |a=>.tu a
def vl(T:TypeId->bs)(E:cL)(b:List ResultVar):EV:=match zx T E b with
 |some a=>ak3 a
 |none=>.un
def fD(a:aZ):eQ->eQ
 |[]=>[]
 |(k,o)::h=>cond (a.contains k) ((k,o)::fD a h) (fD a h)
def iH:aZ->Code->Code
 |[],c=>c
 |0::p,.seq a _=>iH p a
 |_::p,.seq _ b=>iH p b
 |0::p,.cond _ a _=>iH p a
 |_::p,.cond _ _ b=>iH p b
 |_::p,.block _ a=>iH p a
 |_::p,.loop a=>iH p a
 |_::p,.scope a=>iH p a
 |0::p,.rangeFunc _ _ a _=>iH p a
 |_::p,.rangeFunc _ _ _ b=>iH p b
 |_::_,c=>c
def gV(a:Func):Code:=match a.body with
 |some c=>c
 |none=>.skip
def aar{T:TypeId->bs}(f:gw c T){p b:EV}(h:aaq T n.h a p=some b):wa c (bm n) (enc p) a=some (enc b):=by
 unfold aaq at h;split at h
 ·rename_i j o
  split at h
  ·rename_i k m i
   split at h
   ·rename_i l q g
    obtain⟨d,e⟩:=aY h;simp only[wa,f.ty _ _ i,enc,k9,gM g,b_,fF];simp only[apS]at d;rw[apR ⟨zl d.1,apY d.2⟩,<-lQ,<-oe];exact KY e
   ·cases h
  ·cases h
 ·cases h
def BX{P:Program}{T:TypeId->bs}(d:gw P T){E:cL}:∀{f:List ResultVar} {b:List EV},zx T E f=some b->CZ P (bm E) f=some (bX b)
 |[],b,h=>by simp only[zx,apU]at h;subst h;rfl
 |r::f,b,h=>by
  simp only[zx]at h;split at h
  ·rename_i i
   split at h
   ·rename_i j e
    cases h;simp only[CZ,BX d e];rw[show bG (bm E).t i=enc (cW E.t i)from cH E.t i];rfl
   ·cases h
  ·rename_i a t
   split at h
   ·rename_i c k
    split at h
    ·rename_i j e
     cases h;have g:=aar d k;rw[<-show bG (bm E).t a=enc (cW E.t a)from cH E.t a]at g;simp only[CZ,BX d e,g];rfl
    ·cases h
   ·cases h
def afK(a:List EV):KA (bX a)=enc (ak3 a):=by
 match a with
 |[]=>rfl
 |[c]=>rfl
 |c::d::a=>rfl
def Bw.drop{H i:Hp}(h:Bw c v C k H P)(g:∀a ob,a_ i a=some ob->a_ H a=some ob):Bw c v C k i P:=by
 refine⟨h.1,λB Rd e w I f r=>(h.2 B Rd e w I f r).mono λx z G=>?_⟩;obtain⟨d,l,rfl,f,r⟩:=G;have s:∀b o u,bO B Rd l H z b o u->bO B Rd l i z b o u:=λb o u ⟨m,n,E⟩=>⟨m,n,λa ob F p=>E a ob (g a ob F) p⟩;exact⟨d,l,rfl,⟨f.ext,f.jO,λj ob q=>(f.ob j ob (g j ob q)).mono s,λj ob b q p=>f.base j ob b (g j ob q) p,λj t ob y b m n A D=>f.inj j t ob y b (g j ob m) (g t y n) A D,f.t_⟩,r.mono s⟩
def vm(d:aZ):∀(h:eQ) (k:Nat) (o:ea),bC (fD d h) k=some o->bC h k=some o
 |[],k,o,h=>by cases h
 |(j,q)::h,k,o,c=>by
  simp only[fD]at c;simp only[bC];cases g:d.contains j with
  |true=>
   rw[g]at c;simp only[aqh,bC]at c;by_cases f:k=j
   ·subst f;rw[aqp]at c⊢;exact c
   ·rw[iG f]at c⊢;exact vm d h k o c
  |false=>
   rw[g]at c;simp only[apW]at c;have:=vm d h k o c;by_cases f:k=j
   ·subst f
    have n:∀(h:eQ),bC (fD d h) k=none:=by
     intro h
     induction h with
     |nil=>rfl
     |cons p h l=>
      obtain⟨a,b⟩:=p;simp only[fD];cases i:d.contains a with
      |false=>exact l
      |true=>
       have m:k≠a:=λe=>by rw[<-e,g]at i;cases i
       simp only[aqh,bC,iG m,apW];exact l
    rw[n]at c;cases c
   ·rw[iG f];exact this
def DD:∀h:eQ,fD [] h=[]
 |[]=>rfl
 |(k,o)::h=>by simp only[fD,List.contains_nil,apW,DD h]
def DE:∀(a:List PV) (b:List EV),(c9 a b).1.length=a.length
 |[],_=>rfl
 |p::a,b=>by simp only[c9,aqf,DE a]
def aas{T:TypeId->bs}{l:List iZ}(r:Place c T l)(A:c.funcs[v]? =some N)(E:(N.name== "runtime.NumGoroutine")=false)(z:N.body=some L)(t:Pl)
 (g:List EV) (j:eQ) (C:g.length<=N.ntmps) (x:N.ntmps<=1000000) (m:Exit->cL->Option b) (y:b) (e:PS) (a:ky e.c) (K:aZ)
 (B:∀q f,m q f=some y->(q=.normal\/q=.ret)/\cn c (bm f) (bm (eX f.n e a))) (I:(zx T (eX N.ntmps e a) N.results.toList).isSome=true)
 (J:uf T l d L t ⟨N.ntmps,FW 0 g,j⟩ b m=some y):Bw c v (bz j) (bX g) (bz (fD K (eX N.ntmps e a).h)) (enc (vl T (eX N.ntmps e a) N.results.toList)):=by
 refine Bw.drop (H:=bz (eX N.ntmps e a).h) ?_ (λk ob i=>?_)
 ·refine Bw.intro A E z (by rw[fF];exact C) x ?_
  have:=aap (N:=d) r L true (λh=>by cases h) t ⟨N.ntmps,FW 0 g,j⟩ _ _ _ J;simp only[bm,rk]at this;refine this.mono λq s=>?_;rintro⟨f,rfl,D,i⟩;obtain⟨G,p⟩:=B q f i;refine⟨G,?_⟩;rw[D]at p;obtain⟨u,n⟩:=arw.1 I;have w:=BX r.t n;refine⟨gu (eX N.ntmps e a).t,bX u,p,w,?_⟩;rw[afK];simp only[vl,n]
 ·rw[da]at i⊢
  obtain⟨o,F,rfl⟩:=aqo.1 i;rw[vm _ _ _ _ F];rfl
def afL{T:TypeId->bs}{m:Nat->List iZ}(E:∀M,d=M+1->Place c T (m M))(B:c.funcs[v]? =some N)(D:(N.name== "runtime.NumGoroutine")=false)(z:N.body.isSome=true)(p:Pl)
 (h:List PV) (j:List (Nat×PO)) (f:List Sc) (b:PS) (own t:Bool) (l:aZ) (n:(Nat.ble h.length N.ntmps && Nat.ble N.ntmps 1000000)=true) (G:∀y,(zx T (eX N.ntmps b y) N.results.toList).isSome=true) (s:own=false->j=[]/\l=[])
 (F:∀y,(!t||((vl T (eX N.ntmps b y) N.results.toList).pu && puH (fD l (eX N.ntmps b y).h)))=true)
 (M:ky f->Option (ky b.c)) (w:∀x,M x=exF T m d (gV N) N.ntmps p h j f b x):
 (iZ.mk v h j f (ky b.c) M (λy _ k=>k (vl T (eX N.ntmps b y) N.results.toList) (fD l (eX N.ntmps b y).h)) own t).ok c:=by
 refine⟨λo=>(s o).1,λx y i=>⟨_,_,λ_ _=>rfl,λo=>?_,λg=>?_,?_⟩⟩
 ·rw[(s o).2]
  exact DD _
 ·have:=F y
  simp only at g;rw[g]at this;simpa using this
 obtain⟨a,r⟩:=arw.1 z;have A:gV N=a:=by simp only[gV,r]
 simp only at i⊢;rw[w,A]at i;simp only[apS]at n;cases d with
 |zero=>cases i
 |succ M=>
 change uf T (m M) M a p ⟨N.ntmps,FW 0 (c9 h (hS f x)).1,q_ j (c9 h (hS f x)).2⟩ _ (afJ b)=some y at i;refine aas (E M rfl) B D r p (c9 h (hS f x)).1 _ (by rw[DE];exact apY n.1) (apY n.2) (afJ b) y b y l (λq u e=>?_) (G y) i;have g:(q=.normal\/q=.ret)/\pf b u some=some y:=by
  unfold afJ at e;split at e
  ·exact⟨.inl rfl,e⟩
  ·exact⟨.inr rfl,e⟩
  ·cases e
 obtain⟨g,e⟩:=g;obtain⟨I,C,H⟩:=lS (P:=c) e;cases H;exact⟨g,C⟩
def rl{T:TypeId->bs}{CT:Nat->List iZ}{N:Nat}(q:∀M,Place c T (CT M)){a:Func}(m:c.funcs[v]? =some a)(o:(a.name== "runtime.NumGoroutine")=false)(l:a.body.isSome=true)(i:Pl)
 (g:List PV) (e:List (Nat×PO)) (d:List Sc) (b:PS) (own h:Bool) (f:aZ) (n:(Nat.ble g.length a.ntmps && Nat.ble a.ntmps 1000000)=true) (s:∀y,(zx T (eX a.ntmps b y) a.results.toList).isSome=true) (p:own=false->e=[]/\f=[])
 (r:∀y,(!h||((vl T (eX a.ntmps b y) a.results.toList).pu && puH (fD f (eX a.ntmps b y).h)))=true)
 (M:ky d->Option (ky b.c)) (j:∀x,M x=exF T CT N (gV a) a.ntmps i g e d b x):
 (iZ.mk v g e d (ky b.c) M (λy _ k=>k (vl T (eX a.ntmps b y) a.results.toList) (fD f (eX a.ntmps b y).h)) own h).ok c:=
 afL (λM _=>q M) m o l i g e d b own h f n s p r M j
structure Gu(P:Program)(t:TypeId)(i:bs):Prop where
 ty:∀x,i.ty=some x->Pn P t=some x
 el:∀x,i.el=some x->FA P t=some x
 jW:i.jW=true->jW P t=true
 bo:i.bo=true->P.underlying t=some .bool
 ar:∀x,i.ar=some x->arA P t=some x
 fd:∀(f:Nat) x,i.fd[f]? =some x->Y3 P t f=some x
 pl:∀z l,i.pl=some (z,l)->∃f,plA P t=some (z,f)/\∀(i:Nat) p,l[i]? =some p->f i=some p
 ze:∀x,i.ze=some x->Aj P t=some x
 mp:∀x,i.mp=some x->mapA P t=some x
 ik:∀k,i.ik=some k->P.underlying t=some (.int k)
 eq:∀s,i.eq=some s->Zo P t s
 sg:i.sg=true->P.underlying t=some .string
 nf:i.nf=true->∃ms,P.underlying t=some (.interface ms)
 zv:∀x,i.zv=some x->zvT P t=some x
def Qj:Gu c a (bs.mk none none false false none [] none none none none none none none false false none):=
 {ty:=λ_ h=>by cases h
  el:=λ_ h=>by cases h
  jW:=λh=>by cases h
  bo:=λh=>by cases h
  ar:=λ_ h=>by cases h
  fd:=λ_ _ h=>by simp at h
  pl:=λ_ _ h=>by cases h
  ze:=λ_ h=>by cases h
  mp:=λ_ h=>by cases h
  ik:=λ_ h=>by cases h
  eq:=λ_ h=>by cases h
  sg:=λh=>by cases h
  nf:=λh=>by cases h
  zv:=λ_ h=>by cases h}
def LF{a c:Option b}(h:a=c):∀x,c=some x->a=some x:=λ_ d=>h.trans d
def ak4{a b:Bool}(h:a=b):b=true->a=true:=λc=>h.trans c
def boB(P:Program)(t:TypeId):Bool:=match P.underlying t with
 |some .bool=>true
 |_=>false
def sgB(P:Program)(t:TypeId):Bool:=match P.underlying t with
 |some .string=>true
 |_=>false
def aat(h:sgB c a=g):g=true->c.underlying a=some .string:=λb=>by
 have h:=h.trans b;unfold sgB at h;split at h
 ·assumption
 ·cases h
def Xb(h:sgB c a=true):Gu c a {sg:=true}:=
 {ty:=λ_ h=>by cases h
  el:=λ_ h=>by cases h
  jW:=λh=>by cases h
  bo:=λh=>by cases h
  ar:=λ_ h=>by cases h
  fd:=λ_ _ h=>by simp at h
  pl:=λ_ _ h=>by cases h
  ze:=λ_ h=>by cases h
  mp:=λ_ h=>by cases h
  ik:=λ_ h=>by cases h
  eq:=λ_ h=>by cases h
  sg:=λ_=>aat h rfl
  nf:=λh=>by cases h
  zv:=λ_ h=>by cases h}
def nfB(P:Program)(t:TypeId):Bool:=match P.underlying t with
 |some (.interface _)=>true
 |_=>false
def aau(h:nfB c a=g):g=true->∃d,c.underlying a=some (.interface d):=λb=>by
 have h:=h.trans b;unfold nfB at h;split at h
 ·exact⟨_,by assumption⟩
 ·cases h
def aiC{b:Option Value}(h:(match b with|some _=>zvT c a|none=>none)=b):∀x,b=some x->zvT c a=some x:=λx d=>by
 subst d;exact h
def aav(h:nfB c a=true):Gu c a {nf:=true}:=
 {ty:=λ_ h=>by cases h
  el:=λ_ h=>by cases h
  jW:=λh=>by cases h
  bo:=λh=>by cases h
  ar:=λ_ h=>by cases h
  fd:=λ_ _ h=>by simp at h
  pl:=λ_ _ h=>by cases h
  ze:=λ_ h=>by cases h
  mp:=λ_ h=>by cases h
  ik:=λ_ h=>by cases h
  eq:=λ_ h=>by cases h
  sg:=λh=>by cases h
  nf:=λ_=>aau h rfl
  zv:=λ_ h=>by cases h}
def aiD(h:boB c a=g):g=true->c.underlying a=some .bool:=λb=>by
 have h:=h.trans b;unfold boB at h;split at h
 ·assumption
 ·cases h
def ikF(P:Program)(t:TypeId):Option IntKind:=match P.underlying t with
 |some (.int k)=>some k
 |_=>none
def aiE{b:Option IntKind}(h:ikF c a=b):∀k,b=some k->c.underlying a=some (.int k):=λk d=>by
 have h:=h.trans d;unfold ikF at h;split at h
 ·cases h;assumption
 ·cases h
def aiF{l:List (Nat×Bool×Nat)}(h:(List.range l.length).map (Y3 c a)=l.map some):∀(f:Nat) x,l[f]? =some x->Y3 c a f=some x:=λf x d=>by
 have e:=(apV.1 d).1;have b:=ap5 (λq=>q[f]?) h;simp only[aqd,as2 e,d,aq3]at b;exact apZ b
def plF(P:Program)(t:TypeId)(n:Nat):Option (bD×List Kl):=(plA P t).map λp=>(p.1,(List.range n).map p.2)
def aiG{o:Option (bD×bH)}(h:(match o with
 |some (_,l)=>plF c a l.length
 |none=>none)=o.map λp=>(p.1,p.2.map some)):∀z l,o=some (z,l)->∃f,plA c a=some (z,f)/\∀(i:Nat) p,l[i]? =some p->f i=some p:=λz l j=>by
 subst j;simp only[plF,aq3]at h;cases e:plA c a with
 |none=>rw[e]at h;cases h
 |some q=>
  rw[e]at h;simp only[aq3,apU,aqa]at h;refine⟨q.2,by rw[<-h.1],λi p d=>?_⟩;have g:=(apV.1 d).1;have b:=ap5 (λq=>q[i]?) h.2;simp only[aqd,as2 g,d,aq3]at b;exact apZ b
def fdS(P:Program)(f:Field)(o:Nat):Sc->Bool
 |.i k=>decide (f.offset=o) && f.name != "_"&& (match P.underlying f.type with
  |some (.int l)=>decide (k=l)
  |_=>false)
 |.b=>decide (f.offset=o) && f.name != "_"&& (match P.underlying f.type with
  |some .bool=>true
  |_=>false)
 |_=>false
def Xc(P:Program):List Field->Nat->Sc->Bool
 |[f],o,.i k=>fdS P f o (.i k)
 |[f],o,.b=>fdS P f o .b
 |f::a,o,.pr x y=>fdS P f o x && Xc P a (o+1) y
 |[],_,.u=>true
 |_,_,_=>false
def Qk{f:Field}{s:Sc}(h:fdS c f d s=true){D E:eb}{x y:s.cZ}{rx ry:bD}(F:D.toList.drop d=c_ s x++rx)(G:E.toList.drop d=c_ s y++ry)(e:Nat)(w:World):
 f.name≠ "_"/\∃a b,(part f.type D f.offset).run c w=.ok a w/\(part f.type E f.offset).run c w=.ok b w/\(Op.equalIn (e+1) f.type a b).run c w=.ok (iF s x y) w/\D.toList.drop (d+1)=rx/\E.toList.drop (d+1)=ry:=by
 have get:∀{o:eb} {v:Value} {r:bD},o.toList.drop d=[v]++r->o[d]? =some v/\o.toList.drop (d+1)=r:=by
  intro o v r H;constructor
  ·have A:=ap5 (λl=>l[0]?) H
   simpa using A
  ·have A:=ap5 (λl=>l.drop 1) H
   simpa[arX,atQ]using A
 cases s with
 |i k=>
  simp only[fdS,apS,aqQ,bne_iff_ne,ne_eq]at h;obtain⟨⟨B,C⟩,j⟩:=h;split at j
  ·rename_i l n
   have j:=aqK j;subst j B;obtain⟨p,q⟩:=get F;obtain⟨t,z⟩:=get G;have m:c.plainKey f.type=true:=by simp[Program.plainKey,n]
   refine⟨C,_,_,arY w m p,arY w m t,?_,q,z⟩;have:=at2 w e f.type k k x y n;rw[this];rfl
  ·cases j
 |b=>
  simp only[fdS,apS,aqQ,bne_iff_ne,ne_eq]at h;obtain⟨⟨B,C⟩,j⟩:=h;split at j
  ·rename_i n
   subst B;obtain⟨p,q⟩:=get F;obtain⟨t,z⟩:=get G;have m:c.plainKey f.type=true:=by simp[Program.plainKey,n]
   refine⟨C,_,_,arY w m p,arY w m t,?_,q,z⟩;exact run_equalIn_bool w e f.type x y n
  ·cases j
 |sl r=>cases h
 |pr a g=>cases h
 |u=>cases h
def afM(d:Nat)(w:World)(t v:eb):∀(e:List Field) (o:Nat) (s:Sc) (x y:s.cZ),Xc c e o s=true->t.toList.drop o=c_ s x->v.toList.drop o=c_ s y->
 (Op.eqFields (d+1) t v e).run c w=.ok (iF s x y) w:=by
 intro e
 induction e with
 |nil=>
  intro o s x y h l m;cases s<;>first|(cases h;done)|(simp[Op.eqFields,iF])
 |cons f e B=>
  intro o s x y h l m;cases s with
  |i k=>
   cases e with
   |cons g gs=>cases h
   |nil=>
    obtain⟨j,a,b,p1,p2,p3,_,_⟩:=Qk (s:=.i k) h (x:=x) (y:=y) (rx:=[]) (ry:=[]) (by simpa using l) (by simpa using m) d w;simp only[Op.eqFields,j,ne_eq,atj,aqs,ap6,p1,p2,p3,ap7];cases iF (.i k) x y<;>simp
  |b=>
   cases e with
   |cons g gs=>cases h
   |nil=>
    obtain⟨j,a,b,p1,p2,p3,_,_⟩:=Qk (s:=.b) h (x:=x) (y:=y) (rx:=[]) (ry:=[]) (by simpa using l) (by simpa using m) d w;simp only[Op.eqFields,j,ne_eq,atj,aqs,ap6,p1,p2,p3,ap7];cases iF .b x y<;>simp
  |sl r=>cases e<;>cases h
  |u=>cases e<;>cases h
  |pr p q=>
   have n:fdS c f o p=true/\Xc c e (o+1) q=true:=by
    cases e<;>simpa[Xc]using h
   obtain⟨j,a,b,p1,p2,p3,z,A⟩:=Qk n.1 (x:=x.1) (y:=y.1) l m d w;have:=B (o+1) q x.2 y.2 n.2 z A;simp only[Op.eqFields,j,ne_eq,atj,aqs,ap6,p1,p2,p3,ap7,iF];cases iF p x.1 y.1 with
   |false=>simp
   |true=>simpa using this
def afN{s:Sc}{e:Array Field}(k:s.key=true)(f:c.underlying a=some (.struct e))(j:c.stoodInHeld a=false)(h:c.eqGuardType c.depth a=false)
 (i:Xc c e.toList 0 s=true):Zo c a s:=by
 refine⟨k,λx y w=>⟨?_,λl d b=>?_⟩⟩
 ·have g:c.fieldsOf a=e:=by simp[Program.fieldsOf,f]
  show(Op.equalIn (9999+1) _ _ _).run c w=_;rw[run_equalIn_struct w 9999 a _ _ (by rw[g];exact f) j,g];exact afM 9998 w _ _ e.toList 0 s x y i (by simp) (by simp)
 ·unfold eqGuard
  cases l<;>simp[ap6,h]
def stF(P:Program)(t:TypeId):Option (Array Field):=match P.underlying t with
 |some (.struct a)=>some a
 |_=>none
def eqB(P:Program)(t:TypeId)(s:Sc):Bool:=s.key && !(P.stoodInHeld t) && !(P.eqGuardType P.depth t) && (match stF P t with
 |some a=>Xc P a.toList 0 s
 |none=>false)
def aiI{o:Option Sc}(h:(match o with
 |some s=>eqB c a s
 |none=>true)=true):∀s,o=some s->Zo c a s:=λs i=>by
 subst i;simp only[eqB,apS,aq1]at h;obtain⟨⟨⟨e,f⟩,g⟩,d⟩:=h;split at d
 ·rename_i j b
  unfold stF at b;split at b
  ·cases b
   exact afN e (by assumption) f g d
  ·cases b
 ·cases d
noncomputable def aoh(T:TypeId->bs)(d:List iZ)(N:Nat)(c:Code):Y4:=match c with
 |.region _ g j=>λ_ E _ k=>cond j (FG T d g.toList (Xa g.toList E) g.toList [] (k .normal)) (BA T d g.toList g.toList E (k .normal))
 |.seq a b=>λe E _ k=>uf T d N a e.l E _ λx f=>match x with
  |.normal=>uf T d N b e.r f _ k
  |x=>k x f
 |.cond c a b=>λe E _ k=>match eI (cW E.t) c with
  |.sc .b h=>match c with
   |.tmp i=>cond h (uf T d N a e.l ⟨E.n,(i,.sc .b true)::E.t,E.h⟩ _ k) (uf T d N b e.r ⟨E.n,(i,.sc .b false)::E.t,E.h⟩ _ k)
   |_=>cond h (uf T d N a e.l E _ k) (uf T d N b e.r E _ k)
  |_=>none
 |.block id a=>λe E _ k=>uf T d N a e.l E _ λx f=>match x with
  |.exit i=>cond (Nat.beq i id) (k .normal f) (k (.exit i) f)
  |x=>k x f
 |c=>uf T d N c
def kf:∀a∈([]:List iZ),a.ok c:=λa h=>by cases h
def fe{a:iZ}{l:List iZ}(h:a.ok c)(e:∀d∈l,d.ok c):∀d∈a::l,d.ok c:=λd b=>by
 rcases aqj.1 b with rfl|b
 ·exact h
 ·exact e d b
def tgL(P:Program)(i:bs)(t:TypeId):=(Pn P t,FA P t,jW P t,boB P t,arA P t,(List.range i.fd.length).map (Y3 P t),(match i.pl with
 |some (_,l)=>plF P t l.length
 |none=>none),Aj P t,mapA P t,ikF P t,(match i.eq with
 |some s=>eqB P t s
 |none=>true),sgB P t,nfB P t,(match i.zv with|some _=>zvT P t|none=>none))
def tgR(i:bs):=(i.ty,i.el,i.jW,i.bo,i.ar,i.fd.map some,i.pl.map (λp=>(p.1,p.2.map some)),i.ze,i.mp,i.ik,true,i.sg,i.nf,i.zv)
def ak7{i:bs}(h:tgL c i a=tgR i):Gu c a i:=by
 simp only[tgL,tgR,aqa]at h;obtain⟨b,k,l,m,n,o,p,q,r,d,e,f,g,j⟩:=h;exact⟨LF b,LF k,ak4 l,aiD m,LF n,aiF o,aiG p,LF q,LF r,aiE d,aiI e,aat f,aau g,aiC j⟩
def tgF(S N:aZ):List (aZ×bs)->TypeId->bs
 |[],t=>cond (S.any (Nat.beq t)) {sg:=true} (cond (N.any (Nat.beq t)) {nf:=true} {})
 |(l,i)::r,t=>cond (l.any (Nat.beq t)) i (tgF S N r t)
def any_beq(h:K.any (Nat.beq d)=true):d∈K:=by
 obtain⟨x,b,a⟩:=ary.1 h;rw[apX a];exact b
def LG{P:Program}{S N:aZ}(c:S.all (sgB P)=true)(b:N.all (nfB P)=true):∀{L:List (aZ×bs)},L.map (λp=>p.1.map (tgL P p.2))=L.map (λp=>p.1.map λ_=>tgR p.2)->∀t,Gu P t (tgF S N L t)
 |[],_,t=>by
  unfold tgF;cases a:S.any (Nat.beq t)with
  |true=>exact Xb (aqg.1 c t (any_beq a))
  |false=>
   cases d:N.any (Nat.beq t)with
   |true=>exact aav (aqg.1 b t (any_beq d))
   |false=>exact Qj
 |(l,i)::r,h,t=>by
  simp only[aqc,aqX]at h;unfold tgF;cases a:l.any (Nat.beq t)with
  |true=>exact ak7 (List.map_inj_left.1 h.1 t (any_beq a))
  |false=>exact LG c b h.2 t
def afO{P:Program}{T:TypeId->bs}(h:∀t,Gu P t (T t)):gw P T where
 ty:=λt=>(h t).ty
 el:=λt=>(h t).el
 jW:=λt=>(h t).jW
 bo:=λt=>(h t).bo
 ar:=λt=>(h t).ar
 fd:=λt=>(h t).fd
 pl:=λt=>(h t).pl
 ze:=λt=>(h t).ze
 mp:=λt=>(h t).mp
 ik:=λt=>(h t).ik
 eq:=λt=>(h t).eq
 sg:=λt=>(h t).sg
 nf:=λt=>(h t).nf
 zv:=λt=>(h t).zv
section
open Go.ChangeShapes Go.WideShapes Go.ChangeAt Go.RowKit
section
variable{H:Type}{enc:TypeId×Value->H}{P:Program}
def Aw(j:laidOutB P=true){W g:World}(i:Ext W g):∀{a:List TypeId} {f:bD} {c:List (DataW H)} {p:List MemPlace},
 (∀t∈a,P.readableRec t=true/\t<P.types.size)->DataW.TrodAll enc P W 0 (λ_=>true) true a f c p->(∀x∈p,x.block<W.heap.size)->
 DataW.TrodAll enc P g 0 (λb=>decide (b<W.heap.size)) true a f c p
 |[],[],[],_,_,h,_=>h
 |[],[],_::_,_,_,h,_=>h.elim
 |[],_::_,_,_,_,h,_=>h.elim
 |_::_,[],_,_,_,h,_=>h.elim
 |_::_,_::_,[],_,_,h,_=>h.elim
 |t::a,v::f,d::c,p,l,h,k=>by
  obtain⟨p1,r,n,o,rfl⟩:=h;have m:=l t (by simp);exact⟨p1,r,Below.trod j m.1 m.2 n i.FM (λx e=>k x (by simp[e])),Aw j i (λu q=>l u (by simp[q])) o (λx e=>k x (by simp[e])),rfl⟩
def aaw(y:laidOutB P=true){s:ChangeSpec}{args:eb}{b gs:List (DataW H)}{i:List MemPlace}{tb:TypeId}
 (l:s.vars=[]) (A:∀t∈N.params.toList,P.readableRec t=true/\t<P.types.size) (B:N.resultTypes= #[tb]) (C:P.underlying tb=some .bool)
 (c:DataW.Whole enc P N.params.toList s.vars false m args.toList b gs i)
 (d:s.fn H (b++gs)={results:=[.lit (.bool true)],args:=b})
 (r:Calls P v args m λe E=>e=.returned (.bool true)/\Ext m E):
 Calls P v args m λe f=>∃a,e=.returned a/\s.post enc P N false true false false m args a f:=by
 refine r.mono λe f ⟨u,k⟩=>⟨_,u,?_⟩;have z:∀p∈i,p.block<m.heap.size:=c.lt;have o:=c;obtain⟨p,q,n,j,rfl,F,G⟩:=o;rw[l]at j;have w:gs=[]:=by
  cases gs with
  |nil=>rfl
  |cons g gs=>exact j.elim
 subst w;refine⟨b,[],p++q,[],p,[],c,?_,?_,?_,Below.frame k.FM _,λh=>by cases h⟩
 ·rw[d,B]
  exact trodAll_mk1 (shut_bool C true)
 ·rw[d]
  exact Aw y k A n (λx D=>z x (by simp[D]))
 ·rw[l,d]
  rfl
